/- A region whose order is drawn, every order: as the program's text has it. -/
import Derived.Test.YtcibofbmennjpaaDoorAmSwap
set_option linter.unusedVariables false
namespace Go.Am

section masks

/-- A mask is borne out by the edges. -/
def MaskOk (ops : List Oper) (acc : List Nat) : Prop :=
  ∀ (k m : Nat), acc[k]? = some m → ∀ (j : Nat), m.testBit j = true → ∃ o : Oper, ops[k]? = some o ∧ ∃ e ∈ o.after, Region.binds .any e = true ∧ (e.on = j ∨ (acc.getD e.on 0).testBit j = true)

theorem edgeMask_bit (acc : List Nat) (o : Oper) {j : Nat} (h : (edgeMask acc o).testBit j = true) : ∃ e ∈ o.after, Region.binds .any e = true ∧ (e.on = j ∨ (acc.getD e.on 0).testBit j = true) := by
  unfold edgeMask at h
  have key : ∀ (es : List Edge) (m : Nat), (es.foldl (fun m e => bif Region.binds .any e then m ||| (1 <<< e.on ||| acc.getD e.on 0) else m) m).testBit j = true →
      m.testBit j = true ∨ ∃ e ∈ es, Region.binds .any e = true ∧ (e.on = j ∨ (acc.getD e.on 0).testBit j = true) := by
    intro es
    induction es with
    | nil => intro m hm; exact .inl hm
    | cons e es ih =>
      intro m hm
      rw [List.foldl_cons] at hm
      rcases ih _ hm with h1 | ⟨e', he', r⟩
      · cases hb : Region.binds .any e with
        | false => rw [hb] at h1; exact .inl h1
        | true =>
          rw [hb] at h1
          simp only [cond_true, Nat.testBit_or, Bool.or_eq_true] at h1
          rcases h1 with h1 | h1 | h1
          · exact .inl h1
          · refine .inr ⟨e, by simp, hb, .inl ?_⟩
            rw [Nat.shiftLeft_eq, Nat.one_mul] at h1
            by_cases he : e.on = j
            · exact he
            · rw [Nat.testBit_two_pow_of_ne he] at h1
              cases h1
          · exact .inr ⟨e, by simp, hb, .inr h1⟩
      · exact .inr ⟨e', by simp [he'], r⟩
  rcases key _ 0 h with h0 | ⟨e, he, r⟩
  · simp at h0
  · exact ⟨e, by simpa using he, r⟩

theorem masks_ok (all : List Oper) (hb : ∀ (k : Nat) (o : Oper), all[k]? = some o → ∀ e ∈ o.after, Region.binds .any e = true → e.on < k) :
    ∀ (l : List Oper) (acc : List Nat), all.drop acc.length = l → MaskOk all acc → MaskOk all (masks l acc) := by
  intro l
  induction l with
  | nil => intro acc _ h; exact h
  | cons o l ih =>
    intro acc hd h
    simp only [masks, forceN_eq]
    have ho : all[acc.length]? = some o := by
      have := congrArg (fun l => l[0]?) hd
      simpa using this
    refine ih _ ?_ ?_
    · rw [List.length_append, List.length_singleton, ← List.drop_drop, hd]
      rfl
    · intro k m hk j hj
      have old : ∀ k, k < acc.length → (acc ++ [edgeMask acc o]).getD k 0 = acc.getD k 0 := by
        intro k hk
        rw [List.getD_eq_getElem?_getD, List.getElem?_append_left hk, ← List.getD_eq_getElem?_getD]
      by_cases hlt : k < acc.length
      · rw [List.getElem?_append_left hlt] at hk
        obtain ⟨o', ho', e, he, hbi, hor⟩ := h k m hk j hj
        refine ⟨o', ho', e, he, hbi, ?_⟩
        rw [old _ (Nat.lt_trans (hb k o' ho' e he hbi) hlt)]
        exact hor
      · have hk2 : k = acc.length := by
          have := (List.getElem?_eq_some_iff.1 hk).1
          simp at this
          omega
        subst hk2
        simp at hk
        subst hk
        obtain ⟨e, he, hbi, hor⟩ := edgeMask_bit acc o hj
        refine ⟨o, ho, e, he, hbi, ?_⟩
        rw [old _ (hb _ o ho e he hbi)]
        exact hor

/-- What stands before a ready operation is listed. -/
theorem mask_listed {all : List Oper} {ms : List Nat} (hm : MaskOk all ms) (hb : ∀ (k : Nat) (o : Oper), all[k]? = some o → ∀ e ∈ o.after, Region.binds .any e = true → e.on < k)
    {L : Nat → Prop} (hL : ∀ k, L k → ∀ o, all[k]? = some o → ∀ e ∈ o.after, Region.binds .any e = true → L e.on) :
    ∀ (k : Nat) (o : Oper), all[k]? = some o → (∀ e ∈ o.after, Region.binds .any e = true → L e.on) → ∀ j, (ms.getD k 0).testBit j = true → L j := by
  intro k
  induction k using Nat.strongRecOn with
  | _ k ih =>
    intro o ho hr j hj
    rw [List.getD_eq_getElem?_getD] at hj
    cases hk : ms[k]? with
    | none => rw [hk] at hj; simp at hj
    | some m =>
      rw [hk] at hj
      obtain ⟨o', ho', e, he, hbi, hor⟩ := hm k m hk j hj
      rw [ho] at ho'
      obtain rfl := Option.some.inj ho'
      have hl := hr e he hbi
      rcases hor with rfl | hor
      · exact hl
      · have hlt := hb k o ho e he hbi
        have hk2 : k < all.length := (List.getElem?_eq_some_iff.1 ho).1
        have hoe : all[e.on]? = some all[e.on] := List.getElem?_eq_getElem (by omega)
        exact ih e.on hlt _ hoe (hL e.on hl _ hoe) j hor
end masks

end Go.Am

/- The machine is sound: regions, code. -/
set_option linter.unusedVariables false

namespace Go.Am

open Go.RowKit

section
variable {P : Program} {G : Nat → List AV} {F : Nat → Option MF}
variable {n : Nat} {nt : Nat} {w0 w : World} {base : Nat} {S0 S : Nat → Prop} {ρ : List (Nat × Nat)} {st : St} {tmps : Array Value} {ds : List Deferred}

/-- Another world with the same heap. -/
theorem Rel.world (hR : Rel G nt w0 base S0 S ρ st tmps w) {w' : World} (hh : w'.heap = w.heap) (hos : w'.os = w.os) (ht : w'.tape = w.tape) (ho : w'.output = w.output) :
    Rel G nt w0 base S0 S ρ st tmps w' ∧ Later w S ρ st.bx w' S ρ st.bx := by
  have L : Later w S ρ st.bx w' S ρ st.bx := ⟨fun _ h => h, fun g _ => by rw [hh], by rw [hh]; exact Nat.le_refl _, fun id b hb hf => ⟨b, hb, hf, rfl, .inl ⟨rfl, rfl⟩⟩⟩
  refine ⟨⟨hR.below.trans ⟨hos, ht, ho, by rw [hh]; exact Nat.le_refl _, fun k _ => by rw [hh]⟩, by rw [hh]; exact hR.baseLe, hR.size, hR.rho, by rw [hh]; exact hR.slt, hR.sbase, fun id b hb hf => ?_, hR.inj, fun t => (hR.tm t).later L, fun g => (hR.glob g).later L⟩, L⟩
  obtain ⟨g, cap, cur, ok⟩ := hR.box id b hb hf
  refine ⟨g, cap, cur, ok.rho, ok.base, by rw [hh]; exact ok.heap, ok.size, ok.cap, ok.fits, fun j c hj => ?_, ok.live, ok.frozen⟩
  obtain ⟨v, h1, h2, h3⟩ := ok.cells j c hj
  exact ⟨v, h1, h2, h3.later L⟩

/-- Boxes are reserved. -/
theorem Rel.reserve (hR : Rel G nt w0 base S0 S ρ st tmps w) (m : Nat) :
    Rel G nt w0 base S0 S (ρ ++ List.replicate m (0, 0)) { st with bx := st.bx ++ List.replicate m freshBox, rb := st.bx.length } tmps w ∧
    Later w S ρ st.bx w S (ρ ++ List.replicate m (0, 0)) (st.bx ++ List.replicate m freshBox) := by
  have old : ∀ (id : Nat) (b : Box), (st.bx ++ List.replicate m freshBox)[id]? = some b → b.status ≠ .fresh → st.bx[id]? = some b ∧ (ρ ++ List.replicate m (0, 0))[id]? = ρ[id]? := by
    intro id b hb hf
    by_cases hlt : id < st.bx.length
    · rw [List.getElem?_append_left hlt] at hb
      exact ⟨hb, List.getElem?_append_left (by rw [hR.rho]; exact hlt)⟩
    · rw [List.getElem?_append_right (by omega), List.getElem?_replicate] at hb
      split at hb
      · obtain rfl := Option.some.inj hb
        exact absurd rfl hf
      · cases hb
  have L : Later w S ρ st.bx w S (ρ ++ List.replicate m (0, 0)) (st.bx ++ List.replicate m freshBox) := by
    refine ⟨fun _ h => h, fun _ _ => rfl, Nat.le_refl _, fun id b hb hf => ?_⟩
    have hlt := (List.getElem?_eq_some_iff.1 hb).1
    exact ⟨b, by rw [List.getElem?_append_left hlt]; exact hb, hf, rfl, .inl ⟨rfl, List.getElem?_append_left (by rw [hR.rho]; exact hlt)⟩⟩
  refine ⟨⟨hR.below, hR.baseLe, hR.size, by simp [hR.rho], hR.slt, hR.sbase, fun id b hb hf => ?_, fun i j bi bj x y hi hj hfi hfj hx hy hij => ?_, fun t => (hR.tm t).later L, fun g => (hR.glob g).later L⟩, L⟩
  · obtain ⟨hb', hr'⟩ := old id b hb hf
    obtain ⟨g, cap, cur, ok⟩ := hR.box id b hb' hf
    refine ⟨g, cap, cur, hr'.trans ok.rho, ok.base, ok.heap, ok.size, ok.cap, ok.fits, fun j c hj => ?_, ok.live, ok.frozen⟩
    obtain ⟨v, h1, h2, h3⟩ := ok.cells j c hj
    exact ⟨v, h1, h2, h3.later L⟩
  · obtain ⟨hi', ri⟩ := old i bi hi hfi
    obtain ⟨hj', rj⟩ := old j bj hj hfj
    exact hR.inj i j bi bj x y hi' hj' hfi hfj (ri ▸ hx) (rj ▸ hy) hij

/-- Instructions by their places. -/
def execIdx (G : Nat → List AV) (F : Nat → Option MF) (rec : MC → St → Option (Ex × St)) (l : List I) : List Nat → St → Option St
  | [], st => some st
  | k :: ks, st => match l[k]? with
    | some i => match exec1 G F rec i st with
      | some st' => execIdx G F rec l ks st'
      | none => none
    | none => none

/-- The instructions of a region, in the program's order. -/
theorem ops_sound (hS : Sound P G F n) (hF : FOk P F) (hG : ∀ g, AV.closedL (G g) = true) (hnt : nt < 65535) {ops : Array Oper} {l : List I} (hl : l.length = ops.size)
    (hb : ∀ (j : Nat) (o : Oper), ops[j]? = some o → ∃ i, l[j]? = some i ∧ Bound P nt ops o i) {Q : Exit → Act → World → Prop} {st' : St} :
    ∀ (ks : List Nat) {S : Nat → Prop} {ρ : List (Nat × Nat)} {st : St} {tmps : Array Value} {w : World}, Rel G nt w0 base S0 S ρ st tmps w → execIdx G F (aexec G F n) l ks st = some st' →
      (∀ (tmps' : Array Value) (w' : World) (S' : Nat → Prop) (ρ' : List (Nat × Nat)), Rel G nt w0 base S0 S' ρ' st' tmps' w' → Later w S ρ st.bx w' S' ρ' st'.bx → Q .normal ⟨tmps', ds⟩ w') →
      wpOps P ops Q ks ⟨tmps, ds⟩ w := by
  intro ks
  induction ks with
  | nil =>
    intro S ρ st tmps w hR h hK
    obtain rfl := Option.some.inj h
    exact hK _ _ _ _ hR Later.refl
  | cons k ks ih =>
    intro S ρ st tmps w hR h hK
    simp only [execIdx] at h
    split at h
    · rename_i i hi
      split at h
      · rename_i st1 h1
        have hk : k < ops.size := by rw [← hl]; exact (List.getElem?_eq_some_iff.1 hi).1
        obtain ⟨i', hi', hB⟩ := hb k ops[k] (Array.getElem?_eq_getElem hk)
        rw [hi] at hi'
        obtain rfl := Option.some.inj hi'
        have := exec1_sound hS hF hG hnt hR (ds := ds) (Q := Q) (K := wpOps P ops Q ks) hB h1 (fun tmps' w' S' ρ' R' L => ih R' h fun tmps2 w2 S2 ρ2 R2 L2 => hK _ _ _ _ R2 (L.trans L2))
        simp only [wpOps, Array.getElem?_eq_getElem hk]
        split at this
        · rename_i hw
          rw [if_pos hw]
          exact .inl this
        · rename_i hw
          rw [if_neg hw]
          exact this
      · cases h
    · cases h

theorem execs_idx {rec : MC → St → Option (Ex × St)} (l : List I) : ∀ (q p : List I) (st : St), l = p ++ q → execIdx G F rec l (List.range' p.length q.length) st = execs G F rec q st := by
  intro q
  induction q with
  | nil => intro p st h; rfl
  | cons i q ih =>
    intro p st h
    rw [List.length_cons, List.range'_succ]
    have hi : l[p.length]? = some i := by rw [h, List.getElem?_append_right (Nat.le_refl _)]; simp
    simp only [execIdx, execs, hi]
    cases exec1 G F rec i st with
    | none => rfl
    | some st1 =>
      have := ih (p ++ [i]) st1 (by simp [h])
      rw [List.length_append] at this
      exact this

theorem execs_range {rec : MC → St → Option (Ex × St)} (l : List I) (st : St) : execIdx G F rec l (List.range l.length) st = execs G F rec l st := by
  rw [List.range_eq_range']
  exact execs_idx l l [] st rfl

/-- What is not yet listed. -/
def rest (n : Nat) (listed : Array Bool) : List Nat := (List.range n).filter fun i => !listed.getD i true

theorem mem_rest {n : Nat} {listed : Array Bool} {i : Nat} : i ∈ rest n listed ↔ i < n ∧ listed.getD i true = false := by
  simp [rest]

theorem getD_set (listed : Array Bool) (i j : Nat) (d : Bool) (hi : i < listed.size) : (listed.setIfInBounds i true).getD j d = if i = j then true else listed.getD j d := by
  rw [Array.getD_eq_getD_getElem?, Array.getD_eq_getD_getElem?, Array.getElem?_setIfInBounds]
  by_cases h : i = j
  · subst h; simp [hi]
  · simp [h]

theorem drawOk_spec {ops : Array Oper} {l : List I} {prs : List (Nat × Nat)} (h : drawOk ops l prs = true) :
    (∀ (k : Nat) (o : Oper), ops.toList[k]? = some o → ∀ e ∈ o.after, Region.binds .any e = true → e.on < k) ∧
    ∀ j i, j < ops.size → i < j → ((masks ops.toList []).getD j 0).testBit i = true ∨ ∃ x y, l[i]? = some x ∧ l[j]? = some y ∧ slotFree x y = true ∧ (clsFree x y = true ∨ (i, j) ∈ prs) := by
  unfold drawOk at h
  simp only [List.all_eq_true, List.mem_range, Bool.and_eq_true, Bool.or_eq_true] at h
  refine ⟨fun k o ho e he hb => ?_, fun j i hj hi => ?_⟩
  · have hk : k < ops.size := by have := (List.getElem?_eq_some_iff.1 ho).1; simpa using this
    have := (h k hk).1
    rw [show ops[k]? = some o from by rw [← Array.getElem?_toList]; exact ho] at this
    simp only [List.all_eq_true, Bool.or_eq_true, Bool.not_eq_true', decide_eq_true_eq] at this
    rcases this e (by simpa using he) with h1 | h1
    · rw [hb] at h1; cases h1
    · exact h1
  · rcases (h j hj).2 i hi with h1 | h1
    · exact .inl h1
    · refine .inr ?_
      split at h1
      · rename_i x y hx hy
        simp only [Bool.and_eq_true, Bool.or_eq_true, List.contains_iff_mem] at h1
        exact ⟨x, y, hx, hy, h1.1, h1.2⟩
      · cases h1

/-- The listed are closed: what must stand before a listed one is listed. -/
def Closed (ops : Array Oper) (listed : Array Bool) : Prop := ∀ k, k < ops.size → listed.getD k true = true → ∀ o, ops.toList[k]? = some o → ∀ e ∈ o.after, Region.binds .any e = true → listed.getD e.on true = true

theorem mem_ready {ops : Array Oper} {listed : Array Bool} (hsz : listed.size = ops.size) (he : ∀ (k : Nat) (o : Oper), ops.toList[k]? = some o → ∀ e ∈ o.after, Region.binds .any e = true → e.on < k) {i : Nat} :
    i ∈ Region.ready .any ops listed ↔ i ∈ rest ops.size listed ∧ ∀ o, ops.toList[i]? = some o → ∀ e ∈ o.after, Region.binds .any e = true → listed.getD e.on true = true := by
  have flip : ∀ k, k < ops.size → listed.getD k false = listed.getD k true := by
    intro k hk
    rw [Array.getD_eq_getD_getElem?, Array.getD_eq_getD_getElem?, Array.getElem?_eq_getElem (by omega)]
    rfl
  rw [mem_rest]
  simp only [Region.ready, List.mem_filter, List.mem_range, Bool.and_eq_true, Bool.not_eq_true']
  constructor
  · rintro ⟨hi, hn, hr⟩
    refine ⟨⟨hi, hn⟩, fun o ho e hm hb => ?_⟩
    rw [show ops[i]? = some o from by rw [← Array.getElem?_toList]; exact ho] at hr
    simp only [Option.map_some, Option.getD_some] at hr
    have := Array.all_eq_true_iff_forall_mem.1 hr e hm
    simp only [Bool.or_eq_true, Bool.not_eq_true'] at this
    rcases this with h1 | h1
    · rw [hb] at h1; cases h1
    · rw [← flip _ (Nat.lt_trans (he i o ho e hm hb) hi)]; exact h1
  · rintro ⟨⟨hi, hn⟩, hr⟩
    refine ⟨hi, hn, ?_⟩
    rw [Array.getElem?_eq_getElem hi]
    simp only [Option.map_some, Option.getD_some]
    apply Array.all_eq_true_iff_forall_mem.2
    intro e hm
    have ho : ops.toList[i]? = some ops[i] := by rw [Array.getElem?_toList]; exact Array.getElem?_eq_getElem hi
    cases hb : Region.binds .any e with
    | false => rfl
    | true =>
      simp only [Bool.not_true, Bool.false_or]
      rw [flip _ (Nat.lt_trans (he i _ ho e hm hb) hi)]
      exact hr _ ho e hm hb

/-- The drawn order. -/
theorem any_sound (hS : Sound P G F n) (hF : FOk P F) (hG : ∀ g, AV.closedL (G g) = true) (hnt : nt < 65535) {ops : Array Oper} {l : List I} (hl : l.length = ops.size)
    (hb : ∀ (j : Nat) (o : Oper), ops[j]? = some o → ∃ i, l[j]? = some i ∧ Bound P nt ops o i) {prs : List (Nat × Nat)} (hd : drawOk ops l prs = true) {T : Nat → Fp} (hT : ∀ i j, (i, j) ∈ prs → (T i).apart (T j) = true) {Q : Exit → Act → World → Prop} {st' : St} :
    ∀ (fuel : Nat) {listed : Array Bool} {S : Nat → Prop} {ρ : List (Nat × Nat)} {st : St} {tmps : Array Value} {w : World}, listed.size = ops.size → (rest ops.size listed).length ≤ fuel → Closed ops listed →
      Rel G nt w0 base S0 S ρ st tmps w → Run G F (aexec G F n) l T (rest ops.size listed) st st' →
      (∀ (tmps' : Array Value) (w' : World) (S' : Nat → Prop) (ρ' : List (Nat × Nat)), Rel G nt w0 base S0 S' ρ' st' tmps' w' → Later w S ρ st.bx w' S' ρ' st'.bx → Q .normal ⟨tmps', ds⟩ w') →
      wpAny P .any ops Q fuel listed ⟨tmps, ds⟩ w := by
  obtain ⟨he, hf⟩ := drawOk_spec hd
  have hm : MaskOk ops.toList (masks ops.toList []) := masks_ok ops.toList he ops.toList [] rfl (fun k m hk => by simp at hk)
  have hdst : ∀ (k : Nat) (i : I), l[k]? = some i → ∀ d, i.d = some d → d < 65535 := by
    intro k i hi d hid
    have hk : k < ops.size := by rw [← hl]; exact (List.getElem?_eq_some_iff.1 hi).1
    obtain ⟨i', hi', hB⟩ := hb k ops[k] (Array.getElem?_eq_getElem hk)
    rw [hi] at hi'
    obtain rfl := Option.some.inj hi'
    exact Nat.lt_trans (hB.lt d (by rw [← hB.d]; exact hid)) hnt
  -- nothing ready: nothing left
  have done : ∀ {listed : Array Bool}, listed.size = ops.size → Region.ready .any ops listed = [] → rest ops.size listed = [] := by
    intro listed hsz hr
    apply Classical.byContradiction
    intro hne
    have none : ∀ i, ¬ i ∈ rest ops.size listed := by
      intro i
      induction i using Nat.strongRecOn with
      | _ i ih =>
        intro hi
        have : i ∈ Region.ready .any ops listed := (mem_ready hsz he).2 ⟨hi, fun o ho e hm hbi => by
          have hlt := he i o ho e hm hbi
          cases hc : listed.getD e.on true with
          | true => rfl
          | false => exact absurd (mem_rest.2 ⟨Nat.lt_trans hlt (mem_rest.1 hi).1, hc⟩) (ih e.on hlt)⟩
        rw [hr] at this
        cases this
    cases hrs : rest ops.size listed with
    | nil => exact hne hrs
    | cons a as => exact none a (by rw [hrs]; simp)
  intro fuel
  induction fuel with
  | zero =>
    intro listed S ρ st tmps w hsz hfu hcl hR h hK
    have hnil : rest ops.size listed = [] := List.length_eq_zero_iff.1 (by omega)
    rw [hnil] at h
    cases h
    refine ⟨?_, hK _ _ _ _ hR Later.refl⟩
    cases hr : Region.ready .any ops listed with
    | nil => rfl
    | cons a as =>
      have : a ∈ Region.ready .any ops listed := by rw [hr]; simp
      have := ((mem_ready hsz he).1 this).1
      rw [hnil] at this
      cases this
  | succ fuel ih =>
    intro listed S ρ st tmps w hsz hfu hcl hR h hK
    refine ⟨fun hr => ?_, fun i hi => ?_⟩
    · rw [done hsz hr] at h
      cases h
      exact hK _ _ _ _ hR Later.refl
    · obtain ⟨hir, hie⟩ := (mem_ready hsz he).1 hi
      obtain ⟨hin, hil⟩ := mem_rest.1 hir
      -- the rest without i
      obtain ⟨p, q, hpq⟩ := List.append_of_mem hir
      have hsorted : (rest ops.size listed).Pairwise (· < ·) := List.Pairwise.filter _ List.pairwise_lt_range
      rw [hpq, List.pairwise_append] at hsorted
      obtain ⟨hp, hiq, hpi⟩ := hsorted
      have hq : ∀ k ∈ q, i < k := (List.pairwise_cons.1 hiq).1
      have hrest : rest ops.size (listed.setIfInBounds i true) = p ++ q := by
        have e1 : rest ops.size (listed.setIfInBounds i true) = (rest ops.size listed).filter (fun k => !(i == k)) := by
          unfold rest
          rw [List.filter_filter]
          apply List.filter_congr
          intro k _
          rw [getD_set listed i k true (by omega)]
          by_cases hik : i = k
          · simp [hik]
          · simp [hik]
        rw [e1, hpq, List.filter_append, List.filter_cons]
        simp only [beq_self_eq_true, Bool.not_true, Bool.false_eq_true, if_false]
        congr 1
        · apply List.filter_eq_self.2
          intro k hk
          have := hpi k hk i (by simp)
          simp; omega
        · apply List.filter_eq_self.2
          intro k hk
          have := hq k hk
          simp; omega
      rw [hpq] at h
      have hfront := Run.front hdst p st st' (fun j hj => by
        have hjr : j ∈ rest ops.size listed := by rw [hpq]; simp [hj]
        have hji := hpi j hj i (by simp)
        rcases hf i j hin hji with h1 | h1
        · exfalso
          have ho : ops.toList[i]? = some ops[i] := by rw [Array.getElem?_toList]; exact Array.getElem?_eq_getElem hin
          have := mask_listed hm he (L := fun k => listed.getD k true = true) (fun k hk o ho => hcl k (by have := (List.getElem?_eq_some_iff.1 ho).1; simpa using this) hk o ho) i _ ho (hie _ ho) j h1
          rw [(mem_rest.1 hjr).2] at this
          cases this
        · obtain ⟨x, y, hx, hy, hs, hc⟩ := h1
          exact ⟨x, y, hx, hy, hs, hc.imp (fun h => h) (hT j i)⟩) h
      obtain ⟨x, hx, hB⟩ := hb i ops[i] (Array.getElem?_eq_getElem hin)
      cases hfront with
      | cons _ _ x' _ st1 _ hx' h1 _ hfront =>
        rw [hx] at hx'
        obtain rfl := Option.some.inj hx'
        have := exec1_sound hS hF hG hnt hR (ds := ds) (Q := Q) (K := wpAny P .any ops Q fuel (listed.setIfInBounds i true)) hB h1 (fun tmps' w' S' ρ' R' L =>
          ih (by simp [hsz]) (by rw [hrest]; rw [hpq] at hfu; simp at hfu ⊢; omega) (by
            intro k hk hkl o ho e hme hbi
            rw [getD_set listed i _ true (by omega)] at hkl ⊢
            split
            · rfl
            · split at hkl
              · rename_i hik; subst hik; exact hie o ho e hme hbi
              · exact hcl k hk hkl o ho e hme hbi) R' (by rw [hrest]; exact hfront) fun tmps2 w2 S2 ρ2 R2 L2 => hK _ _ _ _ R2 (L.trans L2))
        unfold wpOp
        rw [Array.getElem?_eq_getElem hin]
        simp only
        split at this
        · rename_i hw
          rw [if_pos hw]
          exact .inl this
        · rename_i hw
          rw [if_neg hw]
          exact this

theorem execsF_run {rec : MC → St → Option (Ex × St)} (l : List I) : ∀ (q p : List I) (st st' : St) (fps : List Fp) (T : Nat → Fp), l = p ++ q → execsF G F rec q st = some (st', fps) → (∀ k, k < q.length → T (p.length + k) = fps.getD k ⟨none, none⟩) →
    Run G F rec l T (List.range' p.length q.length) st st' := by
  intro q
  induction q with
  | nil =>
    intro p st st' fps T h hx hT
    obtain ⟨rfl, rfl⟩ := Prod.mk.inj (Option.some.inj hx)
    exact .nil _
  | cons i q ih =>
    intro p st st' fps T h hx hT
    rw [List.length_cons, List.range'_succ]
    have hi : l[p.length]? = some i := by rw [h, List.getElem?_append_right (Nat.le_refl _)]; simp
    simp only [execsF] at hx
    split at hx
    · rename_i st1 h1
      obtain ⟨⟨st2, fps2⟩, hx2, he⟩ := Option.map_eq_some_iff.1 hx
      obtain ⟨rfl, rfl⟩ := Prod.mk.inj he
      have := ih (p ++ [i]) st1 st2 fps2 T (by simp [h]) hx2 fun k hk => by
        have := hT (k + 1) (by simp; omega)
        rw [List.length_append, List.length_singleton, Nat.add_assoc, Nat.add_comm 1 k, this]
        rfl
      rw [List.length_append] at this
      exact .cons _ _ i _ st1 _ hi h1 (by have := hT 0 (by simp); simpa using this.symm) this
    · cases hx

theorem execs_F {rec : MC → St → Option (Ex × St)} : ∀ (l : List I) (st st' : St), execs G F rec l st = some st' → ∃ fps, execsF G F rec l st = some (st', fps) := by
  intro l
  induction l with
  | nil => intro st st' h; obtain rfl := Option.some.inj h; exact ⟨[], rfl⟩
  | cons i l ih =>
    intro st st' h
    simp only [execs] at h
    split at h
    · rename_i st1 h1
      obtain ⟨fps, hf⟩ := ih st1 st' h
      exact ⟨_, by simp only [execsF, h1, hf]; rfl⟩
    · cases h

theorem execsF_s {rec : MC → St → Option (Ex × St)} : ∀ (l : List I) (st st' : St) (fps : List Fp), execsF G F rec l st = some (st', fps) → execs G F rec l st = some st' := by
  intro l
  induction l with
  | nil => intro st st' fps h; obtain ⟨rfl, _⟩ := Prod.mk.inj (Option.some.inj h); rfl
  | cons i l ih =>
    intro st st' fps h
    simp only [execsF] at h
    split at h
    · rename_i st1 h1
      obtain ⟨⟨st2, fps2⟩, hx2, he⟩ := Option.map_eq_some_iff.1 h
      obtain ⟨rfl, _⟩ := Prod.mk.inj he
      simp only [execs, h1]
      exact ih st1 st2 fps2 hx2
    · cases h
end

end Go.Am

