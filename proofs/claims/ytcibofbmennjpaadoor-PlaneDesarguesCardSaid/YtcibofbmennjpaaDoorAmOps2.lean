/- Each instruction without a call does what the machine says: first part. -/
import Derived.Test.YtcibofbmennjpaaDoorAmRel
import Derived.Test.YtcibofbmennjpaaDoorAmCompile
import Derived.ChangeKeysEq
import Derived.Maps.AppendAt
import Derived.LoopN
set_option linter.unusedVariables false

namespace Go.Am

open Go.RowKit

section
variable {P : Program} {G : Nat → List AV} {nt : Nat} {w0 w : World} {base : Nat} {S0 S : Nat → Prop} {ρ : List (Nat × Nat)} {st : St} {tmps : Array Value} {ds : List Deferred}

/-- What an operation yields. -/
def nxv : Next → Option Value
  | .value v => some v
  | .skip => some undef
  | _ => none

/-- An operation is done by the model as by the machine. -/
def Sim (P : Program) (G : Nat → List AV) (nt : Nat) (w0 : World) (base : Nat) (S0 S : Nat → Prop) (ρ : List (Nat × Nat)) (st : St) (tmps : Array Value) (w : World) (x : Sem Next) (av : AV) (st' : St) : Prop :=
  ∃ nx v w' S' ρ', x.run P w = .ok nx w' ∧ nxv nx = some v ∧ Rel G nt w0 base S0 S' ρ' st' tmps w' ∧ RV w' S' ρ' st'.bx av v ∧ Later w S ρ st.bx w' S' ρ' st'.bx

theorem RV_cV1 (v : Value) : RV w S ρ st.bx (cV1 v) v := by
  unfold cV1
  split
  · exact .int _ _
  · exact .bool _
  · exact .nil
  · rename_i vs
    split
    · rename_i h
      have : vs = #[] := Array.eq_empty_of_size_eq_zero h
      subst this; exact .undef
    · exact .any _
  · exact .any _

theorem RVL_cV1 (l : List Value) : RVL w S ρ st.bx (l.map cV1) l :=
  ⟨by simp, fun j c v h1 h2 => by
    rw [List.getElem?_map, h2] at h1
    simp at h1; subst h1; exact RV_cV1 v⟩

theorem RV_cV (v : Value) : RV w S ρ st.bx (cV v) v := by
  unfold cV
  split
  · rename_i cs
    have h := RVL_cV1 (w := w) (S := S) (ρ := ρ) (st := st) cs.toList
    have := RV.agg (w := w) (S := S) (ρ := ρ) (bx := st.bx) (cs.toList.map cV1) cs.toList h.1 h.2
    simpa using this
  · exact RV_cV1 _

theorem ev_RV (R : Rel G nt w0 base S0 S ρ st tmps w) (x : Operand) : RV w S ρ st.bx (st.ev G (cR x)) (Act.eval ⟨tmps, ds⟩ x) := by
  cases x with
  | tmp t => exact R.tm t
  | const v => exact RV_cV v
  | global g => exact R.glob g
  | func f => exact .clo f [] [] rfl (fun j c v h => by simp at h)

theorem sim_same (R : Rel G nt w0 base S0 S ρ st tmps w) {x : Sem Next} {av : AV} {v : Value} (hx : x.run P w = .ok (.value v) w) (hv : RV w S ρ st.bx av v) : Sim P G nt w0 base S0 S ρ st tmps w x av st :=
  ⟨.value v, v, w, S, ρ, hx, rfl, R, hv, Later.refl⟩

/-- The value of a slot, known in the machine, is known in the model. -/
theorem RV.int_inv {k : IntKind} {n : Int} {bx : List Box} {v : Value} (h : RV w S ρ bx (.int k n) v) : v = .int k n := by cases h; rfl
theorem RV.bool_inv {b : Bool} {bx : List Box} {v : Value} (h : RV w S ρ bx (.bool b) v) : v = .bool b := by cases h; rfl
theorem RV.nil_inv {bx : List Box} {v : Value} (h : RV w S ρ bx .nil v) : v = .slice none 0 0 := by cases h; rfl
theorem RV.undef_inv {bx : List Box} {v : Value} (h : RV w S ρ bx .undef v) : v = Go.undef := by cases h; rfl
theorem RV.agg_inv {cs : List AV} {bx : List Box} {v : Value} (h : RV w S ρ bx (.agg cs) v) : ∃ vs : List Value, v = .agg vs.toArray ∧ RVL w S ρ bx cs vs := by
  cases h with
  | agg cs vs hl hr => exact ⟨vs, rfl, hl, hr⟩
theorem RV.tup_inv {cs : List AV} {bx : List Box} {v : Value} (h : RV w S ρ bx (.tup cs) v) : ∃ vs : List Value, v = .tuple vs.toArray ∧ RVL w S ρ bx cs vs := by
  cases h with
  | tup cs vs hl hr => exact ⟨vs, rfl, hl, hr⟩
theorem RV.clo_inv {f : Nat} {cs : List AV} {bx : List Box} {v : Value} (h : RV w S ρ bx (.clo f cs) v) : ∃ vs : List Value, v = .func (.func f) #[] vs.toArray ∧ RVL w S ρ bx cs vs := by
  cases h with
  | clo f cs vs hl hr => exact ⟨vs, rfl, hl, hr⟩
theorem RV.rptr_inv {cs : List AV} {bx : List Box} {v : Value} (h : RV w S ρ bx (.rptr cs) v) : ∃ (a : Addr) (vs : List Value), v = .pointer (some a) ∧ RVL w S ρ bx cs vs ∧ ∀ (j : Nat) (u : Value), vs[j]? = some u → S a.block ∧ w.cell? (a.add j) = some u := by
  cases h with
  | rptr a cs vs hl hc hr => exact ⟨a, vs, rfl, ⟨hl, hr⟩, hc⟩

theorem sim_mov (R : Rel G nt w0 base S0 S ρ st tmps w) (x : Operand) {av : AV} {st' : St} (h : exI G (.mov (cR x)) st = some (av, st')) :
    Sim P G nt w0 base S0 S ρ st tmps w (pure (.value (Act.eval ⟨tmps, ds⟩ x))) av st' := by
  simp only [exI, Option.some.injEq, Prod.mk.injEq] at h
  obtain ⟨rfl, rfl⟩ := h
  exact sim_same R rfl (ev_RV R x)

theorem sim_pick (R : Rel G nt w0 base S0 S ρ st tmps w) (c a b : Operand) {av : AV} {st' : St} (h : exI G (.pick (cR c) (cR a) (cR b)) st = some (av, st')) :
    Sim P G nt w0 base S0 S ρ st tmps w (do pure (.value (if ← asBool (Act.eval ⟨tmps, ds⟩ c) then Act.eval ⟨tmps, ds⟩ a else Act.eval ⟨tmps, ds⟩ b))) av st' := by
  simp only [exI] at h
  have hc := ev_RV (ds := ds) R c
  split at h
  · rename_i t e
    rw [e] at hc
    simp only [Option.some.injEq, Prod.mk.injEq] at h
    obtain ⟨rfl, rfl⟩ := h
    refine sim_same (v := if t then Act.eval ⟨tmps, ds⟩ a else Act.eval ⟨tmps, ds⟩ b) R ?_ ?_
    · rw [hc.bool_inv]; simp [asBool]
    · cases t
      · exact ev_RV R b
      · exact ev_RV R a
  · exact absurd h (by simp)

theorem valid_inv {id len : Nat} (h : st.valid id len = true) : ∃ b, st.bx[id]? = some b ∧ b.status ≠ .fresh ∧ b.cs.length = len := by
  unfold St.valid at h
  split at h
  · rename_i b hb
    simp only [Bool.and_eq_true, decide_eq_true_eq] at h
    exact ⟨b, hb, h.1, Nat.eq_of_beq_eq_true h.2⟩
  · cases h

theorem ptr_valid {id len off : Nat} {v : Value} (h : RV w S ρ st.bx (.ptr id len off) v) (hv : st.valid id len = true) :
    ∃ g cap, ρ[id]? = some (g, cap) ∧ v = .pointer (some ⟨g, off, none⟩) := by
  obtain ⟨b, hb, _, hl⟩ := valid_inv hv
  cases h with
  | ptr id len off v b' hb' hf' hle h1 hh =>
    rw [hb] at hb'
    obtain rfl := Option.some.inj hb'
    exact hh hl

theorem ptr_mk {id len off g cap : Nat} (hv : st.valid id len = true) (hr : ρ[id]? = some (g, cap)) : RV w S ρ st.bx (.ptr id len off) (.pointer (some ⟨g, off, none⟩)) := by
  obtain ⟨b, hb, hf, hl⟩ := valid_inv hv
  exact .ptr _ _ _ _ b hb hf (by omega) rfl (fun _ => ⟨g, cap, hr, rfl⟩)

theorem sim_nilc (R : Rel G nt w0 base S0 S ρ st tmps w) (o : Oper) (x : Operand) (ho : o.op = .nilCheck x) {av : AV} {st' : St} (h : exI G (.nilc (cR x)) st = some (av, st')) :
    Sim P G nt w0 base S0 S ρ st tmps w (execOp (Act.eval ⟨tmps, ds⟩) o) av st' := by
  simp only [exI] at h
  have hx := ev_RV (ds := ds) R x
  unfold execOp
  simp only [ho]
  generalize Act.eval ⟨tmps, ds⟩ x = v at hx ⊢
  split at h
  · rename_i a b c e
    rw [e] at hx
    split at h
    · rename_i hv
      simp only [Option.some.injEq, Prod.mk.injEq] at h
      obtain ⟨rfl, rfl⟩ := h
      obtain ⟨g, cap, hr, rfl⟩ := ptr_valid hx hv
      exact sim_same R rfl (ptr_mk hv hr)
    · exact absurd h (by simp)
  · rename_i cs e
    rw [e] at hx
    simp only [Option.some.injEq, Prod.mk.injEq] at h
    obtain ⟨rfl, rfl⟩ := h
    obtain ⟨a, vs, rfl, hvs, hc⟩ := hx.rptr_inv
    exact sim_same R rfl (.rptr a cs vs hvs.1 hc hvs.2)
  · rename_i f cs e
    rw [e] at hx
    simp only [Option.some.injEq, Prod.mk.injEq] at h
    obtain ⟨rfl, rfl⟩ := h
    obtain ⟨vs, rfl, hvs⟩ := hx.clo_inv
    exact sim_same R rfl (.clo f cs vs hvs.1 hvs.2)
  · exact absurd h (by simp)

theorem run_bin {op : BinOp} {x y av : AV} (t : TypeId) (px py : Operand) (h : abin op x y = some av) {vx vy : Value} (hx : RV w S ρ st.bx x vx) (hy : RV w S ρ st.bx y vy) :
    ∃ v, (do eqGuard op t px py vx vy; binOp op t vx vy : Sem Value).run P w = .ok v w ∧ RV w S ρ st.bx av v := by
  unfold abin at h
  split at h
  · rename_i k a k' b
    obtain rfl := hx.int_inv
    obtain rfl := hy.int_inv
    have hg : (eqGuard op t px py (.int k a) (.int k' b)).run P w = .ok () w := by
      unfold eqGuard
      cases op <;> rfl
    simp only [Sem.run_bind, hg, Result.andThen_ok]
    cases op <;> simp only at h
    case shl =>
      by_cases hb : b < 0
      · simp [hb] at h
      · rw [if_neg hb] at h
        obtain rfl := Option.some.inj h
        exact ⟨_, by simp [binOp, Op.shift, hb], .int _ _⟩
    case shr =>
      by_cases hb : b < 0
      · simp [hb] at h
      · rw [if_neg hb] at h
        obtain rfl := Option.some.inj h
        exact ⟨_, by simp [binOp, Op.shift, hb], .int _ _⟩
    all_goals
      by_cases hk : k = k'
      · subst hk
        simp only [if_true] at h
        first
          | (obtain rfl := Option.some.inj h
             first
               | (refine ⟨.int k _, ?_, .int _ _⟩; simp only [binOp, ne_eq, not_true_eq_false, if_false]; rfl)
               | (refine ⟨.bool _, ?_, .bool _⟩; simp only [binOp, ne_eq, not_true_eq_false, if_false]; rfl))
          | (by_cases hb : b = 0
             · simp [hb] at h
             · rw [if_neg hb] at h
               obtain rfl := Option.some.inj h
               exact ⟨_, by simp [binOp, Op.intDiv, hb], .int _ _⟩)
      · simp [hk] at h
  · exact absurd h (by simp)

theorem sim_bin (R : Rel G nt w0 base S0 S ρ st tmps w) (op : BinOp) (t : TypeId) (x y : Operand) {av : AV} {st' : St} (h : exI G (.bin op (cR x) (cR y)) st = some (av, st')) :
    Sim P G nt w0 base S0 S ρ st tmps w (do pure (.value (← (do eqGuard op t x y (Act.eval ⟨tmps, ds⟩ x) (Act.eval ⟨tmps, ds⟩ y); binOp op t (Act.eval ⟨tmps, ds⟩ x) (Act.eval ⟨tmps, ds⟩ y))))) av st' := by
  simp only [exI, Option.map_eq_some_iff, Prod.mk.injEq] at h
  obtain ⟨a, ha, rfl, rfl⟩ := h
  obtain ⟨v, hr, hv⟩ := run_bin (P := P) t x y ha (ev_RV (ds := ds) R x) (ev_RV (ds := ds) R y)
  exact sim_same R (by rw [Sem.run_bind, hr]; rfl) hv

theorem run_equal_bool {t : TypeId} (ht : P.underlying t = some .bool) (a b : Bool) (w : World) : (Op.equal t (.bool a) (.bool b)).run P w = .ok (a == b) w := by
  unfold Op.equal Op.maxDepth Op.equalIn
  simp [run_underlying ht]

theorem sim_eqb (R : Rel G nt w0 base S0 S ρ st tmps w) (t : TypeId) (ht : P.underlying t = some .bool) (neg : Bool) (op : BinOp) (hop : op = bif neg then .neq else .eql) (x y : Operand) {av : AV} {st' : St} (h : exI G (.eqa neg (cR x) (cR y)) st = some (av, st')) :
    Sim P G nt w0 base S0 S ρ st tmps w (do pure (.value (← (do eqGuard op t x y (Act.eval ⟨tmps, ds⟩ x) (Act.eval ⟨tmps, ds⟩ y); binOp op t (Act.eval ⟨tmps, ds⟩ x) (Act.eval ⟨tmps, ds⟩ y))))) av st' := by
  have hx := ev_RV (ds := ds) R x
  have hy := ev_RV (ds := ds) R y
  simp only [exI] at h
  split at h
  · rename_i a b ea eb
    rw [ea] at hx
    rw [eb] at hy
    obtain ⟨rfl, rfl⟩ := Prod.mk.inj (Option.some.inj h)
    refine sim_same R ?_ (.bool _)
    rw [hx.bool_inv, hy.bool_inv]
    have hg : (eqGuard op t x y (.bool a) (.bool b)).run P w = .ok () w := by
      unfold eqGuard
      subst hop
      cases neg <;> rfl
    subst hop
    cases neg <;> simp only [cond_true, cond_false] at hg ⊢ <;> simp [hg, binOp, run_equal_bool ht]
  · cases h

theorem kInts_inv {k : IntKind} : ∀ {cs : List AV} {l : List Int}, kInts k cs = some l → cs = l.map (.int k)
  | [], l, h => by cases h; rfl
  | c :: r, l, h => by
    unfold kInts at h
    split at h
    · rename_i hq; cases hq
    · rename_i k' n r' hr
      cases hr
      split at h
      · rename_i hk
        obtain ⟨l', hl, rfl⟩ := Option.map_eq_some_iff.1 h
        rw [kInts_inv hl, hk]; rfl
      · cases h
    · cases h

theorem run_items {k : IntKind} {e : TypeId} (he : P.underlying e = some (.int k)) (hp : P.plainKey e = true) (d : Nat) (xs ys : Array Value) (l m : List Int) (w : World)
    (hx : ∀ j, j < l.length → xs[j]? = some (.int k (l.getD j 0))) (hy : ∀ j, j < m.length → ys[j]? = some (.int k (m.getD j 0))) : ∀ (is : List Nat), (∀ i ∈ is, i < l.length ∧ i < m.length) →
    (Op.eqItems (d + 1) e 1 xs ys is).run P w = .ok (is.all fun i => l.getD i 0 == m.getD i 0) w
  | [], _ => by simp [Op.eqItems]
  | i :: is, h => by
    obtain ⟨h1, h2⟩ := h i (by simp)
    have ih := run_items he hp d xs ys l m w hx hy is fun j hj => h j (by simp [hj])
    have hq : (Op.equalIn (d + 1) e (.int k (l.getD i 0)) (.int k (m.getD i 0))).run P w = .ok (l.getD i 0 == m.getD i 0) w := by
      unfold Op.equalIn
      simp [run_underlying he]
    unfold Op.eqItems
    simp only [Nat.mul_one, Sem.run_bind, run_part_plain w hp (hx i h1), run_part_plain w hp (hy i h2), Result.andThen_ok, hq]
    cases hb : (l.getD i 0 == m.getD i 0) with
    | false => simp only [Bool.not_false, if_true, List.all_cons, hb, Bool.false_and]; rfl
    | true => simp only [Bool.not_true, Bool.false_eq_true, if_false, List.all_cons, hb, Bool.true_and]; exact ih

theorem all_range_eq (l m : List Int) (n : Nat) (hl : l.length = n) (hm : m.length = n) : ((List.range n).all fun i => l.getD i 0 == m.getD i 0) = (l == m) := by
  rw [Bool.eq_iff_iff, List.all_eq_true, beq_iff_eq]
  constructor
  · intro h
    apply List.ext_getElem (by omega)
    intro i h1 h2
    have := h i (List.mem_range.2 (by omega))
    rw [beq_iff_eq, List.getD_eq_getElem?_getD, List.getD_eq_getElem?_getD, List.getElem?_eq_getElem h1, List.getElem?_eq_getElem h2] at this
    exact this
  · intro h i _
    rw [h]; simp

theorem sim_eqarr (R : Rel G nt w0 base S0 S ρ st tmps w) (t : TypeId) {e : TypeId} {n : Nat} {k : IntKind} {i : TypeInfo} (ht : P.underlying t = some (.array n e)) (he : P.underlying e = some (.int k)) (hi : P.info? e = some i) (hc : P.cellsOf e = 1) (hp : P.plainKey e = true) (hg : P.eqGuardType P.depth t = false)
    (neg : Bool) (op : BinOp) (hop : op = bif neg then .neq else .eql) (x y : Operand) {av : AV} {st' : St} (h : exI G (.eqarr n k neg (cR x) (cR y)) st = some (av, st')) :
    Sim P G nt w0 base S0 S ρ st tmps w (do pure (.value (← (do eqGuard op t x y (Act.eval ⟨tmps, ds⟩ x) (Act.eval ⟨tmps, ds⟩ y); binOp op t (Act.eval ⟨tmps, ds⟩ x) (Act.eval ⟨tmps, ds⟩ y))))) av st' := by
  have hx := ev_RV (ds := ds) R x
  have hy := ev_RV (ds := ds) R y
  simp only [exI] at h
  split at h
  · rename_i a b ea eb
    rw [ea] at hx
    rw [eb] at hy
    split at h
    · rename_i l m hl hm
      split at h
      · rename_i hq
        obtain ⟨rfl, rfl⟩ := Prod.mk.inj (Option.some.inj h)
        obtain ⟨vs, hvx, hrx⟩ := hx.agg_inv
        obtain ⟨us, hvy, hry⟩ := hy.agg_inv
        have hla := kInts_inv hl
        have hlb := kInts_inv hm
        subst hla hlb
        have get : ∀ (l : List Int) (vs : List Value), RVL w S ρ st.bx (l.map (.int k)) vs → ∀ j, j < l.length → vs.toArray[j]? = some (.int k (l.getD j 0)) := by
          intro l vs hr j hj
          obtain ⟨v, h1, h2⟩ := hr.get (j := j) (c := .int k (l.getD j 0)) (by rw [List.getElem?_map, List.getElem?_eq_getElem hj, List.getD_eq_getElem?_getD, List.getElem?_eq_getElem hj]; rfl)
          rw [List.getElem?_toArray, h1]
          cases h2; rfl
        have hrun : (Op.equal t (.agg vs.toArray) (.agg us.toArray)).run P w = .ok (l == m) w := by
          unfold Op.equal Op.maxDepth
          rw [show (10000 : Nat) = 9998 + 1 + 1 from rfl, run_equalIn_array w (9998 + 1) vs.toArray us.toArray ht hi, hc, run_items he hp 9998 vs.toArray us.toArray l m w (get l vs hrx) (get m us hry) (List.range n) (fun i hi => by have := List.mem_range.1 hi; omega), all_range_eq l m n hq.1 hq.2]
        refine sim_same R ?_ (.bool _)
        rw [hvx, hvy]
        have hgd : (eqGuard op t x y (.agg vs.toArray) (.agg us.toArray)).run P w = .ok () w := by
          unfold eqGuard
          subst hop
          cases neg <;> simp [program, Sem.run, hg, Sem.bind, Bind.bind, pure]
        subst hop
        cases neg <;> simp only [cond_true, cond_false] at hgd ⊢ <;> simp [hgd, binOp, hrun]
      · cases h
    · cases h
  · cases h

theorem sim_not (R : Rel G nt w0 base S0 S ρ st tmps w) (x : Operand) {av : AV} {st' : St} (h : exI G (.not (cR x)) st = some (av, st')) :
    Sim P G nt w0 base S0 S ρ st tmps w (do pure (.value (← Op.unary .not (Act.eval ⟨tmps, ds⟩ x)))) av st' := by
  simp only [exI] at h
  have hx := ev_RV (ds := ds) R x
  split at h
  · rename_i t e
    rw [e] at hx
    simp only [Option.some.injEq, Prod.mk.injEq] at h
    obtain ⟨rfl, rfl⟩ := h
    rw [hx.bool_inv]
    exact sim_same R (by simp [Op.unary]) (.bool _)
  · exact absurd h (by simp)

theorem sim_conv (R : Rel G nt w0 base S0 S ρ st tmps w) (s d : TypeId) (ks k : IntKind) (hs : P.underlying s = some (.int ks)) (hd : P.underlying d = some (.int k)) (x : Operand) {av : AV} {st' : St}
    (h : exI G (.conv k (cR x)) st = some (av, st')) : Sim P G nt w0 base S0 S ρ st tmps w (do pure (.value (← convert s d (Act.eval ⟨tmps, ds⟩ x)))) av st' := by
  simp only [exI] at h
  have hx := ev_RV (ds := ds) R x
  split at h
  · rename_i kk n e
    rw [e] at hx
    simp only [Option.some.injEq, Prod.mk.injEq] at h
    obtain ⟨rfl, rfl⟩ := h
    rw [hx.int_inv]
    exact sim_same R (by simp [convert, run_underlying hs, run_underlying hd, Conv.intToInt]) (.int _ _)
  · exact absurd h (by simp)

theorem sim_fn (R : Rel G nt w0 base S0 S ρ st tmps w) (f : Nat) (cap : Array Operand) {av : AV} {st' : St} (h : exI G (.fn f (cap.toList.map cR)) st = some (av, st')) :
    Sim P G nt w0 base S0 S ρ st tmps w (do pure (.value (← Instr.makeFunc (.func f) #[] (cap.map (Act.eval ⟨tmps, ds⟩))))) av st' := by
  simp only [exI, Option.some.injEq, Prod.mk.injEq] at h
  obtain ⟨rfl, rfl⟩ := h
  refine sim_same (v := .func (.func f) #[] (cap.map (Act.eval ⟨tmps, ds⟩))) R rfl ?_
  have e : cap.map (Act.eval ⟨tmps, ds⟩) = (cap.toList.map (Act.eval ⟨tmps, ds⟩)).toArray := by rw [← Array.toList_map, Array.toArray_toList]
  rw [e]
  refine .clo f _ _ (by simp) (fun j c v h1 h2 => ?_)
  rw [List.map_map] at h1
  rw [List.getElem?_map] at h1 h2
  obtain ⟨x, hx, rfl⟩ := Option.map_eq_some_iff.1 h1
  obtain ⟨x', hx', rfl⟩ := Option.map_eq_some_iff.1 h2
  rw [hx] at hx'
  obtain rfl := Option.some.inj hx'
  exact ev_RV R x

theorem sim_ext (R : Rel G nt w0 base S0 S ρ st tmps w) (x : Operand) (i : Nat) {av : AV} {st' : St} (h : exI G (.ext (cR x) i) st = some (av, st')) :
    Sim P G nt w0 base S0 S ρ st tmps w (do pure (.value (← Instr.extract (Act.eval ⟨tmps, ds⟩ x) i))) av st' := by
  simp only [exI] at h
  have hx := ev_RV (ds := ds) R x
  split at h
  · rename_i vs e
    rw [e] at hx
    split at h
    · rename_i v hv
      simp only [Option.some.injEq, Prod.mk.injEq] at h
      obtain ⟨rfl, rfl⟩ := h
      obtain ⟨us, eu, hus⟩ := hx.tup_inv
      obtain ⟨u, hu, hr⟩ := hus.get hv
      rw [eu]
      exact sim_same R (by simp [Instr.extract, hu]) hr
    · exact absurd h (by simp)
  · exact absurd h (by simp)

theorem sim_alen (R : Rel G nt w0 base S0 S ρ st tmps w) (t ty : TypeId) (n : Nat) (e : TypeId) (ht : P.underlying t = some (.array n e)) (v : Value) {av : AV} {st' : St} (h : exI G (.alen n) st = some (av, st')) :
    Sim P G nt w0 base S0 S ρ st tmps w (do pure (.value (← Builtin.len_ #[t] ty #[v]))) av st' := by
  simp only [exI, Option.some.injEq, Prod.mk.injEq] at h
  obtain ⟨rfl, rfl⟩ := h
  exact sim_same R (by simp [Builtin.len_, run_underlying ht, goInt]) (.int _ _)

theorem own_inv (R : Rel G nt w0 base S0 S ρ st tmps w) {id n : Nat} {v : Value} (h : RV w S ρ st.bx (.own id n) v) {b : Box} (hb : st.bx[id]? = some b) (hf : b.status ≠ .fresh) (hl : b.cs.length = n * b.sz) :
    ∃ g cap cur, BoxOk w S ρ st.bx base id b g cap cur ∧ v = .slice (some ⟨g, 0, none⟩) n cap ∧ n ≤ cap := by
  cases h with
  | own id n v b' hb' hf' hle h1 hh =>
    rw [hb] at hb'
    obtain rfl := Option.some.inj hb'
    obtain ⟨g, cap, hr, rfl, hn⟩ := hh hl
    obtain ⟨g', cap', cur, ok⟩ := R.box id b hb hf
    have := ok.rho
    rw [hr] at this
    simp only [Option.some.injEq, Prod.mk.injEq] at this
    obtain ⟨rfl, rfl⟩ := this
    exact ⟨g, cap, cur, ok, rfl, hn⟩

theorem ptr_inv (R : Rel G nt w0 base S0 S ρ st tmps w) {id len off : Nat} {v : Value} (h : RV w S ρ st.bx (.ptr id len off) v) {b : Box} (hb : st.bx[id]? = some b) (hf : b.status ≠ .fresh) (hl : b.cs.length = len) :
    ∃ g cap cur, BoxOk w S ρ st.bx base id b g cap cur ∧ v = .pointer (some ⟨g, off, none⟩) := by
  cases h with
  | ptr id len off v b' hb' hf' hle h1 hh =>
    rw [hb] at hb'
    obtain rfl := Option.some.inj hb'
    obtain ⟨g, cap, hr, rfl⟩ := hh hl
    obtain ⟨g', cap', cur, ok⟩ := R.box id b hb hf
    have := ok.rho
    rw [hr] at this
    simp only [Option.some.injEq, Prod.mk.injEq] at this
    obtain ⟨rfl, rfl⟩ := this
    exact ⟨g, cap, cur, ok, rfl⟩

/-- What a box's block shows, cell by cell. -/
theorem BoxOk.shown {bx : List Box} {id : Nat} {b : Box} {g cap : Nat} {cur : Array Value} (ok : BoxOk w S ρ bx base id b g cap cur) :
    RVL w S ρ bx b.cs (cur.toList.take b.cs.length) ∧ ∀ (j : Nat) (u : Value), (cur.toList.take b.cs.length)[j]? = some u → w.cell? ⟨g, j, none⟩ = some u := by
  refine ⟨⟨by simp [ok.fits], fun j c v h1 h2 => ?_⟩, fun j u h => ?_⟩
  · obtain ⟨u, hu, _, hr⟩ := ok.cells j c h1
    rw [List.getElem?_take] at h2
    split at h2
    · simp only [Array.getElem?_toList] at h2
      rw [hu] at h2
      obtain rfl := Option.some.inj h2
      exact hr
    · cases h2
  · rw [cell_of_row w g j cur b.e (0, 0) ok.heap]
    rw [List.getElem?_take] at h
    split at h
    · simpa using h
    · cases h

theorem sim_len (R : Rel G nt w0 base S0 S ρ st tmps w) (t ty e : TypeId) (ht : P.underlying t = some (.slice e)) (x : Operand) {av : AV} {st' : St} (h : exI G (.len (cR x)) st = some (av, st')) :
    Sim P G nt w0 base S0 S ρ st tmps w (do pure (.value (← Builtin.len_ #[t] ty #[Act.eval ⟨tmps, ds⟩ x]))) av st' := by
  simp only [exI] at h
  have hx := ev_RV (ds := ds) R x
  have fin : ∀ (ao : Option Addr) (n cap : Nat), (do pure (Next.value (← Builtin.len_ #[t] ty #[.slice ao n cap])) : Sem Next).run P w = .ok (.value (.int .i64 n)) w := by
    intro ao n cap
    simp [Builtin.len_, run_underlying ht, goInt]
  split at h
  · rename_i e'
    rw [e'] at hx
    simp only [Option.some.injEq, Prod.mk.injEq] at h
    obtain ⟨rfl, rfl⟩ := h
    rw [hx.nil_inv]
    exact sim_same R (fin none 0 0) (.int _ _)
  · rename_i n cs e'
    rw [e'] at hx
    simp only [Option.some.injEq, Prod.mk.injEq] at h
    obtain ⟨rfl, rfl⟩ := h
    generalize Act.eval ⟨tmps, ds⟩ x = v at hx
    cases hx with
    | lst n cap ao cs vs hl hn hm hc hr => exact sim_same R (fin ao n cap) (.int _ _)
  · rename_i id n e'
    rw [e'] at hx
    split at h
    · rename_i b hb
      split at h
      · rename_i hc
        simp only [Option.some.injEq, Prod.mk.injEq] at h
        obtain ⟨rfl, rfl⟩ := h
        obtain ⟨g, cap, cur, ok, ev, hn⟩ := own_inv R hx hb hc.1 hc.2
        rw [ev]
        exact sim_same R (fin _ n cap) (.int _ _)
      · exact absurd h (by simp)
    · exact absurd h (by simp)
  · exact absurd h (by simp)

/-- Cells that the machine reads at a pointer, in the model. -/
theorem at_inv (R : Rel G nt w0 base S0 S ρ st tmps w) {p : AV} {v : Value} (h : RV w S ρ st.bx p v) {cs : List AV} (hat : st.at_ p = some cs) :
    ∃ (a : Addr) (vs : List Value), v = .pointer (some a) ∧ RVL w S ρ st.bx cs vs ∧ ∀ (j : Nat) (u : Value), vs[j]? = some u → w.cell? (a.add j) = some u := by
  unfold St.at_ at hat
  split at hat
  · rename_i cs'
    obtain rfl := Option.some.inj hat
    obtain ⟨a, vs, rfl, hvs, hc⟩ := h.rptr_inv
    exact ⟨a, vs, rfl, hvs, fun j u hj => (hc j u hj).2⟩
  · rename_i id len off
    split at hat
    · rename_i b hb
      split at hat
      · rename_i hc
        obtain rfl := Option.some.inj hat
        obtain ⟨g, cap, cur, ok, rfl⟩ := ptr_inv R h hb hc.1 hc.2
        obtain ⟨h1, h2⟩ := ok.shown
        refine ⟨⟨g, off, none⟩, _, rfl, h1.drop off, fun j u hj => ?_⟩
        rw [List.getElem?_drop] at hj
        have := h2 (off + j) u hj
        have e : (⟨g, off, none⟩ : Addr).add j = ⟨g, off + j, none⟩ := by unfold Addr.add; split <;> simp_all
        rw [e]; exact this
      · exact absurd hat (by simp)
    · exact absurd hat (by simp)
  · exact absurd hat (by simp)

theorem run_isAgg {t : TypeId} {d : TypeDesc} (h : P.underlying t = some d) (w : World) : (isAgg t).run P w = .ok (descAgg d) w := by
  unfold isAgg
  simp only [Sem.run_bind, run_underlying h, Result.andThen_ok]
  cases d <;> rfl
theorem run_sizeOf' {t : TypeId} {i : TypeInfo} (h : P.info? t = some i) (w : World) : (sizeOf t).run P w = .ok i.size w := by
  simp [sizeOf, typeInfo, h]

theorem sim_ld1 (R : Rel G nt w0 base S0 S ρ st tmps w) (t : TypeId) (d : TypeDesc) (ht : P.underlying t = some d) (hd : descAgg d = false) (x : Operand) {av : AV} {st' : St} (h : exI G (.ld1 (cR x)) st = some (av, st')) :
    Sim P G nt w0 base S0 S ρ st tmps w (do pure (.value (← Instr.loadAt t (Act.eval ⟨tmps, ds⟩ x)))) av st' := by
  simp only [exI] at h
  have hx := ev_RV (ds := ds) R x
  split at h
  · rename_i c cs hat
    simp only [Option.some.injEq, Prod.mk.injEq] at h
    obtain ⟨rfl, rfl⟩ := h
    obtain ⟨a, vs, ev, hvs, hc⟩ := at_inv R hx hat
    obtain ⟨v, vs', rfl, hv, _⟩ := hvs.uncons
    have h0 := hc 0 v rfl
    have e0 : a.add 0 = a := by simp [Addr.add]
    rw [e0] at h0
    rw [ev]
    refine sim_same R ?_ hv
    simp [Instr.loadAt, Instr.sureAddr, loadVar, run_isAgg ht, hd, h0]
  · exact absurd h (by simp)

theorem sim_ldn (R : Rel G nt w0 base S0 S ρ st tmps w) (t : TypeId) (d : TypeDesc) (i : TypeInfo) (ht : P.underlying t = some d) (hi : P.info? t = some i) (hd : descAgg d = true) (x : Operand) {av : AV} {st' : St}
    (h : exI G (.ldn i.size (cR x)) st = some (av, st')) : Sim P G nt w0 base S0 S ρ st tmps w (do pure (.value (← Instr.loadAt t (Act.eval ⟨tmps, ds⟩ x)))) av st' := by
  simp only [exI] at h
  have hx := ev_RV (ds := ds) R x
  split at h
  · rename_i cs hat
    split at h
    · rename_i hle
      simp only [Option.some.injEq, Prod.mk.injEq] at h
      obtain ⟨rfl, rfl⟩ := h
      obtain ⟨a, vs, ev, hvs, hc⟩ := at_inv R hx hat
      rw [ev]
      have ht2 := hvs.take i.size
      have hlen : (vs.take i.size).length = i.size := by simp [hvs.1]; omega
      have hl := run_loadCells_list (P := P) w a (vs.take i.size) (fun j u hj => by
        rw [List.getElem?_take] at hj
        split at hj
        · exact hc j u hj
        · cases hj)
      rw [hlen] at hl
      refine sim_same (v := .agg (vs.take i.size).toArray) R ?_ (.agg _ _ ht2.1 ht2.2)
      simp [Instr.loadAt, Instr.sureAddr, loadVar, run_isAgg ht, hd, run_sizeOf' hi, hl]
    · exact absurd h (by simp)
  · exact absurd h (by simp)

theorem sim_faddr (R : Rel G nt w0 base S0 S ρ st tmps w) (s : TypeId) (fs : Array Field) (f : Nat) (fd : Field) (i : TypeInfo) (hs : P.underlying s = some (.struct fs)) (hf : fs[f]? = some fd) (hi : P.info? fd.type = some i) (h0 : i.size ≠ 0)
    (x : Operand) {av : AV} {st' : St} (h : exI G (.faddr fd.offset (cR x)) st = some (av, st')) :
    Sim P G nt w0 base S0 S ρ st tmps w (do pure (.value (← Instr.fieldAt s (Act.eval ⟨tmps, ds⟩ x) f))) av st' := by
  simp only [exI] at h
  have hx := ev_RV (ds := ds) R x
  have fin : ∀ (a : Addr), (do pure (Next.value (← Instr.fieldAt s (.pointer (some a)) f)) : Sem Next).run P w = .ok (.value (.pointer (some (a.add fd.offset)))) w := by
    intro a
    simp [Instr.fieldAt, run_underlying hs, hf, Instr.sureAddr, fieldPlace, run_sizeOf' hi, h0]
  generalize Act.eval ⟨tmps, ds⟩ x = v at hx ⊢
  split at h
  · rename_i id len o e
    rw [e] at hx
    split at h
    · rename_i hv
      simp only [Option.some.injEq, Prod.mk.injEq] at h
      obtain ⟨rfl, rfl⟩ := h
      obtain ⟨g, cap, hr, rfl⟩ := ptr_valid hx hv
      have e3 : (⟨g, o, none⟩ : Addr).add fd.offset = ⟨g, o + fd.offset, none⟩ := by unfold Addr.add; split <;> simp_all
      refine sim_same R (fin _) ?_
      rw [e3]
      exact ptr_mk hv hr
    · exact absurd h (by simp)
  · rename_i cs e
    rw [e] at hx
    simp only [Option.some.injEq, Prod.mk.injEq] at h
    obtain ⟨rfl, rfl⟩ := h
    obtain ⟨a, vs, rfl, hvs, hc⟩ := hx.rptr_inv
    refine sim_same R (fin a) (.rptr _ _ (vs.drop fd.offset) (hvs.drop _).1 (fun j u hj => ?_) (hvs.drop _).2)
    rw [List.getElem?_drop] at hj
    rw [Addr.add_block, Addr.add_add]
    exact hc _ u hj
  · exact absurd h (by simp)
end

end Go.Am

/- Each instruction without a call does what the machine says: what makes or writes memory. -/
set_option linter.unusedVariables false

namespace Go.Am

open Go.RowKit

section
variable {P : Program} {G : Nat → List AV} {nt : Nat} {w0 w : World} {base : Nat} {S0 S : Nat → Prop} {ρ : List (Nat × Nat)} {st : St} {tmps : Array Value} {ds : List Deferred}

/-- ONE BOX IS NEW OR HAS TURNED, in block g'. -/
theorem Rel.upd (R : Rel G nt w0 base S0 S ρ st tmps w) {w' : World} {ρ' : List (Nat × Nat)} {bx' : List Box} {id g' go cap' : Nat} {b' : Box} {cur' : Array Value}
    (hb' : bx'[id]? = some b') (hst : b'.status = .live) (hr' : ρ'[id]? = some (g', cap'))
    (hoth : ∀ k, k ≠ id → bx'[k]? = st.bx[k]? ∧ ρ'[k]? = ρ[k]?) (hlen : ρ'.length = bx'.length)
    (hold : ∀ b, st.bx[id]? = some b → b.status = .fresh ∨ (b'.sz = b.sz ∧ ((b'.cs.length = b.cs.length ∧ ρ'[id]? = ρ[id]?) ∨ b.cs.length < b'.cs.length)))
    (hos : w'.os = w.os) (htape : w'.tape = w.tape) (hout : w'.output = w.output) (hsize : w.heap.size ≤ w'.heap.size)
    (hblk : ∀ k, k < w.heap.size → k ≠ g' → k ≠ go → w'.heap[k]? = w.heap[k]?)
    (hbase : base ≤ g') (hS : ¬ S g') (hbaseo : base ≤ go) (hSo : ¬ S go) (hheap : w'.heap[g']? = some (.cells cur' b'.e (0, 0)))
    (hcs : cur'.size = cap' * b'.sz) (hcm : cap' ≤ maxLen) (hfit : b'.cs.length ≤ cur'.size)
    (hcell : ∀ (j : Nat) (c : AV), b'.cs[j]? = some c → ∃ v, cur'[j]? = some v ∧ v.oneCell' = true ∧ RV w S ρ st.bx c v)
    (hdis : ∀ (k : Nat) (b : Box) (x : Nat × Nat), k ≠ id → st.bx[k]? = some b → b.status ≠ .fresh → ρ[k]? = some x → x.1 ≠ g' ∧ x.1 ≠ go) :
    Rel G nt w0 base S0 S ρ' { st with bx := bx' } tmps w' ∧ Later w S ρ st.bx w' S ρ' bx' := by
  have L : Later w S ρ st.bx w' S ρ' bx' := by
    refine ⟨fun _ h => h, fun g hg => hblk g (R.slt g hg) (fun e => hS (e ▸ hg)) (fun e => hSo (e ▸ hg)), hsize, fun k b hb hf => ?_⟩
    by_cases hk : k = id
    · subst hk
      rcases hold b hb with h | ⟨h1, h2⟩
      · exact absurd h hf
      · exact ⟨b', hb', by rw [hst]; decide, h1, h2⟩
    · obtain ⟨e1, e2⟩ := hoth k hk
      exact ⟨b, by rw [e1]; exact hb, hf, rfl, .inl ⟨rfl, e2⟩⟩
  refine ⟨⟨?_, Nat.le_trans R.baseLe hsize, R.size, hlen, fun g hg => Nat.lt_of_lt_of_le (R.slt g hg) hsize, R.sbase, ?_, ?_, fun t => (R.tm t).later L, fun g => (R.glob g).later L⟩, L⟩
  · refine R.below.trans ⟨hos, htape, hout, hsize, fun k hk => hblk k (Nat.lt_of_lt_of_le hk R.baseLe) (by omega) (by omega)⟩
  · intro k b hb hf
    by_cases hk : k = id
    · subst hk
      have hb2 : bx'[k]? = some b := hb
      rw [hb'] at hb2
      obtain rfl := Option.some.inj hb2
      refine ⟨g', cap', cur', hr', hbase, hheap, hcs, hcm, hfit, fun j c hj => ?_, fun _ => hS, fun h => by rw [hst] at h; cases h⟩
      obtain ⟨v, h1, h2, h3⟩ := hcell j c hj
      exact ⟨v, h1, h2, h3.later L⟩
    · obtain ⟨e1, e2⟩ := hoth k hk
      have hb2 : st.bx[k]? = some b := by rw [← e1]; exact hb
      obtain ⟨g, cap, cur, ok⟩ := R.box k b hb2 hf
      have hgl : g < w.heap.size := (Array.getElem?_eq_some_iff.1 ok.heap).1
      have hne := hdis k b (g, cap) hk hb2 hf ok.rho
      refine ⟨g, cap, cur, by rw [e2]; exact ok.rho, ok.base, (hblk g hgl hne.1 hne.2).trans ok.heap, ok.size, ok.cap, ok.fits, fun j c hj => ?_, ok.live, ok.frozen⟩
      obtain ⟨v, h1, h2, h3⟩ := ok.cells j c hj
      exact ⟨v, h1, h2, h3.later L⟩
  · intro i j bi bj x y hi hj hfi hfj hx hy hij
    have aux : ∀ (k : Nat) (b : Box) (z : Nat × Nat), k ≠ id → bx'[k]? = some b → b.status ≠ .fresh → ρ'[k]? = some z → z.1 ≠ g' := by
      intro k b z hk hb hf hz
      obtain ⟨e1, e2⟩ := hoth k hk
      rw [e1] at hb
      rw [e2] at hz
      exact (hdis k b z hk hb hf hz).1
    by_cases hi' : i = id
    · subst hi'
      have hx2 : ρ'[i]? = some x := hx
      rw [hr'] at hx2
      obtain rfl := Option.some.inj hx2
      exact fun e => aux j bj y (fun e => hij e.symm) hj hfj hy e.symm
    · by_cases hj' : j = id
      · subst hj'
        have hy2 : ρ'[j]? = some y := hy
        rw [hr'] at hy2
        obtain rfl := Option.some.inj hy2
        exact aux i bi x hi' hi hfi hx
      · obtain ⟨e1, e2⟩ := hoth i hi'
        obtain ⟨e3, e4⟩ := hoth j hj'
        exact R.inj i j bi bj x y (by rw [← e1]; exact hi) (by rw [← e3]; exact hj) hfi hfj (by rw [← e2]; exact hx) (by rw [← e4]; exact hy) hij

/-- A NEW BOX. -/
theorem Rel.newBoxG (R : Rel G nt w0 base S0 S ρ st tmps w) {j : Option Nat} {b : Box} {id : Nat} {st' : St} (h : st.newBox j b = some (id, st')) (hl : b.status = .live)
    {w' : World} {g : Nat} {cur : Array Value} {cap : Nat} (hbg : base ≤ g) (hS : ¬ S g) (hdis : ∀ (k : Nat) (b : Box) (x : Nat × Nat), st.bx[k]? = some b → b.status ≠ .fresh → ρ[k]? = some x → x.1 ≠ g) (hos : w'.os = w.os) (htape : w'.tape = w.tape) (hout : w'.output = w.output) (hsize : w.heap.size ≤ w'.heap.size)
    (hblk : ∀ k, k < w.heap.size → w'.heap[k]? = w.heap[k]?) (hheap : w'.heap[g]? = some (.cells cur b.e (0, 0)))
    (hcs : cur.size = cap * b.sz) (hcm : cap ≤ maxLen) (hfit : b.cs.length ≤ cur.size)
    (hcell : ∀ (j : Nat) (c : AV), b.cs[j]? = some c → ∃ v, cur[j]? = some v ∧ v.oneCell' = true ∧ RV w S ρ st.bx c v) :
    ∃ ρ', Rel G nt w0 base S0 S ρ' st' tmps w' ∧ Later w S ρ st.bx w' S ρ' st'.bx ∧ st'.bx[id]? = some b ∧ ρ'[id]? = some (g, cap) := by
  unfold St.newBox at h
  split at h
  · simp only [Option.some.injEq, Prod.mk.injEq] at h
    obtain ⟨rfl, rfl⟩ := h
    have hb' : (st.bx ++ [b])[st.bx.length]? = some b := by simp
    have hr' : (ρ ++ [(g, cap)])[st.bx.length]? = some (g, cap) := by rw [← R.rho]; simp
    obtain ⟨R', L⟩ := R.upd (w' := w') (ρ' := ρ ++ [(g, cap)]) (bx' := st.bx ++ [b]) (id := st.bx.length) (g' := g) (go := g) (cap' := cap) (b' := b) (cur' := cur) hb' hl hr'
      (fun k hk => by
        refine ⟨?_, ?_⟩
        · by_cases hk' : k < st.bx.length
          · rw [List.getElem?_append_left hk']
          · rw [List.getElem?_append_right (by omega), List.getElem?_eq_none (by simp; omega), List.getElem?_eq_none (by omega)]
        · by_cases hk' : k < ρ.length
          · rw [List.getElem?_append_left hk']
          · have := R.rho
            rw [List.getElem?_append_right (by omega), List.getElem?_eq_none (by simp; omega), List.getElem?_eq_none (by omega)])
      (by simp [R.rho]) (fun b hb => by simp at hb) hos htape hout hsize (fun k hk _ _ => hblk k hk) hbg hS hbg hS hheap hcs hcm hfit hcell
      (fun k b x _ hb hf hx => ⟨hdis k b x hb hf hx, hdis k b x hb hf hx⟩)
    exact ⟨_, R', L, hb', hr'⟩
  · rename_i j
    split at h
    · rename_i b0 hb0
      split at h
      · rename_i hfr
        simp only [Option.some.injEq, Prod.mk.injEq] at h
        obtain ⟨rfl, rfl⟩ := h
        have hlt : st.rb + j < st.bx.length := (List.getElem?_eq_some_iff.1 hb0).1
        have hb' : (st.bx.set (st.rb + j) b)[st.rb + j]? = some b := by simp [hlt]
        have hlr : st.rb + j < ρ.length := by rw [R.rho]; exact hlt
        have hr' : (ρ.set (st.rb + j) (g, cap))[st.rb + j]? = some (g, cap) := by simp [hlr]
        obtain ⟨R', L⟩ := R.upd (w' := w') (ρ' := ρ.set (st.rb + j) (g, cap)) (bx' := st.bx.set (st.rb + j) b) (id := st.rb + j) (g' := g) (go := g) (cap' := cap) (b' := b) (cur' := cur) hb' hl hr'
          (fun k hk => ⟨by rw [List.getElem?_set_ne (Ne.symm hk)], by rw [List.getElem?_set_ne (Ne.symm hk)]⟩)
          (by simp [R.rho]) (fun b hb => by rw [hb0] at hb; obtain rfl := Option.some.inj hb; exact .inl hfr) hos htape hout hsize (fun k hk _ _ => hblk k hk) hbg hS hbg hS hheap hcs hcm hfit hcell
          (fun k b x _ hb hf hx => ⟨hdis k b x hb hf hx, hdis k b x hb hf hx⟩)
        exact ⟨_, R', L, hb', hr'⟩
      · exact absurd h (by simp)
    · exact absurd h (by simp)

theorem Rel.newBox (R : Rel G nt w0 base S0 S ρ st tmps w) {j : Option Nat} {b : Box} {id : Nat} {st' : St} (h : st.newBox j b = some (id, st')) (hl : b.status = .live)
    {w' : World} {g : Nat} {cur : Array Value} {cap : Nat} (hg : w.heap.size ≤ g) (hos : w'.os = w.os) (htape : w'.tape = w.tape) (hout : w'.output = w.output) (hsize : w.heap.size ≤ w'.heap.size)
    (hblk : ∀ k, k < w.heap.size → w'.heap[k]? = w.heap[k]?) (hheap : w'.heap[g]? = some (.cells cur b.e (0, 0)))
    (hcs : cur.size = cap * b.sz) (hcm : cap ≤ maxLen) (hfit : b.cs.length ≤ cur.size)
    (hcell : ∀ (j : Nat) (c : AV), b.cs[j]? = some c → ∃ v, cur[j]? = some v ∧ v.oneCell' = true ∧ RV w S ρ st.bx c v) :
    ∃ ρ', Rel G nt w0 base S0 S ρ' st' tmps w' ∧ Later w S ρ st.bx w' S ρ' st'.bx ∧ st'.bx[id]? = some b ∧ ρ'[id]? = some (g, cap) := by
  have hS : ¬ S g := fun hs => Nat.lt_irrefl _ (Nat.lt_of_lt_of_le (R.slt _ hs) hg)
  have hbg : base ≤ g := Nat.le_trans R.baseLe hg
  have hdis : ∀ (k : Nat) (b : Box) (x : Nat × Nat), st.bx[k]? = some b → b.status ≠ .fresh → ρ[k]? = some x → x.1 ≠ g := by
    intro k b x hb hf hx e
    obtain ⟨g2, cap, cur, ok⟩ := R.box k b hb hf
    rw [ok.rho] at hx
    obtain rfl := Option.some.inj hx
    have := (Array.getElem?_eq_some_iff.1 ok.heap).1
    simp at e
    omega
  exact R.newBoxG h hl hbg hS hdis hos htape hout hsize hblk hheap hcs hcm hfit hcell

/-- A block of cells, made. -/
theorem Rel.alloc (R : Rel G nt w0 base S0 S ρ st tmps w) {j : Option Nat} {b : Box} {id : Nat} {st' : St} (h : st.newBox j b = some (id, st')) (hl : b.status = .live)
    {cur : Array Value} {cap : Nat} (hcs : cur.size = cap * b.sz) (hcm : cap ≤ maxLen) (hfit : b.cs.length ≤ cur.size)
    (hcell : ∀ (j : Nat) (c : AV), b.cs[j]? = some c → ∃ v, cur[j]? = some v ∧ v.oneCell' = true ∧ RV w S ρ st.bx c v) :
    ∃ ρ', Rel G nt w0 base S0 S ρ' st' tmps (w.alloc (.cells cur b.e)) ∧ Later w S ρ st.bx (w.alloc (.cells cur b.e)) S ρ' st'.bx ∧ st'.bx[id]? = some b ∧ ρ'[id]? = some (w.heap.size, cap) :=
  R.newBox h hl (Nat.le_refl _) rfl rfl rfl (by show _ ≤ (w.heap.push _).size; rw [Array.size_push]; omega) (fun k hk => Below.heap_alloc w _ k hk) (heap_alloc_new w _) hcs hcm hfit hcell

theorem cells_of_RVL {bx : List Box} {cs : List AV} {cur : Array Value} (h : RVL w S ρ bx cs cur.toList) (h1 : ∀ u ∈ cur.toList, u.oneCell' = true) :
    ∀ (j : Nat) (c : AV), cs[j]? = some c → ∃ v, cur[j]? = some v ∧ v.oneCell' = true ∧ RV w S ρ bx c v := by
  intro j c hj
  obtain ⟨v, hv, hr⟩ := h.get hj
  exact ⟨v, by simpa using hv, h1 v (List.mem_of_getElem? hv), hr⟩

theorem sim_new (R : Rel G nt w0 base S0 S ρ st tmps w) (e : TypeId) (i : TypeInfo) (z : Value) (hi : P.info? e = some i) (hz : i.zero = some z) (h1 : z.cells.all (·.oneCell') = true) (j : Option Nat) {av : AV} {st' : St}
    (h : exI G (.new j e (z.cells.toList.map cV1)) st = some (av, st')) :
    Sim P G nt w0 base S0 S ρ st tmps w (do pure (.value (← Instr.alloc e true (.tuple #[])))) av st' := by
  simp only [exI, Option.map_eq_some_iff, Prod.mk.injEq] at h
  obtain ⟨⟨id, st1⟩, hn, rfl, rfl⟩ := h
  have hone : ∀ u ∈ z.cells.toList, u.oneCell' = true := fun u hu => (Array.all_eq_true_iff_forall_mem.1 h1) u (by simpa using hu)
  obtain ⟨ρ', R', L, hb, hr⟩ := R.alloc hn rfl (cur := z.cells) (cap := 1) (by simp) (by decide) (by simp) (cells_of_RVL (RVL_cV1 z.cells.toList) hone)
  refine ⟨.value (.pointer (some ⟨w.heap.size, 0, none⟩)), .pointer (some ⟨w.heap.size, 0, none⟩), _, S, ρ', ?_, rfl, R', ?_, L⟩
  · simp [Instr.alloc, zeroValue, typeInfo, hi, hz, newVar, newRow]
  · exact .ptr _ _ _ _ _ hb (by simp) (Nat.le_refl _) rfl (fun _ => ⟨_, _, hr, rfl⟩)

theorem sim_box (R : Rel G nt w0 base S0 S ρ st tmps w) (e : TypeId) (i : TypeInfo) (hi : P.info? e = some i) (j : Option Nat) (x : Operand) {av : AV} {st' : St}
    (h : exI G (.box j e i.size (cR x)) st = some (av, st')) :
    Sim P G nt w0 base S0 S ρ st tmps w (do pure (.value (← Instr.box e (Act.eval ⟨tmps, ds⟩ x)))) av st' := by
  simp only [exI] at h
  have hx := ev_RV (ds := ds) R x
  split at h
  · rename_i hc
    simp only [Option.map_eq_some_iff, Prod.mk.injEq] at h
    obtain ⟨⟨id, st1⟩, hn, rfl, rfl⟩ := h
    obtain ⟨hl, hone⟩ := hx.cells_one hc.2
    have hsz : (Act.eval ⟨tmps, ds⟩ x).cells.size = i.size := by rw [← Array.length_toList, hl.1, hc.1]
    obtain ⟨ρ', R', L, hb, hr⟩ := R.alloc hn rfl (cur := (Act.eval ⟨tmps, ds⟩ x).cells) (cap := 1) (by simp [hsz]) (by decide) (by simp [hsz, hc.1]) (cells_of_RVL hl hone)
    refine ⟨.value (.pointer (some ⟨w.heap.size, 0, none⟩)), .pointer (some ⟨w.heap.size, 0, none⟩), _, S, ρ', ?_, rfl, R', ?_, L⟩
    · simp [Instr.box, newVar, newRow]
    · exact .ptr _ _ _ _ _ hb (by simp) (by simp [hc.1]) rfl (fun _ => ⟨_, _, hr, rfl⟩)
  · exact absurd h (by simp)

theorem getElem?_putAt (l : List AV) (o : Nat) (vs : List AV) (hb : o + vs.length ≤ l.length) (j : Nat) : (putAt l o vs)[j]? = if j < o then l[j]? else if j < o + vs.length then vs[j - o]? else l[j]? := by
  unfold putAt
  rw [List.getElem?_append, List.getElem?_append]
  simp only [List.length_append, List.length_take, List.getElem?_take, List.getElem?_drop]
  have : min o l.length = o := by omega
  rw [this]
  by_cases h1 : j < o
  · have : j < o + vs.length := by omega
    simp [h1, this]
  · by_cases h2 : j < o + vs.length
    · simp [h1, h2]
    · simp only [h1, h2, if_false]
      congr 1
      omega
theorem length_putAt (l : List AV) (o : Nat) (vs : List AV) (hb : o + vs.length ≤ l.length) : (putAt l o vs).length = l.length := by
  unfold putAt
  simp
  omega

/-- Cells written at a pointer into a box. -/
theorem Rel.write (R : Rel G nt w0 base S0 S ρ st tmps w) {p : AV} {vp : Value} (hp : RV w S ρ st.bx p vp) {cs : List AV} {us : List Value} (hcs : RVL w S ρ st.bx cs us) {st' : St} (h : st.write p cs = some st') :
    ∃ (a : Addr) (w' : World), vp = .pointer (some a) ∧ (storeCells a us).run P w = .ok () w' ∧ Rel G nt w0 base S0 S ρ st' tmps w' ∧ Later w S ρ st.bx w' S ρ st'.bx := by
  unfold St.write at h
  split at h
  · rename_i id len off
    split at h
    · rename_i b hb
      split at h
      · rename_i hc
        obtain ⟨hst, hlen, hfit, hone⟩ := hc
        obtain rfl := Option.some.inj h
        obtain ⟨g, cap, cur, ok, rfl⟩ := ptr_inv R hp hb (by rw [hst]; decide) hlen
        have honev : ∀ u ∈ us, u.oneCell' = true := by
          intro u hu
          obtain ⟨j, hj⟩ := List.getElem?_of_mem hu
          have hlt : j < cs.length := by rw [← hcs.1]; exact (List.getElem?_eq_some_iff.1 hj).1
          have hcj : cs[j]? = some cs[j] := List.getElem?_eq_getElem hlt
          exact (hcs.2 j _ u hcj hj).one (List.all_eq_true.1 hone _ (List.mem_of_getElem? hcj))
        have hlu := hcs.1
        have hfits := ok.fits
        have hbig : off + 0 + us.length ≤ cur.size := by omega
        have hrun := run_storeCells_at P g off b.e us 0 cur w ok.heap hbig honev
        simp only [Nat.add_zero] at hrun
        refine ⟨_, _, rfl, hrun, ?_⟩
        have hsz2 : (cur.toList.take off ++ us ++ cur.toList.drop (off + us.length)).toArray.size = cur.size := by
          simp only [List.size_toArray, List.length_append, List.length_take, List.length_drop, Array.length_toList]; omega
        have hidl : id < st.bx.length := (List.getElem?_eq_some_iff.1 hb).1
        refine R.upd (id := id) (g' := g) (go := g) (cap' := cap) (b' := { b with cs := putAt b.cs off cs }) (cur' := (cur.toList.take off ++ us ++ cur.toList.drop (off + us.length)).toArray)
          (by simp [hidl]) hst ok.rho (fun k hk => ⟨by rw [List.getElem?_set_ne (Ne.symm hk)], rfl⟩) (by simp [R.rho])
          (fun b0 hb0 => .inr (by rw [hb] at hb0; obtain rfl := Option.some.inj hb0; exact ⟨rfl, .inl ⟨length_putAt _ _ _ (by omega), rfl⟩⟩))
          rfl rfl rfl (by simp) (fun k _ hk _ => setRow_other w g k _ hk) ok.base (ok.live hst) ok.base (ok.live hst) (setRow_heap w g cur _ b.e _ ok.heap) (by rw [hsz2]; exact ok.size) ok.cap
          (by rw [hsz2]; simp only; rw [length_putAt _ _ _ (by omega)]; exact ok.fits) ?_ ?_
        · intro j c hj
          simp only at hj
          rw [getElem?_putAt _ _ _ (by omega)] at hj
          have hget : (cur.toList.take off ++ us ++ cur.toList.drop (off + us.length)).toArray[j]? = if j < off then cur[j]? else if j < off + us.length then us[j - off]? else cur[j]? := by
            simp only [List.getElem?_toArray]
            rw [List.getElem?_append, List.getElem?_append]
            simp only [List.length_append, List.length_take, List.getElem?_take, List.getElem?_drop, Array.length_toList]
            have : min off cur.size = off := by omega
            rw [this]
            by_cases h1 : j < off
            · have : j < off + us.length := by omega
              simp [h1, this]
            · by_cases h2 : j < off + us.length
              · simp [h1, h2]
              · simp only [h1, h2, if_false, Array.getElem?_toList]
                congr 1
                omega
          rw [hget]
          by_cases h1 : j < off
          · simp only [h1, if_true] at hj ⊢
            exact ok.cells j c hj
          · by_cases h2 : j < off + cs.length
            · simp only [h1, h2, if_true, if_false] at hj
              have h2' : j < off + us.length := by omega
              simp only [h1, h2', if_true, if_false]
              obtain ⟨u, hu, hr⟩ := hcs.get hj
              exact ⟨u, hu, honev u (List.mem_of_getElem? hu), hr⟩
            · simp only [h1, h2, if_false] at hj
              have h2' : ¬ j < off + us.length := by omega
              simp only [h1, h2', if_false]
              exact ok.cells j c hj
        · intro k b2 x hk hb2 hf2 hx
          have := R.inj k id b2 b x (g, cap) hb2 hb hf2 (by rw [hst]; decide) hx ok.rho hk
          exact ⟨this, this⟩
      · exact absurd h (by simp)
    · exact absurd h (by simp)
  · exact absurd h (by simp)

theorem sim_st1 (R : Rel G nt w0 base S0 S ρ st tmps w) (t : TypeId) (i : TypeInfo) (hi : P.info? t = some i) (h1 : i.size = 1) (x y : Operand) {av : AV} {st' : St} (h : exI G (.st1 (cR x) (cR y)) st = some (av, st')) :
    Sim P G nt w0 base S0 S ρ st tmps w (do Instr.storeAt t (Act.eval ⟨tmps, ds⟩ x) (Act.eval ⟨tmps, ds⟩ y); pure .skip) av st' := by
  simp only [exI] at h
  have hx := ev_RV (ds := ds) R x
  have hy := ev_RV (ds := ds) R y
  split at h
  · rename_i hone
    simp only [Option.map_eq_some_iff, Prod.mk.injEq] at h
    obtain ⟨st1, hw, rfl, rfl⟩ := h
    have hcell : (Act.eval ⟨tmps, ds⟩ y).cells = #[Act.eval ⟨tmps, ds⟩ y] := by
      have := hy.one hone
      generalize Act.eval ⟨tmps, ds⟩ y = v at this ⊢
      cases v <;> first | rfl | (simp [Value.oneCell'] at this)
    obtain ⟨a, w', ev, hrun, R', L⟩ := R.write (P := P) hx (.cons hy .nil) hw
    refine ⟨.skip, undef, w', S, ρ, ?_, rfl, R', .undef, L⟩
    rw [ev]
    simp [Instr.storeAt, Instr.sureAddr, storeVar, hcell, run_sizeOf' hi, h1, hrun]
  · exact absurd h (by simp)

theorem sim_stn (R : Rel G nt w0 base S0 S ρ st tmps w) (t : TypeId) (i : TypeInfo) (hi : P.info? t = some i) (x y : Operand) {av : AV} {st' : St} (h : exI G (.stn i.size (cR x) (cR y)) st = some (av, st')) :
    Sim P G nt w0 base S0 S ρ st tmps w (do Instr.storeAt t (Act.eval ⟨tmps, ds⟩ x) (Act.eval ⟨tmps, ds⟩ y); pure .skip) av st' := by
  simp only [exI] at h
  have hx := ev_RV (ds := ds) R x
  have hy := ev_RV (ds := ds) R y
  split at h
  · rename_i cs e
    split at h
    · rename_i hlen
      rw [e] at hy
      obtain ⟨vs, ey, hvs⟩ := hy.agg_inv
      simp only [Option.map_eq_some_iff, Prod.mk.injEq] at h
      obtain ⟨st1, hw, rfl, rfl⟩ := h
      obtain ⟨a, w', ev, hrun, R', L⟩ := R.write (P := P) hx hvs hw
      refine ⟨.skip, undef, w', S, ρ, ?_, rfl, R', .undef, L⟩
      rw [ev, ey]
      have : vs.length = i.size := by rw [hvs.1, hlen]
      simp [Instr.storeAt, Instr.sureAddr, storeVar, Value.cells, run_sizeOf' hi, this, hrun]
    · exact absurd h (by simp)
  · exact absurd h (by simp)
end

end Go.Am

