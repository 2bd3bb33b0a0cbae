/- Each instruction without a call does what the machine says: all of them, as compiled. -/
import Derived.Test.YtcibofbmennjpaaDoorAmOps5
set_option linter.unusedVariables false

namespace Go.Am

open Go.RowKit

section
variable {P : Program} {G : Nat → List AV} {nt : Nat} {w0 w : World} {base : Nat} {S0 S : Nat → Prop} {ρ : List (Nat × Nat)} {st : St} {tmps : Array Value} {ds : List Deferred}

def MI.isCall : MI → Bool
  | .call _ _ _ | .callv _ _ _ => true
  | _ => false

theorem sim_max2 (hR : Rel G nt w0 base S0 S ρ st tmps w) (ts : Array TypeId) (ty : TypeId) (x y : Operand) {av : AV} {st' : St} (h : exI G (.max2 (cR x) (cR y)) st = some (av, st')) :
    Sim P G nt w0 base S0 S ρ st tmps w (do pure (.value (← Builtin.max_ ts ty #[Act.eval ⟨tmps, ds⟩ x, Act.eval ⟨tmps, ds⟩ y]))) av st' := by
  simp only [exI] at h
  have hx := ev_RV (ds := ds) hR x
  have hy := ev_RV (ds := ds) hR y
  generalize Act.eval ⟨tmps, ds⟩ x = vx at hx ⊢
  generalize Act.eval ⟨tmps, ds⟩ y = vy at hy ⊢
  split at h
  · rename_i a b e1 e2
    rw [e1] at hx
    rw [e2] at hy
    obtain rfl := hx.int_inv
    obtain rfl := hy.int_inv
    simp only [Option.some.injEq, Prod.mk.injEq] at h
    obtain ⟨rfl, rfl⟩ := h
    refine sim_same (v := .int .i64 (if b > a then b else a)) hR ?_ (.int _ _)
    by_cases hba : b > a <;> simp [Builtin.max_, Builtin.max2, hba]
  · exact absurd h (by simp)

/-- A builtin's call. -/
theorem run_builtin (o : Oper) (c : Call) (b : Builtin) (ho : o.op = .call c) (hc : c.callee = .builtin b) :
    execOp (Act.eval ⟨tmps, ds⟩) o = builtin b c.argTypes o.type (c.args.map fun | .const _ => true | _ => false) (c.args.map (Act.eval ⟨tmps, ds⟩)) := by
  unfold execOp
  simp only [ho, resolve, hc]
  rfl

theorem builtin1 (b : Builtin) (ts : Array TypeId) (ty : TypeId) (cs : Array Bool) (f : Array TypeId → TypeId → Array Value → Sem Value) (hb : ∀ vs, builtin b ts ty cs vs = (do pure (.value (← f ts ty vs)))) (x : Operand) :
    builtin b ts ty cs (#[x].map (Act.eval ⟨tmps, ds⟩)) = (do pure (.value (← f ts ty #[Act.eval ⟨tmps, ds⟩ x]))) := by
  rw [hb]; simp
theorem builtin2 (b : Builtin) (ts : Array TypeId) (ty : TypeId) (cs : Array Bool) (f : Array TypeId → TypeId → Array Value → Sem Value) (hb : ∀ vs, builtin b ts ty cs vs = (do pure (.value (← f ts ty vs)))) (x y : Operand) :
    builtin b ts ty cs (#[x, y].map (Act.eval ⟨tmps, ds⟩)) = (do pure (.value (← f ts ty #[Act.eval ⟨tmps, ds⟩ x, Act.eval ⟨tmps, ds⟩ y]))) := by
  rw [hb]; simp

theorem array2 {α : Type} {a : Array α} {x y : α} (h : a.toList = [x, y]) : a = #[x, y] := by
  apply Array.ext'; simpa using h
theorem array1 {α : Type} {a : Array α} {x : α} (h : a.toList = [x]) : a = #[x] := by
  apply Array.ext'; simpa using h

theorem sim_op (hR : Rel G nt w0 base S0 S ρ st tmps w) (hint : Hint) (o : Oper) (mi : MI) (hc : cOp P hint o = some mi) (hcall : mi.isCall = false) {av : AV} {st' : St} (h : exI G mi st = some (av, st')) :
    Sim P G nt w0 base S0 S ρ st tmps w (execOp (Act.eval ⟨tmps, ds⟩) o) av st' := by
  unfold cOp at hc
  simp only [oneCells_eq] at hc
  split at hc
  · rename_i x e
    obtain rfl := Option.some.inj hc
    unfold execOp; rw [e]; exact sim_mov hR x h
  · rename_i x e
    obtain rfl := Option.some.inj hc
    unfold execOp; rw [e]; exact sim_mov hR x h
  · rename_i x e
    obtain rfl := Option.some.inj hc
    exact sim_nilc hR o x e h
  · rename_i c a b e
    obtain rfl := Option.some.inj hc
    unfold execOp; rw [e]; exact sim_pick hR c a b h
  · rename_i op xt x y yt e
    split at hc
    · obtain rfl := Option.some.inj hc
      unfold execOp; rw [e]; exact sim_bin hR op xt x y h
    · rename_i ht
      split at hc
      · obtain rfl := Option.some.inj hc
        unfold execOp; rw [e]; exact sim_eqb hR xt ht false .eql rfl x y h
      · obtain rfl := Option.some.inj hc
        unfold execOp; rw [e]; exact sim_eqb hR xt ht true .neq rfl x y h
      · exact absurd hc (by simp)
    · rename_i n' e' ht
      split at hc
      · rename_i k' i' hk hi
        split at hc
        · rename_i hq
          split at hc
          · obtain rfl := Option.some.inj hc
            unfold execOp; rw [e]; exact sim_eqarr hR xt ht hk hi hq.1 hq.2.1 hq.2.2 false .eql rfl x y h
          · obtain rfl := Option.some.inj hc
            unfold execOp; rw [e]; exact sim_eqarr hR xt ht hk hi hq.1 hq.2.1 hq.2.2 true .neq rfl x y h
          · exact absurd hc (by simp)
        · exact absurd hc (by simp)
      · exact absurd hc (by simp)
    · exact absurd hc (by simp)
  · rename_i t x e
    obtain rfl := Option.some.inj hc
    unfold execOp; rw [e]; exact sim_not hR x h
  · rename_i s d x e
    split at hc
    · rename_i ks k hs hd
      obtain rfl := Option.some.inj hc
      unfold execOp; rw [e]; exact sim_conv hR s d ks k hs hd x h
    · exact absurd hc (by simp)
  · rename_i t x e
    split at hc
    · rename_i d i hd hi
      split at hc
      · rename_i hda
        obtain rfl := Option.some.inj hc
        unfold execOp; rw [e]; exact sim_ldn hR t d i hd hi hda x h
      · rename_i hda
        obtain rfl := Option.some.inj hc
        unfold execOp; rw [e]; exact sim_ld1 hR t d hd (by simpa using hda) x h
    · exact absurd hc (by simp)
  · rename_i t x v e
    split at hc
    · rename_i d i hd hi
      split at hc
      · obtain rfl := Option.some.inj hc
        unfold execOp; rw [e]; exact sim_stn hR t i hi x v h
      · split at hc
        · rename_i h1
          obtain rfl := Option.some.inj hc
          unfold execOp; rw [e]; exact sim_st1 hR t i hi h1 x v h
        · exact absurd hc (by simp)
    · exact absurd hc (by simp)
  · rename_i e' e
    split at hc
    · rename_i i hi
      split at hc
      · rename_i z hz
        split at hc
        · rename_i h1
          obtain rfl := Option.some.inj hc
          unfold execOp; rw [e]; exact sim_new hR e' i z hi hz h1 _ h
        · exact absurd hc (by simp)
      · exact absurd hc (by simp)
    · exact absurd hc (by simp)
  · rename_i e' x e
    split at hc
    · rename_i i hi
      obtain rfl := Option.some.inj hc
      unfold execOp; rw [e]; exact sim_box hR e' i hi _ x h
    · exact absurd hc (by simp)
  · rename_i t ps e
    split at hc
    · rename_i fs i ht hi
      split at hc
      · rename_i z pl hz hpl
        split at hc
        · rename_i h1
          simp only [Option.map_eq_some_iff] at hc
          obtain ⟨ps', hps, rfl⟩ := hc
          unfold execOp; rw [e]; exact sim_bld_struct hR t fs i z pl ht hi hz hpl h1 ps ps' hps h
        · exact absurd hc (by simp)
      · exact absurd hc (by simp)
    · rename_i n e' i ht hi
      split at hc
      · rename_i z ie hz hie
        split at hc
        · rename_i h1
          simp only [Option.map_eq_some_iff] at hc
          obtain ⟨ps', hps, rfl⟩ := hc
          unfold execOp; rw [e]; exact sim_bld_array hR t e' n i ie z ht hi hz hie h1 ps ps' hps h
        · exact absurd hc (by simp)
      · exact absurd hc (by simp)
    · exact absurd hc (by simp)
  · rename_i t len ps e
    split at hc
    · rename_i e' ht
      split at hc
      · rename_i i hi
        split at hc
        · rename_i z hz
          split at hc
          · rename_i hq
            simp only [Option.map_eq_some_iff] at hc
            obtain ⟨ps', hps, rfl⟩ := hc
            unfold execOp; rw [e]; exact sim_blds hR t e' i z ht hi hz hq.1 hq.2.1 _ _ len hq.2.2.1 hq.2.2.2 ps ps' hps h
          · exact absurd hc (by simp)
        · exact absurd hc (by simp)
      · exact absurd hc (by simp)
    · exact absurd hc (by simp)
  · rename_i s x f e
    split at hc
    · rename_i fs hs
      split at hc
      · rename_i fd hf
        split at hc
        · rename_i i hi
          split at hc
          · exact absurd hc (by simp)
          · rename_i h0
            obtain rfl := Option.some.inj hc
            unfold execOp; rw [e]; exact sim_faddr hR s fs f fd i hs hf hi h0 x h
        · exact absurd hc (by simp)
      · exact absurd hc (by simp)
    · exact absurd hc (by simp)
  · rename_i t x i e
    split at hc
    · rename_i e' ht
      split at hc
      · rename_i ie hie
        obtain rfl := Option.some.inj hc
        unfold execOp; rw [e]; exact sim_iaddr hR t e' ie ht hie x i h
      · exact absurd hc (by simp)
    · rename_i len e' ht
      split at hc
      · rename_i ie hie
        obtain rfl := Option.some.inj hc
        unfold execOp; rw [e]; exact sim_aaddr hR t e' len ie ht hie x i h
      · exact absurd hc (by simp)
    · exact absurd hc (by simp)
  · rename_i t x f e
    split at hc
    · rename_i fs ht
      split at hc
      · rename_i fd hf
        split at hc
        · rename_i d i hd hi
          split at hc
          · rename_i hda
            obtain rfl := Option.some.inj hc
            unfold execOp; rw [e]; exact sim_fldn hR t fs f fd d i ht hf hd hda hi x h
          · rename_i hda
            obtain rfl := Option.some.inj hc
            unfold execOp; rw [e]; exact sim_fld1 hR t fs f fd d ht hf hd (by simpa using hda) x h
        · exact absurd hc (by simp)
      · exact absurd hc (by simp)
    · exact absurd hc (by simp)
  · rename_i t x i e
    split at hc
    · rename_i len e' ht
      split at hc
      · rename_i d ie hd hie
        split at hc
        · rename_i hda
          obtain rfl := Option.some.inj hc
          unfold execOp; rw [e]; exact sim_idxn hR t e' len d ie ht hd hda hie x i h
        · rename_i hda
          split at hc
          · rename_i h1
            obtain rfl := Option.some.inj hc
            unfold execOp; rw [e]; exact sim_idx1 hR t e' len d ie ht hd (by simpa using hda) hie h1 x i h
          · exact absurd hc (by simp)
      · exact absurd hc (by simp)
    · exact absurd hc (by simp)
  · rename_i t i e
    obtain rfl := Option.some.inj hc
    unfold execOp; rw [e]; exact sim_ext hR t i h
  · rename_i f first cap e
    split at hc
    · rename_i h0
      obtain rfl := Option.some.inj hc
      have hfirst : first = #[] := Array.eq_empty_of_size_eq_zero h0
      subst hfirst
      unfold execOp; rw [e]
      have := sim_fn (P := P) (ds := ds) hR f cap h
      simpa only [Array.map_empty] using this
    · exact absurd hc (by simp)
  · rename_i t l c e
    split at hc
    · rename_i e' ht
      split at hc
      · rename_i i hi
        split at hc
        · rename_i z hz
          split at hc
          · rename_i hq
            obtain rfl := Option.some.inj hc
            unfold execOp; rw [e]; exact sim_mk hR t e' i z ht hi hz hq.1 hq.2.1 hq.2.2 _ l c h
          · exact absurd hc (by simp)
        · exact absurd hc (by simp)
      · exact absurd hc (by simp)
    · exact absurd hc (by simp)
  · rename_i t x lo hi' e
    split at hc
    · rename_i e' ht
      split at hc
      · rename_i i hi
        obtain rfl := Option.some.inj hc
        unfold execOp; rw [e]; exact sim_slc hR t e' i ht hi x lo hi' h
      · exact absurd hc (by simp)
    · rename_i n e' ht
      split at hc
      · rename_i i hi
        obtain rfl := Option.some.inj hc
        unfold execOp; rw [e]; exact sim_slca hR t e' n i ht hi x lo hi' h
      · exact absurd hc (by simp)
    · exact absurd hc (by simp)
  · rename_i c e
    split at hc
    · rename_i hb
      rw [run_builtin o c .len e hb]
      split at hc
      · rename_i t x ht' hx'
        split at hc
        · rename_i e' ht
          obtain rfl := Option.some.inj hc
          rw [array1 ht', array1 hx', builtin1 .len _ _ _ Builtin.len_ (fun _ => rfl)]
          exact sim_len hR t o.type e' ht x h
        · rename_i n e' ht
          obtain rfl := Option.some.inj hc
          rw [array1 ht', array1 hx', builtin1 .len _ _ _ Builtin.len_ (fun _ => rfl)]
          exact sim_alen hR t o.type n e' ht _ h
        · exact absurd hc (by simp)
      · exact absurd hc (by simp)
    · rename_i hb
      rw [run_builtin o c .append e hb]
      split at hc
      · rename_i t t' s x ht' hx'
        split at hc
        · rename_i htt
          subst htt
          split at hc
          · rename_i e' ht
            split at hc
            · rename_i i hi
              split at hc
              · rename_i z hz
                split at hc
                · rename_i hq
                  obtain rfl := Option.some.inj hc
                  rw [array2 ht', array2 hx', builtin2 .append _ _ _ Builtin.append_ (fun _ => rfl)]
                  exact sim_app hR t o.type e' i z ht hi hz hq.1 hq.2 _ s x h
                · exact absurd hc (by simp)
              · exact absurd hc (by simp)
            · exact absurd hc (by simp)
          · exact absurd hc (by simp)
        · exact absurd hc (by simp)
      · exact absurd hc (by simp)
    · rename_i hb
      rw [run_builtin o c .min e hb]
      split at hc
      · rename_i x y hx'
        obtain rfl := Option.some.inj hc
        rw [array2 hx', builtin2 .min _ _ _ Builtin.min_ (fun _ => rfl)]
        exact sim_min2 hR c.argTypes o.type x y h
      · exact absurd hc (by simp)
    · rename_i hb
      rw [run_builtin o c .max e hb]
      split at hc
      · rename_i x y hx'
        obtain rfl := Option.some.inj hc
        rw [array2 hx', builtin2 .max _ _ _ Builtin.max_ (fun _ => rfl)]
        exact sim_max2 hR c.argTypes o.type x y h
      · exact absurd hc (by simp)
    · obtain rfl := Option.some.inj hc
      simp [MI.isCall] at hcall
    · obtain rfl := Option.some.inj hc
      simp [MI.isCall] at hcall
    · exact absurd hc (by simp)
  · exact absurd hc (by simp)
end

end Go.Am

/- Slots, closed trees, and what the machine knows of a callee's frame. -/
set_option linter.unusedVariables false

namespace Go.Am

open Go.RowKit

section
variable {P : Program} {G : Nat → List AV} {nt : Nat} {w0 w : World} {base : Nat} {S0 S : Nat → Prop} {ρ : List (Nat × Nat)} {st : St} {tmps : Array Value} {ds : List Deferred}

theorem Rel.put (hR : Rel G nt w0 base S0 S ρ st tmps w) {d : Nat} (hd : d < nt) (hnt : nt < 65535) {av : AV} {v : Value} (hv : RV w S ρ st.bx av v) :
    Rel G nt w0 base S0 S ρ (st.put (some d) av) (tmps.setIfInBounds d v) w := by
  refine ⟨hR.below, hR.baseLe, by simpa using hR.size, hR.rho, hR.slt, hR.sbase, hR.box, hR.inj, fun t => ?_, hR.glob⟩
  show RV w S ρ st.bx ((st.tm.set d av).get t) _
  rw [Tm.get_set _ _ _ _ (by omega)]
  have hs := hR.size
  by_cases h : d = t
  · subst h
    rw [if_pos rfl]
    have : (tmps.setIfInBounds d v).getD d undef = v := by
      rw [Array.getD_eq_getD_getElem?, Array.getElem?_setIfInBounds_self_of_lt (by omega)]; rfl
    rw [this]; exact hv
  · rw [if_neg h]
    have : (tmps.setIfInBounds d v).getD t undef = tmps.getD t undef := by
      rw [Array.getD_eq_getD_getElem?, Array.getD_eq_getD_getElem?, Array.getElem?_setIfInBounds_ne h]
    rw [this]; exact hR.tm t

theorem Rel.put' (hR : Rel G nt w0 base S0 S ρ st tmps w) (d : Option Nat) (hd : ∀ k, d = some k → k < nt) (hnt : nt < 65535) {av : AV} {v : Value} (hv : RV w S ρ st.bx av v) :
    Rel G nt w0 base S0 S ρ (st.put d av) ((Act.put ⟨tmps, ds⟩ d v).tmps) w := by
  cases d with
  | none => exact hR
  | some k => exact hR.put (hd k rfl) hnt hv

theorem St.put_bx (d : Option Nat) (av : AV) : (st.put d av).bx = st.bx := by cases d <;> rfl

theorem mapM_get {α β : Type} {f : α → Option β} : ∀ {l : List α} {r : List β}, l.mapM f = some r → r.length = l.length ∧ ∀ (j : Nat) (x : α), l[j]? = some x → ∃ y, r[j]? = some y ∧ f x = some y
  | [], r, h => by
    simp only [List.mapM_nil] at h
    obtain rfl := Option.some.inj h
    exact ⟨rfl, fun j x hj => by simp at hj⟩
  | a :: l, r, h => by
    simp only [List.mapM_cons] at h
    cases hf : f a with
    | none => simp [hf] at h
    | some b =>
      cases hl : l.mapM f with
      | none => simp [hf, hl] at h
      | some rest =>
        simp only [hf, hl, Option.bind_eq_bind, Option.bind_some, Option.pure_def, Option.some.injEq] at h
        subst h
        obtain ⟨h1, h2⟩ := mapM_get hl
        refine ⟨by simp [h1], fun j x hj => ?_⟩
        cases j with
        | zero => simp at hj; subst hj; exact ⟨b, rfl, hf⟩
        | succ j => exact h2 j x (by simpa using hj)

theorem mapM_get' {α β : Type} {f : α → Option β} {l : List α} {r : List β} (h : l.mapM f = some r) {j : Nat} {y : β} (hj : r[j]? = some y) : ∃ x, l[j]? = some x ∧ f x = some y := by
  obtain ⟨h1, h2⟩ := mapM_get h
  have hlt : j < l.length := by rw [← h1]; exact (List.getElem?_eq_some_iff.1 hj).1
  obtain ⟨y', hy', hf⟩ := h2 j _ (List.getElem?_eq_getElem hlt)
  rw [hj] at hy'
  obtain rfl := Option.some.inj hy'
  exact ⟨_, List.getElem?_eq_getElem hlt, hf⟩

theorem closedL_of {cs : List AV} (h : ∀ (j : Nat) (c : AV), cs[j]? = some c → c.closed = true) : AV.closedL cs = true := by
  induction cs with
  | nil => rfl
  | cons x xs ih =>
    simp only [AV.closedL, Bool.and_eq_true]
    exact ⟨h 0 x rfl, ih fun j c hj => h (j + 1) c (by simpa using hj)⟩

/-- THE CLOSED TREE OF A VALUE: in the model it is the same value, over persistent blocks. -/
theorem reify_RV {bx bxr : List Box} {T : Nat → Prop} (hsub : ∀ (id : Nat) (b : Box), bxr[id]? = some b → b.status ≠ .fresh → bx[id]? = some b) (hbox : ∀ (id : Nat) (b : Box), bxr[id]? = some b → b.status ≠ .fresh → ∃ g cap cur, BoxOk w S ρ bx base id b g cap cur ∧ T g) (f : Nat) :
    ∀ (av : AV) (v : Value) (r : AV), RV w S ρ bx av v → reify f bxr av = some r → (alias f bxr av = false ∨ ∀ g, S g → T g) → (∀ (ρ2 : List (Nat × Nat)) (bx2 : List Box), RV w T ρ2 bx2 r v) ∧ r.closed = true := by
  induction f with
  | zero => intro av v r _ h; simp [reify] at h
  | succ f ih =>
    intro av v r hv h hal
    have lists : ∀ (cs rs : List AV) (vs : List Value), RVL w S ρ bx cs vs → cs.mapM (reify f bxr) = some rs → (cs.any (alias f bxr) = false ∨ ∀ g, S g → T g) →
        (∀ (ρ2 : List (Nat × Nat)) (bx2 : List Box), RVL w T ρ2 bx2 rs vs) ∧ AV.closedL rs = true := by
      intro cs rs vs hrl hm ha
      obtain ⟨hl, _⟩ := mapM_get hm
      have each : ∀ (j : Nat) (c' : AV) (u : Value), rs[j]? = some c' → vs[j]? = some u → (∀ (ρ2 : List (Nat × Nat)) (bx2 : List Box), RV w T ρ2 bx2 c' u) ∧ c'.closed = true := by
        intro j c' u h1 h2
        obtain ⟨c, hc, hf⟩ := mapM_get' hm h1
        refine ih c u c' (hrl.2 j c u hc h2) hf (ha.imp (fun hh => ?_) id)
        have := List.any_eq_false.1 hh c (List.mem_of_getElem? hc)
        simpa using this
      refine ⟨fun ρ2 bx2 => ⟨by rw [hl, hrl.1], fun j c' u h1 h2 => (each j c' u h1 h2).1 ρ2 bx2⟩, closedL_of fun j c' hj => ?_⟩
      have hlt : j < vs.length := by rw [hrl.1, ← hl]; exact (List.getElem?_eq_some_iff.1 hj).1
      exact (each j c' _ hj (List.getElem?_eq_getElem hlt)).2
    cases av with
    | own id n =>
      simp only [reify] at h
      split at h
      · rename_i b hb
        split at h
        · rename_i hc
          simp only [Option.map_eq_some_iff] at h
          obtain ⟨rs, hm, rfl⟩ := h
          obtain ⟨g, cap, cur, ok, hTg⟩ := hbox id b hb hc.1
          cases hv with
          | own id n v b' hb' hf' hle h1 hh =>
            rw [hsub id b hb hc.1] at hb'
            obtain rfl := Option.some.inj hb'
            obtain ⟨g', cap', hr, rfl, hn⟩ := hh hc.2
            have := ok.rho
            rw [hr] at this
            simp only [Option.some.injEq, Prod.mk.injEq] at this
            obtain ⟨rfl, rfl⟩ := this
            obtain ⟨s1, s2⟩ := ok.shown
            obtain ⟨l1, l2⟩ := lists b.cs rs _ s1 hm (hal.imp (fun hh => by simpa [alias, hb] using hh) (fun x => x))
            refine ⟨fun ρ2 bx2 => ?_, by simpa [AV.closed] using l2⟩
            refine lst_mk hn ok.cap (l1 ρ2 bx2) (fun _ => hTg) (fun j u hj => ?_)
            rw [add_row, Nat.zero_add]
            exact s2 j u hj
        · exact absurd h (by simp)
      · exact absurd h (by simp)
    | agg cs =>
      simp only [reify, Option.map_eq_some_iff] at h
      obtain ⟨rs, hm, rfl⟩ := h
      obtain ⟨vs, rfl, hrl⟩ := hv.agg_inv
      obtain ⟨l1, l2⟩ := lists cs rs vs hrl hm (hal.imp (fun hh => by simpa [alias] using hh) id)
      exact ⟨fun ρ2 bx2 => .agg _ _ (l1 ρ2 bx2).1 (l1 ρ2 bx2).2, by simpa [AV.closed] using l2⟩
    | tup cs =>
      simp only [reify, Option.map_eq_some_iff] at h
      obtain ⟨rs, hm, rfl⟩ := h
      obtain ⟨vs, rfl, hrl⟩ := hv.tup_inv
      obtain ⟨l1, l2⟩ := lists cs rs vs hrl hm (hal.imp (fun hh => by simpa [alias] using hh) id)
      exact ⟨fun ρ2 bx2 => .tup _ _ (l1 ρ2 bx2).1 (l1 ρ2 bx2).2, by simpa [AV.closed] using l2⟩
    | clo q cs =>
      simp only [reify, Option.map_eq_some_iff] at h
      obtain ⟨rs, hm, rfl⟩ := h
      obtain ⟨vs, rfl, hrl⟩ := hv.clo_inv
      obtain ⟨l1, l2⟩ := lists cs rs vs hrl hm (hal.imp (fun hh => by simpa [alias] using hh) id)
      exact ⟨fun ρ2 bx2 => .clo q _ _ (l1 ρ2 bx2).1 (l1 ρ2 bx2).2, by simpa [AV.closed] using l2⟩
    | ptr a b c => simp [reify] at h
    | any => simp [reify] at h
    | int k n =>
      simp only [reify] at h
      split at h
      · obtain rfl := Option.some.inj h
        rw [hv.int_inv]
        exact ⟨fun _ _ => .int _ _, rfl⟩
      · exact absurd h (by simp)
    | bool b =>
      simp only [reify] at h
      split at h
      · obtain rfl := Option.some.inj h
        rw [hv.bool_inv]
        exact ⟨fun _ _ => .bool _, rfl⟩
      · exact absurd h (by simp)
    | nil =>
      simp only [reify] at h
      split at h
      · obtain rfl := Option.some.inj h
        rw [hv.nil_inv]
        exact ⟨fun _ _ => .nil, rfl⟩
      · exact absurd h (by simp)
    | undef =>
      simp only [reify] at h
      split at h
      · obtain rfl := Option.some.inj h
        rw [hv.undef_inv]
        exact ⟨fun _ _ => .undef, rfl⟩
      · exact absurd h (by simp)
    | lst n cs =>
      simp only [reify] at h
      split at h
      · rename_i hcl
        obtain rfl := Option.some.inj h
        refine ⟨fun ρ2 bx2 => hv.closed hcl T ρ2 bx2 (hal.elim (fun hh => ?_) id), hcl⟩
        simp [alias] at hh
      · exact absurd h (by simp)
    | rptr cs =>
      simp only [reify] at h
      split at h
      · rename_i hcl
        obtain rfl := Option.some.inj h
        refine ⟨fun ρ2 bx2 => hv.closed hcl T ρ2 bx2 (hal.elim (fun hh => ?_) id), hcl⟩
        simp [alias] at hh
      · exact absurd h (by simp)

theorem reifyL_RV {bx bxr : List Box} {T : Nat → Prop} (hsub : ∀ (id : Nat) (b : Box), bxr[id]? = some b → b.status ≠ .fresh → bx[id]? = some b) (hbox : ∀ (id : Nat) (b : Box), bxr[id]? = some b → b.status ≠ .fresh → ∃ g cap cur, BoxOk w S ρ bx base id b g cap cur ∧ T g) (f : Nat) {cs rs : List AV} {vs : List Value}
    (hrl : RVL w S ρ bx cs vs) (hm : cs.mapM (reify f bxr) = some rs) (ha : cs.any (alias f bxr) = false ∨ ∀ g, S g → T g) : (∀ (ρ2 : List (Nat × Nat)) (bx2 : List Box), RVL w T ρ2 bx2 rs vs) ∧ AV.closedL rs = true := by
  obtain ⟨hl, _⟩ := mapM_get hm
  have each : ∀ (j : Nat) (c' : AV) (u : Value), rs[j]? = some c' → vs[j]? = some u → (∀ (ρ2 : List (Nat × Nat)) (bx2 : List Box), RV w T ρ2 bx2 c' u) ∧ c'.closed = true := by
    intro j c' u h1 h2
    obtain ⟨c, hc, hf⟩ := mapM_get' hm h1
    refine reify_RV hsub hbox f c u c' (hrl.2 j c u hc h2) hf (ha.imp (fun hh => ?_) id)
    have := List.any_eq_false.1 hh c (List.mem_of_getElem? hc)
    simpa using this
  refine ⟨fun ρ2 bx2 => ⟨by rw [hl, hrl.1], fun j c' u h1 h2 => (each j c' u h1 h2).1 ρ2 bx2⟩, closedL_of fun j c' hj => ?_⟩
  have hlt : j < vs.length := by rw [hrl.1, ← hl]; exact (List.getElem?_eq_some_iff.1 hj).1
  exact (each j c' _ hj (List.getElem?_eq_getElem hlt)).2

theorem initTm_get : ∀ (vs : List AV) (k : Nat) (t : Tm) (m : Nat), k + vs.length < 65535 → (initTm k vs t).get m = if k ≤ m ∧ m < k + vs.length then (vs[m - k]?).getD .undef else t.get m
  | [], k, t, m, h => by
    simp only [initTm, List.length_nil, Nat.add_zero]
    rw [if_neg (by omega)]
  | v :: vs, k, t, m, h => by
    simp only [initTm, List.length_cons] at h ⊢
    rw [initTm_get vs (k + 1) _ m (by omega), Tm.get_set _ _ _ _ (by omega)]
    by_cases h1 : k + 1 ≤ m ∧ m < k + 1 + vs.length
    · rw [if_pos h1, if_pos (by omega)]
      have : m - k = (m - (k + 1)) + 1 := by omega
      rw [this]; rfl
    · rw [if_neg h1]
      by_cases h2 : k = m
      · subst h2
        rw [if_pos rfl, if_pos (by omega)]
        simp
      · rw [if_neg h2, if_neg (by omega)]

theorem get_e (m : Nat) : Tm.get .e m = .undef := Tm.getF_e m

/-- The slots of a frame that is entered. -/
theorem enter_tm {bx : List Box} {args : List AV} {vs : List Value} (hrl : RVL w S ρ bx args vs) (hl : args.length < 65535) (n : Nat) (t : Nat) :
    RV w S ρ bx ((initTm 0 args .e).get t) ((vs.toArray ++ Array.replicate n undef).getD t undef) := by
  rw [initTm_get _ _ _ _ (by omega), get_e]
  rw [Array.getD_eq_getD_getElem?]
  by_cases h : t < args.length
  · rw [if_pos (by omega)]
    have hv : t < vs.length := by rw [hrl.1]; exact h
    rw [Array.getElem?_append_left (by simpa using hv)]
    simp only [Nat.sub_zero, List.getElem?_toArray, List.getElem?_eq_getElem h, List.getElem?_eq_getElem hv, Option.getD_some]
    exact hrl.2 t _ _ (List.getElem?_eq_getElem h) (List.getElem?_eq_getElem hv)
  · rw [if_neg (by omega)]
    have hv : vs.length ≤ t := by rw [hrl.1]; omega
    rw [Array.getElem?_append_right (by simpa using hv)]
    have : ((Array.replicate n undef)[t - vs.toArray.size]?).getD undef = undef := by
      rw [Array.getElem?_replicate]
      split <;> rfl
    rw [this]
    exact .undef

/-- The results of a frame. -/
theorem rvar_sim (hR : Rel G nt w0 base S0 S ρ st tmps w) (rv : ResultVar) (r : RVar) (hc : cRes P rv = some r) {av : AV} (h : rvar st r = some av) :
    ∃ v, (match rv with | .tmp t => pure (tmps.getD t undef) | .cell a t => do loadVar t (← asAddr (tmps.getD a undef)) : Sem Value).run P w = .ok v w ∧ RV w S ρ st.bx av v := by
  cases rv with
  | tmp t =>
    simp only [cRes, Option.some.injEq] at hc
    subst hc
    simp only [rvar, Option.some.injEq] at h
    subst h
    exact ⟨_, rfl, hR.tm t⟩
  | cell a t =>
    simp only [cRes] at hc
    split at hc
    · rename_i d i hd hi
      split at hc
      · rename_i hda
        obtain rfl := Option.some.inj hc
        simp only [rvar] at h
        split at h
        · rename_i cs hat
          split at h
          · rename_i hle
            obtain rfl := Option.some.inj h
            obtain ⟨ad, vs, ev, hvs, hcl⟩ := at_inv hR (hR.tm a) hat
            have ht2 := hvs.take i.size
            have hlen : (vs.take i.size).length = i.size := by simp [hvs.1]; omega
            have hl := run_loadCells_list (P := P) w ad (vs.take i.size) (fun j u hj => by
              rw [List.getElem?_take] at hj
              split at hj
              · exact hcl j u hj
              · cases hj)
            rw [hlen] at hl
            refine ⟨.agg (vs.take i.size).toArray, ?_, .agg _ _ ht2.1 ht2.2⟩
            simp only [ev, asAddr]
            simp [loadVar, run_isAgg hd, hda, run_sizeOf' hi, hl]
          · exact absurd h (by simp)
        · exact absurd h (by simp)
      · rename_i hda
        obtain rfl := Option.some.inj hc
        simp only [rvar] at h
        split at h
        · rename_i c cs hat
          obtain rfl := Option.some.inj h
          obtain ⟨ad, vs, ev, hvs, hcl⟩ := at_inv hR (hR.tm a) hat
          obtain ⟨v, vs', rfl, hv, _⟩ := hvs.uncons
          have h0 := hcl 0 v rfl
          have e0 : ad.add 0 = ad := by simp [Addr.add]
          rw [e0] at h0
          refine ⟨v, ?_, hv⟩
          simp only [ev, asAddr]
          simp [loadVar, run_isAgg hd, hda, h0]
        · exact absurd h (by simp)
    · exact absurd hc (by simp)

theorem results_sim (hR : Rel G nt w0 base S0 S ρ st tmps w) (fn : Func) (rs : List RVar) (hc : fn.results.toList.mapM (cRes P) = some rs) {avs : List AV} (h : rs.mapM (rvar st) = some avs) :
    ∃ v, (results fn tmps).run P w = .ok v w ∧ RV w S ρ st.bx (tuple avs) v := by
  have key : ∀ (l : List ResultVar) (rs : List RVar) (avs : List AV), l.mapM (cRes P) = some rs → rs.mapM (rvar st) = some avs →
      ∃ vs, (l.mapM (fun | .tmp t => pure (tmps.getD t undef) | .cell a t => do loadVar t (← asAddr (tmps.getD a undef)) : ResultVar → Sem Value)).run P w = .ok vs w ∧ RVL w S ρ st.bx avs vs := by
    intro l
    induction l with
    | nil =>
      intro rs avs h1 h2
      simp only [List.mapM_nil] at h1
      obtain rfl := Option.some.inj h1
      simp only [List.mapM_nil] at h2
      obtain rfl := Option.some.inj h2
      exact ⟨[], rfl, .nil⟩
    | cons a l ih =>
      intro rs avs h1 h2
      simp only [List.mapM_cons] at h1
      cases ha : cRes P a with
      | none => simp [ha] at h1
      | some r =>
        cases hl : l.mapM (cRes P) with
        | none => simp [ha, hl] at h1
        | some rest =>
          simp only [ha, hl, Option.bind_eq_bind, Option.bind_some, Option.pure_def, Option.some.injEq] at h1
          subst h1
          simp only [List.mapM_cons] at h2
          cases hr : rvar st r with
          | none => simp [hr] at h2
          | some av =>
            cases hrest : rest.mapM (rvar st) with
            | none => simp [hr, hrest] at h2
            | some avr =>
              simp only [hr, hrest, Option.bind_eq_bind, Option.bind_some, Option.pure_def, Option.some.injEq] at h2
              subst h2
              obtain ⟨v, hv, hrv⟩ := rvar_sim (P := P) hR a r ha hr
              obtain ⟨vs, hvs, hrl⟩ := ih rest avr hl hrest
              refine ⟨v :: vs, ?_, .cons hrv hrl⟩
              simp only [List.mapM_cons, Sem.run_bind]
              rw [hv]
              simp only [Result.andThen_ok, hvs, Sem.run_pure]
  obtain ⟨vs, hvs, hrl⟩ := key fn.results.toList rs avs hc h
  have hm : (fn.results.mapM (fun | .tmp t => pure (tmps.getD t undef) | .cell a t => do loadVar t (← asAddr (tmps.getD a undef)) : ResultVar → Sem Value)).run P w = .ok vs.toArray w := by
    rw [Array.mapM_eq_mapM_toList]
    show (List.toArray <$> _ : Sem _).run P w = _
    rw [map_eq_pure_bind, Sem.run_bind, hvs]
    rfl
  refine ⟨if h : vs.toArray.size = 1 then vs.toArray[0] else .tuple vs.toArray, ?_, ?_⟩
  · unfold results
    rw [Sem.run_bind]
    erw [hm]
    rfl
  · match avs, vs, hrl with
    | [], [], hrl => exact .tup [] [] rfl hrl.2
    | [a], [v], hrl => exact hrl.2 0 a v rfl rfl
    | a :: b :: as, v :: u :: vs, hrl =>
      rw [dif_neg (by simp)]
      exact .tup _ _ hrl.1 hrl.2
    | [], v :: vs, hrl => have := hrl.1; simp at this
    | a :: as, [], hrl => have := hrl.1; simp at this
    | [a], v :: u :: vs, hrl => have := hrl.1; simp at this
    | a :: b :: as, [v], hrl => have := hrl.1; simp at this

/-- A closed value is its own tree. -/
theorem reify_closed {bx : List Box} (f : Nat) : ∀ (av r : AV), av.closed = true → reify f bx av = some r → r = av := by
  induction f with
  | zero => intro av r _ h; simp [reify] at h
  | succ f ih =>
    intro av r hc h
    have lists : ∀ (cs rs : List AV), AV.closedL cs = true → cs.mapM (reify f bx) = some rs → rs = cs := by
      intro cs
      induction cs with
      | nil => intro rs _ h; simp only [List.mapM_nil] at h; exact (Option.some.inj h).symm
      | cons x xs ihx =>
        intro rs hcl h
        simp only [AV.closedL, Bool.and_eq_true] at hcl
        simp only [List.mapM_cons] at h
        cases hf : reify f bx x with
        | none => simp [hf] at h
        | some y =>
          cases hl : xs.mapM (reify f bx) with
          | none => simp [hf, hl] at h
          | some rest =>
            simp only [hf, hl, Option.bind_eq_bind, Option.bind_some, Option.pure_def, Option.some.injEq] at h
            subst h
            rw [ih x y hcl.1 hf, ihx rest hcl.2 hl]
    cases av with
    | own id n => simp [AV.closed] at hc
    | ptr a b c => simp [AV.closed] at hc
    | any => simp [AV.closed] at hc
    | agg cs =>
      simp only [reify, Option.map_eq_some_iff] at h
      obtain ⟨rs, hm, rfl⟩ := h
      rw [lists cs rs (by simpa [AV.closed] using hc) hm]
    | tup cs =>
      simp only [reify, Option.map_eq_some_iff] at h
      obtain ⟨rs, hm, rfl⟩ := h
      rw [lists cs rs (by simpa [AV.closed] using hc) hm]
    | clo q cs =>
      simp only [reify, Option.map_eq_some_iff] at h
      obtain ⟨rs, hm, rfl⟩ := h
      rw [lists cs rs (by simpa [AV.closed] using hc) hm]
    | int k n => simp only [reify, hc, if_true, Option.some.injEq] at h; exact h.symm
    | bool b => simp only [reify, hc, if_true, Option.some.injEq] at h; exact h.symm
    | nil => simp only [reify, hc, if_true, Option.some.injEq] at h; exact h.symm
    | undef => simp only [reify, hc, if_true, Option.some.injEq] at h; exact h.symm
    | lst n cs => simp only [reify, hc, if_true, Option.some.injEq] at h; exact h.symm
    | rptr cs => simp only [reify, hc, if_true, Option.some.injEq] at h; exact h.symm

theorem reifyL_closed {bx : List Box} {f : Nat} : ∀ {cs rs : List AV}, AV.closedL cs = true → cs.mapM (reify f bx) = some rs → rs = cs
  | [], rs, _, h => by simp only [List.mapM_nil] at h; exact (Option.some.inj h).symm
  | x :: xs, rs, hcl, h => by
    simp only [AV.closedL, Bool.and_eq_true] at hcl
    simp only [List.mapM_cons] at h
    cases hf : reify f bx x with
    | none => simp [hf] at h
    | some y =>
      cases hl : xs.mapM (reify f bx) with
      | none => simp [hf, hl] at h
      | some rest =>
        simp only [hf, hl, Option.bind_eq_bind, Option.bind_some, Option.pure_def, Option.some.injEq] at h
        subst h
        rw [reify_closed f x y hcl.1 hf, reifyL_closed hcl.2 hl]

theorem scalarL_get {cs : List AV} (h : AV.scalarL cs = true) : ∀ {j : Nat} {c : AV}, cs[j]? = some c → c.scalar = true := by
  induction cs with
  | nil => intro j c h; simp at h
  | cons x xs ih =>
    simp only [AV.scalarL, Bool.and_eq_true] at h
    intro j c hj
    cases j with
    | zero => simp at hj; subst hj; exact h.1
    | succ j => exact ih h.2 (by simpa using hj)

/-- Numbers speak of no memory. -/
theorem RV.scalar {bx : List Box} {c : AV} {v : Value} (hv : RV w S ρ bx c v) : c.scalar = true → ∀ (w2 : World) (T : Nat → Prop) (ρ2 : List (Nat × Nat)) (bx2 : List Box), RV w2 T ρ2 bx2 c v := by
  induction hv with
  | int k n => intro _ _ _ _ _; exact .int k n
  | bool b => intro _ _ _ _ _; exact .bool b
  | agg cs vs hl hr ih => intro hc w2 T ρ2 bx2; simp only [AV.scalar] at hc; exact .agg cs vs hl (fun j c v h1 h2 => ih j c v h1 h2 (scalarL_get hc h1) w2 T ρ2 bx2)
  | tup cs vs hl hr ih => intro hc w2 T ρ2 bx2; simp only [AV.scalar] at hc; exact .tup cs vs hl (fun j c v h1 h2 => ih j c v h1 h2 (scalarL_get hc h1) w2 T ρ2 bx2)
  | nil => intro hc; simp [AV.scalar] at hc
  | lst n cap ao cs vs hl hn hm hc hr => intro hc; simp [AV.scalar] at hc
  | own id n v b hb hf hle h1 hh => intro hc; simp [AV.scalar] at hc
  | ptr id len off v b hb hf hle h1 hh => intro hc; simp [AV.scalar] at hc
  | rptr a cs vs hl hc hr => intro hc; simp [AV.scalar] at hc
  | clo f cs vs hl hr => intro hc; simp [AV.scalar] at hc
  | undef => intro hc; simp [AV.scalar] at hc
  | any v => intro hc; simp [AV.scalar] at hc
end

end Go.Am

/- Calls: a callee's frame, entered and left, in the machine's three ways. -/
set_option linter.unusedVariables false

namespace Go.Am

open Go.RowKit

def toExit : Ex → Exit
  | .normal => .normal
  | .exit id => .exit id
  | .ret => .ret

section
variable {P : Program} {G : Nat → List AV} {F : Nat → Option MF}

/-- A function that the machine runs in one step: what it does is proved elsewhere. -/
structure Prim (P : Program) (F : Nat → Option MF) (f : Nat) (mf : MF) : Prop where
  enter : ∀ (args : Array Value) (w : World), (callFunc f args).run P w = .ok (.enter f args) w
  run : ∀ {G : Nat → List AV} {n : Nat} {w0 w : World} {base : Nat} {S0 S : Nat → Prop} {ρ : List (Nat × Nat)} {as : List AV} {bx : List Box} {args : Array Value} {st1 : St} {rs : List AV}, args.size = as.length →
    Rel G 0 w0 base S0 S ρ ⟨initTm 0 as .e, bx, 0⟩ args w → runBody (aexec G F n) mf ⟨initTm 0 as .e, bx, 0⟩ = some (st1, rs) →
    Calls P f args w fun e w' => ∃ v tmps1 S1 ρ1, e = .returned v ∧ Rel G 0 w0 base S0 S1 ρ1 st1 tmps1 w' ∧ Later w S ρ bx w' S1 ρ1 st1.bx ∧ RV w' S1 ρ1 st1.bx (tuple rs) v

/-- Every function of the table is the program's, compiled; or it is proved elsewhere. -/
def FOk (P : Program) (F : Nat → Option MF) : Prop := ∀ f mf, F f = some mf → (∃ fn H, P.funcs[f]? = some fn ∧ cFn P H fn = some mf) ∨ Prim P F f mf

/-- The machine with n rounds of fuel does what the model does. -/
structure Sound (P : Program) (G : Nat → List AV) (F : Nat → Option MF) (n : Nat) : Prop where
  main : ∀ {nt : Nat} {H : Hints} {c : Code} {mc : MC} {st : St} {e : Ex} {st' : St}, cCode P nt H c = some mc → nt < 65535 → aexec G F n mc st = some (e, st') →
    ∀ {w0 : World} {base : Nat} {S0 S : Nat → Prop} {ρ : List (Nat × Nat)} {tmps : Array Value} {ds : List Deferred} {w : World}, Rel G nt w0 base S0 S ρ st tmps w →
    ∀ {Q : Exit → Act → World → Prop}, (∀ (tmps' : Array Value) (w' : World) (S' : Nat → Prop) (ρ' : List (Nat × Nat)), Rel G nt w0 base S0 S' ρ' st' tmps' w' → Later w S ρ st.bx w' S' ρ' st'.bx → Q (toExit e) ⟨tmps', ds⟩ w') →
    c.wp P Q ⟨tmps, ds⟩ w
  loop : ∀ {nt : Nat} {H : Hints} {c : Code} {mc : MC} {st : St} {e : Ex} {st' : St}, cCode P nt H c = some mc → nt < 65535 → aexec G F n (.loop mc) st = some (e, st') →
    ∀ {w0 : World} {base : Nat} {S0 S : Nat → Prop} {ρ : List (Nat × Nat)} {tmps : Array Value} {ds : List Deferred} {w : World}, Rel G nt w0 base S0 S ρ st tmps w →
    ∀ {Q : Exit → Act → World → Prop}, (∀ (tmps' : Array Value) (w' : World) (S' : Nat → Prop) (ρ' : List (Nat × Nat)), Rel G nt w0 base S0 S' ρ' st' tmps' w' → Later w S ρ st.bx w' S' ρ' st'.bx → Q (toExit e) ⟨tmps', ds⟩ w') →
    Code.rounds P c Q n ⟨tmps, ds⟩ w

variable {n : Nat} {nt : Nat} {w0 w : World} {base : Nat} {S0 S : Nat → Prop} {ρ : List (Nat × Nat)} {st : St} {tmps : Array Value} {ds : List Deferred}

theorem cFn_inv {H : Hints} {fn : Func} {mf : MF} (h : cFn P H fn = some mf) : ∃ c m rs, fn.body = some c ∧ fn.ntmps < 65535 ∧ fn.name ≠ "runtime.NumGoroutine" ∧ cCode P fn.ntmps H c = some m ∧ fn.results.toList.mapM (cRes P) = some rs ∧ mf = ⟨m, rs⟩ := by
  unfold cFn at h
  split at h
  · exact absurd h (by simp)
  · rename_i c hc
    split at h
    · rename_i hq
      split at h
      · rename_i m rs hm hr
        exact ⟨c, m, rs, hc, hq.1, hq.2, hm, hr, (Option.some.inj h).symm⟩
      · exact absurd h (by simp)
    · exact absurd h (by simp)

/-- A BODY THAT IS ENTERED. -/
theorem body_sound (hS : Sound P G F n) {f : Nat} {fn : Func} {H : Hints} {mf : MF} (hf : P.funcs[f]? = some fn) (hc : cFn P H fn = some mf) {args : Array Value} {st1 : St} {rs : List AV}
    (hR : Rel G fn.ntmps w0 base S0 S ρ st (args ++ Array.replicate (fn.ntmps - args.size) undef) w) (h : runBody (aexec G F n) mf st = some (st1, rs)) :
    Calls P f args w fun e w' => ∃ v tmps1 S1 ρ1, e = .returned v ∧ Rel G fn.ntmps w0 base S0 S1 ρ1 st1 tmps1 w' ∧ Later w S ρ st.bx w' S1 ρ1 st1.bx ∧ RV w' S1 ρ1 st1.bx (tuple rs) v := by
  obtain ⟨c, m, rvs, hb, hnt, _, hm, hres, rfl⟩ := cFn_inv hc
  unfold runBody at h
  refine calls_of_wp hf hb ?_
  have key : ∀ e, aexec G F n m st = some (e, st1) → (e = .normal ∨ e = .ret) → rvs.mapM (rvar st1) = some rs → c.wp P (bodyPost P fn fun e w' => ∃ v tmps1 S1 ρ1, e = .returned v ∧ Rel G fn.ntmps w0 base S0 S1 ρ1 st1 tmps1 w' ∧ Later w S ρ st.bx w' S1 ρ1 st1.bx ∧ RV w' S1 ρ1 st1.bx (tuple rs) v) ⟨args ++ Array.replicate (fn.ntmps - args.size) undef, []⟩ w := by
    intro e he hn hr
    refine hS.main hm hnt he hR (fun tmps' w' S' ρ' R' L => ?_)
    obtain ⟨v, hv, hrv⟩ := results_sim (P := P) R' fn rvs hres hr
    rcases hn with rfl | rfl
    · exact ⟨rfl, v, hv, v, tmps', S', ρ', rfl, R', L, hrv⟩
    · exact ⟨rfl, v, hv, v, tmps', S', ρ', rfl, R', L, hrv⟩
  split at h
  · rename_i st2 he
    simp only [Option.map_eq_some_iff, Prod.mk.injEq] at h
    obtain ⟨rs', hr, rfl, rfl⟩ := h
    exact key _ he (.inl rfl) hr
  · rename_i st2 he
    simp only [Option.map_eq_some_iff, Prod.mk.injEq] at h
    obtain ⟨rs', hr, rfl, rfl⟩ := h
    exact key _ he (.inr rfl) hr
  · exact absurd h (by simp)

/-- A BODY THAT IS ENTERED, compiled or not. -/
theorem does (hS : Sound P G F n) (hF : FOk P F) {f : Nat} {mf : MF} (hmf : F f = some mf) :
    ∃ k, ∀ {w0 w : World} {base : Nat} {S0 S : Nat → Prop} {ρ : List (Nat × Nat)} {as : List AV} {bx : List Box} {args : Array Value} {st1 : St} {rs : List AV}, args.size = as.length →
    Rel G k w0 base S0 S ρ ⟨initTm 0 as .e, bx, 0⟩ (args ++ Array.replicate (k - args.size) undef) w → runBody (aexec G F n) mf ⟨initTm 0 as .e, bx, 0⟩ = some (st1, rs) →
    Calls P f args w fun e w' => ∃ v tmps1 S1 ρ1, e = .returned v ∧ Rel G k w0 base S0 S1 ρ1 st1 tmps1 w' ∧ Later w S ρ bx w' S1 ρ1 st1.bx ∧ RV w' S1 ρ1 st1.bx (tuple rs) v := by
  rcases hF f mf hmf with ⟨fn, H, hf, hc⟩ | hp
  · exact ⟨fn.ntmps, fun _ hR h => body_sound hS hf hc hR h⟩
  · refine ⟨0, fun hs hR h => hp.run hs ?_ h⟩
    simpa using hR

theorem replicate_size (args : Array Value) (k : Nat) : k ≤ (args ++ Array.replicate (k - args.size) undef).size := by simp; omega

/-- Is entered in a heap of its own. -/
theorem enterPure (hR : Rel G nt w0 base S0 S ρ st tmps w) (hG : ∀ g, AV.closedL (G g) = true) {T : Nat → Prop} (hT : ∀ g, S g → T g) (hTlt : ∀ g, T g → g < w.heap.size) {as : List AV} {vs : List Value} (hrl : RVL w T [] [] as vs) (k : Nat) (hk : as.length < 65535) :
    Rel G k w w.heap.size T T [] ⟨initTm 0 as .e, [], 0⟩ (vs.toArray ++ Array.replicate (k - vs.toArray.size) undef) w :=
  ⟨Below.refl _ _, Nat.le_refl _, replicate_size _ _, rfl, hTlt, fun _ h => .inl h, fun id b hb => by simp at hb, fun i j bi bj x y hi => by simp at hi, fun t => enter_tm hrl hk _ t,
    fun g => (hR.glob g).closed (by simpa [AV.closed] using hG g) T [] [] hT⟩

/-- Far away something has happened: new blocks alone; some of them are persistent. -/
theorem Rel.far (hR : Rel G nt w0 base S0 S ρ st tmps w) {w' : World} (hb : Below w.heap.size w w') {T : Nat → Prop} (hT : ∀ g, T g → (S g ∨ w.heap.size ≤ g) ∧ g < w'.heap.size) :
    Rel G nt w0 base S0 (fun g => S g ∨ T g) ρ st tmps w' ∧ Later w S ρ st.bx w' (fun g => S g ∨ T g) ρ st.bx := by
  have L : Later w S ρ st.bx w' (fun g => S g ∨ T g) ρ st.bx := ⟨fun _ h => .inl h, fun g hg => hb.block g (hR.slt g hg), hb.size, fun id b hb hf => ⟨b, hb, hf, rfl, .inl ⟨rfl, rfl⟩⟩⟩
  have hbl := hR.baseLe
  have hsz := hb.size
  refine ⟨⟨hR.below.trans (hb.mono hbl), by omega, hR.size, hR.rho, fun g hg => ?_, fun g hg => ?_, fun id b hbx hf => ?_, hR.inj, fun t => (hR.tm t).later L, fun g => (hR.glob g).later L⟩, L⟩
  · rcases hg with hg | hg
    · have := hR.slt g hg; omega
    · exact (hT g hg).2
  · rcases hg with hg | hg
    · exact hR.sbase g hg
    · rcases (hT g hg).1 with h | h
      · exact hR.sbase g h
      · exact .inr (by omega)
  · obtain ⟨g, cap, cur, ok⟩ := hR.box id b hbx hf
    have hgl : g < w.heap.size := (Array.getElem?_eq_some_iff.1 ok.heap).1
    refine ⟨g, cap, cur, ok.rho, ok.base, (hb.block g hgl).trans ok.heap, ok.size, ok.cap, ok.fits, fun j c hj => ?_, fun hl hs => ?_, fun hl => .inl (ok.frozen hl)⟩
    · obtain ⟨v, h1, h2, h3⟩ := ok.cells j c hj
      exact ⟨v, h1, h2, h3.later L⟩
    · rcases hs with hs | hs
      · exact ok.live hl hs
      · rcases (hT g hs).1 with h | h
        · exact ok.live hl h
        · omega

/-- A CALL IN A HEAP OF ITS OWN. -/
theorem pure_sound (hS : Sound P G F n) (hF : FOk P F) (hG : ∀ g, AV.closedL (G g) = true) (hR : Rel G nt w0 base S0 S ρ st tmps w) {f : Nat} {args as : List AV} {vs : List Value} (hargs : RVL w S ρ st.bx args vs)
    (hal : args.length < 65535) (hm : args.mapM (reify reifyDepth st.bx) = some as) {res : Res} {al : Bool} (h : pcall F (aexec G F n) f as = some (res, al)) (hok : (al && !AV.closedL args) = false) :
    (∀ v, res = .val v → Calls P f vs.toArray w fun e w' => ∃ u S', e = .returned u ∧ Rel G nt w0 base S0 S' ρ st tmps w' ∧ Later w S ρ st.bx w' S' ρ st.bx ∧ RV w' S' ρ st.bx v u) ∧
    (∀ k cs sz e id st', res = .own k cs sz e → st.newBox none ⟨cs, sz, e, .live⟩ = some (id, st') →
      Calls P f vs.toArray w fun e w' => ∃ u S' ρ', e = .returned u ∧ Rel G nt w0 base S0 S' ρ' st' tmps w' ∧ Later w S ρ st.bx w' S' ρ' st'.bx ∧ RV w' S' ρ' st'.bx (.own id k) u) := by
  -- the set of blocks that the callee takes for persistent
  obtain ⟨T, hST, hTlt, hrl, hTS⟩ : ∃ T : Nat → Prop, (∀ g, S g → T g) ∧ (∀ g, T g → g < w.heap.size) ∧ RVL w T [] [] as vs ∧ (al = false ∨ ∀ g, T g → S g) := by
    by_cases hcl : AV.closedL args = true
    · refine ⟨S, fun _ h => h, hR.slt, ?_, .inr fun _ h => h⟩
      rw [reifyL_closed hcl hm]
      exact closedL_RVL hargs hcl S [] [] (fun _ h => h)
    · refine ⟨fun g => S g ∨ ∃ (id : Nat) (b : Box) (cap : Nat), st.bx[id]? = some b ∧ b.status ≠ .fresh ∧ ρ[id]? = some (g, cap), fun _ h => .inl h, fun g hg => ?_, ?_, .inl ?_⟩
      · rcases hg with hg | ⟨id, b, cap, hb, hf, hr⟩
        · exact hR.slt g hg
        · obtain ⟨g2, cap2, cur2, ok⟩ := hR.box id b hb hf
          have := ok.rho
          rw [hr] at this
          simp only [Option.some.injEq, Prod.mk.injEq] at this
          obtain ⟨rfl, rfl⟩ := this
          exact (Array.getElem?_eq_some_iff.1 ok.heap).1
      · exact (reifyL_RV (bxr := st.bx) (T := fun g => S g ∨ ∃ (id : Nat) (b : Box) (cap : Nat), st.bx[id]? = some b ∧ b.status ≠ .fresh ∧ ρ[id]? = some (g, cap)) (fun _ _ h _ => h) (fun id b hb hf => by
          obtain ⟨g, cap, cur, ok⟩ := hR.box id b hb hf
          exact ⟨g, cap, cur, ok, .inr ⟨id, b, cap, hb, hf, ok.rho⟩⟩) reifyDepth hargs hm (.inr fun _ h => .inl h)).1 [] []
      · cases al
        · rfl
        · exfalso
          have : AV.closedL args = false := by simpa using hcl
          simp [this] at hok
  have hasl : as.length < 65535 := by rw [(mapM_get hm).1]; exact hal
  unfold pcall at h
  split at h
  · exact absurd h (by simp)
  rename_i mf hmf
  obtain ⟨nk, hdo⟩ := does hS hF hmf
  split at h
  · exact absurd h (by simp)
  rename_i st1 rs hrun
  have hcall := hdo (by simpa using hrl.1) (enterPure hR hG hST hTlt hrl nk hasl) hrun
  -- the callee's persistent blocks and boxes, seen from outside
  have outer : ∀ {w' : World} {S1 : Nat → Prop} {ρ1 : List (Nat × Nat)} {tmps1 : Array Value}, Rel G nk w w.heap.size T S1 ρ1 st1 tmps1 w' → ∀ g, ((S1 g ∧ al = true) ∨ ∃ (id : Nat) (b : Box) (cap : Nat), st1.bx[id]? = some b ∧ b.status ≠ .fresh ∧ ρ1[id]? = some (g, cap)) → (S g ∨ w.heap.size ≤ g) ∧ g < w'.heap.size := by
    intro w' S1 ρ1 tmps1 R1 g hg
    rcases hg with ⟨h1, h2⟩ | ⟨id, b, cap, hb, hfr, hr⟩
    · refine ⟨?_, R1.slt g h1⟩
      rcases R1.sbase g h1 with h3 | h3
      · rcases hTS with h4 | h4
        · rw [h4] at h2; cases h2
        · exact .inl (h4 g h3)
      · exact .inr h3
    · obtain ⟨g2, cap2, cur2, ok⟩ := R1.box id b hb hfr
      have := ok.rho
      rw [hr] at this
      simp only [Option.some.injEq, Prod.mk.injEq] at this
      obtain ⟨rfl, rfl⟩ := this
      exact ⟨.inr ok.base, (Array.getElem?_eq_some_iff.1 ok.heap).1⟩
  split at h
  · rename_i id k htup
    split at h
    · rename_i b hb
      split at h
      · rename_i hq
        simp only [Option.map_eq_some_iff, Prod.mk.injEq] at h
        obtain ⟨cs', hmc, rfl, rfl⟩ := h
        refine ⟨fun v hv => (by cases hv), fun k' cs sz e id' st' hres hnew => ?_⟩
        simp only [Res.own.injEq] at hres
        obtain ⟨rfl, rfl, rfl, rfl⟩ := hres
        refine hcall.mono fun e w' ⟨u, tmps1, S1, ρ1, he, R1, L1, hrv⟩ => ?_
        rw [htup] at hrv
        have hfr : b.status ≠ .fresh := by rw [hq.1]; decide
        obtain ⟨g, cap, cur, ok, rfl, hkc⟩ := own_inv R1 hrv hb hfr hq.2
        have hbw : Below w.heap.size w w' := R1.below
        -- without the box itself
        have hget : ∀ (k : Nat) (b2 : Box), (st1.bx.set id freshBox)[k]? = some b2 → b2.status ≠ .fresh → k ≠ id ∧ st1.bx[k]? = some b2 := by
          intro k b2 h1 h2
          rw [List.getElem?_set] at h1
          split at h1
          · split at h1
            · obtain rfl := Option.some.inj h1; simp [freshBox] at h2
            · cases h1
          · rename_i hne; exact ⟨fun e => hne e.symm, h1⟩
        let T2 : Nat → Prop := fun q => (S1 q ∧ b.cs.any (alias reifyDepth (st1.bx.set id freshBox)) = true) ∨ ∃ (id2 : Nat) (b2 : Box) (cap2 : Nat), id2 ≠ id ∧ st1.bx[id2]? = some b2 ∧ b2.status ≠ .fresh ∧ ρ1[id2]? = some (q, cap2)
        have hT2 : ∀ q, T2 q → (S q ∨ w.heap.size ≤ q) ∧ q < w'.heap.size := by
          intro q hq2
          refine outer R1 q ?_
          rcases hq2 with h1 | ⟨id2, b2, cap2, _, h2, h3, h4⟩
          · exact .inl h1
          · exact .inr ⟨id2, b2, cap2, h2, h3, h4⟩
        obtain ⟨R2, L2⟩ := hR.far hbw hT2
        obtain ⟨s1, s2⟩ := ok.shown
        obtain ⟨hcells, hclosed⟩ := reifyL_RV (w := w') (S := S1) (ρ := ρ1) (base := w.heap.size) (bx := st1.bx) (bxr := st1.bx.set id freshBox) (T := T2) (fun k b2 h1 h2 => (hget k b2 h1 h2).2) (fun k b2 h1 h2 => by
          obtain ⟨hne, h3⟩ := hget k b2 h1 h2
          obtain ⟨g2, cap2, cur2, ok2⟩ := R1.box k b2 h3 h2
          exact ⟨g2, cap2, cur2, ok2, .inr ⟨k, b2, cap2, hne, h3, h2, ok2.rho⟩⟩) reifyDepth s1 hmc (by
          by_cases ha : b.cs.any (alias reifyDepth (st1.bx.set id freshBox)) = true
          · exact .inr fun q hq2 => .inl ⟨hq2, ha⟩
          · exact .inl (by simpa using ha))
        have hgS : ¬ (S g ∨ T2 g) := by
          rintro (hs | ⟨hs, _⟩ | ⟨id2, b2, cap2, hne, h2, h3, h4⟩)
          · have := hR.slt g hs; have := ok.base; omega
          · exact ok.live hq.1 hs
          · exact R1.inj id2 id b2 b _ _ h2 hb h3 hfr h4 ok.rho hne rfl
        have hcl := hclosed
        have hlen : cs'.length = b.cs.length := (mapM_get hmc).1
        obtain ⟨ρ', R3, L3, hb3, hr3⟩ := R2.newBoxG (w' := w') (g := g) (cur := cur) (cap := cap) hnew rfl (Nat.le_trans hR.baseLe ok.base) hgS (fun k b2 x hb2 hf2 hx e => by
            obtain ⟨g2, cap2, cur2, ok2⟩ := hR.box k b2 hb2 hf2
            rw [ok2.rho] at hx
            obtain rfl := Option.some.inj hx
            have := (Array.getElem?_eq_some_iff.1 ok2.heap).1
            have := ok.base
            simp at e
            omega) rfl rfl rfl (Nat.le_refl _) (fun k hk => rfl) ok.heap ok.size ok.cap (by simp only; rw [hlen]; exact ok.fits) (fun j c hj => by
            obtain ⟨u, hu, hru⟩ := (hcells ρ st.bx).get hj
            have hjl : j < b.cs.length := by rw [← hlen]; exact (List.getElem?_eq_some_iff.1 hj).1
            obtain ⟨u', hu', h1', _⟩ := ok.cells j _ (List.getElem?_eq_getElem hjl)
            rw [List.getElem?_take, if_pos hjl] at hu
            simp only [Array.getElem?_toList] at hu
            rw [hu] at hu'
            obtain rfl := Option.some.inj hu'
            exact ⟨u, hu, h1', hru.closed (closedL_get hcl hj) _ _ _ (fun _ h => .inr h)⟩)
        refine ⟨_, _, ρ', he, R3, L2.trans L3, ?_⟩
        exact .own _ _ _ _ hb3 (by simp) (by simp only; rw [hlen, hq.2]; exact Nat.le_refl _) rfl (fun _ => ⟨_, _, hr3, rfl, hkc⟩)
      · exact absurd h (by simp)
    · exact absurd h (by simp)
  · simp only [Option.map_eq_some_iff, Prod.mk.injEq] at h
    obtain ⟨r, hr, rfl, rfl⟩ := h
    refine ⟨fun v hv => ?_, fun k' cs sz e id' st' hres => (by cases hres)⟩
    simp only [Res.val.injEq] at hv
    subst hv
    refine hcall.mono fun e w' ⟨u, tmps1, S1, ρ1, he, R1, L1, hrv⟩ => ?_
    have hbw : Below w.heap.size w w' := R1.below
    obtain ⟨R2, L2⟩ := hR.far hbw (outer R1)
    obtain ⟨hval, _⟩ := reify_RV (bxr := st1.bx) (base := w.heap.size) (T := fun g => (S1 g ∧ alias reifyDepth st1.bx (tuple rs) = true) ∨ ∃ (id : Nat) (b : Box) (cap : Nat), st1.bx[id]? = some b ∧ b.status ≠ .fresh ∧ ρ1[id]? = some (g, cap)) (fun _ _ h _ => h) (fun id b hb hf => by
      obtain ⟨g, cap, cur, ok⟩ := R1.box id b hb hf
      exact ⟨g, cap, cur, ok, .inr ⟨id, b, cap, hb, hf, ok.rho⟩⟩) reifyDepth (tuple rs) u r hrv hr (by
      by_cases ha : alias reifyDepth st1.bx (tuple rs) = true
      · exact .inr fun q hq2 => .inl ⟨hq2, ha⟩
      · exact .inl (by simpa using ha))
    have hcl : r.closed = true := (reify_RV (bxr := st1.bx) (base := w.heap.size) (T := fun g => S1 g ∨ ∃ (id : Nat) (b : Box) (cap : Nat), st1.bx[id]? = some b ∧ b.status ≠ .fresh ∧ ρ1[id]? = some (g, cap)) (fun _ _ h _ => h) (fun id b hb hf => by
      obtain ⟨g, cap, cur, ok⟩ := R1.box id b hb hf
      exact ⟨g, cap, cur, ok, .inr ⟨id, b, cap, hb, hf, ok.rho⟩⟩) reifyDepth (tuple rs) u r hrv hr (.inr fun _ h => .inl h)).2
    exact ⟨u, _, he, R2, L2, (hval ρ st.bx).closed hcl _ _ _ (fun _ h => .inr h)⟩
end

end Go.Am

