/- Each instruction without a call does what the machine says: first part. -/
import Derived.Test.YtcibofbmennjpaaAmRel
import Derived.Test.YtcibofbmennjpaaAmCompile
set_option linter.unusedVariables false
namespace Go.Am
open Go.RowKit

section
variable {P : Program} {G : Nat → List AV} {nt : Nat} {w0 w : World} {base : Nat} {S0 S : Nat → Prop} {ρ : List (Nat × Nat)} {st : St} {tmps : Array Value} {ds : List Deferred}

/-- What an operation yields. -/
def nxv : Next → Option Value
  | .value v => some v
  | .skip => some undef
  | _ => none

/-- An operation is done by the model as by the machine. -/
def Sim (P : Program) (G : Nat → List AV) (nt : Nat) (w0 : World) (base : Nat) (S0 S : Nat → Prop) (ρ : List (Nat × Nat)) (st : St) (tmps : Array Value) (w : World) (x : Sem Next) (av : AV) (st' : St) : Prop :=
  ∃ nx v w' S' ρ', x.run P w = .ok nx w' ∧ nxv nx = some v ∧ Rel G nt w0 base S0 S' ρ' st' tmps w' ∧ RV w' S' ρ' st'.bx av v ∧ Later w S ρ st.bx w' S' ρ' st'.bx

theorem RV_cV1 (v : Value) : RV w S ρ st.bx (cV1 v) v := by
  unfold cV1
  split
  · exact .int _ _
  · exact .bool _
  · exact .nil
  · rename_i vs
    split
    · rename_i h
      have : vs = #[] := Array.eq_empty_of_size_eq_zero h
      subst this; exact .undef
    · exact .any _
  · exact .any _

theorem RVL_cV1 (l : List Value) : RVL w S ρ st.bx (l.map cV1) l :=
  ⟨by simp, fun j c v h1 h2 => by
    rw [List.getElem?_map, h2] at h1
    simp at h1; subst h1; exact RV_cV1 v⟩

theorem RV_cV (v : Value) : RV w S ρ st.bx (cV v) v := by
  unfold cV
  split
  · rename_i cs
    have h := RVL_cV1 (w := w) (S := S) (ρ := ρ) (st := st) cs.toList
    have := RV.agg (w := w) (S := S) (ρ := ρ) (bx := st.bx) (cs.toList.map cV1) cs.toList h.1 h.2
    simpa using this
  · exact RV_cV1 _

theorem ev_RV (R : Rel G nt w0 base S0 S ρ st tmps w) (x : Operand) : RV w S ρ st.bx (st.ev G (cR x)) (Act.eval ⟨tmps, ds⟩ x) := by
  cases x with
  | tmp t => exact R.tm t
  | const v => exact RV_cV v
  | global g => exact R.glob g
  | func f => exact .clo f [] [] rfl (fun j c v h => by simp at h)

theorem sim_same (R : Rel G nt w0 base S0 S ρ st tmps w) {x : Sem Next} {av : AV} {v : Value} (hx : x.run P w = .ok (.value v) w) (hv : RV w S ρ st.bx av v) : Sim P G nt w0 base S0 S ρ st tmps w x av st :=
  ⟨.value v, v, w, S, ρ, hx, rfl, R, hv, Later.refl⟩

/-- The value of a slot, known in the machine, is known in the model. -/
theorem RV.int_inv {k : IntKind} {n : Int} {bx : List Box} {v : Value} (h : RV w S ρ bx (.int k n) v) : v = .int k n := by cases h; rfl
theorem RV.bool_inv {b : Bool} {bx : List Box} {v : Value} (h : RV w S ρ bx (.bool b) v) : v = .bool b := by cases h; rfl
theorem RV.nil_inv {bx : List Box} {v : Value} (h : RV w S ρ bx .nil v) : v = .slice none 0 0 := by cases h; rfl
theorem RV.undef_inv {bx : List Box} {v : Value} (h : RV w S ρ bx .undef v) : v = Go.undef := by cases h; rfl
theorem RV.agg_inv {cs : List AV} {bx : List Box} {v : Value} (h : RV w S ρ bx (.agg cs) v) : ∃ vs : List Value, v = .agg vs.toArray ∧ RVL w S ρ bx cs vs := by
  cases h with
  | agg cs vs hl hr => exact ⟨vs, rfl, hl, hr⟩
theorem RV.tup_inv {cs : List AV} {bx : List Box} {v : Value} (h : RV w S ρ bx (.tup cs) v) : ∃ vs : List Value, v = .tuple vs.toArray ∧ RVL w S ρ bx cs vs := by
  cases h with
  | tup cs vs hl hr => exact ⟨vs, rfl, hl, hr⟩
theorem RV.clo_inv {f : Nat} {cs : List AV} {bx : List Box} {v : Value} (h : RV w S ρ bx (.clo f cs) v) : ∃ vs : List Value, v = .func (.func f) #[] vs.toArray ∧ RVL w S ρ bx cs vs := by
  cases h with
  | clo f cs vs hl hr => exact ⟨vs, rfl, hl, hr⟩
theorem RV.rptr_inv {cs : List AV} {bx : List Box} {v : Value} (h : RV w S ρ bx (.rptr cs) v) : ∃ (a : Addr) (vs : List Value), v = .pointer (some a) ∧ RVL w S ρ bx cs vs ∧ ∀ (j : Nat) (u : Value), vs[j]? = some u → S a.block ∧ w.cell? (a.add j) = some u := by
  cases h with
  | rptr a cs vs hl hc hr => exact ⟨a, vs, rfl, ⟨hl, hr⟩, hc⟩

theorem sim_mov (R : Rel G nt w0 base S0 S ρ st tmps w) (x : Operand) {av : AV} {st' : St} (h : exI G (.mov (cR x)) st = some (av, st')) :
    Sim P G nt w0 base S0 S ρ st tmps w (pure (.value (Act.eval ⟨tmps, ds⟩ x))) av st' := by
  simp only [exI, Option.some.injEq, Prod.mk.injEq] at h
  obtain ⟨rfl, rfl⟩ := h
  exact sim_same R rfl (ev_RV R x)

theorem sim_pick (R : Rel G nt w0 base S0 S ρ st tmps w) (c a b : Operand) {av : AV} {st' : St} (h : exI G (.pick (cR c) (cR a) (cR b)) st = some (av, st')) :
    Sim P G nt w0 base S0 S ρ st tmps w (do pure (.value (if ← asBool (Act.eval ⟨tmps, ds⟩ c) then Act.eval ⟨tmps, ds⟩ a else Act.eval ⟨tmps, ds⟩ b))) av st' := by
  simp only [exI] at h
  have hc := ev_RV (ds := ds) R c
  split at h
  · rename_i t e
    rw [e] at hc
    simp only [Option.some.injEq, Prod.mk.injEq] at h
    obtain ⟨rfl, rfl⟩ := h
    refine sim_same (v := if t then Act.eval ⟨tmps, ds⟩ a else Act.eval ⟨tmps, ds⟩ b) R ?_ ?_
    · rw [hc.bool_inv]; simp [asBool]
    · cases t
      · exact ev_RV R b
      · exact ev_RV R a
  · exact absurd h (by simp)

theorem valid_inv {id len : Nat} (h : st.valid id len = true) : ∃ b, st.bx[id]? = some b ∧ b.status ≠ .fresh ∧ b.cs.length = len := by
  unfold St.valid at h
  split at h
  · rename_i b hb
    simp only [Bool.and_eq_true, decide_eq_true_eq] at h
    exact ⟨b, hb, h.1, Nat.eq_of_beq_eq_true h.2⟩
  · cases h

theorem ptr_valid {id len off : Nat} {v : Value} (h : RV w S ρ st.bx (.ptr id len off) v) (hv : st.valid id len = true) :
    ∃ g cap, ρ[id]? = some (g, cap) ∧ v = .pointer (some ⟨g, off, none⟩) := by
  obtain ⟨b, hb, _, hl⟩ := valid_inv hv
  cases h with
  | ptr id len off v b' hb' hf' hle h1 hh =>
    rw [hb] at hb'
    obtain rfl := Option.some.inj hb'
    exact hh hl

theorem ptr_mk {id len off g cap : Nat} (hv : st.valid id len = true) (hr : ρ[id]? = some (g, cap)) : RV w S ρ st.bx (.ptr id len off) (.pointer (some ⟨g, off, none⟩)) := by
  obtain ⟨b, hb, hf, hl⟩ := valid_inv hv
  exact .ptr _ _ _ _ b hb hf (by omega) rfl (fun _ => ⟨g, cap, hr, rfl⟩)

theorem sim_nilc (R : Rel G nt w0 base S0 S ρ st tmps w) (o : Oper) (x : Operand) (ho : o.op = .nilCheck x) {av : AV} {st' : St} (h : exI G (.nilc (cR x)) st = some (av, st')) :
    Sim P G nt w0 base S0 S ρ st tmps w (execOp (Act.eval ⟨tmps, ds⟩) o) av st' := by
  simp only [exI] at h
  have hx := ev_RV (ds := ds) R x
  unfold execOp
  simp only [ho]
  generalize Act.eval ⟨tmps, ds⟩ x = v at hx ⊢
  split at h
  · rename_i a b c e
    rw [e] at hx
    split at h
    · rename_i hv
      simp only [Option.some.injEq, Prod.mk.injEq] at h
      obtain ⟨rfl, rfl⟩ := h
      obtain ⟨g, cap, hr, rfl⟩ := ptr_valid hx hv
      exact sim_same R rfl (ptr_mk hv hr)
    · exact absurd h (by simp)
  · rename_i cs e
    rw [e] at hx
    simp only [Option.some.injEq, Prod.mk.injEq] at h
    obtain ⟨rfl, rfl⟩ := h
    obtain ⟨a, vs, rfl, hvs, hc⟩ := hx.rptr_inv
    exact sim_same R rfl (.rptr a cs vs hvs.1 hc hvs.2)
  · rename_i f cs e
    rw [e] at hx
    simp only [Option.some.injEq, Prod.mk.injEq] at h
    obtain ⟨rfl, rfl⟩ := h
    obtain ⟨vs, rfl, hvs⟩ := hx.clo_inv
    exact sim_same R rfl (.clo f cs vs hvs.1 hvs.2)
  · exact absurd h (by simp)

theorem run_bin {op : BinOp} {x y av : AV} (t : TypeId) (px py : Operand) (h : abin op x y = some av) {vx vy : Value} (hx : RV w S ρ st.bx x vx) (hy : RV w S ρ st.bx y vy) :
    ∃ v, (do eqGuard op t px py vx vy; binOp op t vx vy : Sem Value).run P w = .ok v w ∧ RV w S ρ st.bx av v := by
  unfold abin at h
  split at h
  · rename_i k a k' b
    obtain rfl := hx.int_inv
    obtain rfl := hy.int_inv
    have hg : (eqGuard op t px py (.int k a) (.int k' b)).run P w = .ok () w := by
      unfold eqGuard
      cases op <;> rfl
    simp only [Sem.run_bind, hg, Result.andThen_ok]
    cases op <;> simp only at h
    case shl =>
      by_cases hb : b < 0
      · simp [hb] at h
      · rw [if_neg hb] at h
        obtain rfl := Option.some.inj h
        exact ⟨_, by simp [binOp, Op.shift, hb], .int _ _⟩
    case shr =>
      by_cases hb : b < 0
      · simp [hb] at h
      · rw [if_neg hb] at h
        obtain rfl := Option.some.inj h
        exact ⟨_, by simp [binOp, Op.shift, hb], .int _ _⟩
    all_goals
      by_cases hk : k = k'
      · subst hk
        simp only [if_true] at h
        first
          | (obtain rfl := Option.some.inj h
             first
               | (refine ⟨.int k _, ?_, .int _ _⟩; simp only [binOp, ne_eq, not_true_eq_false, if_false]; rfl)
               | (refine ⟨.bool _, ?_, .bool _⟩; simp only [binOp, ne_eq, not_true_eq_false, if_false]; rfl))
          | (by_cases hb : b = 0
             · simp [hb] at h
             · rw [if_neg hb] at h
               obtain rfl := Option.some.inj h
               exact ⟨_, by simp [binOp, Op.intDiv, hb], .int _ _⟩)
      · simp [hk] at h
  · exact absurd h (by simp)

theorem sim_bin (R : Rel G nt w0 base S0 S ρ st tmps w) (op : BinOp) (t : TypeId) (x y : Operand) {av : AV} {st' : St} (h : exI G (.bin op (cR x) (cR y)) st = some (av, st')) :
    Sim P G nt w0 base S0 S ρ st tmps w (do pure (.value (← (do eqGuard op t x y (Act.eval ⟨tmps, ds⟩ x) (Act.eval ⟨tmps, ds⟩ y); binOp op t (Act.eval ⟨tmps, ds⟩ x) (Act.eval ⟨tmps, ds⟩ y))))) av st' := by
  simp only [exI, Option.map_eq_some_iff, Prod.mk.injEq] at h
  obtain ⟨a, ha, rfl, rfl⟩ := h
  obtain ⟨v, hr, hv⟩ := run_bin (P := P) t x y ha (ev_RV (ds := ds) R x) (ev_RV (ds := ds) R y)
  exact sim_same R (by rw [Sem.run_bind, hr]; rfl) hv

theorem run_equal_bool {t : TypeId} (ht : P.underlying t = some .bool) (a b : Bool) (w : World) : (Op.equal t (.bool a) (.bool b)).run P w = .ok (a == b) w := by
  unfold Op.equal Op.maxDepth Op.equalIn
  simp [run_underlying ht]

theorem sim_eqb (R : Rel G nt w0 base S0 S ρ st tmps w) (t : TypeId) (ht : P.underlying t = some .bool) (neg : Bool) (op : BinOp) (hop : op = bif neg then .neq else .eql) (x y : Operand) {av : AV} {st' : St} (h : exI G (.eqa neg (cR x) (cR y)) st = some (av, st')) :
    Sim P G nt w0 base S0 S ρ st tmps w (do pure (.value (← (do eqGuard op t x y (Act.eval ⟨tmps, ds⟩ x) (Act.eval ⟨tmps, ds⟩ y); binOp op t (Act.eval ⟨tmps, ds⟩ x) (Act.eval ⟨tmps, ds⟩ y))))) av st' := by
  have hx := ev_RV (ds := ds) R x
  have hy := ev_RV (ds := ds) R y
  simp only [exI] at h
  split at h
  · rename_i a b ea eb
    rw [ea] at hx
    rw [eb] at hy
    obtain ⟨rfl, rfl⟩ := Prod.mk.inj (Option.some.inj h)
    refine sim_same R ?_ (.bool _)
    rw [hx.bool_inv, hy.bool_inv]
    have hg : (eqGuard op t x y (.bool a) (.bool b)).run P w = .ok () w := by
      unfold eqGuard
      subst hop
      cases neg <;> rfl
    subst hop
    cases neg <;> simp only [cond_true, cond_false] at hg ⊢ <;> simp [hg, binOp, run_equal_bool ht]
  · cases h

theorem sim_not (R : Rel G nt w0 base S0 S ρ st tmps w) (x : Operand) {av : AV} {st' : St} (h : exI G (.not (cR x)) st = some (av, st')) :
    Sim P G nt w0 base S0 S ρ st tmps w (do pure (.value (← Op.unary .not (Act.eval ⟨tmps, ds⟩ x)))) av st' := by
  simp only [exI] at h
  have hx := ev_RV (ds := ds) R x
  split at h
  · rename_i t e
    rw [e] at hx
    simp only [Option.some.injEq, Prod.mk.injEq] at h
    obtain ⟨rfl, rfl⟩ := h
    rw [hx.bool_inv]
    exact sim_same R (by simp [Op.unary]) (.bool _)
  · exact absurd h (by simp)

theorem sim_conv (R : Rel G nt w0 base S0 S ρ st tmps w) (s d : TypeId) (ks k : IntKind) (hs : P.underlying s = some (.int ks)) (hd : P.underlying d = some (.int k)) (x : Operand) {av : AV} {st' : St}
    (h : exI G (.conv k (cR x)) st = some (av, st')) : Sim P G nt w0 base S0 S ρ st tmps w (do pure (.value (← convert s d (Act.eval ⟨tmps, ds⟩ x)))) av st' := by
  simp only [exI] at h
  have hx := ev_RV (ds := ds) R x
  split at h
  · rename_i kk n e
    rw [e] at hx
    simp only [Option.some.injEq, Prod.mk.injEq] at h
    obtain ⟨rfl, rfl⟩ := h
    rw [hx.int_inv]
    exact sim_same R (by simp [convert, run_underlying hs, run_underlying hd, Conv.intToInt]) (.int _ _)
  · exact absurd h (by simp)

theorem sim_fn (R : Rel G nt w0 base S0 S ρ st tmps w) (f : Nat) (cap : Array Operand) {av : AV} {st' : St} (h : exI G (.fn f (cap.toList.map cR)) st = some (av, st')) :
    Sim P G nt w0 base S0 S ρ st tmps w (do pure (.value (← Instr.makeFunc (.func f) #[] (cap.map (Act.eval ⟨tmps, ds⟩))))) av st' := by
  simp only [exI, Option.some.injEq, Prod.mk.injEq] at h
  obtain ⟨rfl, rfl⟩ := h
  refine sim_same (v := .func (.func f) #[] (cap.map (Act.eval ⟨tmps, ds⟩))) R rfl ?_
  have e : cap.map (Act.eval ⟨tmps, ds⟩) = (cap.toList.map (Act.eval ⟨tmps, ds⟩)).toArray := by rw [← Array.toList_map, Array.toArray_toList]
  rw [e]
  refine .clo f _ _ (by simp) (fun j c v h1 h2 => ?_)
  rw [List.map_map] at h1
  rw [List.getElem?_map] at h1 h2
  obtain ⟨x, hx, rfl⟩ := Option.map_eq_some_iff.1 h1
  obtain ⟨x', hx', rfl⟩ := Option.map_eq_some_iff.1 h2
  rw [hx] at hx'
  obtain rfl := Option.some.inj hx'
  exact ev_RV R x

theorem sim_ext (R : Rel G nt w0 base S0 S ρ st tmps w) (x : Operand) (i : Nat) {av : AV} {st' : St} (h : exI G (.ext (cR x) i) st = some (av, st')) :
    Sim P G nt w0 base S0 S ρ st tmps w (do pure (.value (← Instr.extract (Act.eval ⟨tmps, ds⟩ x) i))) av st' := by
  simp only [exI] at h
  have hx := ev_RV (ds := ds) R x
  split at h
  · rename_i vs e
    rw [e] at hx
    split at h
    · rename_i v hv
      simp only [Option.some.injEq, Prod.mk.injEq] at h
      obtain ⟨rfl, rfl⟩ := h
      obtain ⟨us, eu, hus⟩ := hx.tup_inv
      obtain ⟨u, hu, hr⟩ := hus.get hv
      rw [eu]
      exact sim_same R (by simp [Instr.extract, hu]) hr
    · exact absurd h (by simp)
  · exact absurd h (by simp)

theorem sim_alen (R : Rel G nt w0 base S0 S ρ st tmps w) (t ty : TypeId) (n : Nat) (e : TypeId) (ht : P.underlying t = some (.array n e)) (v : Value) {av : AV} {st' : St} (h : exI G (.alen n) st = some (av, st')) :
    Sim P G nt w0 base S0 S ρ st tmps w (do pure (.value (← Builtin.len_ #[t] ty #[v]))) av st' := by
  simp only [exI, Option.some.injEq, Prod.mk.injEq] at h
  obtain ⟨rfl, rfl⟩ := h
  exact sim_same R (by simp [Builtin.len_, run_underlying ht, goInt]) (.int _ _)

theorem own_inv (R : Rel G nt w0 base S0 S ρ st tmps w) {id n : Nat} {v : Value} (h : RV w S ρ st.bx (.own id n) v) {b : Box} (hb : st.bx[id]? = some b) (hf : b.status ≠ .fresh) (hl : b.cs.length = n * b.sz) :
    ∃ g cap cur, BoxOk w S ρ st.bx base id b g cap cur ∧ v = .slice (some ⟨g, 0, none⟩) n cap ∧ n ≤ cap := by
  cases h with
  | own id n v b' hb' hf' hle h1 hh =>
    rw [hb] at hb'
    obtain rfl := Option.some.inj hb'
    obtain ⟨g, cap, hr, rfl, hn⟩ := hh hl
    obtain ⟨g', cap', cur, ok⟩ := R.box id b hb hf
    have := ok.rho
    rw [hr] at this
    simp only [Option.some.injEq, Prod.mk.injEq] at this
    obtain ⟨rfl, rfl⟩ := this
    exact ⟨g, cap, cur, ok, rfl, hn⟩

theorem ptr_inv (R : Rel G nt w0 base S0 S ρ st tmps w) {id len off : Nat} {v : Value} (h : RV w S ρ st.bx (.ptr id len off) v) {b : Box} (hb : st.bx[id]? = some b) (hf : b.status ≠ .fresh) (hl : b.cs.length = len) :
    ∃ g cap cur, BoxOk w S ρ st.bx base id b g cap cur ∧ v = .pointer (some ⟨g, off, none⟩) := by
  cases h with
  | ptr id len off v b' hb' hf' hle h1 hh =>
    rw [hb] at hb'
    obtain rfl := Option.some.inj hb'
    obtain ⟨g, cap, hr, rfl⟩ := hh hl
    obtain ⟨g', cap', cur, ok⟩ := R.box id b hb hf
    have := ok.rho
    rw [hr] at this
    simp only [Option.some.injEq, Prod.mk.injEq] at this
    obtain ⟨rfl, rfl⟩ := this
    exact ⟨g, cap, cur, ok, rfl⟩

/-- What a box's block shows, cell by cell. -/
theorem BoxOk.shown {bx : List Box} {id : Nat} {b : Box} {g cap : Nat} {cur : Array Value} (ok : BoxOk w S ρ bx base id b g cap cur) :
    RVL w S ρ bx b.cs (cur.toList.take b.cs.length) ∧ ∀ (j : Nat) (u : Value), (cur.toList.take b.cs.length)[j]? = some u → w.cell? ⟨g, j, none⟩ = some u := by
  refine ⟨⟨by simp [ok.fits], fun j c v h1 h2 => ?_⟩, fun j u h => ?_⟩
  · obtain ⟨u, hu, _, hr⟩ := ok.cells j c h1
    rw [List.getElem?_take] at h2
    split at h2
    · simp only [Array.getElem?_toList] at h2
      rw [hu] at h2
      obtain rfl := Option.some.inj h2
      exact hr
    · cases h2
  · rw [cell_of_row w g j cur b.e (0, 0) ok.heap]
    rw [List.getElem?_take] at h
    split at h
    · simpa using h
    · cases h

theorem sim_len (R : Rel G nt w0 base S0 S ρ st tmps w) (t ty e : TypeId) (ht : P.underlying t = some (.slice e)) (x : Operand) {av : AV} {st' : St} (h : exI G (.len (cR x)) st = some (av, st')) :
    Sim P G nt w0 base S0 S ρ st tmps w (do pure (.value (← Builtin.len_ #[t] ty #[Act.eval ⟨tmps, ds⟩ x]))) av st' := by
  simp only [exI] at h
  have hx := ev_RV (ds := ds) R x
  have fin : ∀ (ao : Option Addr) (n cap : Nat), (do pure (Next.value (← Builtin.len_ #[t] ty #[.slice ao n cap])) : Sem Next).run P w = .ok (.value (.int .i64 n)) w := by
    intro ao n cap
    simp [Builtin.len_, run_underlying ht, goInt]
  split at h
  · rename_i e'
    rw [e'] at hx
    simp only [Option.some.injEq, Prod.mk.injEq] at h
    obtain ⟨rfl, rfl⟩ := h
    rw [hx.nil_inv]
    exact sim_same R (fin none 0 0) (.int _ _)
  · rename_i n cs e'
    rw [e'] at hx
    simp only [Option.some.injEq, Prod.mk.injEq] at h
    obtain ⟨rfl, rfl⟩ := h
    generalize Act.eval ⟨tmps, ds⟩ x = v at hx
    cases hx with
    | lst n cap ao cs vs hl hn hm hc hr => exact sim_same R (fin ao n cap) (.int _ _)
  · rename_i id n e'
    rw [e'] at hx
    split at h
    · rename_i b hb
      split at h
      · rename_i hc
        simp only [Option.some.injEq, Prod.mk.injEq] at h
        obtain ⟨rfl, rfl⟩ := h
        obtain ⟨g, cap, cur, ok, ev, hn⟩ := own_inv R hx hb hc.1 hc.2
        rw [ev]
        exact sim_same R (fin _ n cap) (.int _ _)
      · exact absurd h (by simp)
    · exact absurd h (by simp)
  · exact absurd h (by simp)

/-- Cells that the machine reads at a pointer, in the model. -/
theorem at_inv (R : Rel G nt w0 base S0 S ρ st tmps w) {p : AV} {v : Value} (h : RV w S ρ st.bx p v) {cs : List AV} (hat : st.at_ p = some cs) :
    ∃ (a : Addr) (vs : List Value), v = .pointer (some a) ∧ RVL w S ρ st.bx cs vs ∧ ∀ (j : Nat) (u : Value), vs[j]? = some u → w.cell? (a.add j) = some u := by
  unfold St.at_ at hat
  split at hat
  · rename_i cs'
    obtain rfl := Option.some.inj hat
    obtain ⟨a, vs, rfl, hvs, hc⟩ := h.rptr_inv
    exact ⟨a, vs, rfl, hvs, fun j u hj => (hc j u hj).2⟩
  · rename_i id len off
    split at hat
    · rename_i b hb
      split at hat
      · rename_i hc
        obtain rfl := Option.some.inj hat
        obtain ⟨g, cap, cur, ok, rfl⟩ := ptr_inv R h hb hc.1 hc.2
        obtain ⟨h1, h2⟩ := ok.shown
        refine ⟨⟨g, off, none⟩, _, rfl, h1.drop off, fun j u hj => ?_⟩
        rw [List.getElem?_drop] at hj
        have := h2 (off + j) u hj
        have e : (⟨g, off, none⟩ : Addr).add j = ⟨g, off + j, none⟩ := by unfold Addr.add; split <;> simp_all
        rw [e]; exact this
      · exact absurd hat (by simp)
    · exact absurd hat (by simp)
  · exact absurd hat (by simp)

theorem run_isAgg {t : TypeId} {d : TypeDesc} (h : P.underlying t = some d) (w : World) : (isAgg t).run P w = .ok (descAgg d) w := by
  unfold isAgg
  simp only [Sem.run_bind, run_underlying h, Result.andThen_ok]
  cases d <;> rfl
theorem run_sizeOf' {t : TypeId} {i : TypeInfo} (h : P.info? t = some i) (w : World) : (sizeOf t).run P w = .ok i.size w := by
  simp [sizeOf, typeInfo, h]

theorem sim_ld1 (R : Rel G nt w0 base S0 S ρ st tmps w) (t : TypeId) (d : TypeDesc) (ht : P.underlying t = some d) (hd : descAgg d = false) (x : Operand) {av : AV} {st' : St} (h : exI G (.ld1 (cR x)) st = some (av, st')) :
    Sim P G nt w0 base S0 S ρ st tmps w (do pure (.value (← Instr.loadAt t (Act.eval ⟨tmps, ds⟩ x)))) av st' := by
  simp only [exI] at h
  have hx := ev_RV (ds := ds) R x
  split at h
  · rename_i c cs hat
    simp only [Option.some.injEq, Prod.mk.injEq] at h
    obtain ⟨rfl, rfl⟩ := h
    obtain ⟨a, vs, ev, hvs, hc⟩ := at_inv R hx hat
    obtain ⟨v, vs', rfl, hv, _⟩ := hvs.uncons
    have h0 := hc 0 v rfl
    have e0 : a.add 0 = a := by simp [Addr.add]
    rw [e0] at h0
    rw [ev]
    refine sim_same R ?_ hv
    simp [Instr.loadAt, Instr.sureAddr, loadVar, run_isAgg ht, hd, h0]
  · exact absurd h (by simp)

theorem sim_ldn (R : Rel G nt w0 base S0 S ρ st tmps w) (t : TypeId) (d : TypeDesc) (i : TypeInfo) (ht : P.underlying t = some d) (hi : P.info? t = some i) (hd : descAgg d = true) (x : Operand) {av : AV} {st' : St}
    (h : exI G (.ldn i.size (cR x)) st = some (av, st')) : Sim P G nt w0 base S0 S ρ st tmps w (do pure (.value (← Instr.loadAt t (Act.eval ⟨tmps, ds⟩ x)))) av st' := by
  simp only [exI] at h
  have hx := ev_RV (ds := ds) R x
  split at h
  · rename_i cs hat
    split at h
    · rename_i hle
      simp only [Option.some.injEq, Prod.mk.injEq] at h
      obtain ⟨rfl, rfl⟩ := h
      obtain ⟨a, vs, ev, hvs, hc⟩ := at_inv R hx hat
      rw [ev]
      have ht2 := hvs.take i.size
      have hlen : (vs.take i.size).length = i.size := by simp [hvs.1]; omega
      have hl := run_loadCells_list (P := P) w a (vs.take i.size) (fun j u hj => by
        rw [List.getElem?_take] at hj
        split at hj
        · exact hc j u hj
        · cases hj)
      rw [hlen] at hl
      refine sim_same (v := .agg (vs.take i.size).toArray) R ?_ (.agg _ _ ht2.1 ht2.2)
      simp [Instr.loadAt, Instr.sureAddr, loadVar, run_isAgg ht, hd, run_sizeOf' hi, hl]
    · exact absurd h (by simp)
  · exact absurd h (by simp)

theorem sim_faddr (R : Rel G nt w0 base S0 S ρ st tmps w) (s : TypeId) (fs : Array Field) (f : Nat) (fd : Field) (i : TypeInfo) (hs : P.underlying s = some (.struct fs)) (hf : fs[f]? = some fd) (hi : P.info? fd.type = some i) (h0 : i.size ≠ 0)
    (x : Operand) {av : AV} {st' : St} (h : exI G (.faddr fd.offset (cR x)) st = some (av, st')) :
    Sim P G nt w0 base S0 S ρ st tmps w (do pure (.value (← Instr.fieldAt s (Act.eval ⟨tmps, ds⟩ x) f))) av st' := by
  simp only [exI] at h
  have hx := ev_RV (ds := ds) R x
  have fin : ∀ (a : Addr), (do pure (Next.value (← Instr.fieldAt s (.pointer (some a)) f)) : Sem Next).run P w = .ok (.value (.pointer (some (a.add fd.offset)))) w := by
    intro a
    simp [Instr.fieldAt, run_underlying hs, hf, Instr.sureAddr, fieldPlace, run_sizeOf' hi, h0]
  generalize Act.eval ⟨tmps, ds⟩ x = v at hx ⊢
  split at h
  · rename_i id len o e
    rw [e] at hx
    split at h
    · rename_i hv
      simp only [Option.some.injEq, Prod.mk.injEq] at h
      obtain ⟨rfl, rfl⟩ := h
      obtain ⟨g, cap, hr, rfl⟩ := ptr_valid hx hv
      have e3 : (⟨g, o, none⟩ : Addr).add fd.offset = ⟨g, o + fd.offset, none⟩ := by unfold Addr.add; split <;> simp_all
      refine sim_same R (fin _) ?_
      rw [e3]
      exact ptr_mk hv hr
    · exact absurd h (by simp)
  · rename_i cs e
    rw [e] at hx
    simp only [Option.some.injEq, Prod.mk.injEq] at h
    obtain ⟨rfl, rfl⟩ := h
    obtain ⟨a, vs, rfl, hvs, hc⟩ := hx.rptr_inv
    refine sim_same R (fin a) (.rptr _ _ (vs.drop fd.offset) (hvs.drop _).1 (fun j u hj => ?_) (hvs.drop _).2)
    rw [List.getElem?_drop] at hj
    rw [Addr.add_block, Addr.add_add]
    exact hc _ u hj
  · exact absurd h (by simp)
end
end Go.Am
