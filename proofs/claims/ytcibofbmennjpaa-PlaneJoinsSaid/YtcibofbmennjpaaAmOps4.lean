/- Each instruction without a call does what the machine says: indexes, fields, append, make, slice expressions. -/
import Derived.Test.YtcibofbmennjpaaAmOps3
set_option linter.unusedVariables false
namespace Go.Am
open Go.RowKit

section
variable {P : Program} {G : Nat → List AV} {nt : Nat} {w0 w : World} {base : Nat} {S0 S : Nat → Prop} {ρ : List (Nat × Nat)} {st : St} {tmps : Array Value} {ds : List Deferred}

theorem add_row (g o n : Nat) : (⟨g, o, none⟩ : Addr).add n = ⟨g, o + n, none⟩ := by unfold Addr.add; split <;> simp_all

theorem sim_iaddr (hR : Rel G nt w0 base S0 S ρ st tmps w) (t e : TypeId) (ie : TypeInfo) (ht : P.underlying t = some (.slice e)) (hi : P.info? e = some ie) (x i : Operand) {av : AV} {st' : St}
    (h : exI G (.iaddr ie.size (cR x) (cR i)) st = some (av, st')) :
    Sim P G nt w0 base S0 S ρ st tmps w (do pure (.value (← Instr.indexAt t (Act.eval ⟨tmps, ds⟩ x) (Act.eval ⟨tmps, ds⟩ i)))) av st' := by
  simp only [exI] at h
  have hx := ev_RV (ds := ds) hR x
  have hi2 := ev_RV (ds := ds) hR i
  generalize Act.eval ⟨tmps, ds⟩ x = vx at hx ⊢
  generalize Act.eval ⟨tmps, ds⟩ i = vi at hi2 ⊢
  have fin : ∀ (a : Addr) (n cap : Nat) (k : IntKind) (q : Int), 0 ≤ q ∧ q < n → (do pure (Next.value (← Instr.indexAt t (.slice (some a) n cap) (.int k q))) : Sem Next).run P w = .ok (.value (.pointer (some (a.add (q.toNat * ie.size))))) w := by
    intro a n cap k q hq
    simp [Instr.indexAt, asIntOf, run_underlying ht, hq, run_sizeOf' hi]
  split at h
  · rename_i n cs k q e1 e2
    rw [e1] at hx
    rw [e2] at hi2
    obtain rfl := hi2.int_inv
    split at h
    · rename_i hc
      simp only [Option.some.injEq, Prod.mk.injEq] at h
      obtain ⟨rfl, rfl⟩ := h
      cases hx with
      | lst n cap ao cs vs hl hn hm hcell hr =>
        cases ao with
        | none =>
          exfalso
          have h1 : q.toNat * ie.size < n * ie.size := Nat.mul_lt_mul_of_pos_right (by omega) hc.2.2.2
          have hlt : q.toNat * ie.size < vs.length := by omega
          obtain ⟨a, ha, _⟩ := hcell _ _ (List.getElem?_eq_getElem hlt)
          cases ha
        | some a =>
          refine sim_same hR (fin a n cap k q ⟨hc.1, hc.2.1⟩) (.rptr _ _ (vs.drop (q.toNat * ie.size)) (by simp [hl]) (fun j u hj => ?_) (fun j c v h1 h2 => ?_))
          · rw [List.getElem?_drop] at hj
            obtain ⟨a', ha, hs, hcl⟩ := hcell _ _ hj
            obtain rfl := Option.some.inj ha
            rw [Addr.add_block, Addr.add_add]
            exact ⟨hs, hcl⟩
          · rw [List.getElem?_drop] at h1 h2
            exact hr _ c v h1 h2
    · exact absurd h (by simp)
  · rename_i id n k q e1 e2
    rw [e1] at hx
    rw [e2] at hi2
    obtain rfl := hi2.int_inv
    split at h
    · rename_i b hb
      split at h
      · rename_i hc
        simp only [Option.some.injEq, Prod.mk.injEq] at h
        obtain ⟨rfl, rfl⟩ := h
        obtain ⟨g, cap, cur, ok, rfl, hn⟩ := own_inv hR hx hb hc.2.2.1 hc.2.2.2.1
        refine sim_same hR (fin _ n cap k q ⟨hc.1, hc.2.1⟩) ?_
        rw [add_row, Nat.zero_add]
        have hl : b.cs.length = n * ie.size := by rw [hc.2.2.2.1, hc.2.2.2.2]
        exact .ptr _ _ _ _ b hb hc.2.2.1 (by omega) rfl (fun _ => ⟨g, cap, ok.rho, rfl⟩)
      · exact absurd h (by simp)
    · exact absurd h (by simp)
  · exact absurd h (by simp)

theorem sim_aaddr (hR : Rel G nt w0 base S0 S ρ st tmps w) (t e : TypeId) (len : Nat) (ie : TypeInfo) (ht : P.underlying t = some (.array len e)) (hi : P.info? e = some ie) (x i : Operand) {av : AV} {st' : St}
    (h : exI G (.aaddr len ie.size (cR x) (cR i)) st = some (av, st')) :
    Sim P G nt w0 base S0 S ρ st tmps w (do pure (.value (← Instr.indexAt t (Act.eval ⟨tmps, ds⟩ x) (Act.eval ⟨tmps, ds⟩ i)))) av st' := by
  simp only [exI] at h
  have hx := ev_RV (ds := ds) hR x
  have hi2 := ev_RV (ds := ds) hR i
  generalize Act.eval ⟨tmps, ds⟩ x = vx at hx ⊢
  generalize Act.eval ⟨tmps, ds⟩ i = vi at hi2 ⊢
  have fin : ∀ (a : Addr) (k : IntKind) (q : Int), 0 ≤ q ∧ q < len → (do pure (Next.value (← Instr.indexAt t (.pointer (some a)) (.int k q))) : Sem Next).run P w = .ok (.value (.pointer (some (a.add (q.toNat * ie.size))))) w := by
    intro a k q hq
    simp [Instr.indexAt, asIntOf, run_underlying ht, hq, run_sizeOf' hi, Instr.sureAddr]
  split at h
  · rename_i cs k q e1 e2
    rw [e1] at hx
    rw [e2] at hi2
    obtain rfl := hi2.int_inv
    split at h
    · rename_i hc
      simp only [Option.some.injEq, Prod.mk.injEq] at h
      obtain ⟨rfl, rfl⟩ := h
      obtain ⟨a, vs, rfl, hvs, hcl⟩ := hx.rptr_inv
      refine sim_same hR (fin a k q hc) (.rptr _ _ (vs.drop (q.toNat * ie.size)) (hvs.drop _).1 (fun j u hj => ?_) (hvs.drop _).2)
      rw [List.getElem?_drop] at hj
      rw [Addr.add_block, Addr.add_add]
      exact hcl _ u hj
    · exact absurd h (by simp)
  · rename_i id l o k q e1 e2
    rw [e1] at hx
    rw [e2] at hi2
    obtain rfl := hi2.int_inv
    split at h
    · rename_i hc
      simp only [Option.some.injEq, Prod.mk.injEq] at h
      obtain ⟨rfl, rfl⟩ := h
      obtain ⟨g, cap, hr, rfl⟩ := ptr_valid hx hc.2.2
      refine sim_same hR (fin _ k q ⟨hc.1, hc.2.1⟩) ?_
      rw [add_row]
      exact ptr_mk hc.2.2 hr
    · exact absurd h (by simp)
  · exact absurd h (by simp)

theorem sim_fld1 (hR : Rel G nt w0 base S0 S ρ st tmps w) (t : TypeId) (fs : Array Field) (f : Nat) (fd : Field) (d : TypeDesc) (ht : P.underlying t = some (.struct fs)) (hf : fs[f]? = some fd) (hd : P.underlying fd.type = some d) (hda : descAgg d = false)
    (x : Operand) {av : AV} {st' : St} (h : exI G (.fld1 fd.offset (cR x)) st = some (av, st')) :
    Sim P G nt w0 base S0 S ρ st tmps w (do pure (.value (← Instr.field t (Act.eval ⟨tmps, ds⟩ x) f))) av st' := by
  simp only [exI] at h
  have hx := ev_RV (ds := ds) hR x
  generalize Act.eval ⟨tmps, ds⟩ x = vx at hx ⊢
  split at h
  · rename_i cs e
    rw [e] at hx
    split at h
    · rename_i c hc
      simp only [Option.some.injEq, Prod.mk.injEq] at h
      obtain ⟨rfl, rfl⟩ := h
      obtain ⟨vs, rfl, hvs⟩ := hx.agg_inv
      obtain ⟨v, hv, hr⟩ := hvs.get hc
      refine sim_same hR ?_ hr
      simp [Instr.field, run_underlying ht, hf, Go.part, asAgg, run_isAgg hd, hda, hv]
    · exact absurd h (by simp)
  · exact absurd h (by simp)

theorem seg_inv {cs : List AV} {o n : Nat} {r : List AV} (h : seg cs o n = some r) {vs : List Value} {bx : List Box} (hv : RVL w S ρ bx cs vs) :
    o + n ≤ vs.length ∧ RVL w S ρ bx r (vs.toArray.extract o (o + n)).toList := by
  unfold seg at h
  split at h
  · rename_i hc
    obtain rfl := Option.some.inj h
    refine ⟨by rw [hv.1]; exact hc, ?_⟩
    have : (vs.toArray.extract o (o + n)).toList = (vs.drop o).take n := by
      simp [List.extract_eq_take_drop]
    rw [this]
    exact (hv.drop o).take n
  · exact absurd h (by simp)

theorem sim_fldn (hR : Rel G nt w0 base S0 S ρ st tmps w) (t : TypeId) (fs : Array Field) (f : Nat) (fd : Field) (d : TypeDesc) (i : TypeInfo) (ht : P.underlying t = some (.struct fs)) (hf : fs[f]? = some fd) (hd : P.underlying fd.type = some d) (hda : descAgg d = true)
    (hi : P.info? fd.type = some i) (x : Operand) {av : AV} {st' : St} (h : exI G (.fldn fd.offset i.size (cR x)) st = some (av, st')) :
    Sim P G nt w0 base S0 S ρ st tmps w (do pure (.value (← Instr.field t (Act.eval ⟨tmps, ds⟩ x) f))) av st' := by
  simp only [exI] at h
  have hx := ev_RV (ds := ds) hR x
  generalize Act.eval ⟨tmps, ds⟩ x = vx at hx ⊢
  split at h
  · rename_i cs e
    rw [e] at hx
    simp only [Option.map_eq_some_iff, Prod.mk.injEq] at h
    obtain ⟨r, hp, rfl, rfl⟩ := h
    obtain ⟨vs, rfl, hvs⟩ := hx.agg_inv
    obtain ⟨_, hrl⟩ := seg_inv hp hvs
    refine sim_same (v := .agg (vs.toArray.extract fd.offset (fd.offset + i.size))) hR ?_ ?_
    · simp only [Instr.field, Sem.run_bind, run_underlying ht, Result.andThen_ok, hf, asAgg, Go.part, run_isAgg hd, hda, if_true, run_sizeOf' hi, Sem.run_pure]
    · have := RV.agg r _ hrl.1 hrl.2
      simpa using this
  · exact absurd h (by simp)

theorem sim_idx1 (hR : Rel G nt w0 base S0 S ρ st tmps w) (t e : TypeId) (len : Nat) (d : TypeDesc) (ie : TypeInfo) (ht : P.underlying t = some (.array len e)) (hd : P.underlying e = some d) (hda : descAgg d = false) (hi : P.info? e = some ie) (h1 : ie.size = 1)
    (x i : Operand) {av : AV} {st' : St} (h : exI G (.idx1 len (cR x) (cR i)) st = some (av, st')) :
    Sim P G nt w0 base S0 S ρ st tmps w (do pure (.value (← Instr.index t (Act.eval ⟨tmps, ds⟩ x) (Act.eval ⟨tmps, ds⟩ i)))) av st' := by
  simp only [exI] at h
  have hx := ev_RV (ds := ds) hR x
  have hi2 := ev_RV (ds := ds) hR i
  generalize Act.eval ⟨tmps, ds⟩ x = vx at hx ⊢
  generalize Act.eval ⟨tmps, ds⟩ i = vi at hi2 ⊢
  split at h
  · rename_i cs k q e1 e2
    rw [e1] at hx
    rw [e2] at hi2
    obtain rfl := hi2.int_inv
    split at h
    · rename_i hc
      split at h
      · rename_i c hcc
        simp only [Option.some.injEq, Prod.mk.injEq] at h
        obtain ⟨rfl, rfl⟩ := h
        obtain ⟨vs, rfl, hvs⟩ := hx.agg_inv
        obtain ⟨v, hv, hr⟩ := hvs.get hcc
        refine sim_same hR ?_ hr
        simp [Instr.index, asIntOf, run_underlying ht, hc, Go.part, run_isAgg hd, hda, run_sizeOf' hi, h1, hv]
      · exact absurd h (by simp)
    · exact absurd h (by simp)
  · exact absurd h (by simp)

theorem sim_idxn (hR : Rel G nt w0 base S0 S ρ st tmps w) (t e : TypeId) (len : Nat) (d : TypeDesc) (ie : TypeInfo) (ht : P.underlying t = some (.array len e)) (hd : P.underlying e = some d) (hda : descAgg d = true) (hi : P.info? e = some ie)
    (x i : Operand) {av : AV} {st' : St} (h : exI G (.idxn len ie.size (cR x) (cR i)) st = some (av, st')) :
    Sim P G nt w0 base S0 S ρ st tmps w (do pure (.value (← Instr.index t (Act.eval ⟨tmps, ds⟩ x) (Act.eval ⟨tmps, ds⟩ i)))) av st' := by
  simp only [exI] at h
  have hx := ev_RV (ds := ds) hR x
  have hi2 := ev_RV (ds := ds) hR i
  generalize Act.eval ⟨tmps, ds⟩ x = vx at hx ⊢
  generalize Act.eval ⟨tmps, ds⟩ i = vi at hi2 ⊢
  split at h
  · rename_i cs k q e1 e2
    rw [e1] at hx
    rw [e2] at hi2
    obtain rfl := hi2.int_inv
    split at h
    · rename_i hc
      simp only [Option.map_eq_some_iff, Prod.mk.injEq] at h
      obtain ⟨r, hp, rfl, rfl⟩ := h
      obtain ⟨vs, rfl, hvs⟩ := hx.agg_inv
      obtain ⟨_, hrl⟩ := seg_inv hp hvs
      refine sim_same (v := .agg (vs.toArray.extract (q.toNat * ie.size) (q.toNat * ie.size + ie.size))) hR ?_ ?_
      · simp only [Instr.index, asIntOf, Sem.run_bind, Sem.run_pure, run_underlying ht, Result.andThen_ok, hc, and_self, if_true, Go.part, run_isAgg hd, hda, run_sizeOf' hi]
      · have := RV.agg r _ hrl.1 hrl.2
        simpa using this
    · exact absurd h (by simp)
  · exact absurd h (by simp)

theorem sim_min2 (hR : Rel G nt w0 base S0 S ρ st tmps w) (ts : Array TypeId) (ty : TypeId) (x y : Operand) {av : AV} {st' : St} (h : exI G (.min2 (cR x) (cR y)) st = some (av, st')) :
    Sim P G nt w0 base S0 S ρ st tmps w (do pure (.value (← Builtin.min_ ts ty #[Act.eval ⟨tmps, ds⟩ x, Act.eval ⟨tmps, ds⟩ y]))) av st' := by
  simp only [exI] at h
  have hx := ev_RV (ds := ds) hR x
  have hy := ev_RV (ds := ds) hR y
  generalize Act.eval ⟨tmps, ds⟩ x = vx at hx ⊢
  generalize Act.eval ⟨tmps, ds⟩ y = vy at hy ⊢
  split at h
  · rename_i a b e1 e2
    rw [e1] at hx
    rw [e2] at hy
    obtain rfl := hx.int_inv
    obtain rfl := hy.int_inv
    simp only [Option.some.injEq, Prod.mk.injEq] at h
    obtain ⟨rfl, rfl⟩ := h
    refine sim_same (v := .int .i64 (if b < a then b else a)) hR ?_ (.int _ _)
    by_cases hba : b < a <;> simp [Builtin.min_, Builtin.min2, hba]
  · exact absurd h (by simp)
end
end Go.Am
