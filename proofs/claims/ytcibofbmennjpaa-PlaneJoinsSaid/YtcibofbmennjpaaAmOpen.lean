/- What comes in, as the machine's values. -/
import Derived.Test.YtcibofbmennjpaaAmView4
import Derived.Test.YtcibofbmennjpaaAmLaw
import Derived.ProofKit
import Derived.Deep.Slices
import Derived.Lib.SmallJoins
set_option linter.unusedVariables false
set_option linter.unusedSimpArgs false
namespace Go.Am
open Go.ChangeShapes Go.WideShapes Go.ChangeAt Go.RowKit

section
variable {P : Program} {H : Type} {enc : TypeId × Value → H} {w : World} {base : Nat} {held : Bool}

theorem block_lt {a : Addr} {v : Value} (h : w.cell? a = some v) : a.block < w.heap.size := by
  apply Classical.byContradiction
  intro hn
  have : w.heap[a.block]? = none := Array.getElem?_eq_none (by omega)
  simp [World.cell?, this] at h
theorem add_block (a : Addr) (i : Nat) : (a.add i).block = a.block := Addr.add_block a i

/-- A slice of ints. -/
theorem ints_RV {t e : TypeId} (ht : P.underlying t = some (.slice e)) (he : P.underlying e = some (.int .i64)) (hc : P.cellsOf e = 1) {fuel : Nat} {v : Value} {x : DataW H × List MemPlace}
    (h : DataW.trod enc P w base (fun _ => true) held fuel t [v] = some x) : ∃ o : Option (List Int), (o.getD []).length < 9223372036854775808 ∧ RV w (fun g => g < w.heap.size) [] [] (ints o) v := by
  rcases open_ints ht he hc h with ⟨hcs, _⟩ | ⟨a, l, c, zs, hcs, _, hl, hm, hz, _, hcell, _⟩
  · simp only [List.cons.injEq, and_true] at hcs
    subst hcs
    exact ⟨none, by simp, .nil⟩
  · simp only [List.cons.injEq, and_true] at hcs
    subst hcs
    simp only [if_true] at hz
    have hlen : (zs.take l).length = l := by rw [List.length_take]; omega
    refine ⟨some (zs.take l), by simp only [Option.getD_some]; rw [hlen]; unfold maxLen at hm; omega, ?_⟩
    have hr : RV w (fun g => g < w.heap.size) [] [] (.lst l ((zs.take l).map (AV.int .i64))) (.slice (some a) l c) := by
      refine .lst l c (some a) _ ((zs.take l).map (Value.int .i64)) (by simp) hl hm (fun j v hj => ?_) (fun j cc v h1 h2 => ?_)
      · rw [List.getElem?_map] at hj
        obtain ⟨n, hn, rfl⟩ := Option.map_eq_some_iff.1 hj
        have hj' : j < l := by have := (List.getElem?_eq_some_iff.1 hn).1; omega
        have hcj := hcell j (by omega)
        have hn' : zs.getD j 0 = n := by
          rw [List.getElem?_take, if_pos hj'] at hn
          rw [List.getD_eq_getElem?_getD, hn]; rfl
        rw [hn'] at hcj
        exact ⟨a, rfl, by have := block_lt hcj; rw [add_block] at this; exact this, hcj⟩
      · rw [List.getElem?_map] at h1 h2
        obtain ⟨n, hn, rfl⟩ := Option.map_eq_some_iff.1 h1
        rw [hn] at h2
        obtain rfl := Option.some.inj h2
        exact .int _ _
    unfold ints sl
    simp only [Option.map_some, List.length_map, hlen]
    exact hr

/-- A slice of slices of ints. -/
theorem rows_RV {t r e : TypeId} (ht : P.underlying t = some (.slice r)) (hcr : P.cellsOf r = 1) (hr : P.underlying r = some (.slice e)) (he : P.underlying e = some (.int .i64)) (hc : P.cellsOf e = 1) {fuel : Nat} {v : Value} {x : DataW H × List MemPlace}
    (h : DataW.trod enc P w base (fun _ => true) held fuel t [v] = some x) :
    ∃ o : Option (List (Option (List Int))), (o.getD []).length < 9223372036854775808 ∧ (∀ i, (((o.getD []).getD i none).getD []).length < 9223372036854775808) ∧ RV w (fun g => g < w.heap.size) [] [] (rowsV o) v := by
  rcases Go.Deep.open_slice1 ht hcr h with ⟨hcs, _⟩ | ⟨a, l, c, m, n, V, D, Pl, hcs, _, hl, hm, hmm, _, hx⟩
  · simp only [List.cons.injEq, and_true] at hcs
    subst hcs
    exact ⟨none, by simp, fun i => by simp, .nil⟩
  · simp only [List.cons.injEq, and_true] at hcs
    subst hcs
    simp only [if_true] at hmm
    subst hmm
    have hrow : ∀ i, i < l → ∃ o : Option (List Int), (o.getD []).length < 9223372036854775808 ∧ RV w (fun g => g < w.heap.size) [] [] (ints o) (V i) := fun i hi => ints_RV hr he hc (hx i (by omega)).2
    have hch : ∃ O : Nat → Option (List Int), ∀ i, i < l → ((O i).getD []).length < 9223372036854775808 ∧ RV w (fun g => g < w.heap.size) [] [] (ints (O i)) (V i) := by
      refine ⟨fun i => if hi : i < l then Classical.choose (hrow i hi) else none, fun i hi => ?_⟩
      simp only [hi, dif_pos]
      exact Classical.choose_spec (hrow i hi)
    obtain ⟨O, hO⟩ := hch
    have hlen : ((List.range l).map O).length = l := by simp
    refine ⟨some ((List.range l).map O), by simp only [Option.getD_some]; rw [hlen]; unfold maxLen at hm; omega, fun i => ?_, ?_⟩
    · simp only [Option.getD_some]
      by_cases hi : i < l
      · rw [List.getD_eq_getElem?_getD, List.getElem?_map, List.getElem?_range hi]
        exact (hO i hi).1
      · rw [List.getD_eq_getElem?_getD, List.getElem?_eq_none (by rw [hlen]; omega)]
        simp
    · have hrv : RV w (fun g => g < w.heap.size) [] [] (.lst l (((List.range l).map O).map ints)) (.slice (some a) l m) := by
        refine .lst l m (some a) _ ((List.range l).map V) (by simp) hl hm (fun j v hj => ?_) (fun j cc v h1 h2 => ?_)
        · have hj' : j < l := by have := (List.getElem?_eq_some_iff.1 hj).1; simpa using this
          rw [List.getElem?_map, List.getElem?_range hj'] at hj
          obtain rfl := Option.some.inj hj
          have hcj := (hx j (by omega)).1
          exact ⟨a, rfl, by have := block_lt hcj; rw [add_block] at this; exact this, hcj⟩
        · have hj' : j < l := by have := (List.getElem?_eq_some_iff.1 h2).1; simpa using this
          rw [List.getElem?_map, List.getElem?_range hj'] at h2
          rw [List.getElem?_map, List.getElem?_map, List.getElem?_range hj'] at h1
          obtain rfl := Option.some.inj h2
          obtain rfl := Option.some.inj h1
          exact (hO j hj').2
      unfold rowsV sl
      simp only [Option.map_some, List.length_map, List.length_range]
      exact hrv
end
end Go.Am
