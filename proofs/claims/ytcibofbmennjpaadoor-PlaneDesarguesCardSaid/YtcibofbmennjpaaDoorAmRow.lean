/- What comes in, as the machine's values. -/
import Derived.Test.YtcibofbmennjpaaDoorAmView4
import Derived.Test.YtcibofbmennjpaaDoorAmW
import Derived.ProofKit
import Derived.Deep.Slices
import Derived.Lib.SmallJoins
import Derived.Test.YtcibofbmennjpaaDoorAmFd5
import Derived.Test.YtcibofbmennjpaaDoorShelf
import Derived.Test.YtcibofbmennjpaaDoorAmFdD
import Derived.Lib.LaidTab
import Derived.OpenShut
import Derived.ChangeOld
import Derived.Below
set_option linter.unusedVariables false
set_option linter.unusedSimpArgs false

namespace Go.Am

open Go.ChangeShapes Go.WideShapes Go.ChangeAt Go.RowKit

section
variable {P : Program} {H : Type} {enc : TypeId × Value → H} {w : World} {base : Nat} {held : Bool}

theorem block_lt {a : Addr} {v : Value} (h : w.cell? a = some v) : a.block < w.heap.size := by
  apply Classical.byContradiction
  intro hn
  have : w.heap[a.block]? = none := Array.getElem?_eq_none (by omega)
  simp [World.cell?, this] at h
theorem add_block (a : Addr) (i : Nat) : (a.add i).block = a.block := Addr.add_block a i

/-- A slice of ints. -/
theorem ints_RV {t e : TypeId} (ht : P.underlying t = some (.slice e)) (he : P.underlying e = some (.int .i64)) (hc : P.cellsOf e = 1) {fuel : Nat} {v : Value} {x : DataW H × List MemPlace}
    (h : DataW.trod enc P w base (fun _ => true) held fuel t [v] = some x) : ∃ o : Option (List Int), (o.getD []).length < 9223372036854775808 ∧ RV w (fun g => g < w.heap.size) [] [] (ints o) v := by
  rcases open_ints ht he hc h with ⟨hcs, _⟩ | ⟨a, l, c, zs, hcs, _, hl, hm, hz, _, hcell, _⟩
  · simp only [List.cons.injEq, and_true] at hcs
    subst hcs
    exact ⟨none, by simp, .nil⟩
  · simp only [List.cons.injEq, and_true] at hcs
    subst hcs
    simp only [if_true] at hz
    have hlen : (zs.take l).length = l := by rw [List.length_take]; omega
    refine ⟨some (zs.take l), by simp only [Option.getD_some]; rw [hlen]; unfold maxLen at hm; omega, ?_⟩
    have hr : RV w (fun g => g < w.heap.size) [] [] (.lst l ((zs.take l).map (AV.int .i64))) (.slice (some a) l c) := by
      refine .lst l c (some a) _ ((zs.take l).map (Value.int .i64)) (by simp) hl hm (fun j v hj => ?_) (fun j cc v h1 h2 => ?_)
      · rw [List.getElem?_map] at hj
        obtain ⟨n, hn, rfl⟩ := Option.map_eq_some_iff.1 hj
        have hj' : j < l := by have := (List.getElem?_eq_some_iff.1 hn).1; omega
        have hcj := hcell j (by omega)
        have hn' : zs.getD j 0 = n := by
          rw [List.getElem?_take, if_pos hj'] at hn
          rw [List.getD_eq_getElem?_getD, hn]; rfl
        rw [hn'] at hcj
        exact ⟨a, rfl, by have := block_lt hcj; rw [add_block] at this; exact this, hcj⟩
      · rw [List.getElem?_map] at h1 h2
        obtain ⟨n, hn, rfl⟩ := Option.map_eq_some_iff.1 h1
        rw [hn] at h2
        obtain rfl := Option.some.inj h2
        exact .int _ _
    unfold ints sl
    simp only [Option.map_some, List.length_map, hlen]
    exact hr

/-- A slice of slices of ints. -/
theorem rows_RV {t r e : TypeId} (ht : P.underlying t = some (.slice r)) (hcr : P.cellsOf r = 1) (hr : P.underlying r = some (.slice e)) (he : P.underlying e = some (.int .i64)) (hc : P.cellsOf e = 1) {fuel : Nat} {v : Value} {x : DataW H × List MemPlace}
    (h : DataW.trod enc P w base (fun _ => true) held fuel t [v] = some x) :
    ∃ o : Option (List (Option (List Int))), (o.getD []).length < 9223372036854775808 ∧ (∀ i, (((o.getD []).getD i none).getD []).length < 9223372036854775808) ∧ RV w (fun g => g < w.heap.size) [] [] (rowsV o) v := by
  rcases Go.Deep.open_slice1 ht hcr h with ⟨hcs, _⟩ | ⟨a, l, c, m, n, V, D, Pl, hcs, _, hl, hm, hmm, _, hx⟩
  · simp only [List.cons.injEq, and_true] at hcs
    subst hcs
    exact ⟨none, by simp, fun i => by simp, .nil⟩
  · simp only [List.cons.injEq, and_true] at hcs
    subst hcs
    simp only [if_true] at hmm
    subst hmm
    have hrow : ∀ i, i < l → ∃ o : Option (List Int), (o.getD []).length < 9223372036854775808 ∧ RV w (fun g => g < w.heap.size) [] [] (ints o) (V i) := fun i hi => ints_RV hr he hc (hx i (by omega)).2
    have hch : ∃ O : Nat → Option (List Int), ∀ i, i < l → ((O i).getD []).length < 9223372036854775808 ∧ RV w (fun g => g < w.heap.size) [] [] (ints (O i)) (V i) := by
      refine ⟨fun i => if hi : i < l then Classical.choose (hrow i hi) else none, fun i hi => ?_⟩
      simp only [hi, dif_pos]
      exact Classical.choose_spec (hrow i hi)
    obtain ⟨O, hO⟩ := hch
    have hlen : ((List.range l).map O).length = l := by simp
    refine ⟨some ((List.range l).map O), by simp only [Option.getD_some]; rw [hlen]; unfold maxLen at hm; omega, fun i => ?_, ?_⟩
    · simp only [Option.getD_some]
      by_cases hi : i < l
      · rw [List.getD_eq_getElem?_getD, List.getElem?_map, List.getElem?_range hi]
        exact (hO i hi).1
      · rw [List.getD_eq_getElem?_getD, List.getElem?_eq_none (by rw [hlen]; omega)]
        simp
    · have hrv : RV w (fun g => g < w.heap.size) [] [] (.lst l (((List.range l).map O).map ints)) (.slice (some a) l m) := by
        refine .lst l m (some a) _ ((List.range l).map V) (by simp) hl hm (fun j v hj => ?_) (fun j cc v h1 h2 => ?_)
        · have hj' : j < l := by have := (List.getElem?_eq_some_iff.1 hj).1; simpa using this
          rw [List.getElem?_map, List.getElem?_range hj'] at hj
          obtain rfl := Option.some.inj hj
          have hcj := (hx j (by omega)).1
          exact ⟨a, rfl, by have := block_lt hcj; rw [add_block] at this; exact this, hcj⟩
        · have hj' : j < l := by have := (List.getElem?_eq_some_iff.1 h2).1; simpa using this
          rw [List.getElem?_map, List.getElem?_range hj'] at h2
          rw [List.getElem?_map, List.getElem?_map, List.getElem?_range hj'] at h1
          obtain rfl := Option.some.inj h2
          obtain rfl := Option.some.inj h1
          exact (hO j hj').2
      unfold rowsV sl
      simp only [Option.map_some, List.length_map, List.length_range]
      exact hrv
end

end Go.Am

/- The door's table is the program's. -/
set_option linter.unusedVariables false
set_option linter.unusedSimpArgs false

namespace Go.Am

open Go.Proofs
theorem enters65 (args : Array Value) (w : World) : (callFunc 65 args).run Tryd.prog w = .ok (.enter 65 args) w := enters_of Tryd.func65 (by kernel_rfl) rfl args w
theorem tabD_ok : FOk Tryd.prog tabD := by
  intro f mf h
  unfold tabD at h
  split at h
  · cases h; exact .inl ⟨Tryd.f6, _, Tryd.func6, c6⟩
  · cases h; exact .inl ⟨Tryd.f7, _, Tryd.func7, c7⟩
  · cases h; exact .inl ⟨Tryd.f8, _, Tryd.func8, c8⟩
  · cases h; exact .inl ⟨Tryd.f9, _, Tryd.func9, c9⟩
  · cases h; exact .inl ⟨Tryd.f11, _, Tryd.func11, c11⟩
  · cases h; exact .inl ⟨Tryd.f23, _, Tryd.func23, c23⟩
  · cases h; exact .inl ⟨Tryd.f25, _, Tryd.func25, c25⟩
  · cases h; exact .inl ⟨Tryd.f26, _, Tryd.func26, c26⟩
  · cases h; exact .inl ⟨Tryd.f27, _, Tryd.func27, c27⟩
  · cases h; exact .inl ⟨Tryd.f28, _, Tryd.func28, c28⟩
  · cases h; exact .inl ⟨Tryd.f29, _, Tryd.func29, c29⟩
  · cases h; exact .inl ⟨Tryd.f30, _, Tryd.func30, c30⟩
  · cases h; exact .inl ⟨Tryd.f31, _, Tryd.func31, c31⟩
  · cases h; exact .inl ⟨Tryd.f32, _, Tryd.func32, c32⟩
  · cases h; exact .inl ⟨Tryd.f33, _, Tryd.func33, c33⟩
  · cases h; exact .inl ⟨Tryd.f34, _, Tryd.func34, c34⟩
  · cases h; exact .inl ⟨Tryd.f35, _, Tryd.func35, c35⟩
  · cases h; exact .inl ⟨Tryd.f36, _, Tryd.func36, c36⟩
  · cases h; exact .inl ⟨Tryd.f39, _, Tryd.func39, c39⟩
  · cases h; exact .inl ⟨Tryd.f40, _, Tryd.func40, c40⟩
  · cases h; exact .inl ⟨Tryd.f43, _, Tryd.func43, c43⟩
  · cases h; exact .inl ⟨Tryd.f50, _, Tryd.func50, c50⟩
  · cases h; exact .inl ⟨Tryd.f53, _, Tryd.func53, c53⟩
  · cases h; exact .inl ⟨Tryd.f72, _, Tryd.func72, c72⟩
  · cases h; exact .inl ⟨Tryd.f74, _, Tryd.func74, c74⟩
  · cases h; exact .inl ⟨Tryd.f75, _, Tryd.func75, c75⟩
  · cases h; exact .inl ⟨Tryd.f78, _, Tryd.func78, c78⟩
  · cases h; exact .inl ⟨Tryd.f79, _, Tryd.func79, c79⟩
  · cases h; exact .inl ⟨Tryd.f80, _, Tryd.func80, c80⟩
  · cases h; exact .inl ⟨Tryd.f81, _, Tryd.func81, c81⟩
  · cases h; exact .inl ⟨Tryd.f82, _, Tryd.func82, c82⟩
  · cases h; exact .inl ⟨Tryd.f83, _, Tryd.func83, c83⟩
  · cases h; exact .inl ⟨Tryd.f84, _, Tryd.func84, c84⟩
  · cases h; exact .inl ⟨Tryd.f85, _, Tryd.func85, c85⟩
  · cases h; exact .inl ⟨Tryd.f86, _, Tryd.func86, c86⟩
  · cases h; exact .inl ⟨Tryd.f87, _, Tryd.func87, c87⟩
  · cases h; exact .inl ⟨Tryd.f88, _, Tryd.func88, c88⟩
  · cases h; exact .inl ⟨Tryd.f89, _, Tryd.func89, c89⟩
  · cases h; exact .inl ⟨Tryd.f90, _, Tryd.func90, c90⟩
  · cases h; exact .inl ⟨Tryd.f91, _, Tryd.func91, c91⟩
  · cases h; exact .inl ⟨Tryd.f92, _, Tryd.func92, c92⟩
  · cases h; exact .inl ⟨Tryd.f93, _, Tryd.func93, c93⟩
  · cases h; exact .inl ⟨Tryd.f94, _, Tryd.func94, c94⟩
  · cases h; exact .inl ⟨Tryd.f98, _, Tryd.func98, c98⟩
  · cases h; exact .inl ⟨Tryd.f99, _, Tryd.func99, c99⟩
  · cases h; exact .inl ⟨Tryd.f100, _, Tryd.func100, c100⟩
  · cases h; exact .inl ⟨Tryd.f101, _, Tryd.func101, c101⟩
  · cases h; exact .inl ⟨Tryd.f108, _, Tryd.func108, c108⟩
  · cases h; exact .inl ⟨Tryd.f117, _, Tryd.func117, c117⟩
  · cases h; exact .inl ⟨Tryd.f123, _, Tryd.func123, c123⟩
  · cases h; exact .inl ⟨Tryd.f125, _, Tryd.func125, c125⟩
  · cases h; exact .inl ⟨Tryd.f126, _, Tryd.func126, c126⟩
  · cases h; exact .inl ⟨Tryd.f127, _, Tryd.func127, c127⟩
  · cases h; exact .inl ⟨Tryd.f129, _, Tryd.func129, c129⟩
  · cases h; exact .inl ⟨Tryd.f130, _, Tryd.func130, c130⟩
  · cases h; exact .inl ⟨Tryd.f131, _, Tryd.func131, c131⟩
  · cases h; exact .inr (sort_prim enters65 Tryd.slices_Sort_int Tryd.slices_Sort_int_none)
  · cases h

end Go.Am

/- What comes in at the door: the table, fields, designs, lists. -/
set_option linter.unusedVariables false
set_option linter.unusedSimpArgs false
set_option maxRecDepth 100000

namespace Go.Am

open Go.ChangeShapes Go.WideShapes Go.ChangeAt Go.RowKit Go.Joins Go.Proofs

theorem ownD : ownKnob Tryd.prog.godebug = none := by kernel_rfl
theorem laidOutD : laidOutB Tryd.prog = true := by kernel_rfl
theorem gPrimes : Tryd.prog.globalNamed "parterre/field.primes" = some 0 := by kernel_rfl
theorem cellsF : Tryd.prog.cellsOf 24 = 3 := by kernel_rfl
theorem cellsDes : Tryd.prog.cellsOf 39 = 2 := by kernel_rfl
theorem cellsI : Tryd.prog.cellsOf 3 = 1 := by kernel_rfl
theorem cellsL : Tryd.prog.cellsOf 22 = 1 := by kernel_rfl

theorem glob_RV {w : World} (h : Lib.TabIs Tryd.prog w "parterre/field.primes" .i64 primesI) (g : Nat) : RV w (fun g => g < w.heap.size) [] [] (.rptr (GP g)) (.pointer (some ⟨g, 0, none⟩)) := by
  cases g with
  | zero =>
    refine .rptr ⟨0, 0, none⟩ _ (primesI.map (Value.int .i64)) rfl (fun j v hj => ?_) (fun j c v h1 h2 => ?_)
    · rw [List.getElem?_map] at hj
      obtain ⟨n, hn, rfl⟩ := Option.map_eq_some_iff.1 hj
      have hlt := (List.getElem?_eq_some_iff.1 hn).1
      have hc := h.cell gPrimes j hlt
      rw [List.getD_eq_getElem?_getD, hn] at hc
      have e : (Addr.add ⟨0, 0, none⟩ j) = ⟨0, j, none⟩ := by
        simp [Addr.add]; try omega
      rw [e]
      have hb := block_lt hc
      exact ⟨hb, hc⟩
    · have h1' : (primesI.map (AV.int .i64))[j]? = some c := h1
      rw [List.getElem?_map] at h1' h2
      obtain ⟨n, hn, rfl⟩ := Option.map_eq_some_iff.1 h2
      rw [hn] at h1'
      obtain rfl := Option.some.inj h1'
      exact .int _ _
  | succ n => exact .rptr _ [] [] rfl (fun j v h => by simp at h) (fun j c v h => by simp at h)

section
variable {H : Type} {enc : TypeId × Value → H} {W : World} {base : Nat} {held : Bool}
theorem field_RV {b0 : Nat} {v : Value} {d : DataW H} {p : List MemPlace} (hv : Value.okWide Tryd.prog W .any b0 24 v) (h : DataW.Trod enc Tryd.prog W base (fun _ => true) held 24 v d p) :
    ∃ f : Fld, f.l.length < 9223372036854775808 ∧ RV W (fun g => g < W.heap.size) [] [] f.av v := by
  obtain ⟨c0, c1, c2, y0, y1, y2, m, rfl, _, _, hy0, hy1, hy2⟩ := open_agg3 Tryd.underlying24 (by kernel_rfl) cellsF hv h
  obtain ⟨a, e0, _, _⟩ := DataW.trod_int Tryd.underlying3 hy0
  simp at e0
  subst e0
  obtain ⟨b, e1, _, _⟩ := DataW.trod_int Tryd.underlying3 hy1
  simp at e1
  subst e1
  obtain ⟨o, hl, hv2⟩ := ints_RV Tryd.underlying22 Tryd.underlying3 cellsI hy2
  refine ⟨⟨a, b, o⟩, hl, ?_⟩
  exact .agg [.int .i64 a, .int .i64 b, ints o] [.int .i64 a, .int .i64 b, c2] rfl (fun j c v g1 g2 => (RVL.cons (.int _ _) (.cons (.int _ _) (.cons hv2 .nil))).2 j c v g1 g2)
theorem des_RV {b0 : Nat} {v : Value} {d : DataW H} {p : List MemPlace} (hv : Value.okWide Tryd.prog W .any b0 39 v) (h : DataW.Trod enc Tryd.prog W base (fun _ => true) held 39 v d p) :
    ∃ d : Des, d.Ok ∧ RV W (fun g => g < W.heap.size) [] [] d.av v := by
  obtain ⟨c0, c1, y0, y1, m, rfl, _, _, hy0, hy1⟩ := open_agg2 Tryd.underlying39 (by kernel_rfl) cellsDes hv h
  obtain ⟨a, e0, _, _⟩ := DataW.trod_int Tryd.underlying3 hy0
  simp at e0
  subst e0
  obtain ⟨o, hl, hr, hv⟩ := rows_RV Tryd.underlying33 cellsL Tryd.underlying22 Tryd.underlying3 cellsI hy1
  refine ⟨⟨a, o⟩, ⟨hl, hr⟩, ?_⟩
  exact .agg [.int .i64 a, rowsV o] [.int .i64 a, c1] rfl (fun j c v g1 g2 => (RVL.cons (.int _ _) (.cons hv .nil)).2 j c v g1 g2)
theorem list_RV {b0 : Nat} {v : Value} {d : DataW H} {p : List MemPlace} (hv : Value.okWide Tryd.prog W .any b0 22 v) (h : DataW.Trod enc Tryd.prog W base (fun _ => true) held 22 v d p) :
    ∃ o : Option (List Int), (o.getD []).length < 9223372036854775808 ∧ RV W (fun g => g < W.heap.size) [] [] (ints o) v := by
  obtain ⟨a0, len0, cap0, rfl⟩ := okWide_slice Tryd.underlying22 hv
  obtain ⟨fuel, hf⟩ := h
  exact ints_RV Tryd.underlying22 Tryd.underlying3 cellsI (by simpa [Value.cells] using hf)
theorem int_RV {b0 : Nat} {v : Value} {d : DataW H} {p : List MemPlace} (hv : Value.okWide Tryd.prog W .any b0 3 v) (h : DataW.Trod enc Tryd.prog W base (fun _ => true) held 3 v d p) :
    ∃ n : Int, (-9223372036854775808 ≤ n ∧ n ≤ 9223372036854775807) ∧ RV W (fun g => g < W.heap.size) [] [] (.int .i64 n) v := by
  obtain ⟨n, rfl, _, _, hn⟩ := open_int Tryd.underlying3 hv h
  refine ⟨n, ?_, .int _ _⟩
  simp only [Lit.wf, Bool.and_eq_true, decide_eq_true_eq] at hn
  exact hn
end

/-- What the machine answers, the program answers. -/
theorem answersD {w : World} (h : Lib.TabIs Tryd.prog w "parterre/field.primes" .i64 primesI) {f : Nat} {args : List AV} {vs : List Value} (hargs : RVL w (fun g => g < w.heap.size) [] [] args vs) (hpl : ∀ a ∈ args, Plain a) (hlen : args.length < 65535)
    (hp : pcall tabD (E GP tabD) f args = some (.val (.bool true), false)) : Calls Tryd.prog f vs.toArray w fun e w' => e = .returned (.bool true) ∧ Below w.heap.size w w' := by
  obtain ⟨n, hn⟩ := pcall_fuel GP tabD hp
  refine answers (vs := vs) (S := fun g => g < w.heap.size) tabD_ok (fun g => ?_) (fun g hg => hg) (glob_RV h) hargs ?_ hlen ?_ hn
  · cases g with
    | zero => exact (plain_ints (some primesI)).1
    | succ n => rfl
  · clear hargs hlen hp hn
    induction args with
    | nil => rfl
    | cons a l ih => simp [AV.closedL, (hpl a (by simp)).1, ih fun v hv => hpl v (by simp [hv])]
  · clear hargs hlen hp hn
    induction args with
    | nil => rfl
    | cons a l ih => rw [List.mapM_cons, (hpl a (by simp)).2 [], ih fun v hv => hpl v (by simp [hv])]; rfl

end Go.Am

