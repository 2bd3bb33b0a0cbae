/- For every design and every points the law 'do any points of any plane have no three in a block?' returns true, and each argument reads afterwards as it read before. No condition. -/
import Derived.Test.YtcibofbmennjpaaAmTab
import Derived.Test.YtcibofbmennjpaaRows
import Derived.OpenShut
import Derived.ShutString
import Derived.ChangeOld
import Derived.Below
namespace Go.Proofs.Ytcibofbmennjpaa.planeArcs
open Go.ChangeShapes Go.WideShapes Go.ChangeAt Go.RowKit Go.Joins Go.Am
set_option linter.unusedVariables false

theorem own : ownKnob Try.prog.godebug = none := by kernel_rfl
theorem laidOut : laidOutB Try.prog = true := by kernel_rfl
theorem cells24 : Try.prog.cellsOf 24 = 2 := by kernel_rfl
theorem cells25 : Try.prog.cellsOf 25 = 1 := by kernel_rfl
theorem cells3 : Try.prog.cellsOf 3 = 1 := by kernel_rfl

theorem walk (d : Des) (hd : d.Ok) (o : Option (List Int)) (ho : (o.getD []).length < 9223372036854775808) (v0 v1 : Value) (w : World) (h0 : RV w (fun g => g < w.heap.size) [] [] d.av v0) (h1 : RV w (fun g => g < w.heap.size) [] [] (ints o) v1) :
    Calls Try.prog 3 #[v0, v1] w fun e w' => e = .returned (.bool true) ∧ Below w.heap.size w w' := by
  obtain ⟨n, hn⟩ := pcall_fuel (fun _ => []) tab (PlaneArcs_true (G := fun _ => []) tab_Tbl d hd o ho)
  refine answers (vs := [v0, v1]) (S := fun g => g < w.heap.size) tab_ok (fun _ => rfl) (fun g hg => hg) (fun g => .rptr _ _ [] rfl (fun j v h => by simp at h) (fun j c v h => by simp at h)) (.cons h0 (.cons h1 .nil)) ?_ (by simp) ?_ hn
  · simp [AV.closedL, (plain_des d).1, (plain_ints o).1]
  · rw [List.mapM_cons, List.mapM_cons, (plain_des d).2 [], (plain_ints o).2 []]; rfl

set_option maxRecDepth 100000 in
theorem lifted (os : Os) (started : os.Started) (H : Type) (enc : TypeId × Value → H) :
    ReturnsInHanded {} Try.checked os 3 .any (Rows.planeArcsSpec.pre6 enc Try.prog Try.f3 Rows.planeArcsRow.domain false) (Rows.planeArcsSpec.post enc Try.prog Try.f3 false true false false) := by
  refine returnsInHanded_of_change (C := Try.checked) own started (by kernel_rfl) Try.func3
    (ChangeSpec.witness6 (enc := enc) (C := Try.checked) false ⟨#[], #[.agg #[.int .i64 0, .slice none 0 0], .slice none 0 0], []⟩ 8 (by kernel_rfl) (by kernel_rfl) (by kernel_rfl) (by kernel_rfl)) ?_
  intro W base args ds gs before hval0 hW hcnd _
  have hval : ∀ (j : Nat) t v, Try.f3.params[j]? = some t → args[j]? = some v → Value.okWide Try.prog W .any base t v := hval0
  have hW' := hW
  obtain ⟨p, q, hA0, hV, rfl, hfz, hnd⟩ := hW
  have hA : DataW.TrodAll enc Try.prog W 0 (fun _ => true) true Try.f3.params.toList args.toList ds p := hA0
  rw [Try.params3] at hA hval
  obtain ⟨v0, vs0, d0, ds0, p0, q0, hargs, rfl, rfl, h0, r0⟩ := trodAll_cons hA
  obtain ⟨v1, vs1, d1, ds1, p1, q1, rfl, rfl, rfl, h1, r1⟩ := trodAll_cons r0
  obtain ⟨rfl, rfl, rfl⟩ := trodAll_nil r1
  obtain rfl : args = #[v0, v1] := by cases args; simp_all
  obtain ⟨rfl, rfl⟩ := trodVars_none hV
  have k0 := h0
  have k1 := h1
  have lt0 : ∀ x ∈ p0, x.block < W.heap.size := by obtain ⟨m, hm⟩ := k0; exact DataW.trod_lt m _ _ _ hm
  have lt1 : ∀ x ∈ p1, x.block < W.heap.size := by obtain ⟨m, hm⟩ := k1; exact DataW.trod_lt m _ _ _ hm
  obtain ⟨d, hd, hv0⟩ : ∃ d : Des, d.Ok ∧ RV W (fun g => g < W.heap.size) [] [] d.av v0 := by
    obtain ⟨c0, c1, y0, y1, m, rfl, _, _, hy0, hy1⟩ := open_agg2 Try.underlying24 (by kernel_rfl) cells24 (hval 0 24 v0 rfl rfl) h0
    obtain ⟨a, e0, _, _⟩ := DataW.trod_int Try.underlying3 hy0
    simp at e0
    subst e0
    obtain ⟨o, hl, hr, hv⟩ := rows_RV Try.underlying22 cells25 Try.underlying25 Try.underlying3 cells3 hy1
    refine ⟨⟨a, o⟩, ⟨hl, hr⟩, ?_⟩
    exact .agg [.int .i64 a, rowsV o] [.int .i64 a, c1] rfl (fun j c v g1 g2 => (RVL.cons (.int _ _) (.cons hv .nil)).2 j c v g1 g2)
  obtain ⟨o, ho, hv1⟩ : ∃ o : Option (List Int), (o.getD []).length < 9223372036854775808 ∧ RV W (fun g => g < W.heap.size) [] [] (ints o) v1 := by
    obtain ⟨a0, len0, cap0, rfl⟩ := okWide_slice Try.underlying25 (hval 1 25 v1 rfl rfl)
    obtain ⟨fuel, hf⟩ := h1
    exact ints_RV Try.underlying25 Try.underlying3 cells3 (by simpa [Value.cells] using hf)
  clear hA0 hval0
  refine (walk d hd o ho v0 v1 W hv0 hv1).mono fun e W' ⟨he, bel⟩ => ?_
  subst he
  exact ⟨_, rfl, _, _, _, [], _, [], hW', trodAll_mk1 (shut_bool Try.underlying4 _), (trodAll_cons_mk (Below.trod laidOut (by kernel_rfl) (of_decide_eq_true (by kernel_rfl)) k0 bel lt0) (trodAll_cons_mk (Below.trod laidOut (by kernel_rfl) (of_decide_eq_true (by kernel_rfl)) k1 bel lt1) trodAll_mk0)), rfl, bel.frame _, fun h => by cases h⟩

theorem over : Rows.planeArcsRow.holds Try.pinned (OpenSpec.ofChange Rows.planeArcsSpec) :=
  OpenClaim.holds_of_wide 3 Try.f3 rfl rfl rfl rfl rfl rfl rfl ⟨rfl, rfl, rfl, rfl, rfl⟩ rfl rfl rfl rfl rfl (by kernel_rfl) Try.func3 (by kernel_rfl)
    (of_decide_eq_true (by kernel_rfl)) (by unfold Func.isWrapper; first | (rw [if_pos (by decide +kernel)]; kernel_rfl) | (rw [if_neg (by decide +kernel)]; exact ⟨rfl, rfl⟩))
    (fun os started H enc _ => lifted os started H enc)

theorem proved : Rows.PlaneArcsSaid := over
#print axioms proved
end Go.Proofs.Ytcibofbmennjpaa.planeArcs
