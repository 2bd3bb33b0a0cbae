/- For every design and every two numbers the law 'is any design a plane; the block of two points, the point of two blocks' returns true, and each argument reads afterwards as it read before. No condition. -/
import Derived.Test.YtcibofbmennjpaaAmPl15
import Derived.Test.YtcibofbmennjpaaAmTab
import Derived.Test.YtcibofbmennjpaaRows
import Derived.OpenShut
import Derived.ShutString
import Derived.ChangeOld
import Derived.Below
namespace Go.Proofs.Ytcibofbmennjpaa.planeJoins
open Go.ChangeShapes Go.WideShapes Go.ChangeAt Go.RowKit Go.Joins Go.Am
set_option linter.unusedVariables false

theorem own : ownKnob Try.prog.godebug = none := by kernel_rfl
theorem laidOut : laidOutB Try.prog = true := by kernel_rfl
theorem cells24 : Try.prog.cellsOf 24 = 2 := by kernel_rfl
theorem cells25 : Try.prog.cellsOf 25 = 1 := by kernel_rfl
theorem cells3 : Try.prog.cellsOf 3 = 1 := by kernel_rfl

theorem walk (d : Des) (hd : d.Ok) (p q : Int) (v0 : Value) (w : World) (h0 : RV w (fun g => g < w.heap.size) [] [] d.av v0) :
    Calls Try.prog 4 #[v0, .int .i64 p, .int .i64 q] w fun e w' => e = .returned (.bool true) ∧ Below w.heap.size w w' := by
  obtain ⟨n, hn⟩ := pcall_fuel (fun _ => []) tab (PlaneJoins_true (G := fun _ => []) tab_Tbl d hd p q)
  refine answers (vs := [v0, .int .i64 p, .int .i64 q]) (S := fun g => g < w.heap.size) tab_ok (fun _ => rfl) (fun g hg => hg) (fun g => .rptr _ _ [] rfl (fun j v h => by simp at h) (fun j c v h => by simp at h)) (.cons h0 (.cons (.int _ _) (.cons (.int _ _) .nil))) ?_ (by simp) ?_ hn
  · simp [AV.closedL, AV.closed, (plain_des d).1]
  · rw [List.mapM_cons, (plain_des d).2 []]; rfl

set_option maxRecDepth 100000 in
theorem lifted (os : Os) (started : os.Started) (H : Type) (enc : TypeId × Value → H) :
    ReturnsInHanded {} Try.checked os 4 .any (Rows.planeJoinsSpec.pre6 enc Try.prog Try.f4 Rows.planeJoinsRow.domain false) (Rows.planeJoinsSpec.post enc Try.prog Try.f4 false true false false) := by
  refine returnsInHanded_of_change (C := Try.checked) own started (by kernel_rfl) Try.func4
    (ChangeSpec.witness6 (enc := enc) (C := Try.checked) false ⟨#[], #[.agg #[.int .i64 0, .slice none 0 0], .int .i64 0, .int .i64 0], []⟩ 8 (by kernel_rfl) (by kernel_rfl) (by kernel_rfl) (by kernel_rfl)) ?_
  intro W base args ds gs before hval0 hW hcnd _
  have hval : ∀ (j : Nat) t v, Try.f4.params[j]? = some t → args[j]? = some v → Value.okWide Try.prog W .any base t v := hval0
  have hW' := hW
  obtain ⟨p, q, hA0, hV, rfl, hfz, hnd⟩ := hW
  have hA : DataW.TrodAll enc Try.prog W 0 (fun _ => true) true Try.f4.params.toList args.toList ds p := hA0
  rw [Try.params4] at hA hval
  obtain ⟨v0, vs0, d0, ds0, p0, q0, hargs, rfl, rfl, h0, r0⟩ := trodAll_cons hA
  obtain ⟨v1, vs1, d1, ds1, p1, q1, rfl, rfl, rfl, h1, r1⟩ := trodAll_cons r0
  obtain ⟨v2, vs2, d2, ds2, p2, q2, rfl, rfl, rfl, h2, r2⟩ := trodAll_cons r1
  obtain ⟨rfl, rfl, rfl⟩ := trodAll_nil r2
  obtain rfl : args = #[v0, v1, v2] := by cases args; simp_all
  obtain ⟨rfl, rfl⟩ := trodVars_none hV
  have k0 := h0
  have lt0 : ∀ x ∈ p0, x.block < W.heap.size := by obtain ⟨m, hm⟩ := k0; exact DataW.trod_lt m _ _ _ hm
  obtain ⟨d, hd, hv0⟩ : ∃ d : Des, d.Ok ∧ RV W (fun g => g < W.heap.size) [] [] d.av v0 := by
    obtain ⟨c0, c1, y0, y1, m, rfl, _, _, hy0, hy1⟩ := open_agg2 Try.underlying24 (by kernel_rfl) cells24 (hval 0 24 v0 rfl rfl) h0
    obtain ⟨a, e0, _, _⟩ := DataW.trod_int Try.underlying3 hy0
    simp at e0
    subst e0
    obtain ⟨o, hl, hr, hv⟩ := rows_RV Try.underlying22 cells25 Try.underlying25 Try.underlying3 cells3 hy1
    refine ⟨⟨a, o⟩, ⟨hl, hr⟩, ?_⟩
    exact .agg [.int .i64 a, rowsV o] [.int .i64 a, c1] rfl (fun j c v g1 g2 => (RVL.cons (.int _ _) (.cons hv .nil)).2 j c v g1 g2)
  obtain ⟨a1, rfl, rfl, rfl, w1⟩ := open_int Try.underlying3 (hval 1 3 v1 rfl rfl) h1
  obtain ⟨a2, rfl, rfl, rfl, w2⟩ := open_int Try.underlying3 (hval 2 3 v2 rfl rfl) h2
  clear hA0 hval0
  refine (walk d hd a1 a2 v0 W hv0).mono fun e W' ⟨he, bel⟩ => ?_
  subst he
  exact ⟨_, rfl, _, _, _, [], _, [], hW', trodAll_mk1 (shut_bool Try.underlying4 _), (trodAll_cons_mk (Below.trod laidOut (by kernel_rfl) (of_decide_eq_true (by kernel_rfl)) k0 bel lt0) (trodAll_cons_mk (shut_int Try.underlying3 w1) (trodAll_cons_mk (shut_int Try.underlying3 w2) trodAll_mk0))), rfl, bel.frame _, fun h => by cases h⟩

theorem over : Rows.planeJoinsRow.holds Try.pinned (OpenSpec.ofChange Rows.planeJoinsSpec) :=
  OpenClaim.holds_of_wide 4 Try.f4 rfl rfl rfl rfl rfl rfl rfl ⟨rfl, rfl, rfl, rfl, rfl⟩ rfl rfl rfl rfl rfl (by kernel_rfl) Try.func4 (by kernel_rfl)
    (of_decide_eq_true (by kernel_rfl)) (by unfold Func.isWrapper; first | (rw [if_pos (by decide +kernel)]; kernel_rfl) | (rw [if_neg (by decide +kernel)]; exact ⟨rfl, rfl⟩))
    (fun os started H enc _ => lifted os started H enc)

theorem proved : Rows.PlaneJoinsSaid := over
#print axioms proved
end Go.Proofs.Ytcibofbmennjpaa.planeJoins
