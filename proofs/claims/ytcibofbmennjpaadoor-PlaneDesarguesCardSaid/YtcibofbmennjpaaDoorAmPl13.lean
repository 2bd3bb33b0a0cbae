/- plane.Check, PlaneOrder: what they answer. -/
import Derived.Test.YtcibofbmennjpaaDoorAmPl12
set_option linter.unusedVariables false
set_option linter.unusedSimpArgs false
namespace Go.Am

/-- The table of the compiled functions. -/
structure Tbl (F : Nat → Option MF) : Prop where
  f_plane_Arc : F 34 = some mf34
  f_plane_Check : F 28 = some mf28
  f_plane_Join : F 33 = some mf33
  f_plane_Meet : F 30 = some mf30
  f_slices_ContainsFunc : F 72 = some mf72
  f_plane_Arc_1 : F 91 = some mf91
  f_slices_Contains : F 75 = some mf75
  f_design_Check : F 50 = some mf50
  f_plane_linesOf : F 81 = some mf81
  f_design_Meets : F 23 = some mf23
  f_slices_Equal : F 82 = some mf82
  f_plane_four : F 83 = some mf83
  f_plane_one : F 84 = some mf84
  f_plane_Join_1 : F 88 = some mf88
  f_slices_IndexFunc : F 89 = some mf89
  f_plane_Join_1_1 : F 90 = some mf90
  f_plane_Meet_1 : F 85 = some mf85
  f_slices_IndexFunc_v1 : F 86 = some mf86
  f_plane_Meet_1_1 : F 87 = some mf87
  f_Ref2_Lies : F 25 = some mf25
  f_slices_Index : F 117 = some mf117
  f_design_Check_1 : F 108 = some mf108
  f_design_sets : F 53 = some mf53
  f_math_bits_OnesCount64 : F 74 = some mf74
  f_Sort : F 65 = some mfSort

/-- The answer about a design's order. -/
def Ord (d : Des) (o e : Int) : Prop :=
  (Fault d e ∧ e ≠ 0 ∧ o = 0) ∨ (Fault d 0 ∧ (∀ n, Good d n → ¬ PlaneP d n) ∧ o = 0 ∧ e = 4) ∨ (Fault d 0 ∧ (∃ n, Good d n ∧ PlaneP d n) ∧ o = ((d.rw 0).length : Int) - 1 ∧ e = 0)

theorem Ord.one {d : Des} {o e o' e' : Int} (h : Ord d o e) (h' : Ord d o' e') : o = o' ∧ e = e' := by
  rcases h with ⟨h1, h2, h3⟩ | ⟨h1, h2, h3, h4⟩ | ⟨h1, ⟨n, h2, hp⟩, h3, h4⟩ <;> rcases h' with ⟨g1, g2, g3⟩ | ⟨g1, g2, g3, g4⟩ | ⟨g1, ⟨n', g2, gp⟩, g3, g4⟩
  · exact ⟨h3.trans g3.symm, h1.one g1⟩
  · exact absurd (h1.one g1) h2
  · exact absurd (h1.one g1) h2
  · exact absurd (g1.one h1) g2
  · exact ⟨h3.trans g3.symm, h4.trans g4.symm⟩
  · exact absurd gp (h2 n' g2)
  · exact absurd (g1.one h1) g2
  · exact absurd hp (g2 n h2)
  · exact ⟨h3.trans g3.symm, h4.trans g4.symm⟩

theorem PlaneP.rows {d : Des} {n : Nat} (h : PlaneP d n) : 0 < d.rows.length := by
  have h2 := h.two 1 0 (by omega) (by have := h.four; omega)
  have := d.both_le (1 : Nat) (0 : Nat) d.rows.length
  omega
theorem Good.len {d : Des} {n : Nat} (hg : Good d n) (i : Nat) : (d.rw i).length ≤ 40 := by
  have := nodup_sub (a := d.rw i) (b := (List.range 40).map fun (x : Nat) => (x : Int)) (hg.nodup i) fun x hx => List.mem_map.2 ⟨x.toNat, List.mem_range.2 (by have := hg.inn i x hx; have := hg.hi; omega), by have := hg.inn i x hx; omega⟩
  simpa using this

section
variable {G : Nat → List AV} {F : Nat → Option MF} {rec : Rec}



set_option maxHeartbeats 2000000 in
theorem Check_spec (T : Tbl F) (d : Des) (hd : d.Ok) :
    ∃ v, pcall F (E G F) 28 [d.av] = some (.val v, false) ∧ ∃ o e, v = .tup [.int .i64 o, .int .i64 e] ∧ Ord d o e := by
  obtain ⟨v0, hc0, e0, rfl, hf0⟩ := pcall_Check (G := G) T.f_design_Check T.f_design_Check_1 T.f_slices_ContainsFunc T.f_slices_IndexFunc_v1 d hd
  have hH : ∀ x, Has (⟨d.cells, 2, 39, .live⟩ :: x) 0 d.cells := fun x => ⟨_, rfl, rfl, by simp⟩
  have hfa := fun x tm rb o off => (hH x).faddr tm rb 2 o off rfl
  have hld := fun x tm rb off => (hH x).ld1 tm rb 2 off rfl
  have hldn := fun x tm rb => (hH x).ldn tm rb 2 rfl
  have hda : AV.agg d.cells = d.av := rfl
  refine pcall_ex T.f_plane_Check (fun v ⟨o, e, he, _⟩ => he ▸ ⟨fun _ _ h => (by cases h), fun _ => rfl, fun _ => rfl⟩) ?_
  unfold mf28
  simp only
  by_cases h0 : e0 = 0
  · subst h0
    obtain ⟨n, hg⟩ := hf0.good
    obtain ⟨v1, hc1, l, ok, rfl, hll, hok, htab⟩ := linesOf_spec (G := G) T.f_plane_linesOf d hd n hg.pts hg.lo hg.hi hg.rows hg.inn hg.nodup
    obtain ⟨v2, hc2, out, rfl, hgot⟩ := Meets_spec (G := G) T.f_design_Meets T.f_design_Check T.f_design_Check_1 T.f_slices_ContainsFunc T.f_slices_IndexFunc_v1 T.f_design_sets T.f_math_bits_OnesCount64 T.f_slices_Contains T.f_slices_Index T.f_Sort d hd hf0 hg.rows hg.bits hg.nodup
    obtain ⟨v3, hc3, q, rfl, hq⟩ := four_spec (G := G) T.f_plane_four d n hg.pts hg.hi l hll
    have hsl : (sorted out).length < 9223372036854775808 := by
      rw [sorted_length]
      have := nodup_sub (b := (List.range 41).map fun (x : Nat) => (x : Int)) hgot.nodup fun x hx => by
        obtain ⟨a, b, _, _, rfl⟩ := (hgot.mem x).1 hx
        have := together_le (d.rw a) (d.rw b)
        have := hg.len a
        exact List.mem_map.2 ⟨together (d.rw a) (d.rw b), List.mem_range.2 (by omega), rfl⟩
      simp at this; omega
    have heq : ∀ st, doCall F (E G F) .pureV 82 [ints (optL (sorted out)), .lst 1 [.int .i64 1]] st = some (.bool (decide (sorted out = [1])), st) := fun st => by
      have h1 := doCall_plain2 (F := F) (rec := E G F) (f := 82) (st := st) (plain_ints (optL (sorted out))) (plain_ints (some [1]))
      rw [Equal_spec (G := G) T.f_slices_Equal (optL (sorted out)) (some [1]) (by rw [optL_getD]; exact hsl) (by simp), optL_getD] at h1
      exact h1
    obtain ⟨Z, hZ⟩ : ∃ Z : List Int, Z = List.replicate 1600 0 := ⟨_, rfl⟩
    have hrep : List.replicate 1600 (AV.int .i64 0) = Z.map (AV.int .i64) := by rw [hZ, List.map_replicate]
    have hZl : Z.length = 1600 := by rw [hZ, List.length_replicate]
    have hZm : (Z.map (AV.int .i64)).length = 1600 := by rw [List.length_map, hZl]
    have hB : ∀ l', HasArr [⟨d.cells, 2, 39, .live⟩, ⟨l'.map (.int .i64), 1600, 124, .live⟩] 1 1600 124 l' := fun l' => rfl
    have hwh := fun tm rb => (hB Z).whole tm rb 1600 hZl.symm l hll
    have hldl := fun tm rb => (hB l).has.ldn tm rb 1600 (by rw [List.length_map, hll])
    have x0 : ∀ (a b : AV), [a, b][0]? = some a := fun _ _ => rfl
    have x1 : ∀ (a b : AV), [a, b][1]? = some b := fun _ _ => rfl
    have hpl := plain_arr l
    have hcall3 : ∀ st, doCall F (E G F) .pureV 83 [d.av, .agg (l.map (.int .i64))] st = some (.bool q, st) := fun st => by
      rw [doCall_plain2 (plain_des d) (plain_arr l), hc3]; rfl
    have hiff := check_plane (l := l) (m := full l) hg hgot (fun hu => by
      obtain ⟨m, ht⟩ := htab (hok.2 hu)
      have := ht.cnt
      subst this
      exact ht)
    rw [← hok, ← hq] at hiff
    have bad : ¬ (ok = true ∧ sorted out = [1] ∧ q = true) → Ord d 0 4 := fun hn => .inr (.inl ⟨hf0, fun n' hg' hp => by
        have : n' = n := by have := hg.pts; have := hg'.pts; omega
        subst this
        exact hn (hiff.2 hp), rfl, rfl⟩)
    cases ok with
    | false =>
      repeat' first
        | refine W_seq ?_
        | refine W_skip ?_
        | refine W_exit ?_
        | refine W_ret ?_
        | refine W_block ?_
        | (refine W_ops (by simp (maxSteps := 1000000) (disch := first | decide | omega | assumption | exact plain_int _ _ | exact plain_ints _ | exact plain_bool _ | exact one_int _ _ | exact plain_des _ | exact plain_rows _) only [AM, initTm, Nat.reduceAdd, Nat.reduceEqDiff, reduceCtorEq, run_aaddr, run_stn, run_bld, bldV_nil, hldn, hda, hc0, hc1, hc2, hc3, bne_self_eq_false, hrep, hZm, hwh, hldl, List.length_cons, List.length_nil, List.set_cons_succ, List.set_cons_zero, x0, x1, heq, hcall3]; rfl) ?_)
        | (refine W_cond (by simp (maxSteps := 1000000) (disch := first | decide | omega | assumption | exact plain_int _ _ | exact plain_ints _ | exact plain_bool _ | exact one_int _ _ | exact plain_des _ | exact plain_rows _) only [AM, initTm, Nat.reduceAdd, Nat.reduceEqDiff, reduceCtorEq, run_aaddr, run_stn, run_bld, bldV_nil, hldn, hda, hc0, hc1, hc2, hc3, bne_self_eq_false, hrep, hZm, hwh, hldl, List.length_cons, List.length_nil, List.set_cons_succ, List.set_cons_zero, x0, x1, heq, hcall3]; rfl) ?_ ?_ <;> intro hcond <;> (try simp only [decide_eq_true_eq, decide_eq_false_iff_not, beq_iff_eq, beq_eq_false_iff_ne, ne_eq, reduceCtorEq, Bool.not_eq_true', Bool.not_eq_false', bne_iff_ne, bne_eq_false_iff_eq] at hcond) <;> (try (exfalso; omega)))
        | refine thenQ_n ?_
        | refine thenQ_e ?_
        | refine thenQ_r ?_
        | refine outQ_n ?_
        | refine outQ_r ?_
        | refine outQ_e ?_
        | refine outQ_d (by decide) ?_
      exact ⟨.inr rfl, [_, _], rfl, 0, 4, by unfold tuple; simp (maxSteps := 1000000) (disch := first | decide | omega | assumption | exact plain_int _ _ | exact plain_ints _ | exact plain_bool _ | exact one_int _ _ | exact plain_des _ | exact plain_rows _) only [AM, initTm, Nat.reduceAdd, Nat.reduceEqDiff, reduceCtorEq, run_aaddr, run_stn, run_bld, bldV_nil], bad (fun h => by cases h.1)⟩
    | true =>
      by_cases hs : sorted out = [1]
      · have heq' : ∀ st, doCall F (E G F) .pureV 82 [ints (optL (sorted out)), .lst 1 [.int .i64 1]] st = some (.bool true, st) := fun st => by rw [heq, decide_eq_true hs]
        cases q with
        | false =>
          repeat' first
            | refine W_seq ?_
            | refine W_skip ?_
            | refine W_exit ?_
            | refine W_ret ?_
            | refine W_block ?_
            | (refine W_ops (by simp (maxSteps := 1000000) (disch := first | decide | omega | assumption | exact plain_int _ _ | exact plain_ints _ | exact plain_bool _ | exact one_int _ _ | exact plain_des _ | exact plain_rows _) only [AM, initTm, Nat.reduceAdd, Nat.reduceEqDiff, reduceCtorEq, run_aaddr, run_stn, run_bld, bldV_nil, hldn, hda, hc0, hc1, hc2, hc3, bne_self_eq_false, hrep, hZm, hwh, hldl, List.length_cons, List.length_nil, List.set_cons_succ, List.set_cons_zero, x0, x1, heq', hcall3]; rfl) ?_)
            | (refine W_cond (by simp (maxSteps := 1000000) (disch := first | decide | omega | assumption | exact plain_int _ _ | exact plain_ints _ | exact plain_bool _ | exact one_int _ _ | exact plain_des _ | exact plain_rows _) only [AM, initTm, Nat.reduceAdd, Nat.reduceEqDiff, reduceCtorEq, run_aaddr, run_stn, run_bld, bldV_nil, hldn, hda, hc0, hc1, hc2, hc3, bne_self_eq_false, hrep, hZm, hwh, hldl, List.length_cons, List.length_nil, List.set_cons_succ, List.set_cons_zero, x0, x1, heq', hcall3]; rfl) ?_ ?_ <;> intro hcond <;> (try simp only [decide_eq_true_eq, decide_eq_false_iff_not, beq_iff_eq, beq_eq_false_iff_ne, ne_eq, reduceCtorEq, Bool.not_eq_true', Bool.not_eq_false', bne_iff_ne, bne_eq_false_iff_eq] at hcond) <;> (try (exfalso; omega)))
            | refine thenQ_n ?_
            | refine thenQ_e ?_
            | refine thenQ_r ?_
            | refine outQ_n ?_
            | refine outQ_r ?_
            | refine outQ_e ?_
            | refine outQ_d (by decide) ?_
          exact ⟨.inr rfl, [_, _], rfl, 0, 4, by unfold tuple; simp (maxSteps := 1000000) (disch := first | decide | omega | assumption | exact plain_int _ _ | exact plain_ints _ | exact plain_bool _ | exact one_int _ _ | exact plain_des _ | exact plain_rows _) only [AM, initTm, Nat.reduceAdd, Nat.reduceEqDiff, reduceCtorEq, run_aaddr, run_stn, run_bld, bldV_nil], bad (fun h => by cases h.2.2)⟩
        | true =>
          have hp := hiff.1 ⟨rfl, hs, rfl⟩
          have hm := hp.rows
          have hlen := hg.len 0
          have e0 : (d.rows.getD 0 none).getD [] = d.rw 0 := rfl
          have hhd : ((d.rows.drop (0 : Int).toNat).map ints).head? = some (ints (d.rows.getD 0 none)) := head_drop_rows d.rows 0 hm
          repeat' first
            | refine W_seq ?_
            | refine W_skip ?_
            | refine W_exit ?_
            | refine W_ret ?_
            | refine W_block ?_
            | (refine W_ops (by simp (maxSteps := 1000000) (disch := first | decide | omega | assumption | exact plain_int _ _ | exact plain_ints _ | exact plain_bool _ | exact one_int _ _ | exact plain_des _ | exact plain_rows _) only [AM, initTm, Nat.reduceAdd, Nat.reduceEqDiff, reduceCtorEq, run_aaddr, run_stn, run_bld, bldV_nil, hldn, hda, hc0, hc1, hc2, hc3, hfa, hld, bne_self_eq_false, hrep, hZm, hwh, hldl, List.length_cons, List.length_nil, List.set_cons_succ, List.set_cons_zero, x0, x1, heq', hcall3, hhd, e0]; rfl) ?_)
            | (refine W_cond (by simp (maxSteps := 1000000) (disch := first | decide | omega | assumption | exact plain_int _ _ | exact plain_ints _ | exact plain_bool _ | exact one_int _ _ | exact plain_des _ | exact plain_rows _) only [AM, initTm, Nat.reduceAdd, Nat.reduceEqDiff, reduceCtorEq, run_aaddr, run_stn, run_bld, bldV_nil, hldn, hda, hc0, hc1, hc2, hc3, hfa, hld, bne_self_eq_false, hrep, hZm, hwh, hldl, List.length_cons, List.length_nil, List.set_cons_succ, List.set_cons_zero, x0, x1, heq', hcall3, hhd, e0]; rfl) ?_ ?_ <;> intro hcond <;> (try simp only [decide_eq_true_eq, decide_eq_false_iff_not, beq_iff_eq, beq_eq_false_iff_ne, ne_eq, reduceCtorEq, Bool.not_eq_true', Bool.not_eq_false', bne_iff_ne, bne_eq_false_iff_eq] at hcond) <;> (try (exfalso; omega)))
            | refine thenQ_n ?_
            | refine thenQ_e ?_
            | refine thenQ_r ?_
            | refine outQ_n ?_
            | refine outQ_r ?_
            | refine outQ_e ?_
            | refine outQ_d (by decide) ?_
          exact ⟨.inr rfl, [_, _], rfl, _, 0, by unfold tuple; simp (maxSteps := 1000000) (disch := first | decide | omega | assumption | exact plain_int _ _ | exact plain_ints _ | exact plain_bool _ | exact one_int _ _ | exact plain_des _ | exact plain_rows _) only [AM, initTm, Nat.reduceAdd, Nat.reduceEqDiff, reduceCtorEq, run_aaddr, run_stn, run_bld, bldV_nil], .inr (.inr ⟨hf0, ⟨n, hg, hp⟩, rfl, rfl⟩)⟩
      · repeat' first
          | refine W_seq ?_
          | refine W_skip ?_
          | refine W_exit ?_
          | refine W_ret ?_
          | refine W_block ?_
          | (refine W_ops (by simp (maxSteps := 1000000) (disch := first | decide | omega | assumption | exact plain_int _ _ | exact plain_ints _ | exact plain_bool _ | exact one_int _ _ | exact plain_des _ | exact plain_rows _) only [AM, initTm, Nat.reduceAdd, Nat.reduceEqDiff, reduceCtorEq, run_aaddr, run_stn, run_bld, bldV_nil, hldn, hda, hc0, hc1, hc2, hc3, bne_self_eq_false, hrep, hZm, hwh, hldl, List.length_cons, List.length_nil, List.set_cons_succ, List.set_cons_zero, x0, x1, heq, hcall3, hs]; rfl) ?_)
          | (refine W_cond (by simp (maxSteps := 1000000) (disch := first | decide | omega | assumption | exact plain_int _ _ | exact plain_ints _ | exact plain_bool _ | exact one_int _ _ | exact plain_des _ | exact plain_rows _) only [AM, initTm, Nat.reduceAdd, Nat.reduceEqDiff, reduceCtorEq, run_aaddr, run_stn, run_bld, bldV_nil, hldn, hda, hc0, hc1, hc2, hc3, bne_self_eq_false, hrep, hZm, hwh, hldl, List.length_cons, List.length_nil, List.set_cons_succ, List.set_cons_zero, x0, x1, heq, hcall3, hs]; rfl) ?_ ?_ <;> intro hcond <;> (try simp only [decide_eq_true_eq, decide_eq_false_iff_not, beq_iff_eq, beq_eq_false_iff_ne, ne_eq, reduceCtorEq, Bool.not_eq_true', Bool.not_eq_false', bne_iff_ne, bne_eq_false_iff_eq] at hcond) <;> (try (exfalso; omega)))
          | refine thenQ_n ?_
          | refine thenQ_e ?_
          | refine thenQ_r ?_
          | refine outQ_n ?_
          | refine outQ_r ?_
          | refine outQ_e ?_
          | refine outQ_d (by decide) ?_
        exact ⟨.inr rfl, [_, _], rfl, 0, 4, by unfold tuple; simp (maxSteps := 1000000) (disch := first | decide | omega | assumption | exact plain_int _ _ | exact plain_ints _ | exact plain_bool _ | exact one_int _ _ | exact plain_des _ | exact plain_rows _) only [AM, initTm, Nat.reduceAdd, Nat.reduceEqDiff, reduceCtorEq, run_aaddr, run_stn, run_bld, bldV_nil], bad (fun h => hs h.2.1)⟩
  · repeat' first
      | refine W_seq ?_
      | refine W_skip ?_
      | refine W_exit ?_
      | refine W_ret ?_
      | refine W_block ?_
      | (refine W_ops (by simp (maxSteps := 1000000) (disch := first | decide | omega | assumption | exact plain_int _ _ | exact plain_ints _ | exact plain_bool _ | exact one_int _ _ | exact plain_des _ | exact plain_rows _) only [AM, initTm, Nat.reduceAdd, Nat.reduceEqDiff, reduceCtorEq, run_aaddr, run_stn, run_bld, bldV_nil, hldn, hda, hc0]; rfl) ?_)
      | (refine W_cond (by simp (maxSteps := 1000000) (disch := first | decide | omega | assumption | exact plain_int _ _ | exact plain_ints _ | exact plain_bool _ | exact one_int _ _ | exact plain_des _ | exact plain_rows _) only [AM, initTm, Nat.reduceAdd, Nat.reduceEqDiff, reduceCtorEq, run_aaddr, run_stn, run_bld, bldV_nil, hldn, hda, hc0]; rfl) ?_ ?_ <;> intro hcond <;> (try simp only [decide_eq_true_eq, decide_eq_false_iff_not, beq_iff_eq, beq_eq_false_iff_ne, ne_eq, reduceCtorEq, Bool.not_eq_true', Bool.not_eq_false', bne_iff_ne, bne_eq_false_iff_eq] at hcond) <;> (try (exfalso; omega)))
      | refine thenQ_n ?_
      | refine thenQ_e ?_
      | refine thenQ_r ?_
      | refine outQ_n ?_
      | refine outQ_r ?_
      | refine outQ_e ?_
      | refine outQ_d (by decide) ?_
    exact ⟨.inr rfl, [_, _], rfl, 0, e0, by unfold tuple; simp (maxSteps := 1000000) (disch := first | decide | omega | assumption | exact plain_int _ _ | exact plain_ints _ | exact plain_bool _ | exact one_int _ _ | exact plain_des _ | exact plain_rows _) only [AM, initTm, Nat.reduceAdd, Nat.reduceEqDiff, reduceCtorEq, run_aaddr, run_stn, run_bld, bldV_nil], .inl ⟨hf0, h0, rfl⟩⟩
end
end Go.Am
