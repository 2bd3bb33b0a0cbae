/- plane.Join, Meet; the law of joins. -/
import Derived.Test.YtcibofbmennjpaaDoorAmPl14
set_option linter.unusedVariables false
set_option linter.unusedSimpArgs false
namespace Go.Am

section
variable {G : Nat → List AV} {F : Nat → Option MF} {rec : Rec}

theorem Join_spec (T : Tbl F) (d : Des) (hd : d.Ok) (p q : Int) :
    ∃ v, pcall F (E G F) 33 [d.av, .int .i64 p, .int .i64 q] = some (.val v, false) ∧ ∃ c e, v = .tup [.int .i64 c, .int .i64 e] ∧ ∃ o f, Ord d o f ∧ ((f ≠ 0 ∧ c = 0 ∧ e = f) ∨ (f = 0 ∧ JoinAns d p q c e)) := by
  obtain ⟨v0, hc0, o, f, rfl, hord⟩ := Check_spec (G := G) T d hd
  obtain ⟨bx, hbx⟩ : ∃ bx : List Box, bx = [⟨d.cells, 2, 39, .live⟩, ⟨[.int .i64 p], 1, 3, .live⟩, ⟨[.int .i64 q], 1, 3, .live⟩] := ⟨_, rfl⟩
  have hH : Has bx 0 d.cells := by rw [hbx]; exact ⟨_, rfl, rfl, by simp⟩
  have hP : Has bx 1 [.int .i64 p] := by rw [hbx]; exact ⟨_, rfl, rfl, by simp⟩
  have hQ : Has bx 2 [.int .i64 q] := by rw [hbx]; exact ⟨_, rfl, rfl, by simp⟩
  have hfa := fun tm rb o off => hH.faddr tm rb 2 o off rfl
  have hld := fun tm rb off => hH.ld1 tm rb 2 off rfl
  have hldn := fun tm rb => hH.ldn tm rb 2 rfl
  have hlp : ∀ tm rb, ld1V ⟨tm, bx, rb⟩ (.ptr 1 1 0) = some (.int .i64 p) := fun tm rb => hP.ld1 tm rb 1 0 rfl
  have hlq : ∀ tm rb, ld1V ⟨tm, bx, rb⟩ (.ptr 2 1 0) = some (.int .i64 q) := fun tm rb => hQ.ld1 tm rb 1 0 rfl
  have hda : AV.agg d.cells = d.av := rfl
  have x0 : ∀ (a b : AV), [a, b][0]? = some a := fun _ _ => rfl
  have x1 : ∀ (a b : AV), [a, b][1]? = some b := fun _ _ => rfl
  have ci : ∀ (n : Int), (AV.int .i64 n).cells = [.int .i64 n] := fun _ => rfl
  have c1 : ∀ (n : Int), [AV.int .i64 n].all AV.one = true := fun _ => rfl
  refine pcall_ex T.f_plane_Join (fun v ⟨c, e, he, _⟩ => he ▸ ⟨fun _ _ h => (by cases h), fun _ => rfl, fun _ => rfl⟩) ?_
  unfold mf33
  simp only
  refine W_seq (W_ops (st' := ⟨((((((((Tm.e.set 0 d.av).set 1 (.int .i64 p)).set 2 (.int .i64 q)).set 3 (.ptr 0 2 0)).set 4 (.ptr 1 1 0)).set 5 (.ptr 2 1 0)).set 6 (.int .i64 0)).set 7 (.int .i64 0)), bx, 0⟩) (by simp (maxSteps := 1000000) (disch := first | decide | omega | assumption | exact plain_int _ _ | exact plain_ints _ | exact plain_bool _ | exact one_int _ _ | exact plain_des _ | exact plain_rows _) only [AM, initTm, Nat.reduceAdd, Nat.reduceEqDiff, reduceCtorEq, run_aaddr, run_stn, run_bld, bldV_nil, ci, c1, List.length_cons, hbx]) ?_)
  by_cases h0 : f = 0
  · subst h0
    obtain ⟨n, hg, hp⟩ : ∃ n, Good d n ∧ PlaneP d n := by
      rcases hord with ⟨_, h, _⟩ | ⟨_, _, _, h⟩ | ⟨_, h, _⟩
      · exact absurd rfl h
      · cases h
      · exact h
    have key := fun tm rb => Join1_spec (G := G) T.f_plane_Join_1 T.f_slices_IndexFunc T.f_plane_Join_1_1 T.f_slices_Contains T.f_slices_Index d hd 0 1 2 ⟨tm, bx.map Box.freeze, rb⟩ p q hH.freeze hP.freeze hQ.freeze
    obtain ⟨v, h1, m, hm, h2⟩ := key .e 0
    have hcl : ∀ tm rb, doCall F (E G F) .quiet 88 [.ptr 0 2 0, .ptr 1 1 0, .ptr 2 1 0] ⟨tm, bx.map Box.freeze, rb⟩ = some (.int .i64 m, ⟨tm, bx.map Box.freeze, rb⟩) := fun tm rb => by
      obtain ⟨v', h1', m', hm', h2'⟩ := key tm rb
      rw [h1', hm', firstRow_one h2' h2]
    have hone := fun tm rb => one_spec (G := G) T.f_plane_one d.points p q 88 [.ptr 0 2 0, .ptr 1 1 0, .ptr 2 1 0] ⟨tm, bx, rb⟩ m (fun _ _ tm rb => hcl tm rb)
    by_cases hin : p < 0 ∨ d.points ≤ p ∨ q < 0 ∨ d.points ≤ q
    · rw [if_pos hin] at hone
      repeat' first
        | refine W_seq ?_
        | refine W_skip ?_
        | refine W_exit ?_
        | refine W_ret ?_
        | refine W_block ?_
        | (refine W_ops (by simp (maxSteps := 1000000) (disch := first | decide | omega | assumption | exact plain_int _ _ | exact plain_ints _ | exact plain_bool _ | exact one_int _ _ | exact plain_des _ | exact plain_rows _) only [AM, initTm, Nat.reduceAdd, Nat.reduceEqDiff, reduceCtorEq, run_aaddr, run_stn, run_bld, bldV_nil, hldn, hda, hc0, x0, x1, bne_self_eq_false, hfa, hld, hlp, hlq, hone]; rfl) ?_)
        | (refine W_cond (by simp (maxSteps := 1000000) (disch := first | decide | omega | assumption | exact plain_int _ _ | exact plain_ints _ | exact plain_bool _ | exact one_int _ _ | exact plain_des _ | exact plain_rows _) only [AM, initTm, Nat.reduceAdd, Nat.reduceEqDiff, reduceCtorEq, run_aaddr, run_stn, run_bld, bldV_nil, hldn, hda, hc0, x0, x1, bne_self_eq_false, hfa, hld, hlp, hlq, hone]; rfl) ?_ ?_ <;> intro hcond <;> (try simp only [decide_eq_true_eq, decide_eq_false_iff_not, beq_iff_eq, beq_eq_false_iff_ne, ne_eq, reduceCtorEq, Bool.not_eq_true', Bool.not_eq_false', bne_iff_ne, bne_eq_false_iff_eq] at hcond) <;> (try (exfalso; omega)))
        | refine thenQ_n ?_
        | refine thenQ_e ?_
        | refine thenQ_r ?_
        | refine outQ_n ?_
        | refine outQ_r ?_
        | refine outQ_e ?_
        | refine outQ_d (by decide) ?_
      exact ⟨.inr rfl, [_, _], rfl, 0, 1, by unfold tuple; simp (maxSteps := 1000000) (disch := first | decide | omega | assumption | exact plain_int _ _ | exact plain_ints _ | exact plain_bool _ | exact one_int _ _ | exact plain_des _ | exact plain_rows _) only [AM, initTm, Nat.reduceAdd, Nat.reduceEqDiff, reduceCtorEq, run_aaddr, run_stn, run_bld, bldV_nil], o, 0, hord, .inr ⟨rfl, .inl ⟨hin, rfl, rfl⟩⟩⟩
    · rw [if_neg hin] at hone
      by_cases hpq : p = q
      · rw [if_pos hpq] at hone
        repeat' first
          | refine W_seq ?_
          | refine W_skip ?_
          | refine W_exit ?_
          | refine W_ret ?_
          | refine W_block ?_
          | (refine W_ops (by simp (maxSteps := 1000000) (disch := first | decide | omega | assumption | exact plain_int _ _ | exact plain_ints _ | exact plain_bool _ | exact one_int _ _ | exact plain_des _ | exact plain_rows _) only [AM, initTm, Nat.reduceAdd, Nat.reduceEqDiff, reduceCtorEq, run_aaddr, run_stn, run_bld, bldV_nil, hldn, hda, hc0, x0, x1, bne_self_eq_false, hfa, hld, hlp, hlq, hone]; rfl) ?_)
          | (refine W_cond (by simp (maxSteps := 1000000) (disch := first | decide | omega | assumption | exact plain_int _ _ | exact plain_ints _ | exact plain_bool _ | exact one_int _ _ | exact plain_des _ | exact plain_rows _) only [AM, initTm, Nat.reduceAdd, Nat.reduceEqDiff, reduceCtorEq, run_aaddr, run_stn, run_bld, bldV_nil, hldn, hda, hc0, x0, x1, bne_self_eq_false, hfa, hld, hlp, hlq, hone]; rfl) ?_ ?_ <;> intro hcond <;> (try simp only [decide_eq_true_eq, decide_eq_false_iff_not, beq_iff_eq, beq_eq_false_iff_ne, ne_eq, reduceCtorEq, Bool.not_eq_true', Bool.not_eq_false', bne_iff_ne, bne_eq_false_iff_eq] at hcond) <;> (try (exfalso; omega)))
          | refine thenQ_n ?_
          | refine thenQ_e ?_
          | refine thenQ_r ?_
          | refine outQ_n ?_
          | refine outQ_r ?_
          | refine outQ_e ?_
          | refine outQ_d (by decide) ?_
        exact ⟨.inr rfl, [_, _], rfl, 0, 6, by unfold tuple; simp (maxSteps := 1000000) (disch := first | decide | omega | assumption | exact plain_int _ _ | exact plain_ints _ | exact plain_bool _ | exact one_int _ _ | exact plain_des _ | exact plain_rows _) only [AM, initTm, Nat.reduceAdd, Nat.reduceEqDiff, reduceCtorEq, run_aaddr, run_stn, run_bld, bldV_nil], o, 0, hord, .inr ⟨rfl, .inr (.inl ⟨hin, hpq, rfl, rfl⟩)⟩⟩
      · rw [if_neg hpq] at hone
        repeat' first
          | refine W_seq ?_
          | refine W_skip ?_
          | refine W_exit ?_
          | refine W_ret ?_
          | refine W_block ?_
          | (refine W_ops (by simp (maxSteps := 1000000) (disch := first | decide | omega | assumption | exact plain_int _ _ | exact plain_ints _ | exact plain_bool _ | exact one_int _ _ | exact plain_des _ | exact plain_rows _) only [AM, initTm, Nat.reduceAdd, Nat.reduceEqDiff, reduceCtorEq, run_aaddr, run_stn, run_bld, bldV_nil, hldn, hda, hc0, x0, x1, bne_self_eq_false, hfa, hld, hlp, hlq, hone]; rfl) ?_)
          | (refine W_cond (by simp (maxSteps := 1000000) (disch := first | decide | omega | assumption | exact plain_int _ _ | exact plain_ints _ | exact plain_bool _ | exact one_int _ _ | exact plain_des _ | exact plain_rows _) only [AM, initTm, Nat.reduceAdd, Nat.reduceEqDiff, reduceCtorEq, run_aaddr, run_stn, run_bld, bldV_nil, hldn, hda, hc0, x0, x1, bne_self_eq_false, hfa, hld, hlp, hlq, hone]; rfl) ?_ ?_ <;> intro hcond <;> (try simp only [decide_eq_true_eq, decide_eq_false_iff_not, beq_iff_eq, beq_eq_false_iff_ne, ne_eq, reduceCtorEq, Bool.not_eq_true', Bool.not_eq_false', bne_iff_ne, bne_eq_false_iff_eq] at hcond) <;> (try (exfalso; omega)))
          | refine thenQ_n ?_
          | refine thenQ_e ?_
          | refine thenQ_r ?_
          | refine outQ_n ?_
          | refine outQ_r ?_
          | refine outQ_e ?_
          | refine outQ_d (by decide) ?_
        refine ⟨.inr rfl, [_, _], rfl, m, 0, by unfold tuple; simp (maxSteps := 1000000) (disch := first | decide | omega | assumption | exact plain_int _ _ | exact plain_ints _ | exact plain_bool _ | exact one_int _ _ | exact plain_des _ | exact plain_rows _) only [AM, initTm, Nat.reduceAdd, Nat.reduceEqDiff, reduceCtorEq, run_aaddr, run_stn, run_bld, bldV_nil], o, 0, hord, .inr ⟨rfl, .inr (.inr ⟨hin, hpq, ?_⟩)⟩⟩
        rcases h2 with ⟨i, rfl, hi, hf, hn⟩ | ⟨rfl, hn⟩
        · exact .inl ⟨i, hi, rfl, rfl, of_decide_eq_true hf, fun j hj => of_decide_eq_false (hn j hj)⟩
        · exfalso
          have hpt := hg.pts
          obtain ⟨i, hi, m1, m2, _⟩ := (uniq_two d n).2 hp.two p.toNat q.toNat (by omega) (by omega) (by omega)
          rw [Int.toNat_of_nonneg (by omega)] at m1 m2
          exact of_decide_eq_false (hn i hi) ⟨m1, m2⟩
  · repeat' first
      | refine W_seq ?_
      | refine W_skip ?_
      | refine W_exit ?_
      | refine W_ret ?_
      | refine W_block ?_
      | (refine W_ops (by simp (maxSteps := 1000000) (disch := first | decide | omega | assumption | exact plain_int _ _ | exact plain_ints _ | exact plain_bool _ | exact one_int _ _ | exact plain_des _ | exact plain_rows _) only [AM, initTm, Nat.reduceAdd, Nat.reduceEqDiff, reduceCtorEq, run_aaddr, run_stn, run_bld, bldV_nil, hldn, hda, hc0, x0, x1]; rfl) ?_)
      | (refine W_cond (by simp (maxSteps := 1000000) (disch := first | decide | omega | assumption | exact plain_int _ _ | exact plain_ints _ | exact plain_bool _ | exact one_int _ _ | exact plain_des _ | exact plain_rows _) only [AM, initTm, Nat.reduceAdd, Nat.reduceEqDiff, reduceCtorEq, run_aaddr, run_stn, run_bld, bldV_nil, hldn, hda, hc0, x0, x1]; rfl) ?_ ?_ <;> intro hcond <;> (try simp only [decide_eq_true_eq, decide_eq_false_iff_not, beq_iff_eq, beq_eq_false_iff_ne, ne_eq, reduceCtorEq, Bool.not_eq_true', Bool.not_eq_false', bne_iff_ne, bne_eq_false_iff_eq] at hcond) <;> (try (exfalso; omega)))
      | refine thenQ_n ?_
      | refine thenQ_e ?_
      | refine thenQ_r ?_
      | refine outQ_n ?_
      | refine outQ_r ?_
      | refine outQ_e ?_
      | refine outQ_d (by decide) ?_
    exact ⟨.inr rfl, [_, _], rfl, 0, f, by unfold tuple; simp (maxSteps := 1000000) (disch := first | decide | omega | assumption | exact plain_int _ _ | exact plain_ints _ | exact plain_bool _ | exact one_int _ _ | exact plain_des _ | exact plain_rows _) only [AM, initTm, Nat.reduceAdd, Nat.reduceEqDiff, reduceCtorEq, run_aaddr, run_stn, run_bld, bldV_nil], o, f, hord, .inl ⟨h0, rfl, rfl⟩⟩

theorem Meet_spec (T : Tbl F) (d : Des) (hd : d.Ok) (p q : Int) :
    ∃ v, pcall F (E G F) 30 [d.av, .int .i64 p, .int .i64 q] = some (.val v, false) ∧ ∃ c e, v = .tup [.int .i64 c, .int .i64 e] ∧ ∃ o f, Ord d o f ∧ ((f ≠ 0 ∧ c = 0 ∧ e = f) ∨ (f = 0 ∧ MeetAns d p q c e)) := by
  obtain ⟨v0, hc0, o, f, rfl, hord⟩ := Check_spec (G := G) T d hd
  obtain ⟨bx, hbx⟩ : ∃ bx : List Box, bx = [⟨d.cells, 2, 39, .live⟩, ⟨[.int .i64 p], 1, 3, .live⟩, ⟨[.int .i64 q], 1, 3, .live⟩] := ⟨_, rfl⟩
  have hH : Has bx 0 d.cells := by rw [hbx]; exact ⟨_, rfl, rfl, by simp⟩
  have hP : Has bx 1 [.int .i64 p] := by rw [hbx]; exact ⟨_, rfl, rfl, by simp⟩
  have hQ : Has bx 2 [.int .i64 q] := by rw [hbx]; exact ⟨_, rfl, rfl, by simp⟩
  have hfa := fun tm rb o off => hH.faddr tm rb 2 o off rfl
  have hld := fun tm rb off => hH.ld1 tm rb 2 off rfl
  have hldn := fun tm rb => hH.ldn tm rb 2 rfl
  have hlp : ∀ tm rb, ld1V ⟨tm, bx, rb⟩ (.ptr 1 1 0) = some (.int .i64 p) := fun tm rb => hP.ld1 tm rb 1 0 rfl
  have hlq : ∀ tm rb, ld1V ⟨tm, bx, rb⟩ (.ptr 2 1 0) = some (.int .i64 q) := fun tm rb => hQ.ld1 tm rb 1 0 rfl
  have hda : AV.agg d.cells = d.av := rfl
  have x0 : ∀ (a b : AV), [a, b][0]? = some a := fun _ _ => rfl
  have x1 : ∀ (a b : AV), [a, b][1]? = some b := fun _ _ => rfl
  have ci : ∀ (n : Int), (AV.int .i64 n).cells = [.int .i64 n] := fun _ => rfl
  have c1 : ∀ (n : Int), [AV.int .i64 n].all AV.one = true := fun _ => rfl
  refine pcall_ex T.f_plane_Meet (fun v ⟨c, e, he, _⟩ => he ▸ ⟨fun _ _ h => (by cases h), fun _ => rfl, fun _ => rfl⟩) ?_
  unfold mf30
  simp only
  refine W_seq (W_ops (st' := ⟨((((((((Tm.e.set 0 d.av).set 1 (.int .i64 p)).set 2 (.int .i64 q)).set 3 (.ptr 0 2 0)).set 4 (.ptr 1 1 0)).set 5 (.ptr 2 1 0)).set 6 (.int .i64 0)).set 7 (.int .i64 0)), bx, 0⟩) (by simp (maxSteps := 1000000) (disch := first | decide | omega | assumption | exact plain_int _ _ | exact plain_ints _ | exact plain_bool _ | exact one_int _ _ | exact plain_des _ | exact plain_rows _) only [AM, initTm, Nat.reduceAdd, Nat.reduceEqDiff, reduceCtorEq, run_aaddr, run_stn, run_bld, bldV_nil, ci, c1, List.length_cons, hbx]) ?_)
  by_cases h0 : f = 0
  · subst h0
    obtain ⟨n, hg, hp⟩ : ∃ n, Good d n ∧ PlaneP d n := by
      rcases hord with ⟨_, h, _⟩ | ⟨_, _, _, h⟩ | ⟨_, h, _⟩
      · exact absurd rfl h
      · cases h
      · exact h
    by_cases hin : p < 0 ∨ (d.rows.length : Int) ≤ p ∨ q < 0 ∨ (d.rows.length : Int) ≤ q
    · have hone := fun tm rb => one_spec (G := G) T.f_plane_one (d.rows.length : Int) p q 85 [.ptr 0 2 0, .ptr 1 1 0, .ptr 2 1 0] ⟨tm, bx, rb⟩ 0 (fun h _ => absurd hin h)
      rw [if_pos hin] at hone
      repeat' first
        | refine W_seq ?_
        | refine W_skip ?_
        | refine W_exit ?_
        | refine W_ret ?_
        | refine W_block ?_
        | (refine W_ops (by simp (maxSteps := 1000000) (disch := first | decide | omega | assumption | exact plain_int _ _ | exact plain_ints _ | exact plain_bool _ | exact one_int _ _ | exact plain_des _ | exact plain_rows _) only [AM, initTm, Nat.reduceAdd, Nat.reduceEqDiff, reduceCtorEq, run_aaddr, run_stn, run_bld, bldV_nil, hldn, hda, hc0, x0, x1, bne_self_eq_false, hfa, hld, hlp, hlq, hone]; rfl) ?_)
        | (refine W_cond (by simp (maxSteps := 1000000) (disch := first | decide | omega | assumption | exact plain_int _ _ | exact plain_ints _ | exact plain_bool _ | exact one_int _ _ | exact plain_des _ | exact plain_rows _) only [AM, initTm, Nat.reduceAdd, Nat.reduceEqDiff, reduceCtorEq, run_aaddr, run_stn, run_bld, bldV_nil, hldn, hda, hc0, x0, x1, bne_self_eq_false, hfa, hld, hlp, hlq, hone]; rfl) ?_ ?_ <;> intro hcond <;> (try simp only [decide_eq_true_eq, decide_eq_false_iff_not, beq_iff_eq, beq_eq_false_iff_ne, ne_eq, reduceCtorEq, Bool.not_eq_true', Bool.not_eq_false', bne_iff_ne, bne_eq_false_iff_eq] at hcond) <;> (try (exfalso; omega)))
        | refine thenQ_n ?_
        | refine thenQ_e ?_
        | refine thenQ_r ?_
        | refine outQ_n ?_
        | refine outQ_r ?_
        | refine outQ_e ?_
        | refine outQ_d (by decide) ?_
      exact ⟨.inr rfl, [_, _], rfl, 0, 1, by unfold tuple; simp (maxSteps := 1000000) (disch := first | decide | omega | assumption | exact plain_int _ _ | exact plain_ints _ | exact plain_bool _ | exact one_int _ _ | exact plain_des _ | exact plain_rows _) only [AM, initTm, Nat.reduceAdd, Nat.reduceEqDiff, reduceCtorEq, run_aaddr, run_stn, run_bld, bldV_nil], o, 0, hord, .inr ⟨rfl, .inl ⟨hin, rfl, rfl⟩⟩⟩
    · by_cases hpq : p = q
      · have hone := fun tm rb => one_spec (G := G) T.f_plane_one (d.rows.length : Int) p q 85 [.ptr 0 2 0, .ptr 1 1 0, .ptr 2 1 0] ⟨tm, bx, rb⟩ 0 (fun _ h => absurd hpq h)
        rw [if_neg hin, if_pos hpq] at hone
        repeat' first
          | refine W_seq ?_
          | refine W_skip ?_
          | refine W_exit ?_
          | refine W_ret ?_
          | refine W_block ?_
          | (refine W_ops (by simp (maxSteps := 1000000) (disch := first | decide | omega | assumption | exact plain_int _ _ | exact plain_ints _ | exact plain_bool _ | exact one_int _ _ | exact plain_des _ | exact plain_rows _) only [AM, initTm, Nat.reduceAdd, Nat.reduceEqDiff, reduceCtorEq, run_aaddr, run_stn, run_bld, bldV_nil, hldn, hda, hc0, x0, x1, bne_self_eq_false, hfa, hld, hlp, hlq, hone]; rfl) ?_)
          | (refine W_cond (by simp (maxSteps := 1000000) (disch := first | decide | omega | assumption | exact plain_int _ _ | exact plain_ints _ | exact plain_bool _ | exact one_int _ _ | exact plain_des _ | exact plain_rows _) only [AM, initTm, Nat.reduceAdd, Nat.reduceEqDiff, reduceCtorEq, run_aaddr, run_stn, run_bld, bldV_nil, hldn, hda, hc0, x0, x1, bne_self_eq_false, hfa, hld, hlp, hlq, hone]; rfl) ?_ ?_ <;> intro hcond <;> (try simp only [decide_eq_true_eq, decide_eq_false_iff_not, beq_iff_eq, beq_eq_false_iff_ne, ne_eq, reduceCtorEq, Bool.not_eq_true', Bool.not_eq_false', bne_iff_ne, bne_eq_false_iff_eq] at hcond) <;> (try (exfalso; omega)))
          | refine thenQ_n ?_
          | refine thenQ_e ?_
          | refine thenQ_r ?_
          | refine outQ_n ?_
          | refine outQ_r ?_
          | refine outQ_e ?_
          | refine outQ_d (by decide) ?_
        exact ⟨.inr rfl, [_, _], rfl, 0, 6, by unfold tuple; simp (maxSteps := 1000000) (disch := first | decide | omega | assumption | exact plain_int _ _ | exact plain_ints _ | exact plain_bool _ | exact one_int _ _ | exact plain_des _ | exact plain_rows _) only [AM, initTm, Nat.reduceAdd, Nat.reduceEqDiff, reduceCtorEq, run_aaddr, run_stn, run_bld, bldV_nil], o, 0, hord, .inr ⟨rfl, .inr (.inl ⟨hin, hpq, rfl, rfl⟩)⟩⟩
      · obtain ⟨b, hb⟩ : ∃ m : Nat, p = (m : Int) := ⟨p.toNat, by omega⟩
        obtain ⟨c, hc⟩ : ∃ m : Nat, q = (m : Int) := ⟨q.toNat, by omega⟩
        subst hb hc
        have hex : ∃ j, j < ((d.rows.getD b none).getD []).length ∧ ((d.rows.getD b none).getD []).getD j 0 ∈ (d.rows.getD c none).getD [] := by
          have hone : ∃ x, x ∈ d.rw b ∧ x ∈ d.rw c := by
            have pick : ∀ s t : List Int, together s t = 1 → ∃ x, x ∈ s ∧ x ∈ t := by
              intro s t h
              unfold together at h
              cases hf : s.filter fun x => decide (x ∈ t) with
              | nil => rw [hf] at h; simp at h
              | cons x r =>
                have : x ∈ s.filter fun x => decide (x ∈ t) := by rw [hf]; simp
                obtain ⟨h1, h2⟩ := List.mem_filter.1 this
                exact ⟨x, h1, of_decide_eq_true h2⟩
            rcases Nat.lt_trichotomy b c with h | h | h
            · obtain ⟨x, h1, h2⟩ := pick _ _ (hp.one c b h (by omega))
              exact ⟨x, h2, h1⟩
            · exact absurd (by rw [h]) hpq
            · exact pick _ _ (hp.one b c h (by omega))
          obtain ⟨x, h1, h2⟩ := hone
          obtain ⟨j, hj, rfl⟩ := List.mem_iff_getElem.1 h1
          refine ⟨j, hj, ?_⟩
          have e : ((d.rows.getD b none).getD []).getD j 0 = (d.rw b)[j] := by
            rw [List.getD_eq_getElem?_getD]
            show ((d.rw b)[j]?).getD 0 = _
            rw [List.getElem?_eq_getElem hj]; rfl
          rw [e]; exact h2
        have key := fun tm rb => Meet1_spec (G := G) T.f_plane_Meet_1 T.f_slices_IndexFunc_v1 T.f_plane_Meet_1_1 T.f_slices_Contains T.f_slices_Index d hd 0 1 2 ⟨tm, bx.map Box.freeze, rb⟩ b c (by omega) (by omega) hH.freeze hP.freeze hQ.freeze hex
        obtain ⟨v, h1, i, hi, hil, him, hin'⟩ := key .e 0
        have hcl : ∀ tm rb, doCall F (E G F) .quiet 85 [.ptr 0 2 0, .ptr 1 1 0, .ptr 2 1 0] ⟨tm, bx.map Box.freeze, rb⟩ = some (.int .i64 (((d.rows.getD b none).getD []).getD i 0), ⟨tm, bx.map Box.freeze, rb⟩) := fun tm rb => by
          obtain ⟨v', h1', i', hi', hil', him', hin''⟩ := key tm rb
          have : i' = i := by
            rcases Nat.lt_trichotomy i' i with h | h | h
            · exact absurd him' (hin' i' h)
            · exact h
            · exact absurd him (hin'' i h)
          rw [h1', hi', this]
        have hone := fun tm rb => one_spec (G := G) T.f_plane_one (d.rows.length : Int) b c 85 [.ptr 0 2 0, .ptr 1 1 0, .ptr 2 1 0] ⟨tm, bx, rb⟩ _ (fun _ _ tm rb => hcl tm rb)
        rw [if_neg hin, if_neg hpq] at hone
        repeat' first
          | refine W_seq ?_
          | refine W_skip ?_
          | refine W_exit ?_
          | refine W_ret ?_
          | refine W_block ?_
          | (refine W_ops (by simp (maxSteps := 1000000) (disch := first | decide | omega | assumption | exact plain_int _ _ | exact plain_ints _ | exact plain_bool _ | exact one_int _ _ | exact plain_des _ | exact plain_rows _) only [AM, initTm, Nat.reduceAdd, Nat.reduceEqDiff, reduceCtorEq, run_aaddr, run_stn, run_bld, bldV_nil, hldn, hda, hc0, x0, x1, bne_self_eq_false, hfa, hld, hlp, hlq, hone]; rfl) ?_)
          | (refine W_cond (by simp (maxSteps := 1000000) (disch := first | decide | omega | assumption | exact plain_int _ _ | exact plain_ints _ | exact plain_bool _ | exact one_int _ _ | exact plain_des _ | exact plain_rows _) only [AM, initTm, Nat.reduceAdd, Nat.reduceEqDiff, reduceCtorEq, run_aaddr, run_stn, run_bld, bldV_nil, hldn, hda, hc0, x0, x1, bne_self_eq_false, hfa, hld, hlp, hlq, hone]; rfl) ?_ ?_ <;> intro hcond <;> (try simp only [decide_eq_true_eq, decide_eq_false_iff_not, beq_iff_eq, beq_eq_false_iff_ne, ne_eq, reduceCtorEq, Bool.not_eq_true', Bool.not_eq_false', bne_iff_ne, bne_eq_false_iff_eq] at hcond) <;> (try (exfalso; omega)))
          | refine thenQ_n ?_
          | refine thenQ_e ?_
          | refine thenQ_r ?_
          | refine outQ_n ?_
          | refine outQ_r ?_
          | refine outQ_e ?_
          | refine outQ_d (by decide) ?_
        exact ⟨.inr rfl, [_, _], rfl, ((d.rows.getD b none).getD []).getD i 0, 0, by unfold tuple; simp (maxSteps := 1000000) (disch := first | decide | omega | assumption | exact plain_int _ _ | exact plain_ints _ | exact plain_bool _ | exact one_int _ _ | exact plain_des _ | exact plain_rows _) only [AM, initTm, Nat.reduceAdd, Nat.reduceEqDiff, reduceCtorEq, run_aaddr, run_stn, run_bld, bldV_nil], o, 0, hord, .inr ⟨rfl, .inr (.inr ⟨hin, hpq, .inl ⟨i, hil, rfl, rfl, him, hin'⟩⟩)⟩⟩
  · repeat' first
      | refine W_seq ?_
      | refine W_skip ?_
      | refine W_exit ?_
      | refine W_ret ?_
      | refine W_block ?_
      | (refine W_ops (by simp (maxSteps := 1000000) (disch := first | decide | omega | assumption | exact plain_int _ _ | exact plain_ints _ | exact plain_bool _ | exact one_int _ _ | exact plain_des _ | exact plain_rows _) only [AM, initTm, Nat.reduceAdd, Nat.reduceEqDiff, reduceCtorEq, run_aaddr, run_stn, run_bld, bldV_nil, hldn, hda, hc0, x0, x1]; rfl) ?_)
      | (refine W_cond (by simp (maxSteps := 1000000) (disch := first | decide | omega | assumption | exact plain_int _ _ | exact plain_ints _ | exact plain_bool _ | exact one_int _ _ | exact plain_des _ | exact plain_rows _) only [AM, initTm, Nat.reduceAdd, Nat.reduceEqDiff, reduceCtorEq, run_aaddr, run_stn, run_bld, bldV_nil, hldn, hda, hc0, x0, x1]; rfl) ?_ ?_ <;> intro hcond <;> (try simp only [decide_eq_true_eq, decide_eq_false_iff_not, beq_iff_eq, beq_eq_false_iff_ne, ne_eq, reduceCtorEq, Bool.not_eq_true', Bool.not_eq_false', bne_iff_ne, bne_eq_false_iff_eq] at hcond) <;> (try (exfalso; omega)))
      | refine thenQ_n ?_
      | refine thenQ_e ?_
      | refine thenQ_r ?_
      | refine outQ_n ?_
      | refine outQ_r ?_
      | refine outQ_e ?_
      | refine outQ_d (by decide) ?_
    exact ⟨.inr rfl, [_, _], rfl, 0, f, by unfold tuple; simp (maxSteps := 1000000) (disch := first | decide | omega | assumption | exact plain_int _ _ | exact plain_ints _ | exact plain_bool _ | exact one_int _ _ | exact plain_des _ | exact plain_rows _) only [AM, initTm, Nat.reduceAdd, Nat.reduceEqDiff, reduceCtorEq, run_aaddr, run_stn, run_bld, bldV_nil], o, f, hord, .inl ⟨h0, rfl, rfl⟩⟩

end
end Go.Am