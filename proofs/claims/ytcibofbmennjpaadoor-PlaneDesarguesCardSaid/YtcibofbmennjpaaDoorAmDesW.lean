/- PlaneDesargues answers true on the machine. -/
import Derived.Test.YtcibofbmennjpaaDoorAmPapC
set_option linter.unusedVariables false
set_option linter.unusedSimpArgs false
namespace Go.Am

/-- The second triangle's points. -/
def ChosD (n T o : Nat) (tl us : List Int) : Prop := ∀ j, j < us.length → ∃ a u : Nat, tl.getD j 0 = a ∧ a < n ∧ a ≠ o ∧ us.getD j 0 = u ∧ u < n ∧ u ≠ o ∧ u ≠ a ∧ jn T o u = jn T o a
theorem ChosD.add {n T o : Nat} {tl us : List Int} (h : ChosD n T o tl us) {a u : Nat} (h1 : tl.getD us.length 0 = a) (h2 : a < n) (h3 : a ≠ o) (h4 : u < n) (h5 : u ≠ o) (h6 : u ≠ a) (h7 : jn T o u = jn T o a) : ChosD n T o tl (us ++ [(u : Int)]) := by
  intro j hj
  rw [List.length_append, List.length_singleton] at hj
  by_cases e : j < us.length
  · obtain ⟨a, u, g1, g2, g3, g4, g5⟩ := h j e
    exact ⟨a, u, g1, g2, g3, by rw [← g4, List.getD_eq_getElem?_getD, List.getElem?_append_left e, List.getD_eq_getElem?_getD], g5⟩
  · have : j = us.length := by omega
    subst this
    exact ⟨a, u, h1, h2, h3, by rw [List.getD_eq_getElem?_getD, List.getElem?_append_right (Nat.le_refl _), Nat.sub_self]; rfl, h4, h5, h6, h7⟩

set_option maxHeartbeats 4000000 in
theorem PlaneDesargues_true (f : Fld) (hlen : f.l.length < 9223372036854775808) (o0 : Int) (ho0 : -9223372036854775808 ≤ o0 ∧ o0 ≤ 9223372036854775807) (t : Option (List Int)) (ht : (t.getD []).length < 9223372036854775808) (on : Option (List Int)) (hon : (on.getD []).length < 9223372036854775808) :
    pcall tabD (E GP tabD) 8 [f.av, .int .i64 o0, ints t, ints on] = some (.val (.bool true), false) := by
  obtain ⟨v, hm, hv⟩ := Make_any f hlen
  have hcm : ∀ st, doCall tabD (E GP tabD) .pureV 27 [f.av] st = some (v, st) := fun st => by
    rw [doCall_plain1 (plain_fld f), hm]; rfl
  have hcf := call_fact
  have x0 : ∀ (a b : AV), [a, b][0]? = some a := fun _ _ => rfl
  have x1 : ∀ (a b : AV), [a, b][1]? = some b := fun _ _ => rfl
  have hfc : f.av.cells = f.cells := rfl
  have hf1 := f.cells_one
  have hf3 : f.cells.length = 3 := rfl
  have hfa' : AV.agg f.cells = f.av := rfl
  have hH0 : ∀ x, Has (⟨f.cells, 3, 24, .live⟩ :: x) 0 f.cells := fun x => ⟨_, rfl, rfl, by simp⟩
  have hldn0 := fun x tm rb => (hH0 x).ldn tm rb 3 rfl
  have hlt' : ∀ st, lenV st (ints t) = some ((t.getD []).length : Int) := fun st => lenV_ints st t
  have hlo : ∀ st, lenV st (ints on) = some ((on.getD []).length : Int) := fun st => lenV_ints st on
  refine pcall_val (F := tabD) (mf := mf8) rfl (v := .bool true) (fun _ _ h => by cases h) ?_ (fun _ => rfl) (fun _ => rfl)
  unfold mf8
  simp only
  cases hv with
  | err e he q hoo =>
    have hne : (e != 0) = true := bne_iff_ne.2 he
    obtain ⟨D, hD⟩ : ∃ D : Des, D = ⟨0, none⟩ := ⟨_, rfl⟩
    rw [← hD] at hcm
    have hD1 : D.cells.all AV.one = true := D.cells_one
    have hw1 := fun y x tm rb => write_whole (bx := y :: ⟨[.int .i64 0, .nil], 2, 39, .live⟩ :: x) (id := 1) (sz := 2) (e := 39) rfl tm rb 2 rfl (new := D.cells) rfl hD1
    have eD : AV.agg D.cells = D.av := rfl
    simp only [eD] at hw1
    repeat' first
      | refine W_seq ?_
      | refine W_skip ?_
      | refine W_exit ?_
      | refine W_ret ?_
      | refine W_block ?_
      | (refine W_ops (by simp (maxSteps := 1000000) (disch := first | decide | omega | assumption | exact plain_int _ _ | exact plain_ints _ | exact plain_bool _ | exact one_int _ _ | exact plain_des _ | exact plain_rows _) only [AM, initTm, Nat.reduceAdd, Nat.reduceEqDiff, reduceCtorEq, run_aaddr, run_stn, run_bld, bldV_nil, hcf, hcm, x0, x1, hfc, hf1, hf3, run_ldn, hldn0, hfa', hw1, eD, hne, List.length_cons, List.length_nil, List.set_cons_succ, List.set_cons_zero]; rfl) ?_)
      | (refine W_cond (by simp (maxSteps := 1000000) (disch := first | decide | omega | assumption | exact plain_int _ _ | exact plain_ints _ | exact plain_bool _ | exact one_int _ _ | exact plain_des _ | exact plain_rows _) only [AM, initTm, Nat.reduceAdd, Nat.reduceEqDiff, reduceCtorEq, run_aaddr, run_stn, run_bld, bldV_nil, hcf, hcm, x0, x1, hfc, hf1, hf3, run_ldn, hldn0, hfa', hw1, eD, hne, List.length_cons, List.length_nil, List.set_cons_succ, List.set_cons_zero]; rfl) ?_ ?_ <;> intro hcond <;> (try simp only [decide_eq_true_eq, decide_eq_false_iff_not, beq_iff_eq, beq_eq_false_iff_ne, ne_eq, reduceCtorEq, Bool.not_eq_true', Bool.not_eq_false', bne_iff_ne, bne_eq_false_iff_eq] at hcond) <;> (try (exfalso; omega)))
      | refine thenQ_n ?_
      | refine thenQ_e ?_
      | refine thenQ_r ?_
      | refine outQ_n ?_
      | refine outQ_r ?_
      | refine outQ_e ?_
      | refine outQ_d (by decide) ?_
    refine ⟨.inr rfl, [_], rfl, ?_⟩
    rw [tuple_one]
    simp (maxSteps := 1000000) (disch := first | decide | omega | assumption | exact plain_int _ _ | exact plain_ints _ | exact plain_bool _ | exact one_int _ _ | exact plain_des _ | exact plain_rows _) only [AM, initTm, Nat.reduceAdd, Nat.reduceEqDiff, reduceCtorEq, run_aaddr, run_stn, run_bld, bldV_nil]
  | ok q n rows hk hoo hopen hp =>
    obtain ⟨T, P, g⟩ := hp.geo
    have hq := hp.q_le
    have hn31 : n ≤ 40 := hp.planeL.hi
    have hcross := @cross_lit q n T P rows hp g
    have hline := inLine_lit hp g
    have hrow := @pD_some q n rows hp
    have hDlen := pD_len hp
    have hjoin := Join_any hp g
    obtain ⟨D, hD⟩ : ∃ D : Des, D = pD n rows := ⟨_, rfl⟩
    have hDp : D.cells[0]? = some (.int .i64 n) := by rw [hD]; rfl
    rw [← hD] at hcm hcross hline hrow hDlen hjoin
    clear hD
    have hD1 : D.cells.all AV.one = true := D.cells_one
    have hw1 := fun y x tm rb => write_whole (bx := y :: ⟨[.int .i64 0, .nil], 2, 39, .live⟩ :: x) (id := 1) (sz := 2) (e := 39) rfl tm rb 2 rfl (new := D.cells) rfl hD1
    have eD : AV.agg D.cells = D.av := rfl
    simp only [eD] at hw1
    have hH1 : ∀ y x, Has (y :: ⟨D.cells, 2, 39, .live⟩ :: x) 1 D.cells := fun y x => ⟨_, rfl, rfl, by simp⟩
    have hfa1 := fun y x tm rb o off => (hH1 y x).faddr tm rb 2 o off rfl
    have hld1 := fun y x tm rb off => (hH1 y x).ld1 tm rb 2 off rfl
    by_cases h1 : ((t.getD []).length : Int) < 3
    · repeat' first
        | refine W_seq ?_
        | refine W_skip ?_
        | refine W_exit ?_
        | refine W_ret ?_
        | refine W_block ?_
        | (refine W_ops (by simp (maxSteps := 1000000) (disch := first | decide | omega | assumption | exact plain_int _ _ | exact plain_ints _ | exact plain_bool _ | exact one_int _ _ | exact plain_des _ | exact plain_rows _) only [AM, initTm, Nat.reduceAdd, Nat.reduceEqDiff, reduceCtorEq, run_aaddr, run_stn, run_bld, bldV_nil, hcf, hcm, x0, x1, hfc, hf1, hf3, run_ldn, hldn0, hfa', hw1, eD, h1, hlt', bne_self_eq_false, List.length_cons, List.length_nil, List.set_cons_succ, List.set_cons_zero]; rfl) ?_)
        | (refine W_cond (by simp (maxSteps := 1000000) (disch := first | decide | omega | assumption | exact plain_int _ _ | exact plain_ints _ | exact plain_bool _ | exact one_int _ _ | exact plain_des _ | exact plain_rows _) only [AM, initTm, Nat.reduceAdd, Nat.reduceEqDiff, reduceCtorEq, run_aaddr, run_stn, run_bld, bldV_nil, hcf, hcm, x0, x1, hfc, hf1, hf3, run_ldn, hldn0, hfa', hw1, eD, h1, hlt', bne_self_eq_false, List.length_cons, List.length_nil, List.set_cons_succ, List.set_cons_zero]; rfl) ?_ ?_ <;> intro hcond <;> (try simp only [decide_eq_true_eq, decide_eq_false_iff_not, beq_iff_eq, beq_eq_false_iff_ne, ne_eq, reduceCtorEq, Bool.not_eq_true', Bool.not_eq_false', bne_iff_ne, bne_eq_false_iff_eq] at hcond) <;> (try (exfalso; omega)))
        | refine thenQ_n ?_
        | refine thenQ_e ?_
        | refine thenQ_r ?_
        | refine outQ_n ?_
        | refine outQ_r ?_
        | refine outQ_e ?_
        | refine outQ_d (by decide) ?_
      refine ⟨.inr rfl, [_], rfl, ?_⟩
      rw [tuple_one]
      simp (maxSteps := 1000000) (disch := first | decide | omega | assumption | exact plain_int _ _ | exact plain_ints _ | exact plain_bool _ | exact one_int _ _ | exact plain_des _ | exact plain_rows _) only [AM, initTm, Nat.reduceAdd, Nat.reduceEqDiff, reduceCtorEq, run_aaddr, run_stn, run_bld, bldV_nil]
    by_cases h2 : ((on.getD []).length : Int) < 3
    · repeat' first
        | refine W_seq ?_
        | refine W_skip ?_
        | refine W_exit ?_
        | refine W_ret ?_
        | refine W_block ?_
        | (refine W_ops (by simp (maxSteps := 1000000) (disch := first | decide | omega | assumption | exact plain_int _ _ | exact plain_ints _ | exact plain_bool _ | exact one_int _ _ | exact plain_des _ | exact plain_rows _) only [AM, initTm, Nat.reduceAdd, Nat.reduceEqDiff, reduceCtorEq, run_aaddr, run_stn, run_bld, bldV_nil, hcf, hcm, x0, x1, hfc, hf1, hf3, run_ldn, hldn0, hfa', hw1, eD, h1, h2, hlt', hlo, bne_self_eq_false, List.length_cons, List.length_nil, List.set_cons_succ, List.set_cons_zero]; rfl) ?_)
        | (refine W_cond (by simp (maxSteps := 1000000) (disch := first | decide | omega | assumption | exact plain_int _ _ | exact plain_ints _ | exact plain_bool _ | exact one_int _ _ | exact plain_des _ | exact plain_rows _) only [AM, initTm, Nat.reduceAdd, Nat.reduceEqDiff, reduceCtorEq, run_aaddr, run_stn, run_bld, bldV_nil, hcf, hcm, x0, x1, hfc, hf1, hf3, run_ldn, hldn0, hfa', hw1, eD, h1, h2, hlt', hlo, bne_self_eq_false, List.length_cons, List.length_nil, List.set_cons_succ, List.set_cons_zero]; rfl) ?_ ?_ <;> intro hcond <;> (try simp only [decide_eq_true_eq, decide_eq_false_iff_not, beq_iff_eq, beq_eq_false_iff_ne, ne_eq, reduceCtorEq, Bool.not_eq_true', Bool.not_eq_false', bne_iff_ne, bne_eq_false_iff_eq] at hcond) <;> (try (exfalso; omega)))
        | refine thenQ_n ?_
        | refine thenQ_e ?_
        | refine thenQ_r ?_
        | refine outQ_n ?_
        | refine outQ_r ?_
        | refine outQ_e ?_
        | refine outQ_d (by decide) ?_
      refine ⟨.inr rfl, [_], rfl, ?_⟩
      rw [tuple_one]
      simp (maxSteps := 1000000) (disch := first | decide | omega | assumption | exact plain_int _ _ | exact plain_ints _ | exact plain_bool _ | exact one_int _ _ | exact plain_des _ | exact plain_rows _) only [AM, initTm, Nat.reduceAdd, Nat.reduceEqDiff, reduceCtorEq, run_aaddr, run_stn, run_bld, bldV_nil]
    by_cases h3 : o0 < 0
    · repeat' first
        | refine W_seq ?_
        | refine W_skip ?_
        | refine W_exit ?_
        | refine W_ret ?_
        | refine W_block ?_
        | (refine W_ops (by simp (maxSteps := 1000000) (disch := first | decide | omega | assumption | exact plain_int _ _ | exact plain_ints _ | exact plain_bool _ | exact one_int _ _ | exact plain_des _ | exact plain_rows _) only [AM, initTm, Nat.reduceAdd, Nat.reduceEqDiff, reduceCtorEq, run_aaddr, run_stn, run_bld, bldV_nil, hcf, hcm, x0, x1, hfc, hf1, hf3, run_ldn, hldn0, hfa', hw1, eD, h1, h2, h3, hlt', hlo, bne_self_eq_false, List.length_cons, List.length_nil, List.set_cons_succ, List.set_cons_zero]; rfl) ?_)
        | (refine W_cond (by simp (maxSteps := 1000000) (disch := first | decide | omega | assumption | exact plain_int _ _ | exact plain_ints _ | exact plain_bool _ | exact one_int _ _ | exact plain_des _ | exact plain_rows _) only [AM, initTm, Nat.reduceAdd, Nat.reduceEqDiff, reduceCtorEq, run_aaddr, run_stn, run_bld, bldV_nil, hcf, hcm, x0, x1, hfc, hf1, hf3, run_ldn, hldn0, hfa', hw1, eD, h1, h2, h3, hlt', hlo, bne_self_eq_false, List.length_cons, List.length_nil, List.set_cons_succ, List.set_cons_zero]; rfl) ?_ ?_ <;> intro hcond <;> (try simp only [decide_eq_true_eq, decide_eq_false_iff_not, beq_iff_eq, beq_eq_false_iff_ne, ne_eq, reduceCtorEq, Bool.not_eq_true', Bool.not_eq_false', bne_iff_ne, bne_eq_false_iff_eq] at hcond) <;> (try (exfalso; omega)))
        | refine thenQ_n ?_
        | refine thenQ_e ?_
        | refine thenQ_r ?_
        | refine outQ_n ?_
        | refine outQ_r ?_
        | refine outQ_e ?_
        | refine outQ_d (by decide) ?_
      refine ⟨.inr rfl, [_], rfl, ?_⟩
      rw [tuple_one]
      simp (maxSteps := 1000000) (disch := first | decide | omega | assumption | exact plain_int _ _ | exact plain_ints _ | exact plain_bool _ | exact one_int _ _ | exact plain_des _ | exact plain_rows _) only [AM, initTm, Nat.reduceAdd, Nat.reduceEqDiff, reduceCtorEq, run_aaddr, run_stn, run_bld, bldV_nil]
    by_cases h4 : o0 ≥ (n : Int)
    · repeat' first
        | refine W_seq ?_
        | refine W_skip ?_
        | refine W_exit ?_
        | refine W_ret ?_
        | refine W_block ?_
        | (refine W_ops (by simp (maxSteps := 1000000) (disch := first | decide | omega | assumption | exact plain_int _ _ | exact plain_ints _ | exact plain_bool _ | exact one_int _ _ | exact plain_des _ | exact plain_rows _) only [AM, initTm, Nat.reduceAdd, Nat.reduceEqDiff, reduceCtorEq, run_aaddr, run_stn, run_bld, bldV_nil, hcf, hcm, x0, x1, hfc, hf1, hf3, run_ldn, hldn0, hfa', hw1, eD, h1, h2, h3, h4, hlt', hlo, hfa1, hld1, hDp, bne_self_eq_false, List.length_cons, List.length_nil, List.set_cons_succ, List.set_cons_zero]; rfl) ?_)
        | (refine W_cond (by simp (maxSteps := 1000000) (disch := first | decide | omega | assumption | exact plain_int _ _ | exact plain_ints _ | exact plain_bool _ | exact one_int _ _ | exact plain_des _ | exact plain_rows _) only [AM, initTm, Nat.reduceAdd, Nat.reduceEqDiff, reduceCtorEq, run_aaddr, run_stn, run_bld, bldV_nil, hcf, hcm, x0, x1, hfc, hf1, hf3, run_ldn, hldn0, hfa', hw1, eD, h1, h2, h3, h4, hlt', hlo, hfa1, hld1, hDp, bne_self_eq_false, List.length_cons, List.length_nil, List.set_cons_succ, List.set_cons_zero]; rfl) ?_ ?_ <;> intro hcond <;> (try simp only [decide_eq_true_eq, decide_eq_false_iff_not, beq_iff_eq, beq_eq_false_iff_ne, ne_eq, reduceCtorEq, Bool.not_eq_true', Bool.not_eq_false', bne_iff_ne, bne_eq_false_iff_eq] at hcond) <;> (try (exfalso; omega)))
        | refine thenQ_n ?_
        | refine thenQ_e ?_
        | refine thenQ_r ?_
        | refine outQ_n ?_
        | refine outQ_r ?_
        | refine outQ_e ?_
        | refine outQ_d (by decide) ?_
      refine ⟨.inr rfl, [_], rfl, ?_⟩
      rw [tuple_one]
      simp (maxSteps := 1000000) (disch := first | decide | omega | assumption | exact plain_int _ _ | exact plain_ints _ | exact plain_bool _ | exact one_int _ _ | exact plain_des _ | exact plain_rows _) only [AM, initTm, Nat.reduceAdd, Nat.reduceEqDiff, reduceCtorEq, run_aaddr, run_stn, run_bld, bldV_nil]
    obtain ⟨o, rfl⟩ : ∃ o : Nat, o0 = o := ⟨o0.toNat, by omega⟩
    have ho : o < n := by omega
    repeat' first
      | refine W_seq ?_
      | refine W_skip ?_
      | refine W_exit ?_
      | refine W_ret ?_
      | refine W_block ?_
      | (refine W_ops (by simp (maxSteps := 1000000) (disch := first | decide | omega | assumption | exact plain_int _ _ | exact plain_ints _ | exact plain_bool _ | exact one_int _ _ | exact plain_des _ | exact plain_rows _) only [AM, initTm, Nat.reduceAdd, Nat.reduceEqDiff, reduceCtorEq, run_aaddr, run_stn, run_bld, bldV_nil, hcf, hcm, x0, x1, hfc, hf1, hf3, run_ldn, hldn0, hfa', hw1, eD, h1, h2, h3, h4, hlt', hlo, hfa1, hld1, hDp, bne_self_eq_false, List.length_cons, List.length_nil, List.set_cons_succ, List.set_cons_zero]; rfl) ?_)
      | (refine W_cond (by simp (maxSteps := 1000000) (disch := first | decide | omega | assumption | exact plain_int _ _ | exact plain_ints _ | exact plain_bool _ | exact one_int _ _ | exact plain_des _ | exact plain_rows _) only [AM, initTm, Nat.reduceAdd, Nat.reduceEqDiff, reduceCtorEq, run_aaddr, run_stn, run_bld, bldV_nil, hcf, hcm, x0, x1, hfc, hf1, hf3, run_ldn, hldn0, hfa', hw1, eD, h1, h2, h3, h4, hlt', hlo, hfa1, hld1, hDp, bne_self_eq_false, List.length_cons, List.length_nil, List.set_cons_succ, List.set_cons_zero]; rfl) ?_ ?_ <;> intro hcond <;> (try simp only [decide_eq_true_eq, decide_eq_false_iff_not, beq_iff_eq, beq_eq_false_iff_ne, ne_eq, reduceCtorEq, Bool.not_eq_true', Bool.not_eq_false', bne_iff_ne, bne_eq_false_iff_eq] at hcond) <;> (try (exfalso; omega)))
      | refine thenQ_n ?_
      | refine thenQ_e ?_
      | refine thenQ_r ?_
      | refine outQ_n ?_
      | refine outQ_r ?_
      | refine outQ_e ?_
      | refine outQ_d (by decide) ?_
    clear hm hcm hopen hoo hk hw1 hfa1 hld1 hH1 hldn0 hH0
    refine W_loop (k := 3) (fun k s => ∃ (i : Nat) (bx : List Box) (c : AV) (tm : Tm) (us : List Int), s = ⟨tm, bx, 0⟩ ∧ tm.get 1 = .int .i64 o ∧ tm.get 2 = ints t ∧ tm.get 3 = ints on ∧ tm.get 10 = .ptr 1 2 0 ∧ tm.get 12 = c ∧ tm.get 13 = .int .i64 i ∧ us.length = i ∧ i ≤ 3 ∧ k = 3 - i ∧
      bx[1]? = some ⟨D.cells, 2, 39, .live⟩ ∧ 2 ≤ bx.length ∧ RowAt bx 2 bx.length c us ∧ ChosD n T o (t.getD []) us) ⟨0, _, .nil, _, [], rfl, by simp (maxSteps := 1000000) (disch := first | decide | omega | assumption | exact plain_int _ _ | exact plain_ints _ | exact plain_bool _ | exact one_int _ _ | exact plain_des _ | exact plain_rows _) only [AM, initTm, Nat.reduceAdd, Nat.reduceEqDiff, reduceCtorEq, run_aaddr, run_stn, run_bld, bldV_nil], by simp (maxSteps := 1000000) (disch := first | decide | omega | assumption | exact plain_int _ _ | exact plain_ints _ | exact plain_bool _ | exact one_int _ _ | exact plain_des _ | exact plain_rows _) only [AM, initTm, Nat.reduceAdd, Nat.reduceEqDiff, reduceCtorEq, run_aaddr, run_stn, run_bld, bldV_nil], by simp (maxSteps := 1000000) (disch := first | decide | omega | assumption | exact plain_int _ _ | exact plain_ints _ | exact plain_bool _ | exact one_int _ _ | exact plain_des _ | exact plain_rows _) only [AM, initTm, Nat.reduceAdd, Nat.reduceEqDiff, reduceCtorEq, run_aaddr, run_stn, run_bld, bldV_nil], by simp (maxSteps := 1000000) (disch := first | decide | omega | assumption | exact plain_int _ _ | exact plain_ints _ | exact plain_bool _ | exact one_int _ _ | exact plain_des _ | exact plain_rows _) only [AM, initTm, Nat.reduceAdd, Nat.reduceEqDiff, reduceCtorEq, run_aaddr, run_stn, run_bld, bldV_nil], by simp (maxSteps := 1000000) (disch := first | decide | omega | assumption | exact plain_int _ _ | exact plain_ints _ | exact plain_bool _ | exact one_int _ _ | exact plain_des _ | exact plain_rows _) only [AM, initTm, Nat.reduceAdd, Nat.reduceEqDiff, reduceCtorEq, run_aaddr, run_stn, run_bld, bldV_nil], by simp (maxSteps := 1000000) (disch := first | decide | omega | assumption | exact plain_int _ _ | exact plain_ints _ | exact plain_bool _ | exact one_int _ _ | exact plain_des _ | exact plain_rows _) only [AM, initTm, Nat.reduceAdd, Nat.reduceEqDiff, reduceCtorEq, run_aaddr, run_stn, run_bld, bldV_nil]; rfl, rfl, by omega, rfl, rfl, by simp only [List.length_cons]; omega, .inl ⟨rfl, rfl⟩, fun j hj => by simp at hj⟩ ?_
    rintro k s ⟨i, bx, c, tm, us, rfl, g1, g2, g3, g10, g12, g13, hus, hi, rfl, c1, hN, hRow, hCh⟩
    have hHD : Has bx 1 D.cells := ⟨_, c1, rfl, by simp⟩
    have hfaD := fun tm rb o off => hHD.faddr tm rb 2 o off rfl
    have hldD := fun tm rb off => hHD.ld1 tm rb 2 off rfl
    have hldnD := fun tm rb => hHD.ldn tm rb 2 rfl
    by_cases hil : (i : Int) < 3
    · obtain ⟨cl, e, hj, hcase⟩ := hjoin o ((t.getD []).getD i 0)
      have hcj : ∀ st, doCall tabD (E GP tabD) .pureV 33 [D.av, .int .i64 o, .int .i64 ((t.getD []).getD i 0)] st = some (.tup [.int .i64 cl, .int .i64 e], st) := fun st => by
        rw [doCall_plain3 (plain_des D) (plain_int _ _) (plain_int _ _), hj]; rfl
      rcases hcase with ⟨he, _⟩ | ⟨rfl, o', a, eo, ea, _, han, hoa, rfl⟩
      · have hne : (e != 0) = true := bne_iff_ne.2 he
        repeat' first
          | refine W_seq ?_
          | refine W_skip ?_
          | refine W_exit ?_
          | refine W_ret ?_
          | refine W_block ?_
          | (refine W_ops (by simp (maxSteps := 1000000) (disch := first | decide | omega | assumption | exact plain_int _ _ | exact plain_ints _ | exact plain_bool _ | exact one_int _ _ | exact plain_des _ | exact plain_rows _) only [AM, initTm, Nat.reduceAdd, Nat.reduceEqDiff, reduceCtorEq, run_aaddr, run_stn, run_bld, bldV_nil, g1, g2, g3, g10, g12, g13, hil, run_ldn, hldnD, eD, hcj, x0, x1, hne]; rfl) ?_)
          | (refine W_cond (by simp (maxSteps := 1000000) (disch := first | decide | omega | assumption | exact plain_int _ _ | exact plain_ints _ | exact plain_bool _ | exact one_int _ _ | exact plain_des _ | exact plain_rows _) only [AM, initTm, Nat.reduceAdd, Nat.reduceEqDiff, reduceCtorEq, run_aaddr, run_stn, run_bld, bldV_nil, g1, g2, g3, g10, g12, g13, hil, run_ldn, hldnD, eD, hcj, x0, x1, hne]; rfl) ?_ ?_ <;> intro hcond <;> (try simp only [decide_eq_true_eq, decide_eq_false_iff_not, beq_iff_eq, beq_eq_false_iff_ne, ne_eq, reduceCtorEq, Bool.not_eq_true', Bool.not_eq_false', bne_iff_ne, bne_eq_false_iff_eq] at hcond) <;> (try (exfalso; omega)))
          | refine thenQ_n ?_
          | refine thenQ_e ?_
          | refine thenQ_r ?_
          | refine outQ_n ?_
          | refine outQ_r ?_
          | refine outQ_e ?_
          | refine outQ_d (by decide) ?_
        refine ⟨.inr rfl, [_], rfl, ?_⟩
        rw [tuple_one]
        simp (maxSteps := 1000000) (disch := first | decide | omega | assumption | exact plain_int _ _ | exact plain_ints _ | exact plain_bool _ | exact one_int _ _ | exact plain_des _ | exact plain_rows _) only [AM, initTm, Nat.reduceAdd, Nat.reduceEqDiff, reduceCtorEq, run_aaddr, run_stn, run_bld, bldV_nil]
      obtain rfl : o' = o := by omega
      clear hj eo
      simp only [ea] at hcj
      have hjl := g.geo.jlt o' ho a han hoa
      obtain ⟨hDl, hrl, hyl⟩ := hrow hjl
      have honl : ∀ y : Nat, y < n → (y : Int) ∈ rows.getD (jn T o' a) [] → y ≠ o' → jn T o' y = jn T o' a := fun y hy hyl hne =>
        (jn_uniq hp g ho hy (fun e => hne e.symm) hjl (g.geo.jmem o' ho a han hoa).1 hyl).symm
      generalize hrle : rows.getD (jn T o' a) [] = rl at *
      have hbd := tmod_bd ((on.getD []).getD i 0) (q + 1) (by omega)
      have hrem : abin .rem (.int .i64 ((on.getD []).getD i 0)) (.int .i64 ((q + 1 : Nat) : Int)) = some (.int .i64 (((on.getD []).getD i 0).tmod ((q + 1 : Nat) : Int))) := by
        simp only [abin, if_true]; rw [if_neg (by omega)]
      generalize ((on.getD []).getD i 0).tmod ((q + 1 : Nat) : Int) = r at *
      obtain ⟨kk, hk0, hc⟩ : ∃ kk : Int, (0 ≤ kk ∧ kk < ((q + 1 : Nat) : Int)) ∧ ((decide (r < 0) = true ∧ r + ((q + 1 : Nat) : Int) = kk) ∨ (decide (kk < 0) = false ∧ r = kk)) := by
        by_cases hr : r < 0
        · exact ⟨r + ((q + 1 : Nat) : Int), by omega, .inl ⟨decide_eq_true hr, rfl⟩⟩
        · exact ⟨r, by omega, .inr ⟨decide_eq_false hr, rfl⟩⟩
      have hllen : ∀ st, lenV st (ints (some rl)) = some ((q + 1 : Nat) : Int) := fun st => by rw [lenV_ints]; simp only [Option.getD_some, hrl]
      have hial : ∀ st, iaddrV st 1 (ints (some rl)) (.int .i64 kk) = some (.rptr ((rl.drop kk.toNat).map (AV.int .i64))) := fun st => by
        rw [iaddrV_ints_pos st (some rl) .i64 kk (by simp only [Option.getD_some, hrl]; exact hk0)]; rfl
      have hus1 : us.length < 1000 := by omega
      obtain ⟨Y, hY, hYn, hYm⟩ := hyl kk.toNat (by omega)
      have hhd : ((rl.drop kk.toNat).map (AV.int .i64)).head? = some (.int .i64 (Y : Int)) := by rw [head_drop_n rl kk.toNat (by omega), hY]
      generalize hJ : jn T o' a = J at *
      rcases hc with ⟨hr, hkk⟩ | ⟨hr, hkk⟩
      all_goals
        by_cases hyo : Y = o'
        · have he : ((Y : Int) == (o' : Int)) = true := by rw [hyo]; exact beq_self_eq_true _
          repeat' first
            | refine W_seq ?_
            | refine W_skip ?_
            | refine W_exit ?_
            | refine W_ret ?_
            | refine W_block ?_
            | (refine W_ops (by simp (maxSteps := 1000000) (disch := first | decide | omega | assumption | exact plain_int _ _ | exact plain_ints _ | exact plain_bool _ | exact one_int _ _ | exact plain_des _ | exact plain_rows _) only [AM, initTm, Nat.reduceAdd, Nat.reduceEqDiff, reduceCtorEq, run_aaddr, run_stn, run_bld, bldV_nil, g1, g2, g3, g10, g12, g13, hil, run_ldn, hldnD, eD, hcj, x0, x1, bne_self_eq_false, hfaD, hldD, hDlen, hDl, hrem, hllen, hr, hkk, hial, hhd, he, ea]; rfl) ?_)
            | (refine W_cond (by simp (maxSteps := 1000000) (disch := first | decide | omega | assumption | exact plain_int _ _ | exact plain_ints _ | exact plain_bool _ | exact one_int _ _ | exact plain_des _ | exact plain_rows _) only [AM, initTm, Nat.reduceAdd, Nat.reduceEqDiff, reduceCtorEq, run_aaddr, run_stn, run_bld, bldV_nil, g1, g2, g3, g10, g12, g13, hil, run_ldn, hldnD, eD, hcj, x0, x1, bne_self_eq_false, hfaD, hldD, hDlen, hDl, hrem, hllen, hr, hkk, hial, hhd, he, ea]; rfl) ?_ ?_ <;> intro hcond <;> (try simp only [decide_eq_true_eq, decide_eq_false_iff_not, beq_iff_eq, beq_eq_false_iff_ne, ne_eq, reduceCtorEq, Bool.not_eq_true', Bool.not_eq_false', bne_iff_ne, bne_eq_false_iff_eq] at hcond) <;> (try (exfalso; omega)))
            | refine thenQ_n ?_
            | refine thenQ_e ?_
            | refine thenQ_r ?_
            | refine outQ_n ?_
            | refine outQ_r ?_
            | refine outQ_e ?_
            | refine outQ_d (by decide) ?_
          refine ⟨.inr rfl, [_], rfl, ?_⟩
          rw [tuple_one]
          simp (maxSteps := 1000000) (disch := first | decide | omega | assumption | exact plain_int _ _ | exact plain_ints _ | exact plain_bool _ | exact one_int _ _ | exact plain_des _ | exact plain_rows _) only [AM, initTm, Nat.reduceAdd, Nat.reduceEqDiff, reduceCtorEq, run_aaddr, run_stn, run_bld, bldV_nil]
        · have he : ((Y : Int) == (o' : Int)) = false := by rw [beq_eq_false_iff_ne]; omega
          by_cases hya : Y = a
          · have he2 : ((Y : Int) == (a : Int)) = true := by rw [hya]; exact beq_self_eq_true _
            repeat' first
              | refine W_seq ?_
              | refine W_skip ?_
              | refine W_exit ?_
              | refine W_ret ?_
              | refine W_block ?_
              | (refine W_ops (by simp (maxSteps := 1000000) (disch := first | decide | omega | assumption | exact plain_int _ _ | exact plain_ints _ | exact plain_bool _ | exact one_int _ _ | exact plain_des _ | exact plain_rows _) only [AM, initTm, Nat.reduceAdd, Nat.reduceEqDiff, reduceCtorEq, run_aaddr, run_stn, run_bld, bldV_nil, g1, g2, g3, g10, g12, g13, hil, run_ldn, hldnD, eD, hcj, x0, x1, bne_self_eq_false, hfaD, hldD, hDlen, hDl, hrem, hllen, hr, hkk, hial, hhd, he, he2, ea]; rfl) ?_)
              | (refine W_cond (by simp (maxSteps := 1000000) (disch := first | decide | omega | assumption | exact plain_int _ _ | exact plain_ints _ | exact plain_bool _ | exact one_int _ _ | exact plain_des _ | exact plain_rows _) only [AM, initTm, Nat.reduceAdd, Nat.reduceEqDiff, reduceCtorEq, run_aaddr, run_stn, run_bld, bldV_nil, g1, g2, g3, g10, g12, g13, hil, run_ldn, hldnD, eD, hcj, x0, x1, bne_self_eq_false, hfaD, hldD, hDlen, hDl, hrem, hllen, hr, hkk, hial, hhd, he, he2, ea]; rfl) ?_ ?_ <;> intro hcond <;> (try simp only [decide_eq_true_eq, decide_eq_false_iff_not, beq_iff_eq, beq_eq_false_iff_ne, ne_eq, reduceCtorEq, Bool.not_eq_true', Bool.not_eq_false', bne_iff_ne, bne_eq_false_iff_eq] at hcond) <;> (try (exfalso; omega)))
              | refine thenQ_n ?_
              | refine thenQ_e ?_
              | refine thenQ_r ?_
              | refine outQ_n ?_
              | refine outQ_r ?_
              | refine outQ_e ?_
              | refine outQ_d (by decide) ?_
            refine ⟨.inr rfl, [_], rfl, ?_⟩
            rw [tuple_one]
            simp (maxSteps := 1000000) (disch := first | decide | omega | assumption | exact plain_int _ _ | exact plain_ints _ | exact plain_bool _ | exact one_int _ _ | exact plain_des _ | exact plain_rows _) only [AM, initTm, Nat.reduceAdd, Nat.reduceEqDiff, reduceCtorEq, run_aaddr, run_stn, run_bld, bldV_nil]
          · have he2 : ((Y : Int) == (a : Int)) = false := by rw [beq_eq_false_iff_ne]; omega
            obtain ⟨c', bx2, happ, hrow2, hle2, hkeep2⟩ := hRow.add (Nat.le_refl _) hN (Y : Int) hus1
            repeat' first
              | refine W_seq ?_
              | refine W_skip ?_
              | refine W_exit ?_
              | refine W_ret ?_
              | refine W_block ?_
              | (refine W_ops (by simp (maxSteps := 1000000) (disch := first | decide | omega | assumption | exact plain_int _ _ | exact plain_ints _ | exact plain_bool _ | exact one_int _ _ | exact plain_des _ | exact plain_rows _) only [AM, initTm, Nat.reduceAdd, Nat.reduceEqDiff, reduceCtorEq, run_aaddr, run_stn, run_bld, bldV_nil, g1, g2, g3, g10, g12, g13, hil, run_ldn, hldnD, eD, hcj, x0, x1, bne_self_eq_false, hfaD, hldD, hDlen, hDl, hrem, hllen, hr, hkk, hial, hhd, he, he2, ea, happ]; rfl) ?_)
              | (refine W_cond (by simp (maxSteps := 1000000) (disch := first | decide | omega | assumption | exact plain_int _ _ | exact plain_ints _ | exact plain_bool _ | exact one_int _ _ | exact plain_des _ | exact plain_rows _) only [AM, initTm, Nat.reduceAdd, Nat.reduceEqDiff, reduceCtorEq, run_aaddr, run_stn, run_bld, bldV_nil, g1, g2, g3, g10, g12, g13, hil, run_ldn, hldnD, eD, hcj, x0, x1, bne_self_eq_false, hfaD, hldD, hDlen, hDl, hrem, hllen, hr, hkk, hial, hhd, he, he2, ea, happ]; rfl) ?_ ?_ <;> intro hcond <;> (try simp only [decide_eq_true_eq, decide_eq_false_iff_not, beq_iff_eq, beq_eq_false_iff_ne, ne_eq, reduceCtorEq, Bool.not_eq_true', Bool.not_eq_false', bne_iff_ne, bne_eq_false_iff_eq] at hcond) <;> (try (exfalso; omega)))
              | refine thenQ_n ?_
              | refine thenQ_e ?_
              | refine thenQ_r ?_
              | refine outQ_n ?_
              | refine outQ_r ?_
              | refine outQ_e ?_
              | refine outQ_d (by decide) ?_
            exact ⟨3 - (i + 1), by omega, i + 1, bx2, c', _, us ++ [(Y : Int)], rfl, by simp (maxSteps := 1000000) (disch := first | decide | omega | assumption | exact plain_int _ _ | exact plain_ints _ | exact plain_bool _ | exact one_int _ _ | exact plain_des _ | exact plain_rows _) only [AM, initTm, Nat.reduceAdd, Nat.reduceEqDiff, reduceCtorEq, run_aaddr, run_stn, run_bld, bldV_nil, g1], by simp (maxSteps := 1000000) (disch := first | decide | omega | assumption | exact plain_int _ _ | exact plain_ints _ | exact plain_bool _ | exact one_int _ _ | exact plain_des _ | exact plain_rows _) only [AM, initTm, Nat.reduceAdd, Nat.reduceEqDiff, reduceCtorEq, run_aaddr, run_stn, run_bld, bldV_nil, g2], by simp (maxSteps := 1000000) (disch := first | decide | omega | assumption | exact plain_int _ _ | exact plain_ints _ | exact plain_bool _ | exact one_int _ _ | exact plain_des _ | exact plain_rows _) only [AM, initTm, Nat.reduceAdd, Nat.reduceEqDiff, reduceCtorEq, run_aaddr, run_stn, run_bld, bldV_nil, g3], by simp (maxSteps := 1000000) (disch := first | decide | omega | assumption | exact plain_int _ _ | exact plain_ints _ | exact plain_bool _ | exact one_int _ _ | exact plain_des _ | exact plain_rows _) only [AM, initTm, Nat.reduceAdd, Nat.reduceEqDiff, reduceCtorEq, run_aaddr, run_stn, run_bld, bldV_nil, g10], by simp (maxSteps := 1000000) (disch := first | decide | omega | assumption | exact plain_int _ _ | exact plain_ints _ | exact plain_bool _ | exact one_int _ _ | exact plain_des _ | exact plain_rows _) only [AM, initTm, Nat.reduceAdd, Nat.reduceEqDiff, reduceCtorEq, run_aaddr, run_stn, run_bld, bldV_nil], by simp (maxSteps := 1000000) (disch := first | decide | omega | assumption | exact plain_int _ _ | exact plain_ints _ | exact plain_bool _ | exact one_int _ _ | exact plain_des _ | exact plain_rows _) only [AM, initTm, Nat.reduceAdd, Nat.reduceEqDiff, reduceCtorEq, run_aaddr, run_stn, run_bld, bldV_nil]; rfl, by rw [List.length_append, List.length_singleton]; omega, by omega, rfl, by rw [hkeep2 1 (by omega)]; exact c1, by omega, hrow2, hCh.add (by rw [hus]; exact ea) han (fun e => hoa e.symm) hYn hyo hya (by rw [hJ]; exact honl Y hYn hYm hyo)⟩
    · have h33 : us.length = 3 := by omega
      obtain ⟨a0, u0, ea0, na0, oa0, eu0, nu0, ou0, au0, ju0⟩ := hCh 0 (by omega)
      obtain ⟨a1, u1, ea1, na1, oa1, eu1, nu1, ou1, au1, ju1⟩ := hCh 1 (by omega)
      obtain ⟨a2, u2, ea2, na2, oa2, eu2, nu2, ou2, au2, ju2⟩ := hCh 2 (by omega)
      obtain ⟨r1, hr1, hf1'⟩ := hline o a0 a1
      obtain ⟨r2, hr2, hf2'⟩ := hline o a0 a2
      obtain ⟨r3, hr3, hf3'⟩ := hline o a1 a2
      obtain ⟨r4, hr4, hf4'⟩ := hline a0 a1 a2
      obtain ⟨r5, hr5, hf5'⟩ := hline u0 u1 u2
      have call : ∀ (a b c : Nat) (r : Bool), pcall tabD (E GP tabD) 32 [D.av, .int .i64 a, .int .i64 b, .int .i64 c] = some (.val (.bool r), false) → ∀ st, doCall tabD (E GP tabD) .pureV 32 [D.av, .int .i64 a, .int .i64 b, .int .i64 c] st = some (.bool r, st) := fun a b c r h st => by
        rw [doCall_4 (plain_des D) (plain_int _ _) (plain_int _ _) (plain_int _ _), h]; rfl
      have q1 := call _ _ _ _ hr1
      have q2 := call _ _ _ _ hr2
      have q3 := call _ _ _ _ hr3
      have q4 := call _ _ _ _ hr4
      have q5 := call _ _ _ _ hr5
      have hKK : ∃ kb, c = .own kb 3 ∧ HasK bx kb .i64 3 us .live := by
        rcases hRow with ⟨h, _⟩ | ⟨kb, _, _, h1, h2, _⟩
        · rw [h] at h33; simp at h33
        · exact ⟨kb, by rw [h1, h33], h2, by decide⟩
      obtain ⟨kb, rfl, hK⟩ := hKK
      have hKi := fun tm rb => hK.iaddr tm rb 3 h33.symm
      have hKl := fun tm rb => hK.ld tm rb 3 h33.symm
      have z0 : (0 : Int).toNat = 0 := rfl
      have z1 : (1 : Int).toNat = 1 := rfl
      have z2 : (2 : Int).toNat = 2 := rfl
      cases r1 with
      | true =>
        repeat' first
          | refine W_seq ?_
          | refine W_skip ?_
          | refine W_exit ?_
          | refine W_ret ?_
          | refine W_block ?_
          | (refine W_ops (by simp (maxSteps := 1000000) (disch := first | decide | omega | assumption | exact plain_int _ _ | exact plain_ints _ | exact plain_bool _ | exact one_int _ _ | exact plain_des _ | exact plain_rows _) only [AM, initTm, Nat.reduceAdd, Nat.reduceEqDiff, reduceCtorEq, run_aaddr, run_stn, run_bld, bldV_nil, g1, g2, g3, g10, g12, g13, hil, run_ldn, hldnD, eD, hKi, hKl, z0, z1, z2, ea0, ea1, ea2, eu0, eu1, eu2, q1, q2, q3, q4, q5]; rfl) ?_)
          | (refine W_cond (by simp (maxSteps := 1000000) (disch := first | decide | omega | assumption | exact plain_int _ _ | exact plain_ints _ | exact plain_bool _ | exact one_int _ _ | exact plain_des _ | exact plain_rows _) only [AM, initTm, Nat.reduceAdd, Nat.reduceEqDiff, reduceCtorEq, run_aaddr, run_stn, run_bld, bldV_nil, g1, g2, g3, g10, g12, g13, hil, run_ldn, hldnD, eD, hKi, hKl, z0, z1, z2, ea0, ea1, ea2, eu0, eu1, eu2, q1, q2, q3, q4, q5]; rfl) ?_ ?_ <;> intro hcond <;> (try simp only [decide_eq_true_eq, decide_eq_false_iff_not, beq_iff_eq, beq_eq_false_iff_ne, ne_eq, reduceCtorEq, Bool.not_eq_true', Bool.not_eq_false', bne_iff_ne, bne_eq_false_iff_eq] at hcond) <;> (try (exfalso; omega)))
          | refine thenQ_n ?_
          | refine thenQ_e ?_
          | refine thenQ_r ?_
          | refine outQ_n ?_
          | refine outQ_r ?_
          | refine outQ_e ?_
          | refine outQ_d (by decide) ?_
        refine ⟨.inr rfl, [_], rfl, ?_⟩
        rw [tuple_one]
        simp (maxSteps := 1000000) (disch := first | decide | omega | assumption | exact plain_int _ _ | exact plain_ints _ | exact plain_bool _ | exact one_int _ _ | exact plain_des _ | exact plain_rows _) only [AM, initTm, Nat.reduceAdd, Nat.reduceEqDiff, reduceCtorEq, run_aaddr, run_stn, run_bld, bldV_nil]
      | false =>
      cases r2 with
      | true =>
        repeat' first
          | refine W_seq ?_
          | refine W_skip ?_
          | refine W_exit ?_
          | refine W_ret ?_
          | refine W_block ?_
          | (refine W_ops (by simp (maxSteps := 1000000) (disch := first | decide | omega | assumption | exact plain_int _ _ | exact plain_ints _ | exact plain_bool _ | exact one_int _ _ | exact plain_des _ | exact plain_rows _) only [AM, initTm, Nat.reduceAdd, Nat.reduceEqDiff, reduceCtorEq, run_aaddr, run_stn, run_bld, bldV_nil, g1, g2, g3, g10, g12, g13, hil, run_ldn, hldnD, eD, hKi, hKl, z0, z1, z2, ea0, ea1, ea2, eu0, eu1, eu2, q1, q2, q3, q4, q5]; rfl) ?_)
          | (refine W_cond (by simp (maxSteps := 1000000) (disch := first | decide | omega | assumption | exact plain_int _ _ | exact plain_ints _ | exact plain_bool _ | exact one_int _ _ | exact plain_des _ | exact plain_rows _) only [AM, initTm, Nat.reduceAdd, Nat.reduceEqDiff, reduceCtorEq, run_aaddr, run_stn, run_bld, bldV_nil, g1, g2, g3, g10, g12, g13, hil, run_ldn, hldnD, eD, hKi, hKl, z0, z1, z2, ea0, ea1, ea2, eu0, eu1, eu2, q1, q2, q3, q4, q5]; rfl) ?_ ?_ <;> intro hcond <;> (try simp only [decide_eq_true_eq, decide_eq_false_iff_not, beq_iff_eq, beq_eq_false_iff_ne, ne_eq, reduceCtorEq, Bool.not_eq_true', Bool.not_eq_false', bne_iff_ne, bne_eq_false_iff_eq] at hcond) <;> (try (exfalso; omega)))
          | refine thenQ_n ?_
          | refine thenQ_e ?_
          | refine thenQ_r ?_
          | refine outQ_n ?_
          | refine outQ_r ?_
          | refine outQ_e ?_
          | refine outQ_d (by decide) ?_
        refine ⟨.inr rfl, [_], rfl, ?_⟩
        rw [tuple_one]
        simp (maxSteps := 1000000) (disch := first | decide | omega | assumption | exact plain_int _ _ | exact plain_ints _ | exact plain_bool _ | exact one_int _ _ | exact plain_des _ | exact plain_rows _) only [AM, initTm, Nat.reduceAdd, Nat.reduceEqDiff, reduceCtorEq, run_aaddr, run_stn, run_bld, bldV_nil]
      | false =>
      cases r3 with
      | true =>
        repeat' first
          | refine W_seq ?_
          | refine W_skip ?_
          | refine W_exit ?_
          | refine W_ret ?_
          | refine W_block ?_
          | (refine W_ops (by simp (maxSteps := 1000000) (disch := first | decide | omega | assumption | exact plain_int _ _ | exact plain_ints _ | exact plain_bool _ | exact one_int _ _ | exact plain_des _ | exact plain_rows _) only [AM, initTm, Nat.reduceAdd, Nat.reduceEqDiff, reduceCtorEq, run_aaddr, run_stn, run_bld, bldV_nil, g1, g2, g3, g10, g12, g13, hil, run_ldn, hldnD, eD, hKi, hKl, z0, z1, z2, ea0, ea1, ea2, eu0, eu1, eu2, q1, q2, q3, q4, q5]; rfl) ?_)
          | (refine W_cond (by simp (maxSteps := 1000000) (disch := first | decide | omega | assumption | exact plain_int _ _ | exact plain_ints _ | exact plain_bool _ | exact one_int _ _ | exact plain_des _ | exact plain_rows _) only [AM, initTm, Nat.reduceAdd, Nat.reduceEqDiff, reduceCtorEq, run_aaddr, run_stn, run_bld, bldV_nil, g1, g2, g3, g10, g12, g13, hil, run_ldn, hldnD, eD, hKi, hKl, z0, z1, z2, ea0, ea1, ea2, eu0, eu1, eu2, q1, q2, q3, q4, q5]; rfl) ?_ ?_ <;> intro hcond <;> (try simp only [decide_eq_true_eq, decide_eq_false_iff_not, beq_iff_eq, beq_eq_false_iff_ne, ne_eq, reduceCtorEq, Bool.not_eq_true', Bool.not_eq_false', bne_iff_ne, bne_eq_false_iff_eq] at hcond) <;> (try (exfalso; omega)))
          | refine thenQ_n ?_
          | refine thenQ_e ?_
          | refine thenQ_r ?_
          | refine outQ_n ?_
          | refine outQ_r ?_
          | refine outQ_e ?_
          | refine outQ_d (by decide) ?_
        refine ⟨.inr rfl, [_], rfl, ?_⟩
        rw [tuple_one]
        simp (maxSteps := 1000000) (disch := first | decide | omega | assumption | exact plain_int _ _ | exact plain_ints _ | exact plain_bool _ | exact one_int _ _ | exact plain_des _ | exact plain_rows _) only [AM, initTm, Nat.reduceAdd, Nat.reduceEqDiff, reduceCtorEq, run_aaddr, run_stn, run_bld, bldV_nil]
      | false =>
      cases r4 with
      | true =>
        repeat' first
          | refine W_seq ?_
          | refine W_skip ?_
          | refine W_exit ?_
          | refine W_ret ?_
          | refine W_block ?_
          | (refine W_ops (by simp (maxSteps := 1000000) (disch := first | decide | omega | assumption | exact plain_int _ _ | exact plain_ints _ | exact plain_bool _ | exact one_int _ _ | exact plain_des _ | exact plain_rows _) only [AM, initTm, Nat.reduceAdd, Nat.reduceEqDiff, reduceCtorEq, run_aaddr, run_stn, run_bld, bldV_nil, g1, g2, g3, g10, g12, g13, hil, run_ldn, hldnD, eD, hKi, hKl, z0, z1, z2, ea0, ea1, ea2, eu0, eu1, eu2, q1, q2, q3, q4, q5]; rfl) ?_)
          | (refine W_cond (by simp (maxSteps := 1000000) (disch := first | decide | omega | assumption | exact plain_int _ _ | exact plain_ints _ | exact plain_bool _ | exact one_int _ _ | exact plain_des _ | exact plain_rows _) only [AM, initTm, Nat.reduceAdd, Nat.reduceEqDiff, reduceCtorEq, run_aaddr, run_stn, run_bld, bldV_nil, g1, g2, g3, g10, g12, g13, hil, run_ldn, hldnD, eD, hKi, hKl, z0, z1, z2, ea0, ea1, ea2, eu0, eu1, eu2, q1, q2, q3, q4, q5]; rfl) ?_ ?_ <;> intro hcond <;> (try simp only [decide_eq_true_eq, decide_eq_false_iff_not, beq_iff_eq, beq_eq_false_iff_ne, ne_eq, reduceCtorEq, Bool.not_eq_true', Bool.not_eq_false', bne_iff_ne, bne_eq_false_iff_eq] at hcond) <;> (try (exfalso; omega)))
          | refine thenQ_n ?_
          | refine thenQ_e ?_
          | refine thenQ_r ?_
          | refine outQ_n ?_
          | refine outQ_r ?_
          | refine outQ_e ?_
          | refine outQ_d (by decide) ?_
        refine ⟨.inr rfl, [_], rfl, ?_⟩
        rw [tuple_one]
        simp (maxSteps := 1000000) (disch := first | decide | omega | assumption | exact plain_int _ _ | exact plain_ints _ | exact plain_bool _ | exact one_int _ _ | exact plain_des _ | exact plain_rows _) only [AM, initTm, Nat.reduceAdd, Nat.reduceEqDiff, reduceCtorEq, run_aaddr, run_stn, run_bld, bldV_nil]
      | false =>
      cases r5 with
      | true =>
        repeat' first
          | refine W_seq ?_
          | refine W_skip ?_
          | refine W_exit ?_
          | refine W_ret ?_
          | refine W_block ?_
          | (refine W_ops (by simp (maxSteps := 1000000) (disch := first | decide | omega | assumption | exact plain_int _ _ | exact plain_ints _ | exact plain_bool _ | exact one_int _ _ | exact plain_des _ | exact plain_rows _) only [AM, initTm, Nat.reduceAdd, Nat.reduceEqDiff, reduceCtorEq, run_aaddr, run_stn, run_bld, bldV_nil, g1, g2, g3, g10, g12, g13, hil, run_ldn, hldnD, eD, hKi, hKl, z0, z1, z2, ea0, ea1, ea2, eu0, eu1, eu2, q1, q2, q3, q4, q5]; rfl) ?_)
          | (refine W_cond (by simp (maxSteps := 1000000) (disch := first | decide | omega | assumption | exact plain_int _ _ | exact plain_ints _ | exact plain_bool _ | exact one_int _ _ | exact plain_des _ | exact plain_rows _) only [AM, initTm, Nat.reduceAdd, Nat.reduceEqDiff, reduceCtorEq, run_aaddr, run_stn, run_bld, bldV_nil, g1, g2, g3, g10, g12, g13, hil, run_ldn, hldnD, eD, hKi, hKl, z0, z1, z2, ea0, ea1, ea2, eu0, eu1, eu2, q1, q2, q3, q4, q5]; rfl) ?_ ?_ <;> intro hcond <;> (try simp only [decide_eq_true_eq, decide_eq_false_iff_not, beq_iff_eq, beq_eq_false_iff_ne, ne_eq, reduceCtorEq, Bool.not_eq_true', Bool.not_eq_false', bne_iff_ne, bne_eq_false_iff_eq] at hcond) <;> (try (exfalso; omega)))
          | refine thenQ_n ?_
          | refine thenQ_e ?_
          | refine thenQ_r ?_
          | refine outQ_n ?_
          | refine outQ_r ?_
          | refine outQ_e ?_
          | refine outQ_d (by decide) ?_
        refine ⟨.inr rfl, [_], rfl, ?_⟩
        rw [tuple_one]
        simp (maxSteps := 1000000) (disch := first | decide | omega | assumption | exact plain_int _ _ | exact plain_ints _ | exact plain_bool _ | exact one_int _ _ | exact plain_des _ | exact plain_rows _) only [AM, initTm, Nat.reduceAdd, Nat.reduceEqDiff, reduceCtorEq, run_aaddr, run_stn, run_bld, bldV_nil]
      | false =>
      have nc1 : ¬ Col T o a0 a1 := fun h => by have := hf1'.2 (col_line hp g ho na0 na1 h); cases this
      have nc2 : ¬ Col T o a0 a2 := fun h => by have := hf2'.2 (col_line hp g ho na0 na2 h); cases this
      have nc3 : ¬ Col T o a1 a2 := fun h => by have := hf3'.2 (col_line hp g ho na1 na2 h); cases this
      have nc4 : ¬ Col T a0 a1 a2 := fun h => by have := hf4'.2 (col_line hp g na0 na1 na2 h); cases this
      have nc5 : ¬ Col T u0 u1 u2 := fun h => by have := hf5'.2 (col_line hp g nu0 nu1 nu2 h); cases this
      clear hf1' hf2' hf3' hf4' hf5'
      unfold Col at nc1 nc2 nc3 nc4 nc5
      simp only [not_or] at nc1 nc2 nc3 nc4 nc5
      obtain ⟨b1, b2, b3, b4⟩ := g.des o a0 ho na0 (fun e => oa0 e.symm) a1 a2 u0 u1 u2 na1 na2 nu0 nu1 nu2
        ⟨oa1, oa2, ou0, ou1, ou2, au0, au1, au2, ju0, ju1, ju2, nc1.2.2.2, nc2.2.2.2, nc3.2.2.2, nc4.2.2.2, nc5.2.2.2⟩
      have ja := hcross na0 na1 nu0 nu1 nc4.1 nc5.1 b1
      have jb := hcross na0 na2 nu0 nu2 nc4.2.1 nc5.2.1 b2
      have jc := hcross na1 na2 nu1 nu2 nc4.2.2.1 nc5.2.2.1 b3
      have la := g.geo.jlt _ (g.geo.jlt _ na0 _ na1 nc4.1) _ (g.geo.jlt _ nu0 _ nu1 nc5.1) b1
      have lb := g.geo.jlt _ (g.geo.jlt _ na0 _ na2 nc4.2.1) _ (g.geo.jlt _ nu0 _ nu2 nc5.2.1) b2
      have lc := g.geo.jlt _ (g.geo.jlt _ na1 _ na2 nc4.2.2.1) _ (g.geo.jlt _ nu1 _ nu2 nc5.2.2.1) b3
      generalize jn T (jn T a0 a1) (jn T u0 u1) = A at *
      generalize jn T (jn T a0 a2) (jn T u0 u2) = B at *
      generalize jn T (jn T a1 a2) (jn T u1 u2) = C at *
      obtain ⟨rr, hrl, hriff⟩ := hline A B C
      obtain rfl := hriff.2 (col_line hp g la lb lc b4)
      have cA : ∀ st, doCall tabD (E GP tabD) .pureV 31 [D.av, .int .i64 a0, .int .i64 a1, .int .i64 u0, .int .i64 u1] st = some (.int .i64 A, st) := fun st => by
        rw [doCall_5 (plain_des D) (plain_int _ _) (plain_int _ _) (plain_int _ _) (plain_int _ _), ja]; rfl
      have cB : ∀ st, doCall tabD (E GP tabD) .pureV 31 [D.av, .int .i64 a0, .int .i64 a2, .int .i64 u0, .int .i64 u2] st = some (.int .i64 B, st) := fun st => by
        rw [doCall_5 (plain_des D) (plain_int _ _) (plain_int _ _) (plain_int _ _) (plain_int _ _), jb]; rfl
      have cC : ∀ st, doCall tabD (E GP tabD) .pureV 31 [D.av, .int .i64 a1, .int .i64 a2, .int .i64 u1, .int .i64 u2] st = some (.int .i64 C, st) := fun st => by
        rw [doCall_5 (plain_des D) (plain_int _ _) (plain_int _ _) (plain_int _ _) (plain_int _ _), jc]; rfl
      have cI := call _ _ _ _ hrl
      have hneg : ∀ a : Nat, decide ((a : Int) < 0) = false := fun a => decide_eq_false (by omega)
      repeat' first
        | refine W_seq ?_
        | refine W_skip ?_
        | refine W_exit ?_
        | refine W_ret ?_
        | refine W_block ?_
        | (refine W_ops (by simp (maxSteps := 1000000) (disch := first | decide | omega | assumption | exact plain_int _ _ | exact plain_ints _ | exact plain_bool _ | exact one_int _ _ | exact plain_des _ | exact plain_rows _) only [AM, initTm, Nat.reduceAdd, Nat.reduceEqDiff, reduceCtorEq, run_aaddr, run_stn, run_bld, bldV_nil, g1, g2, g3, g10, g12, g13, hil, run_ldn, hldnD, eD, hKi, hKl, z0, z1, z2, ea0, ea1, ea2, eu0, eu1, eu2, q1, q2, q3, q4, q5, cA, cB, cC, cI, hneg]; rfl) ?_)
        | (refine W_cond (by simp (maxSteps := 1000000) (disch := first | decide | omega | assumption | exact plain_int _ _ | exact plain_ints _ | exact plain_bool _ | exact one_int _ _ | exact plain_des _ | exact plain_rows _) only [AM, initTm, Nat.reduceAdd, Nat.reduceEqDiff, reduceCtorEq, run_aaddr, run_stn, run_bld, bldV_nil, g1, g2, g3, g10, g12, g13, hil, run_ldn, hldnD, eD, hKi, hKl, z0, z1, z2, ea0, ea1, ea2, eu0, eu1, eu2, q1, q2, q3, q4, q5, cA, cB, cC, cI, hneg]; rfl) ?_ ?_ <;> intro hcond <;> (try simp only [decide_eq_true_eq, decide_eq_false_iff_not, beq_iff_eq, beq_eq_false_iff_ne, ne_eq, reduceCtorEq, Bool.not_eq_true', Bool.not_eq_false', bne_iff_ne, bne_eq_false_iff_eq] at hcond) <;> (try (exfalso; omega)))
        | refine thenQ_n ?_
        | refine thenQ_e ?_
        | refine thenQ_r ?_
        | refine outQ_n ?_
        | refine outQ_r ?_
        | refine outQ_e ?_
        | refine outQ_d (by decide) ?_
      refine ⟨.inr rfl, [_], rfl, ?_⟩
      rw [tuple_one]
      simp (maxSteps := 1000000) (disch := first | decide | omega | assumption | exact plain_int _ _ | exact plain_ints _ | exact plain_bool _ | exact one_int _ _ | exact plain_des _ | exact plain_rows _) only [AM, initTm, Nat.reduceAdd, Nat.reduceEqDiff, reduceCtorEq, run_aaddr, run_stn, run_bld, bldV_nil]
end Go.Am
