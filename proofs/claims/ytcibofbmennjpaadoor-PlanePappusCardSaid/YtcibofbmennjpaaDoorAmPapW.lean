/- PlanePappus answers true on the machine. -/
import Derived.Test.YtcibofbmennjpaaDoorAmPapC
set_option linter.unusedVariables false
set_option linter.unusedSimpArgs false
namespace Go.Am

/-- The points that are chosen. -/
def Chosen (n T l m : Nat) (ps : List Int) : Prop := ps.Nodup ∧ ∀ j, j < ps.length → ∃ y : Nat, ps.getD j 0 = y ∧ y < n ∧ y ≠ jn T l m ∧ jn T y (jn T l m) = if j < 3 then l else m
theorem Chosen.add {n T l m : Nat} {ps : List Int} (h : Chosen n T l m ps) {y : Nat} (hy : y < n) (hyx : y ≠ jn T l m) (hl : jn T y (jn T l m) = if ps.length < 3 then l else m) (hno : (y : Int) ∉ ps) : Chosen n T l m (ps ++ [(y : Int)]) := by
  refine ⟨List.nodup_append.2 ⟨h.1, by simp, fun a ha b hb e => ?_⟩, fun j hj => ?_⟩
  · simp only [List.mem_singleton] at hb
    rw [e, hb] at ha
    exact hno ha
  · rw [List.length_append, List.length_singleton] at hj
    by_cases e : j < ps.length
    · obtain ⟨z, hz, h2⟩ := h.2 j e
      exact ⟨z, by rw [← hz, List.getD_eq_getElem?_getD, List.getElem?_append_left e, List.getD_eq_getElem?_getD], h2⟩
    · have : j = ps.length := by omega
      subst this
      exact ⟨y, by rw [List.getD_eq_getElem?_getD, List.getElem?_append_right (Nat.le_refl _), Nat.sub_self]; rfl, hy, hyx, hl⟩
theorem Chosen.six {n T l m : Nat} {ps : List Int} (h : Chosen n T l m ps) (hl : ps.length = 6) : ∃ p0 p1 p2 p3 p4 p5 : Nat, ps = [(p0 : Int), (p1 : Int), (p2 : Int), (p3 : Int), (p4 : Int), (p5 : Int)] ∧ (p0 < n ∧ p1 < n ∧ p2 < n ∧ p3 < n ∧ p4 < n ∧ p5 < n) ∧
    PPre T l m p0 p1 p2 p3 p4 p5 ∧ p0 ≠ p4 ∧ p1 ≠ p3 ∧ p0 ≠ p5 ∧ p2 ≠ p3 ∧ p1 ≠ p5 ∧ p2 ≠ p4 := by
  obtain ⟨hnd, h⟩ := h
  match ps, hl with
  | [a0, a1, a2, a3, a4, a5], _ =>
    obtain ⟨p0, e0, n0, x0, l0⟩ := h 0 (by simp)
    obtain ⟨p1, e1, n1, x1, l1⟩ := h 1 (by simp)
    obtain ⟨p2, e2, n2, x2, l2⟩ := h 2 (by simp)
    obtain ⟨p3, e3, n3, x3, l3⟩ := h 3 (by simp)
    obtain ⟨p4, e4, n4, x4, l4⟩ := h 4 (by simp)
    obtain ⟨p5, e5, n5, x5, l5⟩ := h 5 (by simp)
    have e0 : a0 = p0 := e0
    have e1 : a1 = p1 := e1
    have e2 : a2 = p2 := e2
    have e3 : a3 = p3 := e3
    have e4 : a4 = p4 := e4
    have e5 : a5 = p5 := e5
    subst e0 e1 e2 e3 e4 e5
    simp only [List.nodup_cons, List.mem_cons, List.not_mem_nil, or_false, not_or, List.nodup_nil, and_true, not_false_eq_true] at hnd
    exact ⟨p0, p1, p2, p3, p4, p5, rfl, ⟨n0, n1, n2, n3, n4, n5⟩, ⟨x0, x1, x2, x3, x4, x5, l0, l1, l2, l3, l4, l5, by omega, by omega, by omega, by omega, by omega, by omega⟩, by omega, by omega, by omega, by omega, by omega, by omega⟩

set_option maxHeartbeats 4000000 in
theorem PlanePappus_true (f : Fld) (hlen : f.l.length < 9223372036854775808) (l0 : Int) (hl0 : -9223372036854775808 ≤ l0 ∧ l0 ≤ 9223372036854775807) (m0 : Int) (hm0 : -9223372036854775808 ≤ m0 ∧ m0 ≤ 9223372036854775807) (o : Option (List Int)) (ho : (o.getD []).length < 9223372036854775808) :
    pcall tabD (E GP tabD) 7 [f.av, .int .i64 l0, .int .i64 m0, ints o] = some (.val (.bool true), false) := by
  obtain ⟨v, hm, hv⟩ := Make_any f hlen
  have hcm : ∀ st, doCall tabD (E GP tabD) .pureV 27 [f.av] st = some (v, st) := fun st => by
    rw [doCall_plain1 (plain_fld f), hm]; rfl
  have hcf := call_fact
  have x0 : ∀ (a b : AV), [a, b][0]? = some a := fun _ _ => rfl
  have x1 : ∀ (a b : AV), [a, b][1]? = some b := fun _ _ => rfl
  have hfc : f.av.cells = f.cells := rfl
  have hf1 := f.cells_one
  have hf3 : f.cells.length = 3 := rfl
  have hfa' : AV.agg f.cells = f.av := rfl
  have hH0 : ∀ x, Has (⟨f.cells, 3, 24, .live⟩ :: x) 0 f.cells := fun x => ⟨_, rfl, rfl, by simp⟩
  have hldn0 := fun x tm rb => (hH0 x).ldn tm rb 3 rfl
  have hlo : ∀ st, lenV st (ints o) = some ((o.getD []).length : Int) := fun st => lenV_ints st o
  refine pcall_val (F := tabD) (mf := mf7) rfl (v := .bool true) (fun _ _ h => by cases h) ?_ (fun _ => rfl) (fun _ => rfl)
  unfold mf7
  simp only
  cases hv with
  | err e he q hoo =>
    have hne : (e != 0) = true := bne_iff_ne.2 he
    obtain ⟨D, hD⟩ : ∃ D : Des, D = ⟨0, none⟩ := ⟨_, rfl⟩
    rw [← hD] at hcm
    have hD1 : D.cells.all AV.one = true := D.cells_one
    have hw1 := fun y x tm rb => write_whole (bx := y :: ⟨[.int .i64 0, .nil], 2, 39, .live⟩ :: x) (id := 1) (sz := 2) (e := 39) rfl tm rb 2 rfl (new := D.cells) rfl hD1
    have eD : AV.agg D.cells = D.av := rfl
    simp only [eD] at hw1
    repeat' first
      | refine W_seq ?_
      | refine W_skip ?_
      | refine W_exit ?_
      | refine W_ret ?_
      | refine W_block ?_
      | (refine W_ops (by simp (maxSteps := 1000000) (disch := first | decide | omega | assumption | exact plain_int _ _ | exact plain_ints _ | exact plain_bool _ | exact one_int _ _ | exact plain_des _ | exact plain_rows _) only [AM, initTm, Nat.reduceAdd, Nat.reduceEqDiff, reduceCtorEq, run_aaddr, run_stn, run_bld, bldV_nil, hcf, hcm, x0, x1, hfc, hf1, hf3, run_ldn, hldn0, hfa', hw1, eD, hne, List.length_cons, List.length_nil, List.set_cons_succ, List.set_cons_zero]; rfl) ?_)
      | (refine W_cond (by simp (maxSteps := 1000000) (disch := first | decide | omega | assumption | exact plain_int _ _ | exact plain_ints _ | exact plain_bool _ | exact one_int _ _ | exact plain_des _ | exact plain_rows _) only [AM, initTm, Nat.reduceAdd, Nat.reduceEqDiff, reduceCtorEq, run_aaddr, run_stn, run_bld, bldV_nil, hcf, hcm, x0, x1, hfc, hf1, hf3, run_ldn, hldn0, hfa', hw1, eD, hne, List.length_cons, List.length_nil, List.set_cons_succ, List.set_cons_zero]; rfl) ?_ ?_ <;> intro hcond <;> (try simp only [decide_eq_true_eq, decide_eq_false_iff_not, beq_iff_eq, beq_eq_false_iff_ne, ne_eq, reduceCtorEq, Bool.not_eq_true', Bool.not_eq_false', bne_iff_ne, bne_eq_false_iff_eq] at hcond) <;> (try (exfalso; omega)))
      | refine thenQ_n ?_
      | refine thenQ_e ?_
      | refine thenQ_r ?_
      | refine outQ_n ?_
      | refine outQ_r ?_
      | refine outQ_e ?_
      | refine outQ_d (by decide) ?_
    refine ⟨.inr rfl, [_], rfl, ?_⟩
    rw [tuple_one]
    simp (maxSteps := 1000000) (disch := first | decide | omega | assumption | exact plain_int _ _ | exact plain_ints _ | exact plain_bool _ | exact one_int _ _ | exact plain_des _ | exact plain_rows _) only [AM, initTm, Nat.reduceAdd, Nat.reduceEqDiff, reduceCtorEq, run_aaddr, run_stn, run_bld, bldV_nil]
  | ok q n rows hk hoo hopen hp =>
    obtain ⟨T, P, g⟩ := hp.geo
    obtain ⟨x, e, hme, hcase⟩ := Meet_any hp g l0 m0
    have hq := hp.q_le
    have hcross := @cross_lit q n T P rows hp g
    have hline := inLine_lit hp g
    have hrow := @pD_some q n rows hp
    have hDlen := pD_len hp
    obtain ⟨D, hD⟩ : ∃ D : Des, D = pD n rows := ⟨_, rfl⟩
    rw [← hD] at hcm hme hcross hline hrow hDlen
    clear hD
    have hcme : ∀ st, doCall tabD (E GP tabD) .pureV 30 [D.av, .int .i64 l0, .int .i64 m0] st = some (.tup [.int .i64 x, .int .i64 e], st) := fun st => by
      rw [doCall_plain3 (plain_des D) (plain_int _ _) (plain_int _ _), hme]; rfl
    have hD1 : D.cells.all AV.one = true := D.cells_one
    have hw1 := fun y x tm rb => write_whole (bx := y :: ⟨[.int .i64 0, .nil], 2, 39, .live⟩ :: x) (id := 1) (sz := 2) (e := 39) rfl tm rb 2 rfl (new := D.cells) rfl hD1
    have eD : AV.agg D.cells = D.av := rfl
    simp only [eD] at hw1
    have hH1 : ∀ y x, Has (y :: ⟨D.cells, 2, 39, .live⟩ :: x) 1 D.cells := fun y x => ⟨_, rfl, rfl, by simp⟩
    have hldn1 := fun y x tm rb => (hH1 y x).ldn tm rb 2 rfl
    by_cases h6 : ((o.getD []).length : Int) < 6
    · repeat' first
        | refine W_seq ?_
        | refine W_skip ?_
        | refine W_exit ?_
        | refine W_ret ?_
        | refine W_block ?_
        | (refine W_ops (by simp (maxSteps := 1000000) (disch := first | decide | omega | assumption | exact plain_int _ _ | exact plain_ints _ | exact plain_bool _ | exact one_int _ _ | exact plain_des _ | exact plain_rows _) only [AM, initTm, Nat.reduceAdd, Nat.reduceEqDiff, reduceCtorEq, run_aaddr, run_stn, run_bld, bldV_nil, hcf, hcm, x0, x1, hfc, hf1, hf3, run_ldn, hldn0, hfa', hw1, eD, h6, hlo, bne_self_eq_false, List.length_cons, List.length_nil, List.set_cons_succ, List.set_cons_zero]; rfl) ?_)
        | (refine W_cond (by simp (maxSteps := 1000000) (disch := first | decide | omega | assumption | exact plain_int _ _ | exact plain_ints _ | exact plain_bool _ | exact one_int _ _ | exact plain_des _ | exact plain_rows _) only [AM, initTm, Nat.reduceAdd, Nat.reduceEqDiff, reduceCtorEq, run_aaddr, run_stn, run_bld, bldV_nil, hcf, hcm, x0, x1, hfc, hf1, hf3, run_ldn, hldn0, hfa', hw1, eD, h6, hlo, bne_self_eq_false, List.length_cons, List.length_nil, List.set_cons_succ, List.set_cons_zero]; rfl) ?_ ?_ <;> intro hcond <;> (try simp only [decide_eq_true_eq, decide_eq_false_iff_not, beq_iff_eq, beq_eq_false_iff_ne, ne_eq, reduceCtorEq, Bool.not_eq_true', Bool.not_eq_false', bne_iff_ne, bne_eq_false_iff_eq] at hcond) <;> (try (exfalso; omega)))
        | refine thenQ_n ?_
        | refine thenQ_e ?_
        | refine thenQ_r ?_
        | refine outQ_n ?_
        | refine outQ_r ?_
        | refine outQ_e ?_
        | refine outQ_d (by decide) ?_
      refine ⟨.inr rfl, [_], rfl, ?_⟩
      rw [tuple_one]
      simp (maxSteps := 1000000) (disch := first | decide | omega | assumption | exact plain_int _ _ | exact plain_ints _ | exact plain_bool _ | exact one_int _ _ | exact plain_des _ | exact plain_rows _) only [AM, initTm, Nat.reduceAdd, Nat.reduceEqDiff, reduceCtorEq, run_aaddr, run_stn, run_bld, bldV_nil]
    rcases hcase with ⟨he, _⟩ | ⟨rfl, l, m, rfl, rfl, hl, hm', hlm, rfl⟩
    · have hne : (e != 0) = true := bne_iff_ne.2 he
      repeat' first
        | refine W_seq ?_
        | refine W_skip ?_
        | refine W_exit ?_
        | refine W_ret ?_
        | refine W_block ?_
        | (refine W_ops (by simp (maxSteps := 1000000) (disch := first | decide | omega | assumption | exact plain_int _ _ | exact plain_ints _ | exact plain_bool _ | exact one_int _ _ | exact plain_des _ | exact plain_rows _) only [AM, initTm, Nat.reduceAdd, Nat.reduceEqDiff, reduceCtorEq, run_aaddr, run_stn, run_bld, bldV_nil, hcf, hcm, hcme, x0, x1, hfc, hf1, hf3, run_ldn, hldn0, hldn1, hfa', hw1, eD, h6, hlo, hne, bne_self_eq_false, List.length_cons, List.length_nil, List.set_cons_succ, List.set_cons_zero]; rfl) ?_)
        | (refine W_cond (by simp (maxSteps := 1000000) (disch := first | decide | omega | assumption | exact plain_int _ _ | exact plain_ints _ | exact plain_bool _ | exact one_int _ _ | exact plain_des _ | exact plain_rows _) only [AM, initTm, Nat.reduceAdd, Nat.reduceEqDiff, reduceCtorEq, run_aaddr, run_stn, run_bld, bldV_nil, hcf, hcm, hcme, x0, x1, hfc, hf1, hf3, run_ldn, hldn0, hldn1, hfa', hw1, eD, h6, hlo, hne, bne_self_eq_false, List.length_cons, List.length_nil, List.set_cons_succ, List.set_cons_zero]; rfl) ?_ ?_ <;> intro hcond <;> (try simp only [decide_eq_true_eq, decide_eq_false_iff_not, beq_iff_eq, beq_eq_false_iff_ne, ne_eq, reduceCtorEq, Bool.not_eq_true', Bool.not_eq_false', bne_iff_ne, bne_eq_false_iff_eq] at hcond) <;> (try (exfalso; omega)))
        | refine thenQ_n ?_
        | refine thenQ_e ?_
        | refine thenQ_r ?_
        | refine outQ_n ?_
        | refine outQ_r ?_
        | refine outQ_e ?_
        | refine outQ_d (by decide) ?_
      refine ⟨.inr rfl, [_], rfl, ?_⟩
      rw [tuple_one]
      simp (maxSteps := 1000000) (disch := first | decide | omega | assumption | exact plain_int _ _ | exact plain_ints _ | exact plain_bool _ | exact one_int _ _ | exact plain_des _ | exact plain_rows _) only [AM, initTm, Nat.reduceAdd, Nat.reduceEqDiff, reduceCtorEq, run_aaddr, run_stn, run_bld, bldV_nil]
    repeat' first
      | refine W_seq ?_
      | refine W_skip ?_
      | refine W_exit ?_
      | refine W_ret ?_
      | refine W_block ?_
      | (refine W_ops (by simp (maxSteps := 1000000) (disch := first | decide | omega | assumption | exact plain_int _ _ | exact plain_ints _ | exact plain_bool _ | exact one_int _ _ | exact plain_des _ | exact plain_rows _) only [AM, initTm, Nat.reduceAdd, Nat.reduceEqDiff, reduceCtorEq, run_aaddr, run_stn, run_bld, bldV_nil, hcf, hcm, hcme, x0, x1, hfc, hf1, hf3, run_ldn, hldn0, hldn1, hfa', hw1, eD, h6, hlo, bne_self_eq_false, List.length_cons, List.length_nil, List.set_cons_succ, List.set_cons_zero]; rfl) ?_)
      | (refine W_cond (by simp (maxSteps := 1000000) (disch := first | decide | omega | assumption | exact plain_int _ _ | exact plain_ints _ | exact plain_bool _ | exact one_int _ _ | exact plain_des _ | exact plain_rows _) only [AM, initTm, Nat.reduceAdd, Nat.reduceEqDiff, reduceCtorEq, run_aaddr, run_stn, run_bld, bldV_nil, hcf, hcm, hcme, x0, x1, hfc, hf1, hf3, run_ldn, hldn0, hldn1, hfa', hw1, eD, h6, hlo, bne_self_eq_false, List.length_cons, List.length_nil, List.set_cons_succ, List.set_cons_zero]; rfl) ?_ ?_ <;> intro hcond <;> (try simp only [decide_eq_true_eq, decide_eq_false_iff_not, beq_iff_eq, beq_eq_false_iff_ne, ne_eq, reduceCtorEq, Bool.not_eq_true', Bool.not_eq_false', bne_iff_ne, bne_eq_false_iff_eq] at hcond) <;> (try (exfalso; omega)))
      | refine thenQ_n ?_
      | refine thenQ_e ?_
      | refine thenQ_r ?_
      | refine outQ_n ?_
      | refine outQ_r ?_
      | refine outQ_e ?_
      | refine outQ_d (by decide) ?_
    clear hm hcm hopen hoo hk hw1 hldn1 hH1 hldn0 hH0 hcme hme
    refine W_loop (k := 6) (fun k s => ∃ (i : Nat) (bx : List Box) (c : AV) (tm : Tm) (ps : List Int), s = ⟨tm, bx, 0⟩ ∧ tm.get 1 = .int .i64 l ∧ tm.get 2 = .int .i64 m ∧ tm.get 3 = ints o ∧ tm.get 10 = .ptr 1 2 0 ∧ tm.get 12 = .int .i64 (jn T l m : Nat) ∧ tm.get 13 = c ∧ tm.get 14 = .int .i64 i ∧ ps.length = i ∧ i ≤ 6 ∧ k = 6 - i ∧
      bx[1]? = some ⟨D.cells, 2, 39, .live⟩ ∧ 2 ≤ bx.length ∧ RowAt bx 2 bx.length c ps ∧ Chosen n T l m ps) ⟨0, _, .nil, _, [], rfl, by simp (maxSteps := 1000000) (disch := first | decide | omega | assumption | exact plain_int _ _ | exact plain_ints _ | exact plain_bool _ | exact one_int _ _ | exact plain_des _ | exact plain_rows _) only [AM, initTm, Nat.reduceAdd, Nat.reduceEqDiff, reduceCtorEq, run_aaddr, run_stn, run_bld, bldV_nil], by simp (maxSteps := 1000000) (disch := first | decide | omega | assumption | exact plain_int _ _ | exact plain_ints _ | exact plain_bool _ | exact one_int _ _ | exact plain_des _ | exact plain_rows _) only [AM, initTm, Nat.reduceAdd, Nat.reduceEqDiff, reduceCtorEq, run_aaddr, run_stn, run_bld, bldV_nil], by simp (maxSteps := 1000000) (disch := first | decide | omega | assumption | exact plain_int _ _ | exact plain_ints _ | exact plain_bool _ | exact one_int _ _ | exact plain_des _ | exact plain_rows _) only [AM, initTm, Nat.reduceAdd, Nat.reduceEqDiff, reduceCtorEq, run_aaddr, run_stn, run_bld, bldV_nil], by simp (maxSteps := 1000000) (disch := first | decide | omega | assumption | exact plain_int _ _ | exact plain_ints _ | exact plain_bool _ | exact one_int _ _ | exact plain_des _ | exact plain_rows _) only [AM, initTm, Nat.reduceAdd, Nat.reduceEqDiff, reduceCtorEq, run_aaddr, run_stn, run_bld, bldV_nil], by simp (maxSteps := 1000000) (disch := first | decide | omega | assumption | exact plain_int _ _ | exact plain_ints _ | exact plain_bool _ | exact one_int _ _ | exact plain_des _ | exact plain_rows _) only [AM, initTm, Nat.reduceAdd, Nat.reduceEqDiff, reduceCtorEq, run_aaddr, run_stn, run_bld, bldV_nil], by simp (maxSteps := 1000000) (disch := first | decide | omega | assumption | exact plain_int _ _ | exact plain_ints _ | exact plain_bool _ | exact one_int _ _ | exact plain_des _ | exact plain_rows _) only [AM, initTm, Nat.reduceAdd, Nat.reduceEqDiff, reduceCtorEq, run_aaddr, run_stn, run_bld, bldV_nil], by simp (maxSteps := 1000000) (disch := first | decide | omega | assumption | exact plain_int _ _ | exact plain_ints _ | exact plain_bool _ | exact one_int _ _ | exact plain_des _ | exact plain_rows _) only [AM, initTm, Nat.reduceAdd, Nat.reduceEqDiff, reduceCtorEq, run_aaddr, run_stn, run_bld, bldV_nil]; rfl, rfl, by omega, rfl, rfl, by simp only [List.length_cons]; omega, .inl ⟨rfl, rfl⟩, ⟨by simp, fun j hj => by simp at hj⟩⟩ ?_
    rintro k s ⟨i, bx, c, tm, ps, rfl, g1, g2, g3, g10, g12, g13, g14, hps, hi, rfl, c1, hN, hRow, hCh⟩
    have hHD : Has bx 1 D.cells := ⟨_, c1, rfl, by simp⟩
    have hfaD := fun tm rb o off => hHD.faddr tm rb 2 o off rfl
    have hldD := fun tm rb off => hHD.ld1 tm rb 2 off rfl
    have hldnD := fun tm rb => hHD.ldn tm rb 2 rfl
    by_cases hil : (i : Int) < 6
    · obtain ⟨hDl, hrl, hyl⟩ := hrow hl
      obtain ⟨hDm, hrm, hym⟩ := hrow hm'
      have honl : ∀ y : Nat, y < n → (y : Int) ∈ rows.getD l [] → y ≠ jn T l m → jn T y (jn T l m) = l := fun y hy hyl hne =>
        (jn_uniq hp g hy (g.geo.jlt l hl m hm' hlm) hne hl hyl (g.geo.mmem l hl m hm' hlm).1).symm
      have honm : ∀ y : Nat, y < n → (y : Int) ∈ rows.getD m [] → y ≠ jn T l m → jn T y (jn T l m) = m := fun y hy hyl hne =>
        (jn_uniq hp g hy (g.geo.jlt l hl m hm' hlm) hne hm' hyl (g.geo.mmem l hl m hm' hlm).2).symm
      generalize hrle : rows.getD l [] = rl at *
      generalize hrme : rows.getD m [] = rm at *
      have hbd := tmod_bd ((o.getD []).getD i 0) (q + 1) (by omega)
      have hrem : abin .rem (.int .i64 ((o.getD []).getD i 0)) (.int .i64 ((q + 1 : Nat) : Int)) = some (.int .i64 (((o.getD []).getD i 0).tmod ((q + 1 : Nat) : Int))) := by
        simp only [abin, if_true]; rw [if_neg (by omega)]
      generalize ((o.getD []).getD i 0).tmod ((q + 1 : Nat) : Int) = r at *
      obtain ⟨kk, hk0, hc⟩ : ∃ kk : Int, (0 ≤ kk ∧ kk < ((q + 1 : Nat) : Int)) ∧ ((decide (r < 0) = true ∧ r + ((q + 1 : Nat) : Int) = kk) ∨ (decide (kk < 0) = false ∧ r = kk)) := by
        by_cases hr : r < 0
        · exact ⟨r + ((q + 1 : Nat) : Int), by omega, .inl ⟨decide_eq_true hr, rfl⟩⟩
        · exact ⟨r, by omega, .inr ⟨decide_eq_false hr, rfl⟩⟩
      have hllen : ∀ st, lenV st (ints (some rl)) = some ((q + 1 : Nat) : Int) := fun st => by rw [lenV_ints]; simp only [Option.getD_some, hrl]
      have hmlen : ∀ st, lenV st (ints (some rm)) = some ((q + 1 : Nat) : Int) := fun st => by rw [lenV_ints]; simp only [Option.getD_some, hrm]
      have hial : ∀ st, iaddrV st 1 (ints (some rl)) (.int .i64 kk) = some (.rptr ((rl.drop kk.toNat).map (AV.int .i64))) := fun st => by
        rw [iaddrV_ints_pos st (some rl) .i64 kk (by simp only [Option.getD_some, hrl]; exact hk0)]; rfl
      have hiam : ∀ st, iaddrV st 1 (ints (some rm)) (.int .i64 kk) = some (.rptr ((rm.drop kk.toNat).map (AV.int .i64))) := fun st => by
        rw [iaddrV_ints_pos st (some rm) .i64 kk (by simp only [Option.getD_some, hrm]; exact hk0)]; rfl
      have hps1 : ps.length < 1000 := by omega
      by_cases hi3 : i < 3
      · have hg3 : decide ((i : Int) > 2) = false := decide_eq_false (by omega)
        obtain ⟨Y, hY, hYn, hYm⟩ := hyl kk.toNat (by omega)
        have hhd : ((rl.drop kk.toNat).map (AV.int .i64)).head? = some (.int .i64 (Y : Int)) := by rw [head_drop_n rl kk.toNat (by omega), hY]
        have hLi := Lies_row (G := GP) (F := tabD) rfl hRow hps1 (Y : Int)
        rcases hc with ⟨hr, hkk⟩ | ⟨hr, hkk⟩
        all_goals
          by_cases hyx : Y = jn T l m
          · have he : ((Y : Int) == ((jn T l m : Nat) : Int)) = true := by rw [hyx]; exact beq_self_eq_true _
            repeat' first
              | refine W_seq ?_
              | refine W_skip ?_
              | refine W_exit ?_
              | refine W_ret ?_
              | refine W_block ?_
              | (refine W_ops (by simp (maxSteps := 1000000) (disch := first | decide | omega | assumption | exact plain_int _ _ | exact plain_ints _ | exact plain_bool _ | exact one_int _ _ | exact plain_des _ | exact plain_rows _) only [AM, initTm, Nat.reduceAdd, Nat.reduceEqDiff, reduceCtorEq, run_aaddr, run_stn, run_bld, bldV_nil, g1, g2, g3, g10, g12, g13, g14, hil, hg3, hfaD, hldD, hDlen, hDl, hrem, hllen, hr, hkk, hial, hhd, hLi, he]; rfl) ?_)
              | (refine W_cond (by simp (maxSteps := 1000000) (disch := first | decide | omega | assumption | exact plain_int _ _ | exact plain_ints _ | exact plain_bool _ | exact one_int _ _ | exact plain_des _ | exact plain_rows _) only [AM, initTm, Nat.reduceAdd, Nat.reduceEqDiff, reduceCtorEq, run_aaddr, run_stn, run_bld, bldV_nil, g1, g2, g3, g10, g12, g13, g14, hil, hg3, hfaD, hldD, hDlen, hDl, hrem, hllen, hr, hkk, hial, hhd, hLi, he]; rfl) ?_ ?_ <;> intro hcond <;> (try simp only [decide_eq_true_eq, decide_eq_false_iff_not, beq_iff_eq, beq_eq_false_iff_ne, ne_eq, reduceCtorEq, Bool.not_eq_true', Bool.not_eq_false', bne_iff_ne, bne_eq_false_iff_eq] at hcond) <;> (try (exfalso; omega)))
              | refine thenQ_n ?_
              | refine thenQ_e ?_
              | refine thenQ_r ?_
              | refine outQ_n ?_
              | refine outQ_r ?_
              | refine outQ_e ?_
              | refine outQ_d (by decide) ?_
            refine ⟨.inr rfl, [_], rfl, ?_⟩
            rw [tuple_one]
            simp (maxSteps := 1000000) (disch := first | decide | omega | assumption | exact plain_int _ _ | exact plain_ints _ | exact plain_bool _ | exact one_int _ _ | exact plain_des _ | exact plain_rows _) only [AM, initTm, Nat.reduceAdd, Nat.reduceEqDiff, reduceCtorEq, run_aaddr, run_stn, run_bld, bldV_nil]
          · have he : ((Y : Int) == ((jn T l m : Nat) : Int)) = false := by rw [beq_eq_false_iff_ne]; omega
            by_cases hin : (Y : Int) ∈ ps
            · have hd : decide ((Y : Int) ∈ ps) = true := decide_eq_true hin
              rw [hd] at hLi
              repeat' first
                | refine W_seq ?_
                | refine W_skip ?_
                | refine W_exit ?_
                | refine W_ret ?_
                | refine W_block ?_
                | (refine W_ops (by simp (maxSteps := 1000000) (disch := first | decide | omega | assumption | exact plain_int _ _ | exact plain_ints _ | exact plain_bool _ | exact one_int _ _ | exact plain_des _ | exact plain_rows _) only [AM, initTm, Nat.reduceAdd, Nat.reduceEqDiff, reduceCtorEq, run_aaddr, run_stn, run_bld, bldV_nil, g1, g2, g3, g10, g12, g13, g14, hil, hg3, hfaD, hldD, hDlen, hDl, hrem, hllen, hr, hkk, hial, hhd, hLi, he]; rfl) ?_)
                | (refine W_cond (by simp (maxSteps := 1000000) (disch := first | decide | omega | assumption | exact plain_int _ _ | exact plain_ints _ | exact plain_bool _ | exact one_int _ _ | exact plain_des _ | exact plain_rows _) only [AM, initTm, Nat.reduceAdd, Nat.reduceEqDiff, reduceCtorEq, run_aaddr, run_stn, run_bld, bldV_nil, g1, g2, g3, g10, g12, g13, g14, hil, hg3, hfaD, hldD, hDlen, hDl, hrem, hllen, hr, hkk, hial, hhd, hLi, he]; rfl) ?_ ?_ <;> intro hcond <;> (try simp only [decide_eq_true_eq, decide_eq_false_iff_not, beq_iff_eq, beq_eq_false_iff_ne, ne_eq, reduceCtorEq, Bool.not_eq_true', Bool.not_eq_false', bne_iff_ne, bne_eq_false_iff_eq] at hcond) <;> (try (exfalso; omega)))
                | refine thenQ_n ?_
                | refine thenQ_e ?_
                | refine thenQ_r ?_
                | refine outQ_n ?_
                | refine outQ_r ?_
                | refine outQ_e ?_
                | refine outQ_d (by decide) ?_
              refine ⟨.inr rfl, [_], rfl, ?_⟩
              rw [tuple_one]
              simp (maxSteps := 1000000) (disch := first | decide | omega | assumption | exact plain_int _ _ | exact plain_ints _ | exact plain_bool _ | exact one_int _ _ | exact plain_des _ | exact plain_rows _) only [AM, initTm, Nat.reduceAdd, Nat.reduceEqDiff, reduceCtorEq, run_aaddr, run_stn, run_bld, bldV_nil]
            · have hd : decide ((Y : Int) ∈ ps) = false := decide_eq_false hin
              rw [hd] at hLi
              obtain ⟨c', bx2, happ, hrow2, hle2, hkeep2⟩ := hRow.add (Nat.le_refl _) hN (Y : Int) hps1
              repeat' first
                | refine W_seq ?_
                | refine W_skip ?_
                | refine W_exit ?_
                | refine W_ret ?_
                | refine W_block ?_
                | (refine W_ops (by simp (maxSteps := 1000000) (disch := first | decide | omega | assumption | exact plain_int _ _ | exact plain_ints _ | exact plain_bool _ | exact one_int _ _ | exact plain_des _ | exact plain_rows _) only [AM, initTm, Nat.reduceAdd, Nat.reduceEqDiff, reduceCtorEq, run_aaddr, run_stn, run_bld, bldV_nil, g1, g2, g3, g10, g12, g13, g14, hil, hg3, hfaD, hldD, hDlen, hDl, hrem, hllen, hr, hkk, hial, hhd, hLi, he, happ]; rfl) ?_)
                | (refine W_cond (by simp (maxSteps := 1000000) (disch := first | decide | omega | assumption | exact plain_int _ _ | exact plain_ints _ | exact plain_bool _ | exact one_int _ _ | exact plain_des _ | exact plain_rows _) only [AM, initTm, Nat.reduceAdd, Nat.reduceEqDiff, reduceCtorEq, run_aaddr, run_stn, run_bld, bldV_nil, g1, g2, g3, g10, g12, g13, g14, hil, hg3, hfaD, hldD, hDlen, hDl, hrem, hllen, hr, hkk, hial, hhd, hLi, he, happ]; rfl) ?_ ?_ <;> intro hcond <;> (try simp only [decide_eq_true_eq, decide_eq_false_iff_not, beq_iff_eq, beq_eq_false_iff_ne, ne_eq, reduceCtorEq, Bool.not_eq_true', Bool.not_eq_false', bne_iff_ne, bne_eq_false_iff_eq] at hcond) <;> (try (exfalso; omega)))
                | refine thenQ_n ?_
                | refine thenQ_e ?_
                | refine thenQ_r ?_
                | refine outQ_n ?_
                | refine outQ_r ?_
                | refine outQ_e ?_
                | refine outQ_d (by decide) ?_
              exact ⟨6 - (i + 1), by omega, i + 1, bx2, c', _, ps ++ [(Y : Int)], rfl, by simp (maxSteps := 1000000) (disch := first | decide | omega | assumption | exact plain_int _ _ | exact plain_ints _ | exact plain_bool _ | exact one_int _ _ | exact plain_des _ | exact plain_rows _) only [AM, initTm, Nat.reduceAdd, Nat.reduceEqDiff, reduceCtorEq, run_aaddr, run_stn, run_bld, bldV_nil, g1], by simp (maxSteps := 1000000) (disch := first | decide | omega | assumption | exact plain_int _ _ | exact plain_ints _ | exact plain_bool _ | exact one_int _ _ | exact plain_des _ | exact plain_rows _) only [AM, initTm, Nat.reduceAdd, Nat.reduceEqDiff, reduceCtorEq, run_aaddr, run_stn, run_bld, bldV_nil, g2], by simp (maxSteps := 1000000) (disch := first | decide | omega | assumption | exact plain_int _ _ | exact plain_ints _ | exact plain_bool _ | exact one_int _ _ | exact plain_des _ | exact plain_rows _) only [AM, initTm, Nat.reduceAdd, Nat.reduceEqDiff, reduceCtorEq, run_aaddr, run_stn, run_bld, bldV_nil, g3], by simp (maxSteps := 1000000) (disch := first | decide | omega | assumption | exact plain_int _ _ | exact plain_ints _ | exact plain_bool _ | exact one_int _ _ | exact plain_des _ | exact plain_rows _) only [AM, initTm, Nat.reduceAdd, Nat.reduceEqDiff, reduceCtorEq, run_aaddr, run_stn, run_bld, bldV_nil, g10], by simp (maxSteps := 1000000) (disch := first | decide | omega | assumption | exact plain_int _ _ | exact plain_ints _ | exact plain_bool _ | exact one_int _ _ | exact plain_des _ | exact plain_rows _) only [AM, initTm, Nat.reduceAdd, Nat.reduceEqDiff, reduceCtorEq, run_aaddr, run_stn, run_bld, bldV_nil, g12], by simp (maxSteps := 1000000) (disch := first | decide | omega | assumption | exact plain_int _ _ | exact plain_ints _ | exact plain_bool _ | exact one_int _ _ | exact plain_des _ | exact plain_rows _) only [AM, initTm, Nat.reduceAdd, Nat.reduceEqDiff, reduceCtorEq, run_aaddr, run_stn, run_bld, bldV_nil], by simp (maxSteps := 1000000) (disch := first | decide | omega | assumption | exact plain_int _ _ | exact plain_ints _ | exact plain_bool _ | exact one_int _ _ | exact plain_des _ | exact plain_rows _) only [AM, initTm, Nat.reduceAdd, Nat.reduceEqDiff, reduceCtorEq, run_aaddr, run_stn, run_bld, bldV_nil]; rfl, by rw [List.length_append, List.length_singleton]; omega, by omega, rfl, by rw [hkeep2 1 (by omega)]; exact c1, by omega, hrow2, hCh.add hYn hyx (by rw [if_pos (by omega)]; exact honl Y hYn hYm hyx) hin⟩
      · have hg3 : decide ((i : Int) > 2) = true := decide_eq_true (by omega)
        obtain ⟨Y, hY, hYn, hYm⟩ := hym kk.toNat (by omega)
        have hhd : ((rm.drop kk.toNat).map (AV.int .i64)).head? = some (.int .i64 (Y : Int)) := by rw [head_drop_n rm kk.toNat (by omega), hY]
        have hLi := Lies_row (G := GP) (F := tabD) rfl hRow hps1 (Y : Int)
        rcases hc with ⟨hr, hkk⟩ | ⟨hr, hkk⟩
        all_goals
          by_cases hyx : Y = jn T l m
          · have he : ((Y : Int) == ((jn T l m : Nat) : Int)) = true := by rw [hyx]; exact beq_self_eq_true _
            repeat' first
              | refine W_seq ?_
              | refine W_skip ?_
              | refine W_exit ?_
              | refine W_ret ?_
              | refine W_block ?_
              | (refine W_ops (by simp (maxSteps := 1000000) (disch := first | decide | omega | assumption | exact plain_int _ _ | exact plain_ints _ | exact plain_bool _ | exact one_int _ _ | exact plain_des _ | exact plain_rows _) only [AM, initTm, Nat.reduceAdd, Nat.reduceEqDiff, reduceCtorEq, run_aaddr, run_stn, run_bld, bldV_nil, g1, g2, g3, g10, g12, g13, g14, hil, hg3, hfaD, hldD, hDlen, hDl, hDm, hrem, hmlen, hr, hkk, hiam, hhd, hLi, he]; rfl) ?_)
              | (refine W_cond (by simp (maxSteps := 1000000) (disch := first | decide | omega | assumption | exact plain_int _ _ | exact plain_ints _ | exact plain_bool _ | exact one_int _ _ | exact plain_des _ | exact plain_rows _) only [AM, initTm, Nat.reduceAdd, Nat.reduceEqDiff, reduceCtorEq, run_aaddr, run_stn, run_bld, bldV_nil, g1, g2, g3, g10, g12, g13, g14, hil, hg3, hfaD, hldD, hDlen, hDl, hDm, hrem, hmlen, hr, hkk, hiam, hhd, hLi, he]; rfl) ?_ ?_ <;> intro hcond <;> (try simp only [decide_eq_true_eq, decide_eq_false_iff_not, beq_iff_eq, beq_eq_false_iff_ne, ne_eq, reduceCtorEq, Bool.not_eq_true', Bool.not_eq_false', bne_iff_ne, bne_eq_false_iff_eq] at hcond) <;> (try (exfalso; omega)))
              | refine thenQ_n ?_
              | refine thenQ_e ?_
              | refine thenQ_r ?_
              | refine outQ_n ?_
              | refine outQ_r ?_
              | refine outQ_e ?_
              | refine outQ_d (by decide) ?_
            refine ⟨.inr rfl, [_], rfl, ?_⟩
            rw [tuple_one]
            simp (maxSteps := 1000000) (disch := first | decide | omega | assumption | exact plain_int _ _ | exact plain_ints _ | exact plain_bool _ | exact one_int _ _ | exact plain_des _ | exact plain_rows _) only [AM, initTm, Nat.reduceAdd, Nat.reduceEqDiff, reduceCtorEq, run_aaddr, run_stn, run_bld, bldV_nil]
          · have he : ((Y : Int) == ((jn T l m : Nat) : Int)) = false := by rw [beq_eq_false_iff_ne]; omega
            by_cases hin : (Y : Int) ∈ ps
            · have hd : decide ((Y : Int) ∈ ps) = true := decide_eq_true hin
              rw [hd] at hLi
              repeat' first
                | refine W_seq ?_
                | refine W_skip ?_
                | refine W_exit ?_
                | refine W_ret ?_
                | refine W_block ?_
                | (refine W_ops (by simp (maxSteps := 1000000) (disch := first | decide | omega | assumption | exact plain_int _ _ | exact plain_ints _ | exact plain_bool _ | exact one_int _ _ | exact plain_des _ | exact plain_rows _) only [AM, initTm, Nat.reduceAdd, Nat.reduceEqDiff, reduceCtorEq, run_aaddr, run_stn, run_bld, bldV_nil, g1, g2, g3, g10, g12, g13, g14, hil, hg3, hfaD, hldD, hDlen, hDl, hDm, hrem, hmlen, hr, hkk, hiam, hhd, hLi, he]; rfl) ?_)
                | (refine W_cond (by simp (maxSteps := 1000000) (disch := first | decide | omega | assumption | exact plain_int _ _ | exact plain_ints _ | exact plain_bool _ | exact one_int _ _ | exact plain_des _ | exact plain_rows _) only [AM, initTm, Nat.reduceAdd, Nat.reduceEqDiff, reduceCtorEq, run_aaddr, run_stn, run_bld, bldV_nil, g1, g2, g3, g10, g12, g13, g14, hil, hg3, hfaD, hldD, hDlen, hDl, hDm, hrem, hmlen, hr, hkk, hiam, hhd, hLi, he]; rfl) ?_ ?_ <;> intro hcond <;> (try simp only [decide_eq_true_eq, decide_eq_false_iff_not, beq_iff_eq, beq_eq_false_iff_ne, ne_eq, reduceCtorEq, Bool.not_eq_true', Bool.not_eq_false', bne_iff_ne, bne_eq_false_iff_eq] at hcond) <;> (try (exfalso; omega)))
                | refine thenQ_n ?_
                | refine thenQ_e ?_
                | refine thenQ_r ?_
                | refine outQ_n ?_
                | refine outQ_r ?_
                | refine outQ_e ?_
                | refine outQ_d (by decide) ?_
              refine ⟨.inr rfl, [_], rfl, ?_⟩
              rw [tuple_one]
              simp (maxSteps := 1000000) (disch := first | decide | omega | assumption | exact plain_int _ _ | exact plain_ints _ | exact plain_bool _ | exact one_int _ _ | exact plain_des _ | exact plain_rows _) only [AM, initTm, Nat.reduceAdd, Nat.reduceEqDiff, reduceCtorEq, run_aaddr, run_stn, run_bld, bldV_nil]
            · have hd : decide ((Y : Int) ∈ ps) = false := decide_eq_false hin
              rw [hd] at hLi
              obtain ⟨c', bx2, happ, hrow2, hle2, hkeep2⟩ := hRow.add (Nat.le_refl _) hN (Y : Int) hps1
              repeat' first
                | refine W_seq ?_
                | refine W_skip ?_
                | refine W_exit ?_
                | refine W_ret ?_
                | refine W_block ?_
                | (refine W_ops (by simp (maxSteps := 1000000) (disch := first | decide | omega | assumption | exact plain_int _ _ | exact plain_ints _ | exact plain_bool _ | exact one_int _ _ | exact plain_des _ | exact plain_rows _) only [AM, initTm, Nat.reduceAdd, Nat.reduceEqDiff, reduceCtorEq, run_aaddr, run_stn, run_bld, bldV_nil, g1, g2, g3, g10, g12, g13, g14, hil, hg3, hfaD, hldD, hDlen, hDl, hDm, hrem, hmlen, hr, hkk, hiam, hhd, hLi, he, happ]; rfl) ?_)
                | (refine W_cond (by simp (maxSteps := 1000000) (disch := first | decide | omega | assumption | exact plain_int _ _ | exact plain_ints _ | exact plain_bool _ | exact one_int _ _ | exact plain_des _ | exact plain_rows _) only [AM, initTm, Nat.reduceAdd, Nat.reduceEqDiff, reduceCtorEq, run_aaddr, run_stn, run_bld, bldV_nil, g1, g2, g3, g10, g12, g13, g14, hil, hg3, hfaD, hldD, hDlen, hDl, hDm, hrem, hmlen, hr, hkk, hiam, hhd, hLi, he, happ]; rfl) ?_ ?_ <;> intro hcond <;> (try simp only [decide_eq_true_eq, decide_eq_false_iff_not, beq_iff_eq, beq_eq_false_iff_ne, ne_eq, reduceCtorEq, Bool.not_eq_true', Bool.not_eq_false', bne_iff_ne, bne_eq_false_iff_eq] at hcond) <;> (try (exfalso; omega)))
                | refine thenQ_n ?_
                | refine thenQ_e ?_
                | refine thenQ_r ?_
                | refine outQ_n ?_
                | refine outQ_r ?_
                | refine outQ_e ?_
                | refine outQ_d (by decide) ?_
              exact ⟨6 - (i + 1), by omega, i + 1, bx2, c', _, ps ++ [(Y : Int)], rfl, by simp (maxSteps := 1000000) (disch := first | decide | omega | assumption | exact plain_int _ _ | exact plain_ints _ | exact plain_bool _ | exact one_int _ _ | exact plain_des _ | exact plain_rows _) only [AM, initTm, Nat.reduceAdd, Nat.reduceEqDiff, reduceCtorEq, run_aaddr, run_stn, run_bld, bldV_nil, g1], by simp (maxSteps := 1000000) (disch := first | decide | omega | assumption | exact plain_int _ _ | exact plain_ints _ | exact plain_bool _ | exact one_int _ _ | exact plain_des _ | exact plain_rows _) only [AM, initTm, Nat.reduceAdd, Nat.reduceEqDiff, reduceCtorEq, run_aaddr, run_stn, run_bld, bldV_nil, g2], by simp (maxSteps := 1000000) (disch := first | decide | omega | assumption | exact plain_int _ _ | exact plain_ints _ | exact plain_bool _ | exact one_int _ _ | exact plain_des _ | exact plain_rows _) only [AM, initTm, Nat.reduceAdd, Nat.reduceEqDiff, reduceCtorEq, run_aaddr, run_stn, run_bld, bldV_nil, g3], by simp (maxSteps := 1000000) (disch := first | decide | omega | assumption | exact plain_int _ _ | exact plain_ints _ | exact plain_bool _ | exact one_int _ _ | exact plain_des _ | exact plain_rows _) only [AM, initTm, Nat.reduceAdd, Nat.reduceEqDiff, reduceCtorEq, run_aaddr, run_stn, run_bld, bldV_nil, g10], by simp (maxSteps := 1000000) (disch := first | decide | omega | assumption | exact plain_int _ _ | exact plain_ints _ | exact plain_bool _ | exact one_int _ _ | exact plain_des _ | exact plain_rows _) only [AM, initTm, Nat.reduceAdd, Nat.reduceEqDiff, reduceCtorEq, run_aaddr, run_stn, run_bld, bldV_nil, g12], by simp (maxSteps := 1000000) (disch := first | decide | omega | assumption | exact plain_int _ _ | exact plain_ints _ | exact plain_bool _ | exact one_int _ _ | exact plain_des _ | exact plain_rows _) only [AM, initTm, Nat.reduceAdd, Nat.reduceEqDiff, reduceCtorEq, run_aaddr, run_stn, run_bld, bldV_nil], by simp (maxSteps := 1000000) (disch := first | decide | omega | assumption | exact plain_int _ _ | exact plain_ints _ | exact plain_bool _ | exact one_int _ _ | exact plain_des _ | exact plain_rows _) only [AM, initTm, Nat.reduceAdd, Nat.reduceEqDiff, reduceCtorEq, run_aaddr, run_stn, run_bld, bldV_nil]; rfl, by rw [List.length_append, List.length_singleton]; omega, by omega, rfl, by rw [hkeep2 1 (by omega)]; exact c1, by omega, hrow2, hCh.add hYn hyx (by rw [if_neg (by omega)]; exact honm Y hYn hYm hyx) hin⟩
    · have h66 : ps.length = 6 := by omega
      obtain ⟨p0, p1, p2, p3, p4, p5, hpe, ⟨n0, n1, n2, n3, n4, n5⟩, hpre, d04, d13, d05, d23, d15, d24⟩ := hCh.six h66
      obtain ⟨b1, b2, b3, b4⟩ := g.pap l m hl hm' hlm p0 p1 p2 p3 p4 p5 n0 n1 n2 n3 n4 n5 hpre
      have ja := hcross n0 n4 n1 n3 d04 d13 b1
      have jb := hcross n0 n5 n2 n3 d05 d23 b2
      have jc := hcross n1 n5 n2 n4 d15 d24 b3
      have la := g.geo.jlt _ (g.geo.jlt _ n0 _ n4 d04) _ (g.geo.jlt _ n1 _ n3 d13) b1
      have lb := g.geo.jlt _ (g.geo.jlt _ n0 _ n5 d05) _ (g.geo.jlt _ n2 _ n3 d23) b2
      have lc := g.geo.jlt _ (g.geo.jlt _ n1 _ n5 d15) _ (g.geo.jlt _ n2 _ n4 d24) b3
      generalize jn T (jn T p0 p4) (jn T p1 p3) = A at *
      generalize jn T (jn T p0 p5) (jn T p2 p3) = B at *
      generalize jn T (jn T p1 p5) (jn T p2 p4) = C at *
      obtain ⟨rr, hrl, hriff⟩ := hline A B C
      obtain rfl := hriff.2 (col_line hp g la lb lc b4)
      have cA : ∀ st, doCall tabD (E GP tabD) .pureV 31 [D.av, .int .i64 p0, .int .i64 p4, .int .i64 p1, .int .i64 p3] st = some (.int .i64 A, st) := fun st => by
        rw [doCall_5 (plain_des D) (plain_int _ _) (plain_int _ _) (plain_int _ _) (plain_int _ _), ja]; rfl
      have cB : ∀ st, doCall tabD (E GP tabD) .pureV 31 [D.av, .int .i64 p0, .int .i64 p5, .int .i64 p2, .int .i64 p3] st = some (.int .i64 B, st) := fun st => by
        rw [doCall_5 (plain_des D) (plain_int _ _) (plain_int _ _) (plain_int _ _) (plain_int _ _), jb]; rfl
      have cC : ∀ st, doCall tabD (E GP tabD) .pureV 31 [D.av, .int .i64 p1, .int .i64 p5, .int .i64 p2, .int .i64 p4] st = some (.int .i64 C, st) := fun st => by
        rw [doCall_5 (plain_des D) (plain_int _ _) (plain_int _ _) (plain_int _ _) (plain_int _ _), jc]; rfl
      have cI : ∀ st, doCall tabD (E GP tabD) .pureV 32 [D.av, .int .i64 A, .int .i64 B, .int .i64 C] st = some (.bool true, st) := fun st => by
        rw [doCall_4 (plain_des D) (plain_int _ _) (plain_int _ _) (plain_int _ _), hrl]; rfl
      have hneg : ∀ a : Nat, decide ((a : Int) < 0) = false := fun a => decide_eq_false (by omega)
      have hKK : ∃ kb, c = .own kb 6 ∧ HasK bx kb .i64 3 ps .live := by
        rcases hRow with ⟨h, _⟩ | ⟨kb, _, _, h1, h2, _⟩
        · rw [h] at h66; simp at h66
        · exact ⟨kb, by rw [h1, h66], h2, by decide⟩
      obtain ⟨kb, rfl, hK⟩ := hKK
      have hKi := fun tm rb => hK.iaddr tm rb 6 h66.symm
      have hKl := fun tm rb => hK.ld tm rb 6 h66.symm
      have t0 : ps.getD 0 0 = (p0 : Int) := by rw [hpe]; rfl
      have t1 : ps.getD 1 0 = (p1 : Int) := by rw [hpe]; rfl
      have t2 : ps.getD 2 0 = (p2 : Int) := by rw [hpe]; rfl
      have t3 : ps.getD 3 0 = (p3 : Int) := by rw [hpe]; rfl
      have t4 : ps.getD 4 0 = (p4 : Int) := by rw [hpe]; rfl
      have t5 : ps.getD 5 0 = (p5 : Int) := by rw [hpe]; rfl
      have z0 : (0 : Int).toNat = 0 := rfl
      have z1 : (1 : Int).toNat = 1 := rfl
      have z2 : (2 : Int).toNat = 2 := rfl
      have z3 : (3 : Int).toNat = 3 := rfl
      have z4 : (4 : Int).toNat = 4 := rfl
      have z5 : (5 : Int).toNat = 5 := rfl
      clear hpe
      repeat' first
        | refine W_seq ?_
        | refine W_skip ?_
        | refine W_exit ?_
        | refine W_ret ?_
        | refine W_block ?_
        | (refine W_ops (by simp (maxSteps := 1000000) (disch := first | decide | omega | assumption | exact plain_int _ _ | exact plain_ints _ | exact plain_bool _ | exact one_int _ _ | exact plain_des _ | exact plain_rows _) only [AM, initTm, Nat.reduceAdd, Nat.reduceEqDiff, reduceCtorEq, run_aaddr, run_stn, run_bld, bldV_nil, g1, g2, g3, g10, g12, g13, g14, hil, run_ldn, hldnD, eD, hKi, hKl, z0, z1, z2, z3, z4, z5, t0, t1, t2, t3, t4, t5, cA, cB, cC, cI, hneg]; rfl) ?_)
        | (refine W_cond (by simp (maxSteps := 1000000) (disch := first | decide | omega | assumption | exact plain_int _ _ | exact plain_ints _ | exact plain_bool _ | exact one_int _ _ | exact plain_des _ | exact plain_rows _) only [AM, initTm, Nat.reduceAdd, Nat.reduceEqDiff, reduceCtorEq, run_aaddr, run_stn, run_bld, bldV_nil, g1, g2, g3, g10, g12, g13, g14, hil, run_ldn, hldnD, eD, hKi, hKl, z0, z1, z2, z3, z4, z5, t0, t1, t2, t3, t4, t5, cA, cB, cC, cI, hneg]; rfl) ?_ ?_ <;> intro hcond <;> (try simp only [decide_eq_true_eq, decide_eq_false_iff_not, beq_iff_eq, beq_eq_false_iff_ne, ne_eq, reduceCtorEq, Bool.not_eq_true', Bool.not_eq_false', bne_iff_ne, bne_eq_false_iff_eq] at hcond) <;> (try (exfalso; omega)))
        | refine thenQ_n ?_
        | refine thenQ_e ?_
        | refine thenQ_r ?_
        | refine outQ_n ?_
        | refine outQ_r ?_
        | refine outQ_e ?_
        | refine outQ_d (by decide) ?_
      refine ⟨.inr rfl, [_], rfl, ?_⟩
      rw [tuple_one]
      simp (maxSteps := 1000000) (disch := first | decide | omega | assumption | exact plain_int _ _ | exact plain_ints _ | exact plain_bool _ | exact one_int _ _ | exact plain_des _ | exact plain_rows _) only [AM, initTm, Nat.reduceAdd, Nat.reduceEqDiff, reduceCtorEq, run_aaddr, run_stn, run_bld, bldV_nil]
end Go.Am
