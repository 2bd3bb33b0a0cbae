/- plane.Conic; PlaneBose answers true on the machine. -/
import Derived.Test.YtcibofbmennjpaaDoorAmFdH
import Derived.Test.YtcibofbmennjpaaDoorAmBose
import Derived.Test.YtcibofbmennjpaaDoorAmPl14
set_option linter.unusedVariables false
set_option linter.unusedSimpArgs false
namespace Go.Am

/-- Does a point lie on the conic? -/
def onC (q : Nat) (t : List Int) : Prop := mulT q (t.getD 1 0).toNat (t.getD 1 0).toNat = mulT q (t.getD 0 0).toNat (t.getD 2 0).toNat
instance (q : Nat) (t : List Int) : Decidable (onC q t) := by unfold onC; infer_instance
def conicUpto (q : Nat) (tr : List (List Int)) : Nat → List Int
  | 0 => []
  | j + 1 => if onC q (tr.getD j []) then conicUpto q tr j ++ [(j : Int)] else conicUpto q tr j
theorem conicUpto_len (q : Nat) (tr : List (List Int)) (j : Nat) : (conicUpto q tr j).length ≤ j := by
  induction j with
  | zero => exact Nat.le_refl _
  | succ j ih =>
    unfold conicUpto
    split
    · rw [List.length_append, List.length_singleton]; omega
    · omega

section
variable {G : Nat → List AV} {F : Nat → Option MF} {rec : Rec}
theorem Conic_err (hF : F 35 = some mf35) (f : Fld) (q e : Int) (he : e ≠ 0)
    (hopen : pcall F (E G F) 78 [f.av] = some (.val (.tup [.int .i64 q, .int .i64 e]), false)) :
    pcall F (E G F) 35 [f.av] = some (.val (.tup [ints none, .int .i64 e]), false) := by
  have hfc : f.av.cells = f.cells := rfl
  have hf1 := f.cells_one
  have hf3 : f.cells.length = 3 := rfl
  have hfa' : AV.agg f.cells = f.av := rfl
  have hH0 : ∀ x, Has (⟨f.cells, 3, 24, .live⟩ :: x) 0 f.cells := fun x => ⟨_, rfl, rfl, by simp⟩
  have hldn0 := fun x tm rb => (hH0 x).ldn tm rb 3 rfl
  have x0 : ∀ (a b : AV), [a, b][0]? = some a := fun _ _ => rfl
  have x1 : ∀ (a b : AV), [a, b][1]? = some b := fun _ _ => rfl
  have hco : ∀ st, doCall F (E G F) .pureV 78 [f.av] st = some (.tup [.int .i64 q, .int .i64 e], st) := fun st => by
    rw [doCall_plain1 (plain_fld f), hopen]; rfl
  have hne : (e != 0) = true := bne_iff_ne.2 he
  refine pcall_val hF (v := .tup [ints none, .int .i64 e]) (fun _ _ h => by cases h) ?_ (fun _ => rfl) (fun _ => rfl)
  unfold mf35
  simp only
  repeat' first
    | refine W_seq ?_
    | refine W_skip ?_
    | refine W_exit ?_
    | refine W_ret ?_
    | refine W_block ?_
    | (refine W_ops (by simp (maxSteps := 1000000) (disch := first | decide | omega | assumption | exact plain_int _ _ | exact plain_ints _ | exact plain_bool _ | exact one_int _ _ | exact plain_des _ | exact plain_rows _) only [AM, initTm, Nat.reduceAdd, Nat.reduceEqDiff, reduceCtorEq, run_aaddr, run_stn, run_bld, bldV_nil, hfc, hf1, hf3, run_ldn, hldn0, hfa', hco, x0, x1, hne, List.length_cons, List.length_nil]; rfl) ?_)
    | (refine W_cond (by simp (maxSteps := 1000000) (disch := first | decide | omega | assumption | exact plain_int _ _ | exact plain_ints _ | exact plain_bool _ | exact one_int _ _ | exact plain_des _ | exact plain_rows _) only [AM, initTm, Nat.reduceAdd, Nat.reduceEqDiff, reduceCtorEq, run_aaddr, run_stn, run_bld, bldV_nil, hfc, hf1, hf3, run_ldn, hldn0, hfa', hco, x0, x1, hne, List.length_cons, List.length_nil]; rfl) ?_ ?_ <;> intro hcond <;> (try simp only [decide_eq_true_eq, decide_eq_false_iff_not, beq_iff_eq, beq_eq_false_iff_ne, ne_eq, reduceCtorEq, Bool.not_eq_true', Bool.not_eq_false', bne_iff_ne, bne_eq_false_iff_eq] at hcond) <;> (try (exfalso; omega)))
    | refine thenQ_n ?_
    | refine thenQ_e ?_
    | refine thenQ_r ?_
    | refine outQ_n ?_
    | refine outQ_r ?_
    | refine outQ_e ?_
    | refine outQ_d (by decide) ?_
  exact ⟨.inr rfl, [.nil, .int .i64 e], mapM_two (rvar_tmp (by simp (maxSteps := 1000000) (disch := first | decide | omega | assumption | exact plain_int _ _ | exact plain_ints _ | exact plain_bool _ | exact one_int _ _ | exact plain_des _ | exact plain_rows _) only [AM, initTm, Nat.reduceAdd, Nat.reduceEqDiff, reduceCtorEq, run_aaddr, run_stn, run_bld, bldV_nil]) _ _) (rvar_tmp (by simp (maxSteps := 1000000) (disch := first | decide | omega | assumption | exact plain_int _ _ | exact plain_ints _ | exact plain_bool _ | exact one_int _ _ | exact plain_des _ | exact plain_rows _) only [AM, initTm, Nat.reduceAdd, Nat.reduceEqDiff, reduceCtorEq, run_aaddr, run_stn, run_bld, bldV_nil]) _ _), rfl⟩

set_option maxHeartbeats 4000000 in
theorem Conic_spec (hF : F 35 = some mf35) (f : Fld) (q n : Nat) (tr : List (List Int)) (L : List Int) (A : Arith G F f q) (hT : TripL q n tr L)
    (hopen : pcall F (E G F) 78 [f.av] = some (.val (.tup [.int .i64 q, .int .i64 0]), false)) (htr : pcall F (E G F) 79 [.int .i64 q] = some (.own n (L.map (.int .i64)) 3 120, false)) :
    pcall F (E G F) 35 [f.av] = some (.val (.tup [ints (optL (conicUpto q tr n)), .int .i64 0]), false) := by
  have hfc : f.av.cells = f.cells := rfl
  have hf1 := f.cells_one
  have hf3 : f.cells.length = 3 := rfl
  have hfa' : AV.agg f.cells = f.av := rfl
  have hlen := hT.len
  have hn5 := hT.n5
  have hH0 : ∀ x, Has (⟨f.cells, 3, 24, .live⟩ :: x) 0 f.cells := fun x => ⟨_, rfl, rfl, by simp⟩
  have hldn0 := fun x tm rb => (hH0 x).ldn tm rb 3 rfl
  have x0 : ∀ (a b : AV), [a, b][0]? = some a := fun _ _ => rfl
  have x1 : ∀ (a b : AV), [a, b][1]? = some b := fun _ _ => rfl
  have ht0 : (0 : Int).toNat = 0 := rfl
  have ht1 : (1 : Int).toNat = 1 := rfl
  have ht2 : (2 : Int).toNat = 2 := rfl
  have hco : ∀ st, doCall F (E G F) .pureV 78 [f.av] st = some (.tup [.int .i64 q, .int .i64 0], st) := fun st => by
    rw [doCall_plain1 (plain_fld f), hopen]; rfl
  have hct : ∀ tm bx rb, doCall F (E G F) .pure 79 [.int .i64 q] ⟨tm, bx, rb⟩ = some (.own bx.length n, ⟨tm, bx ++ [⟨L.map (.int .i64), 3, 120, .live⟩], rb⟩) := fun tm bx rb => by
    rw [doCall_pureP1 (plain_int _ _), htr, callP_own]
  have hlen3 : ∀ tm rb x, lenV ⟨tm, ⟨f.cells, 3, 24, .live⟩ :: ⟨L.map (.int .i64), 3, 120, .live⟩ :: x, rb⟩ (.own 1 n) = some (n : Int) := fun tm rb x => own3_len (s := .live) rfl (by decide) hlen _ _
  obtain ⟨v, hv, hvv⟩ := pcall_tup (G := G) (Pp := fun v => v = .tup [ints (optL (conicUpto q tr n)), .int .i64 0]) hF (args := [f.av]) (by
    unfold mf35
    simp only
    repeat' first
      | refine W_seq ?_
      | refine W_skip ?_
      | refine W_exit ?_
      | refine W_ret ?_
      | refine W_block ?_
      | (refine W_ops (by simp (maxSteps := 1000000) (disch := first | decide | omega | assumption | exact plain_int _ _ | exact plain_ints _ | exact plain_bool _ | exact one_int _ _ | exact plain_des _ | exact plain_rows _) only [AM, initTm, Nat.reduceAdd, Nat.reduceEqDiff, reduceCtorEq, run_aaddr, run_stn, run_bld, bldV_nil, hfc, hf1, hf3, run_ldn, hldn0, hfa', hco, hct, x0, x1, bne_self_eq_false, hlen3, List.length_cons, List.length_nil]; rfl) ?_)
      | (refine W_cond (by simp (maxSteps := 1000000) (disch := first | decide | omega | assumption | exact plain_int _ _ | exact plain_ints _ | exact plain_bool _ | exact one_int _ _ | exact plain_des _ | exact plain_rows _) only [AM, initTm, Nat.reduceAdd, Nat.reduceEqDiff, reduceCtorEq, run_aaddr, run_stn, run_bld, bldV_nil, hfc, hf1, hf3, run_ldn, hldn0, hfa', hco, hct, x0, x1, bne_self_eq_false, hlen3, List.length_cons, List.length_nil]; rfl) ?_ ?_ <;> intro hcond <;> (try simp only [decide_eq_true_eq, decide_eq_false_iff_not, beq_iff_eq, beq_eq_false_iff_ne, ne_eq, reduceCtorEq, Bool.not_eq_true', Bool.not_eq_false', bne_iff_ne, bne_eq_false_iff_eq] at hcond) <;> (try (exfalso; omega)))
      | refine thenQ_n ?_
      | refine thenQ_e ?_
      | refine thenQ_r ?_
      | refine outQ_n ?_
      | refine outQ_r ?_
      | refine outQ_e ?_
      | refine outQ_d (by decide) ?_
    refine W_loop (k := n) (fun m s => ∃ (j : Nat) (bx : List Box) (c : AV) (tm : Tm), s = ⟨tm, bx, 0⟩ ∧ tm.get 1 = .ptr 0 3 0 ∧ tm.get 6 = c ∧ tm.get 22 = .own 1 n ∧ tm.get 23 = .int .i64 n ∧ tm.get 24 = .int .i64 j ∧ j ≤ n ∧ m = n - j ∧
      bx[0]? = some ⟨f.cells, 3, 24, .live⟩ ∧ bx[1]? = some ⟨L.map (.int .i64), 3, 120, .live⟩ ∧ 2 ≤ bx.length ∧ RowAt bx 2 bx.length c (conicUpto q tr j)) ⟨0, _, .nil, _, rfl, by simp (maxSteps := 1000000) (disch := first | decide | omega | assumption | exact plain_int _ _ | exact plain_ints _ | exact plain_bool _ | exact one_int _ _ | exact plain_des _ | exact plain_rows _) only [AM, initTm, Nat.reduceAdd, Nat.reduceEqDiff, reduceCtorEq, run_aaddr, run_stn, run_bld, bldV_nil], by simp (maxSteps := 1000000) (disch := first | decide | omega | assumption | exact plain_int _ _ | exact plain_ints _ | exact plain_bool _ | exact one_int _ _ | exact plain_des _ | exact plain_rows _) only [AM, initTm, Nat.reduceAdd, Nat.reduceEqDiff, reduceCtorEq, run_aaddr, run_stn, run_bld, bldV_nil], by simp (maxSteps := 1000000) (disch := first | decide | omega | assumption | exact plain_int _ _ | exact plain_ints _ | exact plain_bool _ | exact one_int _ _ | exact plain_des _ | exact plain_rows _) only [AM, initTm, Nat.reduceAdd, Nat.reduceEqDiff, reduceCtorEq, run_aaddr, run_stn, run_bld, bldV_nil], by simp (maxSteps := 1000000) (disch := first | decide | omega | assumption | exact plain_int _ _ | exact plain_ints _ | exact plain_bool _ | exact one_int _ _ | exact plain_des _ | exact plain_rows _) only [AM, initTm, Nat.reduceAdd, Nat.reduceEqDiff, reduceCtorEq, run_aaddr, run_stn, run_bld, bldV_nil], by simp (maxSteps := 1000000) (disch := first | decide | omega | assumption | exact plain_int _ _ | exact plain_ints _ | exact plain_bool _ | exact one_int _ _ | exact plain_des _ | exact plain_rows _) only [AM, initTm, Nat.reduceAdd, Nat.reduceEqDiff, reduceCtorEq, run_aaddr, run_stn, run_bld, bldV_nil]; rfl, by omega, rfl, rfl, rfl, by simp only [List.length_cons]; omega, .inl ⟨rfl, rfl⟩⟩ ?_
    rintro m s ⟨j, bx, c, tm, rfl, g1, g6, g22, g23, g24, hj, rfl, c0, c2, hN, hrow⟩
    by_cases hjl : (j : Int) < (n : Int)
    · obtain ⟨htj, hTj⟩ := hT.at_ j (by omega)
      have hiaj := fun tm rb => own3_iaddr c2 (by decide) hlen tm rb
      have hldj := fun tm rb => own3_ldn c2 (by decide) hlen tm rb j (by omega)
      rw [htj] at hldj
      have hsucc : conicUpto q tr (j + 1) = if onC q (tr.getD j []) then conicUpto q tr j ++ [(j : Int)] else conicUpto q tr j := rfl
      generalize ht : tr.getD j [] = t at *
      obtain ⟨Z3, hZ3⟩ : ∃ Z : List Int, Z = [0, 0, 0] := ⟨_, rfl⟩
      have hz3 : [AV.int .i64 0, .int .i64 0, .int .i64 0] = Z3.map (.int .i64) := by rw [hZ3]; rfl
      have hZl : Z3.length = 3 := by rw [hZ3]; rfl
      have hM : HasArr (bx ++ [⟨Z3.map (.int .i64), 3, 120, .live⟩]) bx.length 3 120 Z3 := by simp [HasArr]
      have hwM := fun tm rb => hM.whole tm rb 3 hZl.symm t hTj.1
      obtain ⟨bx1, hbx1⟩ : ∃ bx1 : List Box, bx1 = bx ++ [⟨t.map (.int .i64), 3, 120, .live⟩] := ⟨_, rfl⟩
      have hb1len : bx1.length = bx.length + 1 := by rw [hbx1]; simp
      have hold : ∀ k, k < bx.length → bx1[k]? = bx[k]? := fun k hk => by rw [hbx1]; exact List.getElem?_append_left hk
      have hF0 : Has bx1 0 f.cells := ⟨_, by rw [hold 0 (by omega)]; exact c0, rfl, by simp⟩
      have hFl := fun tm rb => hF0.ldn tm rb 3 rfl
      have hTa : HasArr bx1 bx.length 3 120 t := by unfold HasArr; rw [hbx1]; simp
      have hTaa := fun tm rb o len s => hTa.aaddr tm rb 3 o len s hTj.1.symm
      have hTl := fun tm rb => hTa.ld tm rb 3 hTj.1.symm
      have t0 := hTj.2 _ (getD_mem (l := t) (i := 0) (by rw [hTj.1]; omega))
      have t1 := hTj.2 _ (getD_mem (l := t) (i := 1) (by rw [hTj.1]; omega))
      have t2 := hTj.2 _ (getD_mem (l := t) (i := 2) (by rw [hTj.1]; omega))
      have m1 := A.mul (t.getD 1 0).toNat (t.getD 1 0).toNat (by omega) (by omega)
      have m2 := A.mul (t.getD 0 0).toNat (t.getD 2 0).toNat (by omega) (by omega)
      rw [Int.toNat_of_nonneg t1.1] at m1
      rw [Int.toNat_of_nonneg t0.1, Int.toNat_of_nonneg t2.1] at m2
      have hc1 : ∀ st, doCall F (E G F) .pureV 40 [f.av, .int .i64 (t.getD 1 0), .int .i64 (t.getD 1 0)] st = some (.tup [.int .i64 (mulT q (t.getD 1 0).toNat (t.getD 1 0).toNat : Nat), .int .i64 0], st) := fun st => by
        rw [doCall_plain3 (plain_fld f) (plain_int _ _) (plain_int _ _), m1]; rfl
      have hc2 : ∀ st, doCall F (E G F) .pureV 40 [f.av, .int .i64 (t.getD 0 0), .int .i64 (t.getD 2 0)] st = some (.tup [.int .i64 (mulT q (t.getD 0 0).toNat (t.getD 2 0).toNat : Nat), .int .i64 0], st) := fun st => by
        rw [doCall_plain3 (plain_fld f) (plain_int _ _) (plain_int _ _), m2]; rfl
      have hrow1 : RowAt bx1 2 bx1.length c (conicUpto q tr j) := hrow.mono (fun k _ hk => hold k hk) (by omega)
      have hrl := conicUpto_len q tr j
      have hon : onC q t ↔ mulT q (t.getD 1 0).toNat (t.getD 1 0).toNat = mulT q (t.getD 0 0).toNat (t.getD 2 0).toNat := Iff.rfl
      clear m1 m2
      generalize ea : mulT q (t.getD 1 0).toNat (t.getD 1 0).toNat = a at hc1 hon
      generalize eb : mulT q (t.getD 0 0).toNat (t.getD 2 0).toNat = b at hc2 hon
      by_cases hp0 : onC q t
      · have he : ((a : Int) == (b : Int)) = true := by rw [hon.1 hp0]; exact beq_self_eq_true _
        rw [if_pos hp0] at hsucc
        obtain ⟨c', bx2, happ, hrow2, hle2, hkeep2⟩ := hrow1.add (Nat.le_refl _) (by omega) (j : Int) (by omega)
        repeat' first
          | refine W_seq ?_
          | refine W_skip ?_
          | refine W_exit ?_
          | refine W_ret ?_
          | refine W_block ?_
          | (refine W_ops (by simp (maxSteps := 1000000) (disch := first | decide | omega | assumption | exact plain_int _ _ | exact plain_ints _ | exact plain_bool _ | exact one_int _ _ | exact plain_des _ | exact plain_rows _) only [AM, initTm, Nat.reduceAdd, Nat.reduceEqDiff, reduceCtorEq, run_aaddr, run_stn, run_bld, bldV_nil, g1, g6, g22, g23, g24, hjl, hiaj, run_ldn, hldj, hz3, hZl, hwM, List.length_map, set_last, ← hbx1, hFl, hfa', hTaa, hTl, ht0, ht1, ht2, hc1, hc2, x0, x1, he, happ]; rfl) ?_)
          | (refine W_cond (by simp (maxSteps := 1000000) (disch := first | decide | omega | assumption | exact plain_int _ _ | exact plain_ints _ | exact plain_bool _ | exact one_int _ _ | exact plain_des _ | exact plain_rows _) only [AM, initTm, Nat.reduceAdd, Nat.reduceEqDiff, reduceCtorEq, run_aaddr, run_stn, run_bld, bldV_nil, g1, g6, g22, g23, g24, hjl, hiaj, run_ldn, hldj, hz3, hZl, hwM, List.length_map, set_last, ← hbx1, hFl, hfa', hTaa, hTl, ht0, ht1, ht2, hc1, hc2, x0, x1, he, happ]; rfl) ?_ ?_ <;> intro hcond <;> (try simp only [decide_eq_true_eq, decide_eq_false_iff_not, beq_iff_eq, beq_eq_false_iff_ne, ne_eq, reduceCtorEq, Bool.not_eq_true', Bool.not_eq_false', bne_iff_ne, bne_eq_false_iff_eq] at hcond) <;> (try (exfalso; omega)))
          | refine thenQ_n ?_
          | refine thenQ_e ?_
          | refine thenQ_r ?_
          | refine outQ_n ?_
          | refine outQ_r ?_
          | refine outQ_e ?_
          | refine outQ_d (by decide) ?_
        refine ⟨n - (j + 1), by omega, j + 1, bx2, c', _, rfl, by simp (maxSteps := 1000000) (disch := first | decide | omega | assumption | exact plain_int _ _ | exact plain_ints _ | exact plain_bool _ | exact one_int _ _ | exact plain_des _ | exact plain_rows _) only [AM, initTm, Nat.reduceAdd, Nat.reduceEqDiff, reduceCtorEq, run_aaddr, run_stn, run_bld, bldV_nil, g1], by simp (maxSteps := 1000000) (disch := first | decide | omega | assumption | exact plain_int _ _ | exact plain_ints _ | exact plain_bool _ | exact one_int _ _ | exact plain_des _ | exact plain_rows _) only [AM, initTm, Nat.reduceAdd, Nat.reduceEqDiff, reduceCtorEq, run_aaddr, run_stn, run_bld, bldV_nil], by simp (maxSteps := 1000000) (disch := first | decide | omega | assumption | exact plain_int _ _ | exact plain_ints _ | exact plain_bool _ | exact one_int _ _ | exact plain_des _ | exact plain_rows _) only [AM, initTm, Nat.reduceAdd, Nat.reduceEqDiff, reduceCtorEq, run_aaddr, run_stn, run_bld, bldV_nil, g22], by simp (maxSteps := 1000000) (disch := first | decide | omega | assumption | exact plain_int _ _ | exact plain_ints _ | exact plain_bool _ | exact one_int _ _ | exact plain_des _ | exact plain_rows _) only [AM, initTm, Nat.reduceAdd, Nat.reduceEqDiff, reduceCtorEq, run_aaddr, run_stn, run_bld, bldV_nil, g23], by simp (maxSteps := 1000000) (disch := first | decide | omega | assumption | exact plain_int _ _ | exact plain_ints _ | exact plain_bool _ | exact one_int _ _ | exact plain_des _ | exact plain_rows _) only [AM, initTm, Nat.reduceAdd, Nat.reduceEqDiff, reduceCtorEq, run_aaddr, run_stn, run_bld, bldV_nil]; rfl, by omega, rfl, ?_, ?_, by omega, by rw [hsucc]; exact hrow2⟩
        · rw [hkeep2 0 (by omega), hold 0 (by omega)]; exact c0
        · rw [hkeep2 1 (by omega), hold 1 (by omega)]; exact c2
      · have he : ((a : Int) == (b : Int)) = false := by
          rw [beq_eq_false_iff_ne]
          intro h
          exact hp0 (hon.2 (by omega))
        rw [if_neg hp0] at hsucc
        repeat' first
          | refine W_seq ?_
          | refine W_skip ?_
          | refine W_exit ?_
          | refine W_ret ?_
          | refine W_block ?_
          | (refine W_ops (by simp (maxSteps := 1000000) (disch := first | decide | omega | assumption | exact plain_int _ _ | exact plain_ints _ | exact plain_bool _ | exact one_int _ _ | exact plain_des _ | exact plain_rows _) only [AM, initTm, Nat.reduceAdd, Nat.reduceEqDiff, reduceCtorEq, run_aaddr, run_stn, run_bld, bldV_nil, g1, g6, g22, g23, g24, hjl, hiaj, run_ldn, hldj, hz3, hZl, hwM, List.length_map, set_last, ← hbx1, hFl, hfa', hTaa, hTl, ht0, ht1, ht2, hc1, hc2, x0, x1, he]; rfl) ?_)
          | (refine W_cond (by simp (maxSteps := 1000000) (disch := first | decide | omega | assumption | exact plain_int _ _ | exact plain_ints _ | exact plain_bool _ | exact one_int _ _ | exact plain_des _ | exact plain_rows _) only [AM, initTm, Nat.reduceAdd, Nat.reduceEqDiff, reduceCtorEq, run_aaddr, run_stn, run_bld, bldV_nil, g1, g6, g22, g23, g24, hjl, hiaj, run_ldn, hldj, hz3, hZl, hwM, List.length_map, set_last, ← hbx1, hFl, hfa', hTaa, hTl, ht0, ht1, ht2, hc1, hc2, x0, x1, he]; rfl) ?_ ?_ <;> intro hcond <;> (try simp only [decide_eq_true_eq, decide_eq_false_iff_not, beq_iff_eq, beq_eq_false_iff_ne, ne_eq, reduceCtorEq, Bool.not_eq_true', Bool.not_eq_false', bne_iff_ne, bne_eq_false_iff_eq] at hcond) <;> (try (exfalso; omega)))
          | refine thenQ_n ?_
          | refine thenQ_e ?_
          | refine thenQ_r ?_
          | refine outQ_n ?_
          | refine outQ_r ?_
          | refine outQ_e ?_
          | refine outQ_d (by decide) ?_
        refine ⟨n - (j + 1), by omega, j + 1, bx1, c, _, rfl, by simp (maxSteps := 1000000) (disch := first | decide | omega | assumption | exact plain_int _ _ | exact plain_ints _ | exact plain_bool _ | exact one_int _ _ | exact plain_des _ | exact plain_rows _) only [AM, initTm, Nat.reduceAdd, Nat.reduceEqDiff, reduceCtorEq, run_aaddr, run_stn, run_bld, bldV_nil, g1], by simp (maxSteps := 1000000) (disch := first | decide | omega | assumption | exact plain_int _ _ | exact plain_ints _ | exact plain_bool _ | exact one_int _ _ | exact plain_des _ | exact plain_rows _) only [AM, initTm, Nat.reduceAdd, Nat.reduceEqDiff, reduceCtorEq, run_aaddr, run_stn, run_bld, bldV_nil, g6], by simp (maxSteps := 1000000) (disch := first | decide | omega | assumption | exact plain_int _ _ | exact plain_ints _ | exact plain_bool _ | exact one_int _ _ | exact plain_des _ | exact plain_rows _) only [AM, initTm, Nat.reduceAdd, Nat.reduceEqDiff, reduceCtorEq, run_aaddr, run_stn, run_bld, bldV_nil, g22], by simp (maxSteps := 1000000) (disch := first | decide | omega | assumption | exact plain_int _ _ | exact plain_ints _ | exact plain_bool _ | exact one_int _ _ | exact plain_des _ | exact plain_rows _) only [AM, initTm, Nat.reduceAdd, Nat.reduceEqDiff, reduceCtorEq, run_aaddr, run_stn, run_bld, bldV_nil, g23], by simp (maxSteps := 1000000) (disch := first | decide | omega | assumption | exact plain_int _ _ | exact plain_ints _ | exact plain_bool _ | exact one_int _ _ | exact plain_des _ | exact plain_rows _) only [AM, initTm, Nat.reduceAdd, Nat.reduceEqDiff, reduceCtorEq, run_aaddr, run_stn, run_bld, bldV_nil]; rfl, by omega, rfl, ?_, ?_, by omega, by rw [hsucc]; exact hrow1⟩
        · rw [hold 0 (by omega)]; exact c0
        · rw [hold 1 (by omega)]; exact c2
    · have ej : j = n := by omega
      subst ej
      repeat' first
        | refine W_seq ?_
        | refine W_skip ?_
        | refine W_exit ?_
        | refine W_ret ?_
        | refine W_block ?_
        | (refine W_ops (by simp (maxSteps := 1000000) (disch := first | decide | omega | assumption | exact plain_int _ _ | exact plain_ints _ | exact plain_bool _ | exact one_int _ _ | exact plain_des _ | exact plain_rows _) only [AM, initTm, Nat.reduceAdd, Nat.reduceEqDiff, reduceCtorEq, run_aaddr, run_stn, run_bld, bldV_nil, g1, g6, g22, g23, g24, hjl]; rfl) ?_)
        | (refine W_cond (by simp (maxSteps := 1000000) (disch := first | decide | omega | assumption | exact plain_int _ _ | exact plain_ints _ | exact plain_bool _ | exact one_int _ _ | exact plain_des _ | exact plain_rows _) only [AM, initTm, Nat.reduceAdd, Nat.reduceEqDiff, reduceCtorEq, run_aaddr, run_stn, run_bld, bldV_nil, g1, g6, g22, g23, g24, hjl]; rfl) ?_ ?_ <;> intro hcond <;> (try simp only [decide_eq_true_eq, decide_eq_false_iff_not, beq_iff_eq, beq_eq_false_iff_ne, ne_eq, reduceCtorEq, Bool.not_eq_true', Bool.not_eq_false', bne_iff_ne, bne_eq_false_iff_eq] at hcond) <;> (try (exfalso; omega)))
        | refine thenQ_n ?_
        | refine thenQ_e ?_
        | refine thenQ_r ?_
        | refine outQ_n ?_
        | refine outQ_r ?_
        | refine outQ_e ?_
        | refine outQ_d (by decide) ?_
      have e0 : tm.get 6 = c := g6
      refine ⟨.inr rfl, [c, .int .i64 0], .tup [ints (optL (conicUpto q tr j)), .int .i64 0], mapM_two (rvar_tmp (by simp (maxSteps := 1000000) (disch := first | decide | omega | assumption | exact plain_int _ _ | exact plain_ints _ | exact plain_bool _ | exact one_int _ _ | exact plain_des _ | exact plain_rows _) only [AM, initTm, Nat.reduceAdd, Nat.reduceEqDiff, reduceCtorEq, run_aaddr, run_stn, run_bld, bldV_nil, g6]) _ _) (rvar_tmp (by simp (maxSteps := 1000000) (disch := first | decide | omega | assumption | exact plain_int _ _ | exact plain_ints _ | exact plain_bool _ | exact one_int _ _ | exact plain_des _ | exact plain_rows _) only [AM, initTm, Nat.reduceAdd, Nat.reduceEqDiff, reduceCtorEq, run_aaddr, run_stn, run_bld, bldV_nil]) _ _), fun _ _ h => (by cases h), ?_, ?_, rfl⟩
      · show ([c, .int .i64 0].mapM (reify 7 bx)).map AV.tup = _
        rw [List.mapM_cons, hrow.reify 5]; rfl
      · show ([c, .int .i64 0].any (alias 7 bx)) = false
        rw [List.any_cons, hrow.alias 5]; rfl)
  rw [hv, hvv]
end

/-- The conics. -/
def conicQ : Nat → List Int
  | 2 => [0, 3, 6]
  | 3 => [0, 4, 8, 11]
  | 4 => [0, 5, 10, 16, 19]
  | 5 => [0, 6, 12, 20, 25, 27]
  | _ => []
theorem Conic_good (f : Fld) (q n : Nat) (rows : List (List Int)) (hp : PQ q n rows) (hk : Kind f q) (ho : Opened GP tabD f q) (hopen : pcall tabD (E GP tabD) 78 [f.av] = some (.val (.tup [.int .i64 q, .int .i64 0]), false)) :
    pcall tabD (E GP tabD) 35 [f.av] = some (.val (.tup [ints (some (conicQ q)), .int .i64 0]), false) := by
  have hq := hp.q_le
  have A : Arith GP tabD f q := ⟨by omega, by omega, fun a b ha hb => Mul_kind GP0 hk ho a b ha hb, fun a b ha hb => Add_kind GP0 hk ho a b ha hb⟩
  cases hp
  · have h := Conic_spec (G := GP) (F := tabD) rfl f 2 7 tripsQ2 _ A tripL2 hopen (by rw [← tripsQ2_eq]; exact pcall_E (trip2 GP))
    rw [h, show conicUpto 2 tripsQ2 7 = conicQ 2 by decide +kernel]; rfl
  · have h := Conic_spec (G := GP) (F := tabD) rfl f 3 13 tripsQ3 _ A tripL3 hopen (by rw [← tripsQ3_eq]; exact pcall_E (trip3 GP))
    rw [h, show conicUpto 3 tripsQ3 13 = conicQ 3 by decide +kernel]; rfl
  · have h := Conic_spec (G := GP) (F := tabD) rfl f 4 21 tripsQ4 _ A tripL4 hopen (by rw [← tripsQ4_eq]; exact pcall_E (trip4 GP))
    rw [h, show conicUpto 4 tripsQ4 21 = conicQ 4 by decide +kernel]; rfl
  · have h := Conic_spec (G := GP) (F := tabD) rfl f 5 31 tripsQ5 _ A tripL5 hopen (by rw [← tripsQ5_eq]; exact pcall_E (trip5 GP))
    rw [h, show conicUpto 5 tripsQ5 31 = conicQ 5 by decide +kernel]; rfl
/-- A conic is an arc. -/
theorem conic_arc {q n : Nat} {rows : List (List Int)} (hp : PQ q n rows) : pcall tabD (E GP tabD) 34 [(pD n rows).av, ints (some (conicQ q))] = some (.val (.tup [.bool true, .int .i64 0]), false) := by
  have hl : (conicQ q).length = q + 1 := by cases hp <;> rfl
  have hq := hp.q_le
  obtain ⟨v, hv, b, e, rfl, o, g, hord, hh⟩ := Arc_spec (G := GP) tabD_Tbl (pD n rows) hp.ok (some (conicQ q)) (by simp only [Option.getD_some]; omega)
  obtain ⟨_, rfl⟩ := hord.one hp.ord
  rcases hh with ⟨h, _⟩ | ⟨_, h⟩
  · exact absurd rfl h
  · have hasc : ascB (conicQ q) = true := by cases hp <;> rfl
    have hin : ∀ x ∈ conicQ q, 0 ≤ x ∧ x < n := by cases hp <;> decide
    have harc : ∀ r ∈ rows, ¬ 2 < together (conicQ q) r := by cases hp <;> decide +kernel
    have hans : ArcAns (pD n rows) (conicQ q) true 0 := by
      refine .inr (.inr ⟨fun ⟨i, hi, ho⟩ => ?_, fun ⟨i, h1', hi, hd⟩ => ?_, ?_, rfl⟩)
      · have := hin _ (getD_mem hi)
        have ho : (conicQ q).getD i 0 < 0 ∨ (n : Int) ≤ (conicQ q).getD i 0 := ho
        omega
      · have := ascB_get _ hasc (i - 1) (by omega)
        rw [show i - 1 + 1 = i by omega] at this
        omega
      · have : ((pD n rows).bl.any fun x => decide (2 < together (conicQ q) x)) = false := by
          rw [Bool.eq_false_iff]
          intro h
          obtain ⟨i, hi, ht⟩ := (any_bl ..).1 h
          have e : (((pD n rows).rows.getD i none).getD []) = rows.getD i [] := rowsO_rw n rows i
          rw [e] at ht
          have hi' : i < rows.length := by rw [← rowsO_len n rows]; exact hi
          exact harc _ (by rw [List.getD_eq_getElem?_getD, List.getElem?_eq_getElem hi']; exact List.getElem_mem hi') (of_decide_eq_true ht)
        rw [this]; rfl
    obtain ⟨rfl, rfl⟩ := h.one hans
    exact hv
/-- Bose's bound, at what the machine tells of an arc. -/
theorem arc_bound {d : Des} {l : List Int} {o : Int} (ho : Ord d o 0) (ha : ArcAns d l true 0) : (l.length : Int) ≤ o + 2 ∧ -1 ≤ o ∧ o ≤ 39 ∧ (o.tmod 2 = 1 → (l.length : Int) ≤ o + 1) := by
  rcases ho with ⟨_, h, _⟩ | ⟨_, _, _, h⟩ | ⟨_, ⟨n, hg, hp⟩, ho, _⟩
  · exact absurd rfl h
  · cases h
  rcases ha with ⟨_, h, _⟩ | ⟨_, _, h, _⟩ | ⟨h1, h2, h3, _⟩
  · cases h
  · cases h
  have P := hp.pp hg
  have hR := hp.rows
  have hpts := hg.pts
  have hl40 := hg.len 0
  have hasc := asc_of_not_down h2
  have hnd : l.Nodup := by
    rw [List.nodup_iff_pairwise_ne]
    exact hasc.imp fun h => by omega
  have hin : ∀ x ∈ l, 0 ≤ x ∧ x < n := by
    intro x hx
    obtain ⟨i, hi, rfl⟩ := List.mem_iff_getElem.1 hx
    apply Classical.byContradiction
    intro hno
    refine h1 ⟨i, hi, ?_⟩
    rw [List.getD_eq_getElem?_getD, List.getElem?_eq_getElem hi]
    simp only [Option.getD_some]
    omega
  have h4 : ∀ i, i < d.rows.length → together l (d.rw i) ≤ 2 := by
    intro i hi
    apply Classical.byContradiction
    intro hgt
    have : (d.bl.any fun x => decide (2 < together l x)) = true := (any_bl ..).2 ⟨i, hi, decide_eq_true (by show 2 < together l (d.rw i); omega)⟩
    rw [this] at h3
    cases h3
  obtain ⟨b1, b2⟩ := P.bose hnd hin h4 hR
  refine ⟨by omega, by omega, by omega, fun hodd => ?_⟩
  have hs : o ≠ -1 := fun e => by rw [e] at hodd; revert hodd; decide
  rw [Int.tmod_eq_emod_of_nonneg (by omega)] at hodd
  have := b2 (by omega)
  omega

set_option maxHeartbeats 4000000 in
theorem PlaneBose_true (d : Des) (hd : d.Ok) (p : Option (List Int)) (hpl : (p.getD []).length < 9223372036854775808) (f : Fld) (hlen : f.l.length < 9223372036854775808) :
    pcall tabD (E GP tabD) 9 [d.av, ints p, f.av] = some (.val (.bool true), false) := by
  obtain ⟨v1, hca0, b, e, rfl, o, g, hord, hb⟩ := Arc_spec (G := GP) tabD_Tbl d hd p hpl
  obtain ⟨v2, hck0, o', g', rfl, hord'⟩ := Check_spec (G := GP) tabD_Tbl d hd
  obtain ⟨rfl, rfl⟩ := hord.one hord'
  obtain ⟨v, hm, hv⟩ := Make_any f hlen
  have hcm : ∀ st, doCall tabD (E GP tabD) .pureV 27 [f.av] st = some (v, st) := fun st => by
    rw [doCall_plain1 (plain_fld f), hm]; rfl
  have hcf := call_fact
  have hca : ∀ st, doCall tabD (E GP tabD) .pureV 34 [d.av, ints p] st = some (.tup [.bool b, .int .i64 e], st) := fun st => by
    rw [doCall_plain2 (plain_des d) (plain_ints p), hca0]; rfl
  have hck : ∀ st, doCall tabD (E GP tabD) .pureV 28 [d.av] st = some (.tup [.int .i64 o, .int .i64 g], st) := fun st => by
    rw [doCall_plain1 (plain_des d), hck0]; rfl
  have x0 : ∀ (a b : AV), [a, b][0]? = some a := fun _ _ => rfl
  have x1 : ∀ (a b : AV), [a, b][1]? = some b := fun _ _ => rfl
  have hlp : ∀ st, lenV st (ints p) = some ((p.getD []).length : Int) := fun st => lenV_ints st p
  have hdc : d.av.cells = d.cells := rfl
  have hd1 := d.cells_one
  have hd2 : d.cells.length = 2 := rfl
  have hda : AV.agg d.cells = d.av := rfl
  have hfc : f.av.cells = f.cells := rfl
  have hf1 := f.cells_one
  have hf3 : f.cells.length = 3 := rfl
  have hfa' : AV.agg f.cells = f.av := rfl
  have hHd : ∀ x, Has (⟨d.cells, 2, 39, .live⟩ :: x) 0 d.cells := fun x => ⟨_, rfl, rfl, by simp⟩
  have hldn0 := fun x tm rb => (hHd x).ldn tm rb 2 rfl
  have hHf : ∀ y x, Has (y :: ⟨f.cells, 3, 24, .live⟩ :: x) 1 f.cells := fun y x => ⟨_, rfl, rfl, by simp⟩
  have hldn1 := fun y x tm rb => (hHf y x).ldn tm rb 3 rfl
  have hrem : abin .rem (.int .i64 o) (.int .i64 2) = some (.int .i64 (o.tmod 2)) := by simp [abin]
  -- the bound holds, or there is nothing to ask
  have hcase : (e = 0 ∧ b = true ∧ g = 0 ∧ (((p.getD []).length : Int) ≤ o + 2 ∧ -1 ≤ o ∧ o ≤ 39 ∧ (o.tmod 2 = 1 → ((p.getD []).length : Int) ≤ o + 1))) ∨ (e ≠ 0 ∨ (e = 0 ∧ b = false)) := by
    by_cases he : e = 0
    · cases hbb : b with
      | false => exact .inr (.inr ⟨he, rfl⟩)
      | true =>
        subst hbb he
        rcases hb with ⟨h1, h2, _⟩ | ⟨rfl, h2⟩
        · cases h2
        · exact .inl ⟨rfl, rfl, rfl, arc_bound hord h2⟩
    · exact .inr (.inl he)
  clear hord hord' hb hca0 hck0 hm
  generalize hk : (p.getD []).length = k at *
  cases hv with
  | err e1 he1 q ho =>
    have hcc : ∀ st, doCall tabD (E GP tabD) .pureV 35 [f.av] st = some (.tup [ints none, .int .i64 e1], st) := fun st => by
      rw [doCall_plain1 (plain_fld f), Conic_err (G := GP) (F := tabD) rfl f q e1 he1 ho]; rfl
    have hne : (e1 != 0) = true := bne_iff_ne.2 he1
    refine pcall_val (F := tabD) (mf := mf9) rfl (v := .bool true) (fun _ _ h => by cases h) ?_ (fun _ => rfl) (fun _ => rfl)
    unfold mf9
    simp only
    rcases hcase with ⟨rfl, rfl, rfl, h1, h2, h3, h4⟩ | h | ⟨rfl, rfl⟩
    · have h5 : decide ((k : Int) > o + 2) = false := decide_eq_false (by omega)
      by_cases ho2 : o.tmod 2 = 1
      · have h6 : (o.tmod 2 == 1) = true := beq_iff_eq.2 ho2
        have h7 := h4 ho2
        have h8 : decide ((k : Int) > o + 1) = false := decide_eq_false (by omega)
        repeat' first
          | refine W_seq ?_
          | refine W_skip ?_
          | refine W_exit ?_
          | refine W_ret ?_
          | refine W_block ?_
          | (refine W_ops (by simp (maxSteps := 1000000) (disch := first | decide | omega | assumption | exact plain_int _ _ | exact plain_ints _ | exact plain_bool _ | exact one_int _ _ | exact plain_des _ | exact plain_rows _) only [AM, initTm, Nat.reduceAdd, Nat.reduceEqDiff, reduceCtorEq, run_aaddr, run_stn, run_bld, bldV_nil, hcf, hca, hck, hcc, x0, x1, hdc, hd1, hd2, hda, hfc, hf1, hf3, hfa', run_ldn, hldn0, hldn1, hlp, hrem, hne, h5, h6, h8, bne_self_eq_false, List.length_cons, List.length_nil]; rfl) ?_)
          | (refine W_cond (by simp (maxSteps := 1000000) (disch := first | decide | omega | assumption | exact plain_int _ _ | exact plain_ints _ | exact plain_bool _ | exact one_int _ _ | exact plain_des _ | exact plain_rows _) only [AM, initTm, Nat.reduceAdd, Nat.reduceEqDiff, reduceCtorEq, run_aaddr, run_stn, run_bld, bldV_nil, hcf, hca, hck, hcc, x0, x1, hdc, hd1, hd2, hda, hfc, hf1, hf3, hfa', run_ldn, hldn0, hldn1, hlp, hrem, hne, h5, h6, h8, bne_self_eq_false, List.length_cons, List.length_nil]; rfl) ?_ ?_ <;> intro hcond <;> (try simp only [decide_eq_true_eq, decide_eq_false_iff_not, beq_iff_eq, beq_eq_false_iff_ne, ne_eq, reduceCtorEq, Bool.not_eq_true', Bool.not_eq_false', bne_iff_ne, bne_eq_false_iff_eq] at hcond) <;> (try (exfalso; omega)))
          | refine thenQ_n ?_
          | refine thenQ_e ?_
          | refine thenQ_r ?_
          | refine outQ_n ?_
          | refine outQ_r ?_
          | refine outQ_e ?_
          | refine outQ_d (by decide) ?_
        refine ⟨.inr rfl, [_], rfl, ?_⟩
        rw [tuple_one]
        simp (maxSteps := 1000000) (disch := first | decide | omega | assumption | exact plain_int _ _ | exact plain_ints _ | exact plain_bool _ | exact one_int _ _ | exact plain_des _ | exact plain_rows _) only [AM, initTm, Nat.reduceAdd, Nat.reduceEqDiff, reduceCtorEq, run_aaddr, run_stn, run_bld, bldV_nil]
      · have h6 : (o.tmod 2 == 1) = false := beq_eq_false_iff_ne.2 ho2
        repeat' first
          | refine W_seq ?_
          | refine W_skip ?_
          | refine W_exit ?_
          | refine W_ret ?_
          | refine W_block ?_
          | (refine W_ops (by simp (maxSteps := 1000000) (disch := first | decide | omega | assumption | exact plain_int _ _ | exact plain_ints _ | exact plain_bool _ | exact one_int _ _ | exact plain_des _ | exact plain_rows _) only [AM, initTm, Nat.reduceAdd, Nat.reduceEqDiff, reduceCtorEq, run_aaddr, run_stn, run_bld, bldV_nil, hcf, hca, hck, hcc, x0, x1, hdc, hd1, hd2, hda, hfc, hf1, hf3, hfa', run_ldn, hldn0, hldn1, hlp, hrem, hne, h5, h6, bne_self_eq_false, List.length_cons, List.length_nil]; rfl) ?_)
          | (refine W_cond (by simp (maxSteps := 1000000) (disch := first | decide | omega | assumption | exact plain_int _ _ | exact plain_ints _ | exact plain_bool _ | exact one_int _ _ | exact plain_des _ | exact plain_rows _) only [AM, initTm, Nat.reduceAdd, Nat.reduceEqDiff, reduceCtorEq, run_aaddr, run_stn, run_bld, bldV_nil, hcf, hca, hck, hcc, x0, x1, hdc, hd1, hd2, hda, hfc, hf1, hf3, hfa', run_ldn, hldn0, hldn1, hlp, hrem, hne, h5, h6, bne_self_eq_false, List.length_cons, List.length_nil]; rfl) ?_ ?_ <;> intro hcond <;> (try simp only [decide_eq_true_eq, decide_eq_false_iff_not, beq_iff_eq, beq_eq_false_iff_ne, ne_eq, reduceCtorEq, Bool.not_eq_true', Bool.not_eq_false', bne_iff_ne, bne_eq_false_iff_eq] at hcond) <;> (try (exfalso; omega)))
          | refine thenQ_n ?_
          | refine thenQ_e ?_
          | refine thenQ_r ?_
          | refine outQ_n ?_
          | refine outQ_r ?_
          | refine outQ_e ?_
          | refine outQ_d (by decide) ?_
        refine ⟨.inr rfl, [_], rfl, ?_⟩
        rw [tuple_one]
        simp (maxSteps := 1000000) (disch := first | decide | omega | assumption | exact plain_int _ _ | exact plain_ints _ | exact plain_bool _ | exact one_int _ _ | exact plain_des _ | exact plain_rows _) only [AM, initTm, Nat.reduceAdd, Nat.reduceEqDiff, reduceCtorEq, run_aaddr, run_stn, run_bld, bldV_nil]
    · have h1 : (e == 0) = false := beq_eq_false_iff_ne.2 h
      repeat' first
        | refine W_seq ?_
        | refine W_skip ?_
        | refine W_exit ?_
        | refine W_ret ?_
        | refine W_block ?_
        | (refine W_ops (by simp (maxSteps := 1000000) (disch := first | decide | omega | assumption | exact plain_int _ _ | exact plain_ints _ | exact plain_bool _ | exact one_int _ _ | exact plain_des _ | exact plain_rows _) only [AM, initTm, Nat.reduceAdd, Nat.reduceEqDiff, reduceCtorEq, run_aaddr, run_stn, run_bld, bldV_nil, hcf, hca, hck, hcc, x0, x1, hdc, hd1, hd2, hda, hfc, hf1, hf3, hfa', run_ldn, hldn0, hldn1, hlp, hne, h1, List.length_cons, List.length_nil]; rfl) ?_)
        | (refine W_cond (by simp (maxSteps := 1000000) (disch := first | decide | omega | assumption | exact plain_int _ _ | exact plain_ints _ | exact plain_bool _ | exact one_int _ _ | exact plain_des _ | exact plain_rows _) only [AM, initTm, Nat.reduceAdd, Nat.reduceEqDiff, reduceCtorEq, run_aaddr, run_stn, run_bld, bldV_nil, hcf, hca, hck, hcc, x0, x1, hdc, hd1, hd2, hda, hfc, hf1, hf3, hfa', run_ldn, hldn0, hldn1, hlp, hne, h1, List.length_cons, List.length_nil]; rfl) ?_ ?_ <;> intro hcond <;> (try simp only [decide_eq_true_eq, decide_eq_false_iff_not, beq_iff_eq, beq_eq_false_iff_ne, ne_eq, reduceCtorEq, Bool.not_eq_true', Bool.not_eq_false', bne_iff_ne, bne_eq_false_iff_eq] at hcond) <;> (try (exfalso; omega)))
        | refine thenQ_n ?_
        | refine thenQ_e ?_
        | refine thenQ_r ?_
        | refine outQ_n ?_
        | refine outQ_r ?_
        | refine outQ_e ?_
        | refine outQ_d (by decide) ?_
      refine ⟨.inr rfl, [_], rfl, ?_⟩
      rw [tuple_one]
      simp (maxSteps := 1000000) (disch := first | decide | omega | assumption | exact plain_int _ _ | exact plain_ints _ | exact plain_bool _ | exact one_int _ _ | exact plain_des _ | exact plain_rows _) only [AM, initTm, Nat.reduceAdd, Nat.reduceEqDiff, reduceCtorEq, run_aaddr, run_stn, run_bld, bldV_nil]
    · repeat' first
        | refine W_seq ?_
        | refine W_skip ?_
        | refine W_exit ?_
        | refine W_ret ?_
        | refine W_block ?_
        | (refine W_ops (by simp (maxSteps := 1000000) (disch := first | decide | omega | assumption | exact plain_int _ _ | exact plain_ints _ | exact plain_bool _ | exact one_int _ _ | exact plain_des _ | exact plain_rows _) only [AM, initTm, Nat.reduceAdd, Nat.reduceEqDiff, reduceCtorEq, run_aaddr, run_stn, run_bld, bldV_nil, hcf, hca, hck, hcc, x0, x1, hdc, hd1, hd2, hda, hfc, hf1, hf3, hfa', run_ldn, hldn0, hldn1, hlp, hne, List.length_cons, List.length_nil]; rfl) ?_)
        | (refine W_cond (by simp (maxSteps := 1000000) (disch := first | decide | omega | assumption | exact plain_int _ _ | exact plain_ints _ | exact plain_bool _ | exact one_int _ _ | exact plain_des _ | exact plain_rows _) only [AM, initTm, Nat.reduceAdd, Nat.reduceEqDiff, reduceCtorEq, run_aaddr, run_stn, run_bld, bldV_nil, hcf, hca, hck, hcc, x0, x1, hdc, hd1, hd2, hda, hfc, hf1, hf3, hfa', run_ldn, hldn0, hldn1, hlp, hne, List.length_cons, List.length_nil]; rfl) ?_ ?_ <;> intro hcond <;> (try simp only [decide_eq_true_eq, decide_eq_false_iff_not, beq_iff_eq, beq_eq_false_iff_ne, ne_eq, reduceCtorEq, Bool.not_eq_true', Bool.not_eq_false', bne_iff_ne, bne_eq_false_iff_eq] at hcond) <;> (try (exfalso; omega)))
        | refine thenQ_n ?_
        | refine thenQ_e ?_
        | refine thenQ_r ?_
        | refine outQ_n ?_
        | refine outQ_r ?_
        | refine outQ_e ?_
        | refine outQ_d (by decide) ?_
      refine ⟨.inr rfl, [_], rfl, ?_⟩
      rw [tuple_one]
      simp (maxSteps := 1000000) (disch := first | decide | omega | assumption | exact plain_int _ _ | exact plain_ints _ | exact plain_bool _ | exact one_int _ _ | exact plain_des _ | exact plain_rows _) only [AM, initTm, Nat.reduceAdd, Nat.reduceEqDiff, reduceCtorEq, run_aaddr, run_stn, run_bld, bldV_nil]
  | ok q n rows hk' ho hopen hp =>
    have hle := hp.q_le
    have hcc : ∀ st, doCall tabD (E GP tabD) .pureV 35 [f.av] st = some (.tup [ints (some (conicQ q)), .int .i64 0], st) := fun st => by
      rw [doCall_plain1 (plain_fld f), Conic_good f q n rows hp hk' ho hopen]; rfl
    have hcs : ∀ st, doCall tabD (E GP tabD) .pureV 11 [f.av] st = some (.int .i64 q, st) := fun st => by
      rw [doCall_plain1 (plain_fld _), size_of hk']; rfl
    have hcar := conic_arc hp
    have hcl : (conicQ q).length = q + 1 := by cases hp <;> rfl
    obtain ⟨D, hD⟩ : ∃ D : Des, D = pD n rows := ⟨_, rfl⟩
    obtain ⟨C, hC⟩ : ∃ C : Option (List Int), C = some (conicQ q) := ⟨_, rfl⟩
    rw [← hD] at hcm hcar
    rw [← hC] at hcc hcar
    have hlc : ∀ st, lenV st (ints C) = some ((q : Int) + 1) := fun st => by rw [lenV_ints, hC]; simp [hcl]
    clear hD hC
    have hcr : ∀ st, doCall tabD (E GP tabD) .pureV 34 [D.av, ints C] st = some (.tup [.bool true, .int .i64 0], st) := fun st => by
      rw [doCall_plain2 (plain_des D) (plain_ints C), hcar]; rfl
    have hD1 : D.cells.all AV.one = true := D.cells_one
    have eD : AV.agg D.cells = D.av := rfl
    have hw2 := fun y z x tm rb => write_whole (bx := y :: z :: ⟨[.int .i64 0, .nil], 2, 39, .live⟩ :: x) (id := 2) (sz := 2) (e := 39) rfl tm rb 2 rfl (new := D.cells) rfl hD1
    simp only [eD] at hw2
    have hH2 : ∀ y z x, Has (y :: z :: ⟨D.cells, 2, 39, .live⟩ :: x) 2 D.cells := fun y z x => ⟨_, rfl, rfl, by simp⟩
    have hldn2 := fun y z x tm rb => (hH2 y z x).ldn tm rb 2 rfl
    have hqe : ((q : Int) + 1 == (q : Int) + 1) = true := beq_self_eq_true _
    refine pcall_val (F := tabD) (mf := mf9) rfl (v := .bool true) (fun _ _ h => by cases h) ?_ (fun _ => rfl) (fun _ => rfl)
    unfold mf9
    simp only
    rcases hcase with ⟨rfl, rfl, rfl, h1, h2, h3, h4⟩ | h | ⟨rfl, rfl⟩
    · have h5 : decide ((k : Int) > o + 2) = false := decide_eq_false (by omega)
      by_cases ho2 : o.tmod 2 = 1
      · have h6 : (o.tmod 2 == 1) = true := beq_iff_eq.2 ho2
        have h7 := h4 ho2
        have h8 : decide ((k : Int) > o + 1) = false := decide_eq_false (by omega)
        repeat' first
          | refine W_seq ?_
          | refine W_skip ?_
          | refine W_exit ?_
          | refine W_ret ?_
          | refine W_block ?_
          | (refine W_ops (by simp (maxSteps := 1000000) (disch := first | decide | omega | assumption | exact plain_int _ _ | exact plain_ints _ | exact plain_bool _ | exact one_int _ _ | exact plain_des _ | exact plain_rows _) only [AM, initTm, Nat.reduceAdd, Nat.reduceEqDiff, reduceCtorEq, run_aaddr, run_stn, run_bld, bldV_nil, hcf, hca, hck, hcc, hcm, hcs, hcr, x0, x1, hdc, hd1, hd2, hda, hfc, hf1, hf3, hfa', run_ldn, hldn0, hldn1, hldn2, hw2, eD, hlp, hlc, hrem, h5, h6, h8, hqe, bne_self_eq_false, List.length_cons, List.length_nil, List.set_cons_succ, List.set_cons_zero]; rfl) ?_)
          | (refine W_cond (by simp (maxSteps := 1000000) (disch := first | decide | omega | assumption | exact plain_int _ _ | exact plain_ints _ | exact plain_bool _ | exact one_int _ _ | exact plain_des _ | exact plain_rows _) only [AM, initTm, Nat.reduceAdd, Nat.reduceEqDiff, reduceCtorEq, run_aaddr, run_stn, run_bld, bldV_nil, hcf, hca, hck, hcc, hcm, hcs, hcr, x0, x1, hdc, hd1, hd2, hda, hfc, hf1, hf3, hfa', run_ldn, hldn0, hldn1, hldn2, hw2, eD, hlp, hlc, hrem, h5, h6, h8, hqe, bne_self_eq_false, List.length_cons, List.length_nil, List.set_cons_succ, List.set_cons_zero]; rfl) ?_ ?_ <;> intro hcond <;> (try simp only [decide_eq_true_eq, decide_eq_false_iff_not, beq_iff_eq, beq_eq_false_iff_ne, ne_eq, reduceCtorEq, Bool.not_eq_true', Bool.not_eq_false', bne_iff_ne, bne_eq_false_iff_eq] at hcond) <;> (try (exfalso; omega)))
          | refine thenQ_n ?_
          | refine thenQ_e ?_
          | refine thenQ_r ?_
          | refine outQ_n ?_
          | refine outQ_r ?_
          | refine outQ_e ?_
          | refine outQ_d (by decide) ?_
        refine ⟨.inr rfl, [_], rfl, ?_⟩
        rw [tuple_one]
        simp (maxSteps := 1000000) (disch := first | decide | omega | assumption | exact plain_int _ _ | exact plain_ints _ | exact plain_bool _ | exact one_int _ _ | exact plain_des _ | exact plain_rows _) only [AM, initTm, Nat.reduceAdd, Nat.reduceEqDiff, reduceCtorEq, run_aaddr, run_stn, run_bld, bldV_nil]
      · have h6 : (o.tmod 2 == 1) = false := beq_eq_false_iff_ne.2 ho2
        repeat' first
          | refine W_seq ?_
          | refine W_skip ?_
          | refine W_exit ?_
          | refine W_ret ?_
          | refine W_block ?_
          | (refine W_ops (by simp (maxSteps := 1000000) (disch := first | decide | omega | assumption | exact plain_int _ _ | exact plain_ints _ | exact plain_bool _ | exact one_int _ _ | exact plain_des _ | exact plain_rows _) only [AM, initTm, Nat.reduceAdd, Nat.reduceEqDiff, reduceCtorEq, run_aaddr, run_stn, run_bld, bldV_nil, hcf, hca, hck, hcc, hcm, hcs, hcr, x0, x1, hdc, hd1, hd2, hda, hfc, hf1, hf3, hfa', run_ldn, hldn0, hldn1, hldn2, hw2, eD, hlp, hlc, hrem, h5, h6, hqe, bne_self_eq_false, List.length_cons, List.length_nil, List.set_cons_succ, List.set_cons_zero]; rfl) ?_)
          | (refine W_cond (by simp (maxSteps := 1000000) (disch := first | decide | omega | assumption | exact plain_int _ _ | exact plain_ints _ | exact plain_bool _ | exact one_int _ _ | exact plain_des _ | exact plain_rows _) only [AM, initTm, Nat.reduceAdd, Nat.reduceEqDiff, reduceCtorEq, run_aaddr, run_stn, run_bld, bldV_nil, hcf, hca, hck, hcc, hcm, hcs, hcr, x0, x1, hdc, hd1, hd2, hda, hfc, hf1, hf3, hfa', run_ldn, hldn0, hldn1, hldn2, hw2, eD, hlp, hlc, hrem, h5, h6, hqe, bne_self_eq_false, List.length_cons, List.length_nil, List.set_cons_succ, List.set_cons_zero]; rfl) ?_ ?_ <;> intro hcond <;> (try simp only [decide_eq_true_eq, decide_eq_false_iff_not, beq_iff_eq, beq_eq_false_iff_ne, ne_eq, reduceCtorEq, Bool.not_eq_true', Bool.not_eq_false', bne_iff_ne, bne_eq_false_iff_eq] at hcond) <;> (try (exfalso; omega)))
          | refine thenQ_n ?_
          | refine thenQ_e ?_
          | refine thenQ_r ?_
          | refine outQ_n ?_
          | refine outQ_r ?_
          | refine outQ_e ?_
          | refine outQ_d (by decide) ?_
        refine ⟨.inr rfl, [_], rfl, ?_⟩
        rw [tuple_one]
        simp (maxSteps := 1000000) (disch := first | decide | omega | assumption | exact plain_int _ _ | exact plain_ints _ | exact plain_bool _ | exact one_int _ _ | exact plain_des _ | exact plain_rows _) only [AM, initTm, Nat.reduceAdd, Nat.reduceEqDiff, reduceCtorEq, run_aaddr, run_stn, run_bld, bldV_nil]
    · have h1 : (e == 0) = false := beq_eq_false_iff_ne.2 h
      repeat' first
        | refine W_seq ?_
        | refine W_skip ?_
        | refine W_exit ?_
        | refine W_ret ?_
        | refine W_block ?_
        | (refine W_ops (by simp (maxSteps := 1000000) (disch := first | decide | omega | assumption | exact plain_int _ _ | exact plain_ints _ | exact plain_bool _ | exact one_int _ _ | exact plain_des _ | exact plain_rows _) only [AM, initTm, Nat.reduceAdd, Nat.reduceEqDiff, reduceCtorEq, run_aaddr, run_stn, run_bld, bldV_nil, hcf, hca, hck, hcc, hcm, hcs, hcr, x0, x1, hdc, hd1, hd2, hda, hfc, hf1, hf3, hfa', run_ldn, hldn0, hldn1, hldn2, hw2, eD, hlp, hlc, h1, hqe, bne_self_eq_false, List.length_cons, List.length_nil, List.set_cons_succ, List.set_cons_zero]; rfl) ?_)
        | (refine W_cond (by simp (maxSteps := 1000000) (disch := first | decide | omega | assumption | exact plain_int _ _ | exact plain_ints _ | exact plain_bool _ | exact one_int _ _ | exact plain_des _ | exact plain_rows _) only [AM, initTm, Nat.reduceAdd, Nat.reduceEqDiff, reduceCtorEq, run_aaddr, run_stn, run_bld, bldV_nil, hcf, hca, hck, hcc, hcm, hcs, hcr, x0, x1, hdc, hd1, hd2, hda, hfc, hf1, hf3, hfa', run_ldn, hldn0, hldn1, hldn2, hw2, eD, hlp, hlc, h1, hqe, bne_self_eq_false, List.length_cons, List.length_nil, List.set_cons_succ, List.set_cons_zero]; rfl) ?_ ?_ <;> intro hcond <;> (try simp only [decide_eq_true_eq, decide_eq_false_iff_not, beq_iff_eq, beq_eq_false_iff_ne, ne_eq, reduceCtorEq, Bool.not_eq_true', Bool.not_eq_false', bne_iff_ne, bne_eq_false_iff_eq] at hcond) <;> (try (exfalso; omega)))
        | refine thenQ_n ?_
        | refine thenQ_e ?_
        | refine thenQ_r ?_
        | refine outQ_n ?_
        | refine outQ_r ?_
        | refine outQ_e ?_
        | refine outQ_d (by decide) ?_
      refine ⟨.inr rfl, [_], rfl, ?_⟩
      rw [tuple_one]
      simp (maxSteps := 1000000) (disch := first | decide | omega | assumption | exact plain_int _ _ | exact plain_ints _ | exact plain_bool _ | exact one_int _ _ | exact plain_des _ | exact plain_rows _) only [AM, initTm, Nat.reduceAdd, Nat.reduceEqDiff, reduceCtorEq, run_aaddr, run_stn, run_bld, bldV_nil]
    · repeat' first
        | refine W_seq ?_
        | refine W_skip ?_
        | refine W_exit ?_
        | refine W_ret ?_
        | refine W_block ?_
        | (refine W_ops (by simp (maxSteps := 1000000) (disch := first | decide | omega | assumption | exact plain_int _ _ | exact plain_ints _ | exact plain_bool _ | exact one_int _ _ | exact plain_des _ | exact plain_rows _) only [AM, initTm, Nat.reduceAdd, Nat.reduceEqDiff, reduceCtorEq, run_aaddr, run_stn, run_bld, bldV_nil, hcf, hca, hck, hcc, hcm, hcs, hcr, x0, x1, hdc, hd1, hd2, hda, hfc, hf1, hf3, hfa', run_ldn, hldn0, hldn1, hldn2, hw2, eD, hlp, hlc, hqe, bne_self_eq_false, List.length_cons, List.length_nil, List.set_cons_succ, List.set_cons_zero]; rfl) ?_)
        | (refine W_cond (by simp (maxSteps := 1000000) (disch := first | decide | omega | assumption | exact plain_int _ _ | exact plain_ints _ | exact plain_bool _ | exact one_int _ _ | exact plain_des _ | exact plain_rows _) only [AM, initTm, Nat.reduceAdd, Nat.reduceEqDiff, reduceCtorEq, run_aaddr, run_stn, run_bld, bldV_nil, hcf, hca, hck, hcc, hcm, hcs, hcr, x0, x1, hdc, hd1, hd2, hda, hfc, hf1, hf3, hfa', run_ldn, hldn0, hldn1, hldn2, hw2, eD, hlp, hlc, hqe, bne_self_eq_false, List.length_cons, List.length_nil, List.set_cons_succ, List.set_cons_zero]; rfl) ?_ ?_ <;> intro hcond <;> (try simp only [decide_eq_true_eq, decide_eq_false_iff_not, beq_iff_eq, beq_eq_false_iff_ne, ne_eq, reduceCtorEq, Bool.not_eq_true', Bool.not_eq_false', bne_iff_ne, bne_eq_false_iff_eq] at hcond) <;> (try (exfalso; omega)))
        | refine thenQ_n ?_
        | refine thenQ_e ?_
        | refine thenQ_r ?_
        | refine outQ_n ?_
        | refine outQ_r ?_
        | refine outQ_e ?_
        | refine outQ_d (by decide) ?_
      refine ⟨.inr rfl, [_], rfl, ?_⟩
      rw [tuple_one]
      simp (maxSteps := 1000000) (disch := first | decide | omega | assumption | exact plain_int _ _ | exact plain_ints _ | exact plain_bool _ | exact one_int _ _ | exact plain_des _ | exact plain_rows _) only [AM, initTm, Nat.reduceAdd, Nat.reduceEqDiff, reduceCtorEq, run_aaddr, run_stn, run_bld, bldV_nil]
end Go.Am
