/- Triples and their product. -/
import Derived.Test.YtcibofbmennjpaaDoorAmFd6
set_option linter.unusedVariables false
set_option linter.unusedSimpArgs false
namespace Go.Am

/-- Triples of elements whose first that is not 0 is 1. -/
def trips (q : Nat) : List (List Int) :=
  (List.range (min q 2)).flatMap fun (a : Nat) => (List.range q).flatMap fun (b : Nat) => (List.range q).flatMap fun (c : Nat) =>
    if (if a ≠ 0 then a else if b ≠ 0 then b else c) = 1 then [[(a : Int), (b : Int), (c : Int)]] else []
def tripCells (q : Nat) : List AV := (trips q).flatMap fun t => t.map (.int .i64)

set_option maxRecDepth 100000
section
variable (G : Nat → List AV)
theorem trip2 : pcall tabD (aexec G tabD 60) 79 [.int .i64 2] = some (.own 7 (tripCells 2) 3 120, false) := by kernel_rfl
theorem trip3 : pcall tabD (aexec G tabD 60) 79 [.int .i64 3] = some (.own 13 (tripCells 3) 3 120, false) := by kernel_rfl
theorem trip4 : pcall tabD (aexec G tabD 60) 79 [.int .i64 4] = some (.own 21 (tripCells 4) 3 120, false) := by kernel_rfl
theorem trip5 : pcall tabD (aexec G tabD 60) 79 [.int .i64 5] = some (.own 31 (tripCells 5) 3 120, false) := by kernel_rfl
end

/-- Three numbers below q. -/
def Tri (q : Nat) (l : List Int) : Prop := l.length = 3 ∧ ∀ x ∈ l, 0 ≤ x ∧ x < q
def prodAt (q : Nat) (a b : List Int) : Nat → Nat
  | 0 => 0
  | i + 1 => addT q (prodAt q a b i) (mulT q (a.getD i 0).toNat (b.getD i 0).toNat)
/-- The product, place by place. -/
def prodT (q : Nat) (a b : List Int) : Nat := prodAt q a b 3

theorem xor_lt4 (a b : Nat) (ha : a < 4) (hb : b < 4) : a ^^^ b < 4 := Nat.xor_lt_two_pow (n := 2) ha hb
theorem addT_lt {q a b : Nat} (hq : 0 < q) (ha : a < q) (hb : b < q) : addT q a b < q := by
  unfold addT
  split
  · rename_i h; subst h; exact xor_lt4 a b ha hb
  · exact Nat.mod_lt _ hq
theorem mulT_lt {q a b : Nat} (hq : 0 < q) : mulT q a b < q := by
  unfold mulT
  split
  · split <;> omega
  · exact Nat.mod_lt _ hq
theorem prodAt_lt {q : Nat} (hq : 0 < q) (a b : List Int) (i : Nat) : prodAt q a b i < q := by
  induction i with
  | zero => exact hq
  | succ i ih => exact addT_lt hq ih (mulT_lt hq)

section
variable {G : Nat → List AV} {F : Nat → Option MF} {rec : Rec}

/-- Sums and products are told by the tables. -/
structure Arith (G : Nat → List AV) (F : Nat → Option MF) (f : Fld) (q : Nat) : Prop where
  pos : 0 < q
  le : q ≤ 5
  mul : ∀ a b : Nat, a < q → b < q → pcall F (E G F) 40 [f.av, .int .i64 a, .int .i64 b] = some (.val (.tup [.int .i64 (mulT q a b : Nat), .int .i64 0]), false)
  add : ∀ a b : Nat, a < q → b < q → pcall F (E G F) 43 [f.av, .int .i64 a, .int .i64 b] = some (.val (.tup [.int .i64 (addT q a b : Nat), .int .i64 0]), false)

theorem product_spec (hF : F 80 = some mf80) (f : Fld) (q : Nat) (A : Arith G F f q) (a b : List Int) (ha : Tri q a) (hb : Tri q b) :
    pcall F (E G F) 80 [f.av, .agg (a.map (.int .i64)), .agg (b.map (.int .i64))] = some (.val (.int .i64 (prodT q a b : Nat)), false) := by
  have hfc : f.av.cells = f.cells := rfl
  have hf1 := f.cells_one
  have hf3 : f.cells.length = 3 := rfl
  have hfa' : AV.agg f.cells = f.av := rfl
  have hcl : ∀ l : List Int, (AV.agg (l.map (AV.int .i64))).cells = l.map (.int .i64) := fun _ => rfl
  have hma : (a.map (AV.int .i64)).length = 3 := by rw [List.length_map, ha.1]
  have hmb : (b.map (AV.int .i64)).length = 3 := by rw [List.length_map, hb.1]
  have hone := all_one_ints
  have hpos := A.pos
  obtain ⟨bx, hbx⟩ : ∃ bx : List Box, bx = [⟨f.cells, 3, 24, .live⟩, ⟨a.map (.int .i64), 3, 120, .live⟩, ⟨b.map (.int .i64), 3, 120, .live⟩] := ⟨_, rfl⟩
  have hH : Has bx 0 f.cells := by rw [hbx]; exact ⟨_, rfl, rfl, by simp⟩
  have hA : HasArr bx 1 3 120 a := by rw [hbx]; rfl
  have hB : HasArr bx 2 3 120 b := by rw [hbx]; rfl
  have hldn := fun tm rb => hH.ldn tm rb 3 rfl
  have hlda := fun tm rb => hA.has.ldn tm rb 3 hma.symm
  have hbaa := fun tm rb o len s => hB.aaddr tm rb 3 o len s hb.1.symm
  have hbal := fun tm rb => hB.ld tm rb 3 hb.1.symm
  have hix := idx1_ints 3 a ha.1
  have x0 : ∀ (a b : AV), [a, b][0]? = some a := fun _ _ => rfl
  have x1 : ∀ (a b : AV), [a, b][1]? = some b := fun _ _ => rfl
  refine pcall_val hF (v := .int .i64 (prodT q a b : Nat)) (fun _ _ h => by cases h) ?_ (fun _ => rfl) (fun _ => rfl)
  unfold mf80
  simp only
  refine W_seq (W_ops (st' := ⟨((((((Tm.e.set 0 f.av).set 1 (.agg (a.map (.int .i64)))).set 2 (.agg (b.map (.int .i64)))).set 3 (.ptr 0 3 0)).set 4 (.ptr 1 3 0)).set 5 (.ptr 2 3 0)).set 6 (.int .i64 0), bx, 0⟩) (by simp (maxSteps := 1000000) (disch := first | decide | omega | assumption | exact plain_int _ _ | exact plain_ints _ | exact plain_bool _ | exact one_int _ _ | exact plain_des _ | exact plain_rows _) only [AM, initTm, Nat.reduceAdd, Nat.reduceEqDiff, reduceCtorEq, run_aaddr, run_stn, run_bld, bldV_nil, hfc, hf1, hf3, hcl, hma, hmb, hone, List.length_cons, hbx]) ?_)
  repeat' first
    | refine W_seq ?_
    | refine W_skip ?_
    | refine W_exit ?_
    | refine W_ret ?_
    | refine W_block ?_
    | (refine W_ops (by simp (maxSteps := 1000000) (disch := first | decide | omega | assumption | exact plain_int _ _ | exact plain_ints _ | exact plain_bool _ | exact one_int _ _ | exact plain_des _ | exact plain_rows _) only [AM, initTm, Nat.reduceAdd, Nat.reduceEqDiff, reduceCtorEq, run_aaddr, run_stn, run_bld, bldV_nil, run_ldn, hlda]; rfl) ?_)
    | (refine W_cond (by simp (maxSteps := 1000000) (disch := first | decide | omega | assumption | exact plain_int _ _ | exact plain_ints _ | exact plain_bool _ | exact one_int _ _ | exact plain_des _ | exact plain_rows _) only [AM, initTm, Nat.reduceAdd, Nat.reduceEqDiff, reduceCtorEq, run_aaddr, run_stn, run_bld, bldV_nil, run_ldn, hlda]; rfl) ?_ ?_ <;> intro hcond <;> (try simp only [decide_eq_true_eq, decide_eq_false_iff_not, beq_iff_eq, beq_eq_false_iff_ne, ne_eq, reduceCtorEq, Bool.not_eq_true', Bool.not_eq_false', bne_iff_ne, bne_eq_false_iff_eq] at hcond) <;> (try (exfalso; omega)))
    | refine thenQ_n ?_
    | refine thenQ_e ?_
    | refine thenQ_r ?_
    | refine outQ_n ?_
    | refine outQ_r ?_
    | refine outQ_e ?_
    | refine outQ_d (by decide) ?_
  refine W_loop (k := 3) (fun m s => ∃ (i : Nat) (tm : Tm), s = ⟨tm, bx, 0⟩ ∧ tm.get 3 = .ptr 0 3 0 ∧ tm.get 5 = .ptr 2 3 0 ∧ tm.get 7 = .int .i64 (prodAt q a b i : Nat) ∧ tm.get 12 = .agg (a.map (.int .i64)) ∧ tm.get 13 = .int .i64 i ∧ i ≤ 3 ∧ m = 3 - i) ⟨0, _, rfl, by simp (maxSteps := 1000000) (disch := first | decide | omega | assumption | exact plain_int _ _ | exact plain_ints _ | exact plain_bool _ | exact one_int _ _ | exact plain_des _ | exact plain_rows _) only [AM, initTm, Nat.reduceAdd, Nat.reduceEqDiff, reduceCtorEq, run_aaddr, run_stn, run_bld, bldV_nil], by simp (maxSteps := 1000000) (disch := first | decide | omega | assumption | exact plain_int _ _ | exact plain_ints _ | exact plain_bool _ | exact one_int _ _ | exact plain_des _ | exact plain_rows _) only [AM, initTm, Nat.reduceAdd, Nat.reduceEqDiff, reduceCtorEq, run_aaddr, run_stn, run_bld, bldV_nil], by simp (maxSteps := 1000000) (disch := first | decide | omega | assumption | exact plain_int _ _ | exact plain_ints _ | exact plain_bool _ | exact one_int _ _ | exact plain_des _ | exact plain_rows _) only [AM, initTm, Nat.reduceAdd, Nat.reduceEqDiff, reduceCtorEq, run_aaddr, run_stn, run_bld, bldV_nil]; rfl, by simp (maxSteps := 1000000) (disch := first | decide | omega | assumption | exact plain_int _ _ | exact plain_ints _ | exact plain_bool _ | exact one_int _ _ | exact plain_des _ | exact plain_rows _) only [AM, initTm, Nat.reduceAdd, Nat.reduceEqDiff, reduceCtorEq, run_aaddr, run_stn, run_bld, bldV_nil], by simp (maxSteps := 1000000) (disch := first | decide | omega | assumption | exact plain_int _ _ | exact plain_ints _ | exact plain_bool _ | exact one_int _ _ | exact plain_des _ | exact plain_rows _) only [AM, initTm, Nat.reduceAdd, Nat.reduceEqDiff, reduceCtorEq, run_aaddr, run_stn, run_bld, bldV_nil]; rfl, by omega, rfl⟩ ?_
  rintro m s ⟨i, tm, rfl, g3, g5, g7, g12, g13, hi, rfl⟩
  by_cases hil : (i : Int) < 3
  · have hai := ha.2 _ (getD_mem (l := a) (i := i) (by rw [ha.1]; omega))
    have hbi := hb.2 _ (getD_mem (l := b) (i := i) (by rw [hb.1]; omega))
    have hmul := A.mul (a.getD i 0).toNat (b.getD i 0).toNat (by omega) (by omega)
    rw [Int.toNat_of_nonneg hai.1, Int.toNat_of_nonneg hbi.1] at hmul
    have hadd := A.add (prodAt q a b i) (mulT q (a.getD i 0).toNat (b.getD i 0).toNat) (prodAt_lt hpos a b i) (mulT_lt hpos)
    have hsucc : addT q (prodAt q a b i) (mulT q (a.getD i 0).toNat (b.getD i 0).toNat) = prodAt q a b (i + 1) := rfl
    rw [hsucc] at hadd
    have hcm : ∀ st, doCall F (E G F) .pureV 40 [f.av, .int .i64 (a.getD i 0), .int .i64 (b.getD i 0)] st = some (.tup [.int .i64 (mulT q (a.getD i 0).toNat (b.getD i 0).toNat : Nat), .int .i64 0], st) := fun st => by
      rw [doCall_plain3 (plain_fld f) (plain_int _ _) (plain_int _ _), hmul]; rfl
    have hca : ∀ st, doCall F (E G F) .pureV 43 [f.av, .int .i64 (prodAt q a b i : Nat), .int .i64 (mulT q (a.getD i 0).toNat (b.getD i 0).toNat : Nat)] st = some (.tup [.int .i64 (prodAt q a b (i + 1) : Nat), .int .i64 0], st) := fun st => by
      rw [doCall_plain3 (plain_fld f) (plain_int _ _) (plain_int _ _), hadd]; rfl
    repeat' first
      | refine W_seq ?_
      | refine W_skip ?_
      | refine W_exit ?_
      | refine W_ret ?_
      | refine W_block ?_
      | (refine W_ops (by simp (maxSteps := 1000000) (disch := first | decide | omega | assumption | exact plain_int _ _ | exact plain_ints _ | exact plain_bool _ | exact one_int _ _ | exact plain_des _ | exact plain_rows _) only [AM, initTm, Nat.reduceAdd, Nat.reduceEqDiff, reduceCtorEq, run_aaddr, run_stn, run_bld, bldV_nil, g3, g5, g7, g12, g13, hil, run_idx1, hix, run_ldn, hldn, hfa', hbaa, hbal, hcm, hca, x0, x1]; rfl) ?_)
      | (refine W_cond (by simp (maxSteps := 1000000) (disch := first | decide | omega | assumption | exact plain_int _ _ | exact plain_ints _ | exact plain_bool _ | exact one_int _ _ | exact plain_des _ | exact plain_rows _) only [AM, initTm, Nat.reduceAdd, Nat.reduceEqDiff, reduceCtorEq, run_aaddr, run_stn, run_bld, bldV_nil, g3, g5, g7, g12, g13, hil, run_idx1, hix, run_ldn, hldn, hfa', hbaa, hbal, hcm, hca, x0, x1]; rfl) ?_ ?_ <;> intro hcond <;> (try simp only [decide_eq_true_eq, decide_eq_false_iff_not, beq_iff_eq, beq_eq_false_iff_ne, ne_eq, reduceCtorEq, Bool.not_eq_true', Bool.not_eq_false', bne_iff_ne, bne_eq_false_iff_eq] at hcond) <;> (try (exfalso; omega)))
      | refine thenQ_n ?_
      | refine thenQ_e ?_
      | refine thenQ_r ?_
      | refine outQ_n ?_
      | refine outQ_r ?_
      | refine outQ_e ?_
      | refine outQ_d (by decide) ?_
    exact ⟨3 - (i + 1), by omega, i + 1, _, rfl, by simp (maxSteps := 1000000) (disch := first | decide | omega | assumption | exact plain_int _ _ | exact plain_ints _ | exact plain_bool _ | exact one_int _ _ | exact plain_des _ | exact plain_rows _) only [AM, initTm, Nat.reduceAdd, Nat.reduceEqDiff, reduceCtorEq, run_aaddr, run_stn, run_bld, bldV_nil, g3], by simp (maxSteps := 1000000) (disch := first | decide | omega | assumption | exact plain_int _ _ | exact plain_ints _ | exact plain_bool _ | exact one_int _ _ | exact plain_des _ | exact plain_rows _) only [AM, initTm, Nat.reduceAdd, Nat.reduceEqDiff, reduceCtorEq, run_aaddr, run_stn, run_bld, bldV_nil, g5], by simp (maxSteps := 1000000) (disch := first | decide | omega | assumption | exact plain_int _ _ | exact plain_ints _ | exact plain_bool _ | exact one_int _ _ | exact plain_des _ | exact plain_rows _) only [AM, initTm, Nat.reduceAdd, Nat.reduceEqDiff, reduceCtorEq, run_aaddr, run_stn, run_bld, bldV_nil], by simp (maxSteps := 1000000) (disch := first | decide | omega | assumption | exact plain_int _ _ | exact plain_ints _ | exact plain_bool _ | exact one_int _ _ | exact plain_des _ | exact plain_rows _) only [AM, initTm, Nat.reduceAdd, Nat.reduceEqDiff, reduceCtorEq, run_aaddr, run_stn, run_bld, bldV_nil, g12], by simp (maxSteps := 1000000) (disch := first | decide | omega | assumption | exact plain_int _ _ | exact plain_ints _ | exact plain_bool _ | exact one_int _ _ | exact plain_des _ | exact plain_rows _) only [AM, initTm, Nat.reduceAdd, Nat.reduceEqDiff, reduceCtorEq, run_aaddr, run_stn, run_bld, bldV_nil]; rfl, by omega, rfl⟩
  · have ei : i = 3 := by omega
    subst ei
    repeat' first
      | refine W_seq ?_
      | refine W_skip ?_
      | refine W_exit ?_
      | refine W_ret ?_
      | refine W_block ?_
      | (refine W_ops (by simp (maxSteps := 1000000) (disch := first | decide | omega | assumption | exact plain_int _ _ | exact plain_ints _ | exact plain_bool _ | exact one_int _ _ | exact plain_des _ | exact plain_rows _) only [AM, initTm, Nat.reduceAdd, Nat.reduceEqDiff, reduceCtorEq, run_aaddr, run_stn, run_bld, bldV_nil, g3, g5, g7, g12, g13, hil]; rfl) ?_)
      | (refine W_cond (by simp (maxSteps := 1000000) (disch := first | decide | omega | assumption | exact plain_int _ _ | exact plain_ints _ | exact plain_bool _ | exact one_int _ _ | exact plain_des _ | exact plain_rows _) only [AM, initTm, Nat.reduceAdd, Nat.reduceEqDiff, reduceCtorEq, run_aaddr, run_stn, run_bld, bldV_nil, g3, g5, g7, g12, g13, hil]; rfl) ?_ ?_ <;> intro hcond <;> (try simp only [decide_eq_true_eq, decide_eq_false_iff_not, beq_iff_eq, beq_eq_false_iff_ne, ne_eq, reduceCtorEq, Bool.not_eq_true', Bool.not_eq_false', bne_iff_ne, bne_eq_false_iff_eq] at hcond) <;> (try (exfalso; omega)))
      | refine thenQ_n ?_
      | refine thenQ_e ?_
      | refine thenQ_r ?_
      | refine outQ_n ?_
      | refine outQ_r ?_
      | refine outQ_e ?_
      | refine outQ_d (by decide) ?_
    refine ⟨.inr rfl, [_], rfl, ?_⟩
    rw [tuple_one]
    simp (maxSteps := 1000000) (disch := first | decide | omega | assumption | exact plain_int _ _ | exact plain_ints _ | exact plain_bool _ | exact one_int _ _ | exact plain_des _ | exact plain_rows _) only [AM, initTm, Nat.reduceAdd, Nat.reduceEqDiff, reduceCtorEq, run_aaddr, run_stn, run_bld, bldV_nil, g7]
    rfl
end
end Go.Am
