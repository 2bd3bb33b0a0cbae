/- Fields: which are one; their polynomials. -/
import Derived.Test.YtcibofbmennjpaaDoorAmPl13
set_option linter.unusedVariables false
set_option linter.unusedSimpArgs false
namespace Go.Am

def primesI : List Int := [2, 3, 5, 7, 11, 13, 17, 19, 23, 29, 31, 37, 41, 43, 47, 53, 59, 61]
theorem primes_bd : ∀ p ∈ primesI, 2 ≤ p ∧ p ≤ 61 := by decide

section
variable {G : Nat → List AV} {F : Nat → Option MF} {rec : Rec}
def idx1V (len : Nat) (x i : AV) : Option AV := match x, i with
  | .agg cs, .int _ k => if 0 ≤ k ∧ k < len then cs[k.toNat]? else none
  | _, _ => none
theorem run_idx1 (len : Nat) (x y : R) (st : St) : runI G F rec (.idx1 len x y) st = bnd (idx1V len (st.ev G x) (st.ev G y)) fun v => some (v, st) := by
  simp only [runI, exI, idx1V]
  cases st.ev G x <;> try rfl
  cases st.ev G y <;> try rfl
  rename_i cs k i
  simp only
  split
  · cases cs[i.toNat]? <;> rfl
  · rfl
theorem idx1_ints (len : Nat) (l : List Int) (hl : l.length = len) (k : IntKind) (i : Int) (h : 0 ≤ i ∧ i < len) : idx1V len (.agg (l.map (.int .i64))) (.int k i) = some (.int .i64 (l.getD i.toNat 0)) := by
  unfold idx1V
  simp only
  rw [if_pos h, List.getElem?_map, List.getElem?_eq_getElem (by omega), List.getD_eq_getElem?_getD, List.getElem?_eq_getElem (by omega)]
  rfl
def eqarrV (n : Nat) (k : IntKind) (neg : Bool) (x y : AV) : Option AV := match x, y with
  | .agg a, .agg b => match kInts k a, kInts k b with
    | some l, some m => if l.length = n ∧ m.length = n then some (.bool (bif neg then !(l == m) else (l == m))) else none
    | _, _ => none
  | _, _ => none
theorem run_eqarr (n : Nat) (k : IntKind) (neg : Bool) (x y : R) (st : St) : runI G F rec (.eqarr n k neg x y) st = bnd (eqarrV n k neg (st.ev G x) (st.ev G y)) fun v => some (v, st) := by
  simp only [runI, exI, eqarrV]
  cases st.ev G x <;> try rfl
  cases st.ev G y <;> try rfl
  rename_i a b
  simp only
  cases kInts k a <;> try rfl
  cases kInts k b <;> try rfl
  simp only
  split <;> rfl
theorem kInts_map (k : IntKind) (l : List Int) : kInts k (l.map (.int k)) = some l := by
  induction l with
  | nil => rfl
  | cons a l ih => rw [List.map_cons, kInts, if_pos rfl, ih]; rfl
theorem eqarrV_ints (n : Nat) (k : IntKind) (l m : List Int) (hl : l.length = n) (hm : m.length = n) : eqarrV n k false (.agg (l.map (.int k))) (.agg (m.map (.int k))) = some (.bool (l == m)) := by
  unfold eqarrV
  simp only [kInts_map]
  rw [if_pos ⟨hl, hm⟩]; rfl
theorem abin_rem_n (a b : Int) (h : 0 ≤ a ∧ 0 < b) : abin .rem (.int .i64 a) (.int .i64 b) = some (.int .i64 (a % b)) := by
  simp only [abin, if_true]
  rw [if_neg (by omega), Int.tmod_eq_emod_of_nonneg h.1]
theorem abin_quo_n (a b : Int) (h : (0 ≤ a ∧ a ≤ 9223372036854775807) ∧ 0 < b) : abin .quo (.int .i64 a) (.int .i64 b) = some (.int .i64 (a / b)) := by
  simp only [abin, if_true]
  have h1 : 0 ≤ a / b := Int.ediv_nonneg h.1.1 (by omega)
  have h2 : a / b ≤ a := Int.ediv_le_self b h.1.1
  rw [if_neg (by omega), Int.tdiv_eq_ediv_of_nonneg h.1.1, i64w (by omega) (by omega)]

theorem isPrime_spec (hG : G 0 = primesI.map (.int .i64)) (hF : F 126 = some mf126) (p : Int) : pcall F (E G F) 126 [.int .i64 p] = some (.val (.bool (decide (p ∈ primesI))), false) := by
  have hl18 : ∀ st, ldnV st 18 (.rptr (G 0)) = some (.agg (primesI.map (.int .i64))) := fun st => by rw [hG]; rfl
  have hix := idx1_ints 18 primesI rfl
  have hlen : primesI.length = 18 := rfl
  generalize primesI = l at *
  refine pcall_val hF (v := .bool (decide (p ∈ l))) (fun _ _ h => by cases h) ?_ (fun _ => rfl) (fun _ => rfl)
  unfold mf126
  simp only
  repeat' first
    | refine W_seq ?_
    | refine W_skip ?_
    | refine W_exit ?_
    | refine W_ret ?_
    | refine W_block ?_
    | (refine W_ops (by simp (maxSteps := 1000000) (disch := first | decide | omega | assumption | exact plain_int _ _ | exact plain_ints _ | exact plain_bool _ | exact one_int _ _ | exact plain_des _ | exact plain_rows _) only [AM, initTm, Nat.reduceAdd, Nat.reduceEqDiff, reduceCtorEq, run_aaddr, run_stn, run_bld, bldV_nil, run_ldn, hl18]; rfl) ?_)
    | (refine W_cond (by simp (maxSteps := 1000000) (disch := first | decide | omega | assumption | exact plain_int _ _ | exact plain_ints _ | exact plain_bool _ | exact one_int _ _ | exact plain_des _ | exact plain_rows _) only [AM, initTm, Nat.reduceAdd, Nat.reduceEqDiff, reduceCtorEq, run_aaddr, run_stn, run_bld, bldV_nil, run_ldn, hl18]; rfl) ?_ ?_ <;> intro hcond <;> (try simp only [decide_eq_true_eq, decide_eq_false_iff_not, beq_iff_eq, beq_eq_false_iff_ne, ne_eq, reduceCtorEq, Bool.not_eq_true', Bool.not_eq_false', bne_iff_ne, bne_eq_false_iff_eq] at hcond) <;> (try (exfalso; omega)))
    | refine thenQ_n ?_
    | refine thenQ_e ?_
    | refine thenQ_r ?_
    | refine outQ_n ?_
    | refine outQ_r ?_
    | refine outQ_e ?_
    | refine outQ_d (by decide) ?_
  refine W_loop (k := 18) (fun k s => ∃ (i : Nat) (tm : Tm), s = ⟨tm, [], 0⟩ ∧ tm.get 0 = .int .i64 p ∧ tm.get 5 = .agg (l.map (.int .i64)) ∧ tm.get 6 = .int .i64 i ∧ i ≤ 18 ∧ k = 18 - i ∧ p ∉ l.take i) ⟨0, _, rfl, by simp (maxSteps := 1000000) (disch := first | decide | omega | assumption | exact plain_int _ _ | exact plain_ints _ | exact plain_bool _ | exact one_int _ _ | exact plain_des _ | exact plain_rows _) only [AM, initTm, Nat.reduceAdd, Nat.reduceEqDiff, reduceCtorEq, run_aaddr, run_stn, run_bld, bldV_nil], by simp (maxSteps := 1000000) (disch := first | decide | omega | assumption | exact plain_int _ _ | exact plain_ints _ | exact plain_bool _ | exact one_int _ _ | exact plain_des _ | exact plain_rows _) only [AM, initTm, Nat.reduceAdd, Nat.reduceEqDiff, reduceCtorEq, run_aaddr, run_stn, run_bld, bldV_nil], by simp (maxSteps := 1000000) (disch := first | decide | omega | assumption | exact plain_int _ _ | exact plain_ints _ | exact plain_bool _ | exact one_int _ _ | exact plain_des _ | exact plain_rows _) only [AM, initTm, Nat.reduceAdd, Nat.reduceEqDiff, reduceCtorEq, run_aaddr, run_stn, run_bld, bldV_nil]; rfl, by omega, rfl, by simp⟩ ?_
  rintro k s ⟨i, tm, rfl, g0, g5, g6, hi, rfl, hx⟩
  repeat' first
    | refine W_seq ?_
    | refine W_skip ?_
    | refine W_exit ?_
    | refine W_ret ?_
    | refine W_block ?_
    | (refine W_ops (by simp (maxSteps := 1000000) (disch := first | decide | omega | assumption | exact plain_int _ _ | exact plain_ints _ | exact plain_bool _ | exact one_int _ _ | exact plain_des _ | exact plain_rows _) only [AM, initTm, Nat.reduceAdd, Nat.reduceEqDiff, reduceCtorEq, run_aaddr, run_stn, run_bld, bldV_nil, g0, g5, g6, run_idx1, hix]; rfl) ?_)
    | (refine W_cond (by simp (maxSteps := 1000000) (disch := first | decide | omega | assumption | exact plain_int _ _ | exact plain_ints _ | exact plain_bool _ | exact one_int _ _ | exact plain_des _ | exact plain_rows _) only [AM, initTm, Nat.reduceAdd, Nat.reduceEqDiff, reduceCtorEq, run_aaddr, run_stn, run_bld, bldV_nil, g0, g5, g6, run_idx1, hix]; rfl) ?_ ?_ <;> intro hcond <;> (try simp only [decide_eq_true_eq, decide_eq_false_iff_not, beq_iff_eq, beq_eq_false_iff_ne, ne_eq, reduceCtorEq, Bool.not_eq_true', Bool.not_eq_false', bne_iff_ne, bne_eq_false_iff_eq] at hcond) <;> (try (exfalso; omega)))
    | refine thenQ_n ?_
    | refine thenQ_e ?_
    | refine thenQ_r ?_
    | refine outQ_n ?_
    | refine outQ_r ?_
    | refine outQ_e ?_
    | refine outQ_d (by decide) ?_
  · refine ⟨.inr rfl, [_], rfl, ?_⟩
    rw [tuple_one]
    simp (maxSteps := 1000000) (disch := first | decide | omega | assumption | exact plain_int _ _ | exact plain_ints _ | exact plain_bool _ | exact one_int _ _ | exact plain_des _ | exact plain_rows _) only [AM, initTm, Nat.reduceAdd, Nat.reduceEqDiff, reduceCtorEq, run_aaddr, run_stn, run_bld, bldV_nil]
    have : p ∈ l := by rw [hcond]; exact getD_mem (by omega)
    rw [decide_eq_true this]
  · exact ⟨18 - (i + 1), by omega, i + 1, _, rfl, by simp (maxSteps := 1000000) (disch := first | decide | omega | assumption | exact plain_int _ _ | exact plain_ints _ | exact plain_bool _ | exact one_int _ _ | exact plain_des _ | exact plain_rows _) only [AM, initTm, Nat.reduceAdd, Nat.reduceEqDiff, reduceCtorEq, run_aaddr, run_stn, run_bld, bldV_nil, g0], by simp (maxSteps := 1000000) (disch := first | decide | omega | assumption | exact plain_int _ _ | exact plain_ints _ | exact plain_bool _ | exact one_int _ _ | exact plain_des _ | exact plain_rows _) only [AM, initTm, Nat.reduceAdd, Nat.reduceEqDiff, reduceCtorEq, run_aaddr, run_stn, run_bld, bldV_nil, g5], by simp (maxSteps := 1000000) (disch := first | decide | omega | assumption | exact plain_int _ _ | exact plain_ints _ | exact plain_bool _ | exact one_int _ _ | exact plain_des _ | exact plain_rows _) only [AM, initTm, Nat.reduceAdd, Nat.reduceEqDiff, reduceCtorEq, run_aaddr, run_stn, run_bld, bldV_nil]; rfl, by omega, rfl, take_succ_mem (by omega) hx (fun e => hcond e.symm)⟩
  · refine ⟨.inr rfl, [_], rfl, ?_⟩
    rw [tuple_one]
    simp (maxSteps := 1000000) (disch := first | decide | omega | assumption | exact plain_int _ _ | exact plain_ints _ | exact plain_bool _ | exact one_int _ _ | exact plain_des _ | exact plain_rows _) only [AM, initTm, Nat.reduceAdd, Nat.reduceEqDiff, reduceCtorEq, run_aaddr, run_stn, run_bld, bldV_nil]
    rw [List.take_of_length_le (by omega)] at hx
    rw [decide_eq_false hx]

/-- An order: of a prime that is one of the table's, and a degree from 1 to 6; at most 64. -/
def OrderOk (p k q : Int) : Prop := p ∈ primesI ∧ 1 ≤ k ∧ k ≤ 6 ∧ q = p ^ k.toNat ∧ q ≤ 64

theorem order_spec (hG : G 0 = primesI.map (.int .i64)) (hF : F 92 = some mf92) (hP : F 126 = some mf126) (p k : Int) :
    ∃ v, pcall F (E G F) 92 [.int .i64 p, .int .i64 k] = some (.val v, false) ∧ ∃ q ok, v = .tup [.int .i64 q, .bool ok] ∧ (ok = true → OrderOk p k q) := by
  have hpr := isPrime_spec hG hP p
  refine pcall_ex hF (fun v ⟨q, ok, he, _⟩ => he ▸ ⟨fun _ _ h => (by cases h), fun _ => rfl, fun _ => rfl⟩) ?_
  unfold mf92
  simp only
  by_cases hp : p ∈ primesI
  · rw [decide_eq_true hp] at hpr
    have hbd := primes_bd p hp
    by_cases k1 : k < 1
    · repeat' first
        | refine W_seq ?_
        | refine W_skip ?_
        | refine W_exit ?_
        | refine W_ret ?_
        | refine W_block ?_
        | (refine W_ops (by simp (maxSteps := 1000000) (disch := first | decide | omega | assumption | exact plain_int _ _ | exact plain_ints _ | exact plain_bool _ | exact one_int _ _ | exact plain_des _ | exact plain_rows _) only [AM, initTm, Nat.reduceAdd, Nat.reduceEqDiff, reduceCtorEq, run_aaddr, run_stn, run_bld, bldV_nil, hpr, k1]; rfl) ?_)
        | (refine W_cond (by simp (maxSteps := 1000000) (disch := first | decide | omega | assumption | exact plain_int _ _ | exact plain_ints _ | exact plain_bool _ | exact one_int _ _ | exact plain_des _ | exact plain_rows _) only [AM, initTm, Nat.reduceAdd, Nat.reduceEqDiff, reduceCtorEq, run_aaddr, run_stn, run_bld, bldV_nil, hpr, k1]; rfl) ?_ ?_ <;> intro hcond <;> (try simp only [decide_eq_true_eq, decide_eq_false_iff_not, beq_iff_eq, beq_eq_false_iff_ne, ne_eq, reduceCtorEq, Bool.not_eq_true', Bool.not_eq_false', bne_iff_ne, bne_eq_false_iff_eq] at hcond) <;> (try (exfalso; omega)))
        | refine thenQ_n ?_
        | refine thenQ_e ?_
        | refine thenQ_r ?_
        | refine outQ_n ?_
        | refine outQ_r ?_
        | refine outQ_e ?_
        | refine outQ_d (by decide) ?_
      exact ⟨.inr rfl, [_, _], rfl, 0, false, by unfold tuple; simp (maxSteps := 1000000) (disch := first | decide | omega | assumption | exact plain_int _ _ | exact plain_ints _ | exact plain_bool _ | exact one_int _ _ | exact plain_des _ | exact plain_rows _) only [AM, initTm, Nat.reduceAdd, Nat.reduceEqDiff, reduceCtorEq, run_aaddr, run_stn, run_bld, bldV_nil], fun h => by cases h⟩
    by_cases k6 : k > 6
    · repeat' first
        | refine W_seq ?_
        | refine W_skip ?_
        | refine W_exit ?_
        | refine W_ret ?_
        | refine W_block ?_
        | (refine W_ops (by simp (maxSteps := 1000000) (disch := first | decide | omega | assumption | exact plain_int _ _ | exact plain_ints _ | exact plain_bool _ | exact one_int _ _ | exact plain_des _ | exact plain_rows _) only [AM, initTm, Nat.reduceAdd, Nat.reduceEqDiff, reduceCtorEq, run_aaddr, run_stn, run_bld, bldV_nil, hpr, k1, k6]; rfl) ?_)
        | (refine W_cond (by simp (maxSteps := 1000000) (disch := first | decide | omega | assumption | exact plain_int _ _ | exact plain_ints _ | exact plain_bool _ | exact one_int _ _ | exact plain_des _ | exact plain_rows _) only [AM, initTm, Nat.reduceAdd, Nat.reduceEqDiff, reduceCtorEq, run_aaddr, run_stn, run_bld, bldV_nil, hpr, k1, k6]; rfl) ?_ ?_ <;> intro hcond <;> (try simp only [decide_eq_true_eq, decide_eq_false_iff_not, beq_iff_eq, beq_eq_false_iff_ne, ne_eq, reduceCtorEq, Bool.not_eq_true', Bool.not_eq_false', bne_iff_ne, bne_eq_false_iff_eq] at hcond) <;> (try (exfalso; omega)))
        | refine thenQ_n ?_
        | refine thenQ_e ?_
        | refine thenQ_r ?_
        | refine outQ_n ?_
        | refine outQ_r ?_
        | refine outQ_e ?_
        | refine outQ_d (by decide) ?_
      exact ⟨.inr rfl, [_, _], rfl, 0, false, by unfold tuple; simp (maxSteps := 1000000) (disch := first | decide | omega | assumption | exact plain_int _ _ | exact plain_ints _ | exact plain_bool _ | exact one_int _ _ | exact plain_des _ | exact plain_rows _) only [AM, initTm, Nat.reduceAdd, Nat.reduceEqDiff, reduceCtorEq, run_aaddr, run_stn, run_bld, bldV_nil], fun h => by cases h⟩
    repeat' first
      | refine W_seq ?_
      | refine W_skip ?_
      | refine W_exit ?_
      | refine W_ret ?_
      | refine W_block ?_
      | (refine W_ops (by simp (maxSteps := 1000000) (disch := first | decide | omega | assumption | exact plain_int _ _ | exact plain_ints _ | exact plain_bool _ | exact one_int _ _ | exact plain_des _ | exact plain_rows _) only [AM, initTm, Nat.reduceAdd, Nat.reduceEqDiff, reduceCtorEq, run_aaddr, run_stn, run_bld, bldV_nil, hpr, k1, k6]; rfl) ?_)
      | (refine W_cond (by simp (maxSteps := 1000000) (disch := first | decide | omega | assumption | exact plain_int _ _ | exact plain_ints _ | exact plain_bool _ | exact one_int _ _ | exact plain_des _ | exact plain_rows _) only [AM, initTm, Nat.reduceAdd, Nat.reduceEqDiff, reduceCtorEq, run_aaddr, run_stn, run_bld, bldV_nil, hpr, k1, k6]; rfl) ?_ ?_ <;> intro hcond <;> (try simp only [decide_eq_true_eq, decide_eq_false_iff_not, beq_iff_eq, beq_eq_false_iff_ne, ne_eq, reduceCtorEq, Bool.not_eq_true', Bool.not_eq_false', bne_iff_ne, bne_eq_false_iff_eq] at hcond) <;> (try (exfalso; omega)))
      | refine thenQ_n ?_
      | refine thenQ_e ?_
      | refine thenQ_r ?_
      | refine outQ_n ?_
      | refine outQ_r ?_
      | refine outQ_e ?_
      | refine outQ_d (by decide) ?_
    refine W_loop (k := k.toNat) (fun m s => ∃ (i : Nat) (q : Int) (tm : Tm), s = ⟨tm, [], 0⟩ ∧ tm.get 0 = .int .i64 p ∧ tm.get 1 = .int .i64 k ∧ tm.get 6 = .int .i64 q ∧ tm.get 18 = .int .i64 k ∧ tm.get 19 = .int .i64 i ∧ i ≤ k.toNat ∧ m = k.toNat - i ∧ q = p ^ i ∧ 0 ≤ q ∧ q ≤ 64) ⟨0, 1, _, rfl, by simp (maxSteps := 1000000) (disch := first | decide | omega | assumption | exact plain_int _ _ | exact plain_ints _ | exact plain_bool _ | exact one_int _ _ | exact plain_des _ | exact plain_rows _) only [AM, initTm, Nat.reduceAdd, Nat.reduceEqDiff, reduceCtorEq, run_aaddr, run_stn, run_bld, bldV_nil], by simp (maxSteps := 1000000) (disch := first | decide | omega | assumption | exact plain_int _ _ | exact plain_ints _ | exact plain_bool _ | exact one_int _ _ | exact plain_des _ | exact plain_rows _) only [AM, initTm, Nat.reduceAdd, Nat.reduceEqDiff, reduceCtorEq, run_aaddr, run_stn, run_bld, bldV_nil], by simp (maxSteps := 1000000) (disch := first | decide | omega | assumption | exact plain_int _ _ | exact plain_ints _ | exact plain_bool _ | exact one_int _ _ | exact plain_des _ | exact plain_rows _) only [AM, initTm, Nat.reduceAdd, Nat.reduceEqDiff, reduceCtorEq, run_aaddr, run_stn, run_bld, bldV_nil], by simp (maxSteps := 1000000) (disch := first | decide | omega | assumption | exact plain_int _ _ | exact plain_ints _ | exact plain_bool _ | exact one_int _ _ | exact plain_des _ | exact plain_rows _) only [AM, initTm, Nat.reduceAdd, Nat.reduceEqDiff, reduceCtorEq, run_aaddr, run_stn, run_bld, bldV_nil], by simp (maxSteps := 1000000) (disch := first | decide | omega | assumption | exact plain_int _ _ | exact plain_ints _ | exact plain_bool _ | exact one_int _ _ | exact plain_des _ | exact plain_rows _) only [AM, initTm, Nat.reduceAdd, Nat.reduceEqDiff, reduceCtorEq, run_aaddr, run_stn, run_bld, bldV_nil]; rfl, by omega, rfl, by simp, by omega, by omega⟩ ?_
    rintro m s ⟨i, q, tm, rfl, g0, g1, g6, g18, g19, hi, rfl, hq, hq0, hq1⟩
    have hb1 : 0 ≤ q * p := Int.mul_nonneg hq0 (by omega)
    have hb2 : q * p ≤ 64 * 61 := Int.mul_le_mul hq1 (by omega) (by omega) (by omega)
    by_cases hlt : (i : Int) < k
    · repeat' first
        | refine W_seq ?_
        | refine W_skip ?_
        | refine W_exit ?_
        | refine W_ret ?_
        | refine W_block ?_
        | (refine W_ops (by simp (maxSteps := 1000000) (disch := first | decide | omega | assumption | exact plain_int _ _ | exact plain_ints _ | exact plain_bool _ | exact one_int _ _ | exact plain_des _ | exact plain_rows _) only [AM, initTm, Nat.reduceAdd, Nat.reduceEqDiff, reduceCtorEq, run_aaddr, run_stn, run_bld, bldV_nil, g0, g1, g6, g18, g19, hlt]; rfl) ?_)
        | (refine W_cond (by simp (maxSteps := 1000000) (disch := first | decide | omega | assumption | exact plain_int _ _ | exact plain_ints _ | exact plain_bool _ | exact one_int _ _ | exact plain_des _ | exact plain_rows _) only [AM, initTm, Nat.reduceAdd, Nat.reduceEqDiff, reduceCtorEq, run_aaddr, run_stn, run_bld, bldV_nil, g0, g1, g6, g18, g19, hlt]; rfl) ?_ ?_ <;> intro hcond <;> (try simp only [decide_eq_true_eq, decide_eq_false_iff_not, beq_iff_eq, beq_eq_false_iff_ne, ne_eq, reduceCtorEq, Bool.not_eq_true', Bool.not_eq_false', bne_iff_ne, bne_eq_false_iff_eq] at hcond) <;> (try (exfalso; omega)))
        | refine thenQ_n ?_
        | refine thenQ_e ?_
        | refine thenQ_r ?_
        | refine outQ_n ?_
        | refine outQ_r ?_
        | refine outQ_e ?_
        | refine outQ_d (by decide) ?_
      · exact ⟨.inr rfl, [_, _], rfl, 0, false, by unfold tuple; simp (maxSteps := 1000000) (disch := first | decide | omega | assumption | exact plain_int _ _ | exact plain_ints _ | exact plain_bool _ | exact one_int _ _ | exact plain_des _ | exact plain_rows _) only [AM, initTm, Nat.reduceAdd, Nat.reduceEqDiff, reduceCtorEq, run_aaddr, run_stn, run_bld, bldV_nil], fun h => by cases h⟩
      · exact ⟨k.toNat - (i + 1), by omega, i + 1, q * p, _, rfl, by simp (maxSteps := 1000000) (disch := first | decide | omega | assumption | exact plain_int _ _ | exact plain_ints _ | exact plain_bool _ | exact one_int _ _ | exact plain_des _ | exact plain_rows _) only [AM, initTm, Nat.reduceAdd, Nat.reduceEqDiff, reduceCtorEq, run_aaddr, run_stn, run_bld, bldV_nil, g0], by simp (maxSteps := 1000000) (disch := first | decide | omega | assumption | exact plain_int _ _ | exact plain_ints _ | exact plain_bool _ | exact one_int _ _ | exact plain_des _ | exact plain_rows _) only [AM, initTm, Nat.reduceAdd, Nat.reduceEqDiff, reduceCtorEq, run_aaddr, run_stn, run_bld, bldV_nil, g1], by simp (maxSteps := 1000000) (disch := first | decide | omega | assumption | exact plain_int _ _ | exact plain_ints _ | exact plain_bool _ | exact one_int _ _ | exact plain_des _ | exact plain_rows _) only [AM, initTm, Nat.reduceAdd, Nat.reduceEqDiff, reduceCtorEq, run_aaddr, run_stn, run_bld, bldV_nil], by simp (maxSteps := 1000000) (disch := first | decide | omega | assumption | exact plain_int _ _ | exact plain_ints _ | exact plain_bool _ | exact one_int _ _ | exact plain_des _ | exact plain_rows _) only [AM, initTm, Nat.reduceAdd, Nat.reduceEqDiff, reduceCtorEq, run_aaddr, run_stn, run_bld, bldV_nil, g18], by simp (maxSteps := 1000000) (disch := first | decide | omega | assumption | exact plain_int _ _ | exact plain_ints _ | exact plain_bool _ | exact one_int _ _ | exact plain_des _ | exact plain_rows _) only [AM, initTm, Nat.reduceAdd, Nat.reduceEqDiff, reduceCtorEq, run_aaddr, run_stn, run_bld, bldV_nil]; rfl, by omega, rfl, by rw [hq, Int.pow_succ], hb1, by omega⟩
    · repeat' first
        | refine W_seq ?_
        | refine W_skip ?_
        | refine W_exit ?_
        | refine W_ret ?_
        | refine W_block ?_
        | (refine W_ops (by simp (maxSteps := 1000000) (disch := first | decide | omega | assumption | exact plain_int _ _ | exact plain_ints _ | exact plain_bool _ | exact one_int _ _ | exact plain_des _ | exact plain_rows _) only [AM, initTm, Nat.reduceAdd, Nat.reduceEqDiff, reduceCtorEq, run_aaddr, run_stn, run_bld, bldV_nil, g0, g1, g6, g18, g19, hlt]; rfl) ?_)
        | (refine W_cond (by simp (maxSteps := 1000000) (disch := first | decide | omega | assumption | exact plain_int _ _ | exact plain_ints _ | exact plain_bool _ | exact one_int _ _ | exact plain_des _ | exact plain_rows _) only [AM, initTm, Nat.reduceAdd, Nat.reduceEqDiff, reduceCtorEq, run_aaddr, run_stn, run_bld, bldV_nil, g0, g1, g6, g18, g19, hlt]; rfl) ?_ ?_ <;> intro hcond <;> (try simp only [decide_eq_true_eq, decide_eq_false_iff_not, beq_iff_eq, beq_eq_false_iff_ne, ne_eq, reduceCtorEq, Bool.not_eq_true', Bool.not_eq_false', bne_iff_ne, bne_eq_false_iff_eq] at hcond) <;> (try (exfalso; omega)))
        | refine thenQ_n ?_
        | refine thenQ_e ?_
        | refine thenQ_r ?_
        | refine outQ_n ?_
        | refine outQ_r ?_
        | refine outQ_e ?_
        | refine outQ_d (by decide) ?_
      exact ⟨.inr rfl, [_, _], rfl, q, true, by unfold tuple; simp (maxSteps := 1000000) (disch := first | decide | omega | assumption | exact plain_int _ _ | exact plain_ints _ | exact plain_bool _ | exact one_int _ _ | exact plain_des _ | exact plain_rows _) only [AM, initTm, Nat.reduceAdd, Nat.reduceEqDiff, reduceCtorEq, run_aaddr, run_stn, run_bld, bldV_nil, g6], fun _ => ⟨hp, by omega, by omega, by rw [hq, show i = k.toNat by omega], hq1⟩⟩
  · rw [decide_eq_false hp] at hpr
    repeat' first
      | refine W_seq ?_
      | refine W_skip ?_
      | refine W_exit ?_
      | refine W_ret ?_
      | refine W_block ?_
      | (refine W_ops (by simp (maxSteps := 1000000) (disch := first | decide | omega | assumption | exact plain_int _ _ | exact plain_ints _ | exact plain_bool _ | exact one_int _ _ | exact plain_des _ | exact plain_rows _) only [AM, initTm, Nat.reduceAdd, Nat.reduceEqDiff, reduceCtorEq, run_aaddr, run_stn, run_bld, bldV_nil, hpr]; rfl) ?_)
      | (refine W_cond (by simp (maxSteps := 1000000) (disch := first | decide | omega | assumption | exact plain_int _ _ | exact plain_ints _ | exact plain_bool _ | exact one_int _ _ | exact plain_des _ | exact plain_rows _) only [AM, initTm, Nat.reduceAdd, Nat.reduceEqDiff, reduceCtorEq, run_aaddr, run_stn, run_bld, bldV_nil, hpr]; rfl) ?_ ?_ <;> intro hcond <;> (try simp only [decide_eq_true_eq, decide_eq_false_iff_not, beq_iff_eq, beq_eq_false_iff_ne, ne_eq, reduceCtorEq, Bool.not_eq_true', Bool.not_eq_false', bne_iff_ne, bne_eq_false_iff_eq] at hcond) <;> (try (exfalso; omega)))
      | refine thenQ_n ?_
      | refine thenQ_e ?_
      | refine thenQ_r ?_
      | refine outQ_n ?_
      | refine outQ_r ?_
      | refine outQ_e ?_
      | refine outQ_d (by decide) ?_
    exact ⟨.inr rfl, [_, _], rfl, 0, false, by unfold tuple; simp (maxSteps := 1000000) (disch := first | decide | omega | assumption | exact plain_int _ _ | exact plain_ints _ | exact plain_bool _ | exact one_int _ _ | exact plain_des _ | exact plain_rows _) only [AM, initTm, Nat.reduceAdd, Nat.reduceEqDiff, reduceCtorEq, run_aaddr, run_stn, run_bld, bldV_nil], fun h => by cases h⟩
end
end Go.Am
