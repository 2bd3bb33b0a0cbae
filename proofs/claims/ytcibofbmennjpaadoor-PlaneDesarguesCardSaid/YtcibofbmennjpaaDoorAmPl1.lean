/- What the small functions answer. -/
import Derived.Test.YtcibofbmennjpaaDoorAmBun
import Derived.Test.YtcibofbmennjpaaDoorAmMfA
import Derived.Test.YtcibofbmennjpaaDoorAmMfB
import Derived.Test.YtcibofbmennjpaaDoorAmMfC
set_option linter.unusedVariables false
set_option linter.unusedSimpArgs false
namespace Go.Am

section
variable {G : Nat → List AV} {F : Nat → Option MF}

theorem take_succ_mem {l : List Int} {i : Nat} {x : Int} (h : i < l.length) (h1 : x ∉ l.take i) (h2 : l.getD i 0 ≠ x) : x ∉ l.take (i + 1) := by
  rw [List.take_succ_eq_append_getElem h, List.mem_append]
  rw [List.getD_eq_getElem?_getD, List.getElem?_eq_getElem h] at h2
  simp at h2 ⊢
  exact ⟨h1, fun e => h2 e.symm⟩

theorem getD_mem {l : List Int} {i : Nat} (h : i < l.length) : l.getD i 0 ∈ l := by
  rw [List.getD_eq_getElem?_getD, List.getElem?_eq_getElem h]; exact List.getElem_mem h

theorem idxOf_at {l : List Int} {i : Nat} {x : Int} (h : i < l.length) (he : l.getD i 0 = x) (hx : x ∉ l.take i) : l.idxOf x = i := by
  induction l generalizing i with
  | nil => simp at h
  | cons a l ih =>
    cases i with
    | zero => simp at he; simp [he]
    | succ i =>
      simp only [List.take_succ_cons, List.mem_cons, not_or] at hx
      have := ih (i := i) (by simpa using h) (by simpa using he) hx.2
      have hne : (a == x) = false := by simp; exact fun e => hx.1 e.symm
      rw [List.idxOf_cons, this, hne]
      rfl

theorem Lies_spec (hF : F 25 = some mf25) (o : Option (List Int)) (x : Int) (hl : (o.getD []).length < 9223372036854775808) : pcall F (E G F) 25 [ints o, .int .i64 x] = some (.val (.bool (decide (x ∈ o.getD []))), false) := by
  refine pcall_val hF (v := .bool (decide (x ∈ o.getD []))) (fun _ _ h => by cases h) ?_ (fun _ => rfl) (fun _ => rfl)
  unfold mf25
  simp only
  refine W_seq (W_ops rfl ?_)
  rw [thenQ_normal]
  refine W_seq (W_seq (W_ops rfl ?_))
  rw [thenQ_normal]
  refine W_block (W_loop (k := (o.getD []).length) (fun k s => ∃ (i : Nat) (tm : Tm), s = ⟨tm, [], 0⟩ ∧ tm.get 0 = ints o ∧ tm.get 1 = .int .i64 x ∧ tm.get 5 = .int .i64 i ∧ i ≤ (o.getD []).length ∧ k = (o.getD []).length - i ∧ x ∉ (o.getD []).take i) ⟨0, _, rfl, rfl, rfl, rfl, Nat.zero_le _, rfl, by simp⟩ ?_)
  rintro k s ⟨i, tm, rfl, h0, h1, h5, hi, rfl, hx⟩
  repeat' first
    | refine W_seq ?_
    | refine W_skip ?_
    | refine W_exit ?_
    | refine W_ret ?_
    | refine W_block ?_
    | (refine W_ops (by simp (disch := first | decide | omega | assumption | exact plain_int _ _ | exact plain_ints _ | exact plain_bool _ | exact one_int _ _ | exact plain_des _ | exact plain_rows _) only [AM, initTm, Nat.reduceAdd, Nat.reduceEqDiff, reduceCtorEq, h0, h1, h5]; rfl) ?_)
    | (refine W_cond (by simp (disch := first | decide | omega | assumption | exact plain_int _ _ | exact plain_ints _ | exact plain_bool _ | exact one_int _ _ | exact plain_des _ | exact plain_rows _) only [AM, initTm, Nat.reduceAdd, Nat.reduceEqDiff, reduceCtorEq, h0, h1, h5]; rfl) ?_ ?_ <;> intro hcond <;> (try simp only [decide_eq_true_eq, decide_eq_false_iff_not, beq_iff_eq, beq_eq_false_iff_ne, ne_eq, reduceCtorEq, Bool.not_eq_true', Bool.not_eq_false', bne_iff_ne, bne_eq_false_iff_eq] at hcond) <;> (try (exfalso; omega)))
    | refine thenQ_n ?_
    | refine thenQ_e ?_
    | refine thenQ_r ?_
    | refine outQ_n ?_
    | refine outQ_r ?_
    | refine outQ_e ?_
    | refine outQ_d (by decide) ?_
  · refine ⟨.inr rfl, [_], rfl, ?_⟩
    have hlt' : i < (o.getD []).length := by omega
    rw [tuple_one]
    simp (disch := first | decide | omega | assumption | exact plain_int _ _ | exact plain_ints _ | exact plain_bool _ | exact one_int _ _ | exact plain_des _ | exact plain_rows _) only [AM, initTm, Nat.reduceAdd, Nat.reduceEqDiff, reduceCtorEq, h0]
    rw [← hcond, decide_eq_true (getD_mem hlt')]
  · have hlt' : i < (o.getD []).length := by omega
    exact ⟨_, by omega, i + 1, _, rfl, by simp (disch := first | decide | omega | assumption | exact plain_int _ _ | exact plain_ints _ | exact plain_bool _ | exact one_int _ _ | exact plain_des _ | exact plain_rows _) only [AM, initTm, Nat.reduceAdd, Nat.reduceEqDiff, reduceCtorEq, h0], by simp (disch := first | decide | omega | assumption | exact plain_int _ _ | exact plain_ints _ | exact plain_bool _ | exact one_int _ _ | exact plain_des _ | exact plain_rows _) only [AM, initTm, Nat.reduceAdd, Nat.reduceEqDiff, reduceCtorEq, h1], by simp (disch := first | decide | omega | assumption | exact plain_int _ _ | exact plain_ints _ | exact plain_bool _ | exact one_int _ _ | exact plain_des _ | exact plain_rows _) only [AM, initTm, Nat.reduceAdd, Nat.reduceEqDiff, reduceCtorEq, h0]; rfl, by omega, rfl, take_succ_mem hlt' hx hcond⟩
  · refine ⟨.inr rfl, [_], rfl, ?_⟩
    rw [tuple_one]
    simp (disch := first | decide | omega | assumption | exact plain_int _ _ | exact plain_ints _ | exact plain_bool _ | exact one_int _ _ | exact plain_des _ | exact plain_rows _) only [AM, initTm, Nat.reduceAdd, Nat.reduceEqDiff, reduceCtorEq, h0]
    rw [List.take_of_length_le (by omega)] at hx
    rw [decide_eq_false hx]

/-- How many of these lie there. -/
def together (a b : List Int) : Nat := (a.filter fun x => decide (x ∈ b)).length

theorem together_succ {a b : List Int} {i : Nat} (h : i < a.length) : together (a.take (i + 1)) b = together (a.take i) b + (if a.getD i 0 ∈ b then 1 else 0) := by
  unfold together
  rw [List.take_succ_eq_append_getElem h, List.filter_append, List.length_append, List.getD_eq_getElem?_getD, List.getElem?_eq_getElem h]
  simp only [Option.getD_some]
  by_cases hm : a[i] ∈ b <;> simp [List.filter_cons, hm]

theorem together_le (a b : List Int) : together a b ≤ a.length := List.length_filter_le _ _



theorem Index_spec (hF : F 117 = some mf117) (o : Option (List Int)) (x : Int) (hl : (o.getD []).length < 9223372036854775808) :
    pcall F (E G F) 117 [ints o, .int .i64 x] = some (.val (.int .i64 (if x ∈ o.getD [] then (((o.getD []).idxOf x : Nat) : Int) else -1)), false) := by
  refine pcall_val hF (v := .int .i64 (if x ∈ o.getD [] then (((o.getD []).idxOf x : Nat) : Int) else -1)) (fun _ _ h => by cases h) ?_ (fun _ => rfl) (fun _ => rfl)
  unfold mf117
  simp only
  refine W_seq (W_ops rfl ?_)
  rw [thenQ_normal]
  refine W_seq (W_seq (W_ops (by simp (disch := first | decide | omega | assumption | exact plain_int _ _ | exact plain_ints _ | exact plain_bool _ | exact one_int _ _ | exact plain_des _ | exact plain_rows _) only [AM, initTm, Nat.reduceAdd, Nat.reduceEqDiff, reduceCtorEq]; rfl) ?_))
  rw [thenQ_normal]
  refine W_block (W_loop (k := (o.getD []).length) (fun k s => ∃ (i : Nat) (tm : Tm), s = ⟨tm, [], 0⟩ ∧ tm.get 0 = ints o ∧ tm.get 1 = .int .i64 x ∧ tm.get 7 = .int .i64 (o.getD []).length ∧ tm.get 8 = .int .i64 i ∧ i ≤ (o.getD []).length ∧ k = (o.getD []).length - i ∧ x ∉ (o.getD []).take i) ⟨0, _, rfl, rfl, rfl, by simp (disch := first | decide | omega | assumption | exact plain_int _ _ | exact plain_ints _ | exact plain_bool _ | exact one_int _ _ | exact plain_des _ | exact plain_rows _) only [AM, initTm, Nat.reduceAdd, Nat.reduceEqDiff, reduceCtorEq], rfl, Nat.zero_le _, rfl, by simp⟩ ?_)
  rintro k s ⟨i, tm, rfl, h0, h1, h7, h8, hi, rfl, hx⟩
  repeat' first
    | refine W_seq ?_
    | refine W_skip ?_
    | refine W_exit ?_
    | refine W_ret ?_
    | refine W_block ?_
    | (refine W_ops (by simp (disch := first | decide | omega | assumption | exact plain_int _ _ | exact plain_ints _ | exact plain_bool _ | exact one_int _ _ | exact plain_des _ | exact plain_rows _) only [AM, initTm, Nat.reduceAdd, Nat.reduceEqDiff, reduceCtorEq, h0, h1, h7, h8]; rfl) ?_)
    | (refine W_cond (by simp (disch := first | decide | omega | assumption | exact plain_int _ _ | exact plain_ints _ | exact plain_bool _ | exact one_int _ _ | exact plain_des _ | exact plain_rows _) only [AM, initTm, Nat.reduceAdd, Nat.reduceEqDiff, reduceCtorEq, h0, h1, h7, h8]; rfl) ?_ ?_ <;> intro hcond <;> (try simp only [decide_eq_true_eq, decide_eq_false_iff_not, beq_iff_eq, beq_eq_false_iff_ne, ne_eq, reduceCtorEq, Bool.not_eq_true', Bool.not_eq_false', bne_iff_ne, bne_eq_false_iff_eq] at hcond) <;> (try (exfalso; omega)))
    | refine thenQ_n ?_
    | refine thenQ_e ?_
    | refine thenQ_r ?_
    | refine outQ_n ?_
    | refine outQ_r ?_
    | refine outQ_e ?_
    | refine outQ_d (by decide) ?_
  · have hlt : i < (o.getD []).length := by omega
    refine ⟨.inr rfl, [_], rfl, ?_⟩
    rw [tuple_one]
    simp (disch := first | decide | omega | assumption | exact plain_int _ _ | exact plain_ints _ | exact plain_bool _ | exact one_int _ _ | exact plain_des _ | exact plain_rows _) only [AM, initTm, Nat.reduceAdd, Nat.reduceEqDiff, reduceCtorEq, h8]
    have hm : x ∈ o.getD [] := hcond ▸ getD_mem hlt
    rw [if_pos hm, idxOf_at hlt hcond.symm hx]
  · have hlt : i < (o.getD []).length := by omega
    exact ⟨_, by omega, i + 1, _, rfl, by simp (disch := first | decide | omega | assumption | exact plain_int _ _ | exact plain_ints _ | exact plain_bool _ | exact one_int _ _ | exact plain_des _ | exact plain_rows _) only [AM, initTm, Nat.reduceAdd, Nat.reduceEqDiff, reduceCtorEq, h0], by simp (disch := first | decide | omega | assumption | exact plain_int _ _ | exact plain_ints _ | exact plain_bool _ | exact one_int _ _ | exact plain_des _ | exact plain_rows _) only [AM, initTm, Nat.reduceAdd, Nat.reduceEqDiff, reduceCtorEq, h1], by simp (disch := first | decide | omega | assumption | exact plain_int _ _ | exact plain_ints _ | exact plain_bool _ | exact one_int _ _ | exact plain_des _ | exact plain_rows _) only [AM, initTm, Nat.reduceAdd, Nat.reduceEqDiff, reduceCtorEq, h7], by simp (disch := first | decide | omega | assumption | exact plain_int _ _ | exact plain_ints _ | exact plain_bool _ | exact one_int _ _ | exact plain_des _ | exact plain_rows _) only [AM, initTm, Nat.reduceAdd, Nat.reduceEqDiff, reduceCtorEq, h8]; rfl, by omega, rfl, take_succ_mem hlt hx (fun e => hcond e.symm)⟩
  · refine ⟨.inr rfl, [_], rfl, ?_⟩
    rw [tuple_one]
    simp (disch := first | decide | omega | assumption | exact plain_int _ _ | exact plain_ints _ | exact plain_bool _ | exact one_int _ _ | exact plain_des _ | exact plain_rows _) only [AM, initTm, Nat.reduceAdd, Nat.reduceEqDiff, reduceCtorEq, h8]
    rw [List.take_of_length_le (by omega)] at hx
    rw [if_neg hx]

theorem Contains_spec (hF : F 75 = some mf75) (hI : F 117 = some mf117) (o : Option (List Int)) (x : Int) (hl : (o.getD []).length < 9223372036854775808) :
    pcall F (E G F) 75 [ints o, .int .i64 x] = some (.val (.bool (decide (x ∈ o.getD []))), false) := by
  have hi := Index_spec (G := G) hI o x hl
  refine pcall_val hF (v := .bool (decide (x ∈ o.getD []))) (fun _ _ h => by cases h) ?_ (fun _ => rfl) (fun _ => rfl)
  unfold mf75
  simp only
  repeat' first
    | refine W_seq ?_
    | refine W_skip ?_
    | refine W_exit ?_
    | refine W_ret ?_
    | refine W_block ?_
    | (refine W_ops (by simp (disch := first | decide | omega | assumption | exact plain_int _ _ | exact plain_ints _ | exact plain_bool _ | exact one_int _ _ | exact plain_des _ | exact plain_rows _) only [AM, initTm, Nat.reduceAdd, Nat.reduceEqDiff, reduceCtorEq, hi]; rfl) ?_)
    | (refine W_cond (by simp (disch := first | decide | omega | assumption | exact plain_int _ _ | exact plain_ints _ | exact plain_bool _ | exact one_int _ _ | exact plain_des _ | exact plain_rows _) only [AM, initTm, Nat.reduceAdd, Nat.reduceEqDiff, reduceCtorEq, hi]; rfl) ?_ ?_ <;> intro hcond <;> (try simp only [decide_eq_true_eq, decide_eq_false_iff_not, beq_iff_eq, beq_eq_false_iff_ne, ne_eq, reduceCtorEq, Bool.not_eq_true', Bool.not_eq_false', bne_iff_ne, bne_eq_false_iff_eq] at hcond) <;> (try (exfalso; omega)))
    | refine thenQ_n ?_
    | refine thenQ_e ?_
    | refine thenQ_r ?_
    | refine outQ_n ?_
    | refine outQ_r ?_
    | refine outQ_e ?_
    | refine outQ_d (by decide) ?_
  refine ⟨.inr rfl, [_], rfl, ?_⟩
  rw [tuple_one]
  simp (disch := first | decide | omega | assumption | exact plain_int _ _ | exact plain_ints _ | exact plain_bool _ | exact one_int _ _ | exact plain_des _ | exact plain_rows _) only [AM, initTm, Nat.reduceAdd, Nat.reduceEqDiff, reduceCtorEq]
  by_cases hm : x ∈ o.getD []
  · rw [if_pos hm, decide_eq_true hm, decide_eq_true (by omega)]
  · rw [if_neg hm, decide_eq_false hm, decide_eq_false (by omega)]

theorem take_succ_eq {a b : List Int} {i : Nat} (h : i < a.length) (h2 : i < b.length) (ht : a.take i = b.take i) (he : a.getD i 0 = b.getD i 0) : a.take (i + 1) = b.take (i + 1) := by
  rw [List.take_succ_eq_append_getElem h, List.take_succ_eq_append_getElem h2, ht]
  rw [List.getD_eq_getElem?_getD, List.getD_eq_getElem?_getD, List.getElem?_eq_getElem h, List.getElem?_eq_getElem h2] at he
  simp at he
  rw [he]

theorem getD_ne_of {a b : List Int} {i : Nat} (hne : a.getD i 0 ≠ b.getD i 0) : a ≠ b := fun e => hne (by rw [e])

theorem Equal_spec (hF : F 82 = some mf82) (o p : Option (List Int)) (ho : (o.getD []).length < 9223372036854775808) (hp : (p.getD []).length < 9223372036854775808) :
    pcall F (E G F) 82 [ints o, ints p] = some (.val (.bool (decide (o.getD [] = p.getD []))), false) := by
  refine pcall_val hF (v := .bool (decide (o.getD [] = p.getD []))) (fun _ _ h => by cases h) ?_ (fun _ => rfl) (fun _ => rfl)
  unfold mf82
  simp only
  repeat' first
    | refine W_seq ?_
    | refine W_skip ?_
    | refine W_exit ?_
    | refine W_ret ?_
    | refine W_block ?_
    | (refine W_ops (by simp (disch := first | decide | omega | assumption | exact plain_int _ _ | exact plain_ints _ | exact plain_bool _ | exact one_int _ _ | exact plain_des _ | exact plain_rows _) only [AM, initTm, Nat.reduceAdd, Nat.reduceEqDiff, reduceCtorEq]; rfl) ?_)
    | (refine W_cond (by simp (disch := first | decide | omega | assumption | exact plain_int _ _ | exact plain_ints _ | exact plain_bool _ | exact one_int _ _ | exact plain_des _ | exact plain_rows _) only [AM, initTm, Nat.reduceAdd, Nat.reduceEqDiff, reduceCtorEq]; rfl) ?_ ?_ <;> intro hcond <;> (try simp only [decide_eq_true_eq, decide_eq_false_iff_not, beq_iff_eq, beq_eq_false_iff_ne, ne_eq, reduceCtorEq, Bool.not_eq_true', Bool.not_eq_false', bne_iff_ne, bne_eq_false_iff_eq] at hcond) <;> (try (exfalso; omega)))
    | refine thenQ_n ?_
    | refine thenQ_e ?_
    | refine thenQ_r ?_
    | refine outQ_n ?_
    | refine outQ_r ?_
    | refine outQ_e ?_
    | refine outQ_d (by decide) ?_
  · refine ⟨.inr rfl, [_], rfl, ?_⟩
    rw [tuple_one]
    simp (disch := first | decide | omega | assumption | exact plain_int _ _ | exact plain_ints _ | exact plain_bool _ | exact one_int _ _ | exact plain_des _ | exact plain_rows _) only [AM, initTm, Nat.reduceAdd, Nat.reduceEqDiff, reduceCtorEq]
    rw [decide_eq_false (fun e => hcond (by rw [e]))]
  · have hlen : (o.getD []).length = (p.getD []).length := by omega
    refine W_loop (k := (o.getD []).length) (fun k s => ∃ (i : Nat) (tm : Tm), s = ⟨tm, [], 0⟩ ∧ tm.get 0 = ints o ∧ tm.get 1 = ints p ∧ tm.get 12 = .int .i64 (o.getD []).length ∧ tm.get 13 = .int .i64 i ∧ i ≤ (o.getD []).length ∧ k = (o.getD []).length - i ∧ (o.getD []).take i = (p.getD []).take i) ⟨0, _, rfl, rfl, rfl, by simp (disch := first | decide | omega | assumption | exact plain_int _ _ | exact plain_ints _ | exact plain_bool _ | exact one_int _ _ | exact plain_des _ | exact plain_rows _) only [AM, initTm, Nat.reduceAdd, Nat.reduceEqDiff, reduceCtorEq], rfl, Nat.zero_le _, rfl, by simp⟩ ?_
    rintro k s ⟨i, tm, rfl, h0, h1, h12, h13, hi, rfl, hx⟩
    repeat' first
      | refine W_seq ?_
      | refine W_skip ?_
      | refine W_exit ?_
      | refine W_ret ?_
      | refine W_block ?_
      | (refine W_ops (by simp (disch := first | decide | omega | assumption | exact plain_int _ _ | exact plain_ints _ | exact plain_bool _ | exact one_int _ _ | exact plain_des _ | exact plain_rows _) only [AM, initTm, Nat.reduceAdd, Nat.reduceEqDiff, reduceCtorEq, h0, h1, h12, h13]; rfl) ?_)
      | (refine W_cond (by simp (disch := first | decide | omega | assumption | exact plain_int _ _ | exact plain_ints _ | exact plain_bool _ | exact one_int _ _ | exact plain_des _ | exact plain_rows _) only [AM, initTm, Nat.reduceAdd, Nat.reduceEqDiff, reduceCtorEq, h0, h1, h12, h13]; rfl) ?_ ?_ <;> intro hcond <;> (try simp only [decide_eq_true_eq, decide_eq_false_iff_not, beq_iff_eq, beq_eq_false_iff_ne, ne_eq, reduceCtorEq, Bool.not_eq_true', Bool.not_eq_false', bne_iff_ne, bne_eq_false_iff_eq] at hcond) <;> (try (exfalso; omega)))
      | refine thenQ_n ?_
      | refine thenQ_e ?_
      | refine thenQ_r ?_
      | refine outQ_n ?_
      | refine outQ_r ?_
      | refine outQ_e ?_
      | refine outQ_d (by decide) ?_
    · refine ⟨.inr rfl, [_], rfl, ?_⟩
      rw [tuple_one]
      simp (disch := first | decide | omega | assumption | exact plain_int _ _ | exact plain_ints _ | exact plain_bool _ | exact one_int _ _ | exact plain_des _ | exact plain_rows _) only [AM, initTm, Nat.reduceAdd, Nat.reduceEqDiff, reduceCtorEq]
      rw [decide_eq_false (getD_ne_of hcond)]
    · exact ⟨_, by omega, i + 1, _, rfl, by simp (disch := first | decide | omega | assumption | exact plain_int _ _ | exact plain_ints _ | exact plain_bool _ | exact one_int _ _ | exact plain_des _ | exact plain_rows _) only [AM, initTm, Nat.reduceAdd, Nat.reduceEqDiff, reduceCtorEq, h0], by simp (disch := first | decide | omega | assumption | exact plain_int _ _ | exact plain_ints _ | exact plain_bool _ | exact one_int _ _ | exact plain_des _ | exact plain_rows _) only [AM, initTm, Nat.reduceAdd, Nat.reduceEqDiff, reduceCtorEq, h1], by simp (disch := first | decide | omega | assumption | exact plain_int _ _ | exact plain_ints _ | exact plain_bool _ | exact one_int _ _ | exact plain_des _ | exact plain_rows _) only [AM, initTm, Nat.reduceAdd, Nat.reduceEqDiff, reduceCtorEq, h12], by simp (disch := first | decide | omega | assumption | exact plain_int _ _ | exact plain_ints _ | exact plain_bool _ | exact one_int _ _ | exact plain_des _ | exact plain_rows _) only [AM, initTm, Nat.reduceAdd, Nat.reduceEqDiff, reduceCtorEq, h0]; rfl, by omega, rfl, take_succ_eq (by omega) (by omega) hx hcond⟩
    · refine ⟨.inr rfl, [_], rfl, ?_⟩
      rw [tuple_one]
      simp (disch := first | decide | omega | assumption | exact plain_int _ _ | exact plain_ints _ | exact plain_bool _ | exact one_int _ _ | exact plain_des _ | exact plain_rows _) only [AM, initTm, Nat.reduceAdd, Nat.reduceEqDiff, reduceCtorEq]
      rw [List.take_of_length_le (by omega), List.take_of_length_le (by omega)] at hx
      rw [decide_eq_true hx]

end
end Go.Am
