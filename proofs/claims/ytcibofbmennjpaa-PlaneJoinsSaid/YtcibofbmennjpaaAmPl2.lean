/- What the small functions answer: slices of one's own. -/
import Derived.Test.YtcibofbmennjpaaAmPl1
set_option linter.unusedVariables false
set_option linter.unusedSimpArgs false
namespace Go.Am

section
variable {G : Nat → List AV} {F : Nat → Option MF}

def upto (n : Nat) : List Int := (List.range n).map fun (i : Nat) => (i : Int)
theorem upto_length (n : Nat) : (upto n).length = n := by simp [upto]
theorem upto_succ (n : Nat) : upto (n + 1) = upto n ++ [(n : Int)] := by simp [upto, List.range_succ]

theorem Still_spec (hF : F 33 = some mf33) (n : Nat) (hn : n ≤ 1000000) :
    pcall F (E G F) 33 [.int .i64 n] = some (resOf 3 .i64 (upto n), false) := by
  refine pcall_grown hF ?_
  unfold mf33
  simp only
  repeat' first
    | refine W_seq ?_
    | refine W_skip ?_
    | refine W_exit ?_
    | refine W_ret ?_
    | refine W_block ?_
    | (refine W_ops (by simp (disch := first | decide | omega | assumption | exact plain_int _ _ | exact plain_ints _ | exact plain_bool _ | exact one_int _ _ | exact plain_des _ | exact plain_rows _) only [AM, initTm, Nat.reduceAdd, Nat.reduceEqDiff, reduceCtorEq]; rfl) ?_)
    | (refine W_cond (by simp (disch := first | decide | omega | assumption | exact plain_int _ _ | exact plain_ints _ | exact plain_bool _ | exact one_int _ _ | exact plain_des _ | exact plain_rows _) only [AM, initTm, Nat.reduceAdd, Nat.reduceEqDiff, reduceCtorEq]; rfl) ?_ ?_ <;> intro hcond <;> (try simp only [decide_eq_true_eq, decide_eq_false_iff_not, beq_iff_eq, beq_eq_false_iff_ne, ne_eq, reduceCtorEq, Bool.not_eq_true', Bool.not_eq_false', bne_iff_ne, bne_eq_false_iff_eq] at hcond) <;> (try (exfalso; omega)))
    | refine thenQ_n ?_
    | refine thenQ_e ?_
    | refine thenQ_r ?_
    | refine outQ_n ?_
    | refine outQ_r ?_
    | refine outQ_e ?_
    | refine outQ_d (by decide) ?_
  refine W_loop (k := n) (fun k s => ∃ (i : Nat) (tm : Tm), s = ⟨tm, (grown 3 ((upto i).map (AV.int .i64))).2, 0⟩ ∧ tm.get 0 = .int .i64 n ∧ tm.get 3 = (grown 3 ((upto i).map (AV.int .i64))).1 ∧ tm.get 4 = .int .i64 i ∧ i ≤ n ∧ k = n - i) ⟨0, _, rfl, rfl, rfl, rfl, Nat.zero_le _, rfl⟩ ?_
  rintro k s ⟨i, tm, rfl, h0, h3, h4, hi, rfl⟩
  have hl : ((upto i).map (AV.int .i64)).length = i := by rw [List.length_map, upto_length]
  repeat' first
    | refine W_seq ?_
    | refine W_skip ?_
    | refine W_exit ?_
    | refine W_ret ?_
    | refine W_block ?_
    | (refine W_ops (by simp (disch := first | decide | omega | assumption | exact plain_int _ _ | exact plain_ints _ | exact plain_bool _ | exact one_int _ _ | exact plain_des _ | exact plain_rows _) only [AM, initTm, Nat.reduceAdd, Nat.reduceEqDiff, reduceCtorEq, h0, h3, h4, hl]; rfl) ?_)
    | (refine W_cond (by simp (disch := first | decide | omega | assumption | exact plain_int _ _ | exact plain_ints _ | exact plain_bool _ | exact one_int _ _ | exact plain_des _ | exact plain_rows _) only [AM, initTm, Nat.reduceAdd, Nat.reduceEqDiff, reduceCtorEq, h0, h3, h4, hl]; rfl) ?_ ?_ <;> intro hcond <;> (try simp only [decide_eq_true_eq, decide_eq_false_iff_not, beq_iff_eq, beq_eq_false_iff_ne, ne_eq, reduceCtorEq, Bool.not_eq_true', Bool.not_eq_false', bne_iff_ne, bne_eq_false_iff_eq] at hcond) <;> (try (exfalso; omega)))
    | refine thenQ_n ?_
    | refine thenQ_e ?_
    | refine thenQ_r ?_
    | refine outQ_n ?_
    | refine outQ_r ?_
    | refine outQ_e ?_
    | refine outQ_d (by decide) ?_
  · have e : (upto i).map (AV.int .i64) ++ [AV.int .i64 (i : Int)] = (upto (i + 1)).map (AV.int .i64) := by rw [upto_succ, List.map_append]; rfl
    rw [e]
    exact ⟨_, by omega, i + 1, _, rfl, by simp (disch := first | decide | omega | assumption | exact plain_int _ _ | exact plain_ints _ | exact plain_bool _ | exact one_int _ _ | exact plain_des _ | exact plain_rows _) only [AM, initTm, Nat.reduceAdd, Nat.reduceEqDiff, reduceCtorEq, h0], by simp (disch := first | decide | omega | assumption | exact plain_int _ _ | exact plain_ints _ | exact plain_bool _ | exact one_int _ _ | exact plain_des _ | exact plain_rows _) only [AM, initTm, Nat.reduceAdd, Nat.reduceEqDiff, reduceCtorEq, h0], by simp (disch := first | decide | omega | assumption | exact plain_int _ _ | exact plain_ints _ | exact plain_bool _ | exact one_int _ _ | exact plain_des _ | exact plain_rows _) only [AM, initTm, Nat.reduceAdd, Nat.reduceEqDiff, reduceCtorEq, h0]; rfl, by omega, rfl⟩
  · have e : i = n := by omega
    subst e
    refine ⟨.inr rfl, [_], rfl, ?_, rfl⟩
    rw [tuple_one]
    simp (disch := first | decide | omega | assumption | exact plain_int _ _ | exact plain_ints _ | exact plain_bool _ | exact one_int _ _ | exact plain_des _ | exact plain_rows _) only [AM, initTm, Nat.reduceAdd, Nat.reduceEqDiff, reduceCtorEq, h0]

/-- The next set of as many points: at place i. -/
def nextAt (s : List Int) (i : Nat) : List Int := s.take i ++ (List.range (s.length - i)).map fun (j : Nat) => s.getD i 0 + 1 + (j : Int)

theorem nextAt_length (s : List Int) (i : Nat) (h : i < s.length) : (nextAt s i).length = s.length := by simp [nextAt]; omega
theorem nextAt_getD (s : List Int) (i m : Nat) (h1 : i ≤ m) (h2 : m < s.length) : (nextAt s i).getD m 0 = s.getD i 0 + 1 + ((m - i : Nat) : Int) := by
  unfold nextAt
  rw [List.getD_eq_getElem?_getD, List.getElem?_append_right (by simp; omega), List.getElem?_map, List.length_take, Nat.min_eq_left (by omega), List.getElem?_range (by omega)]
  rfl
def mix (a b : List Int) (j : Nat) : List Int := a.take j ++ b.drop j
theorem mix_length (a b : List Int) (j : Nat) (h : a.length = b.length) (hj : j ≤ b.length) : (mix a b j).length = b.length := by simp [mix]; omega
theorem mix_lt (a b : List Int) (j m : Nat) (h : m < j) (hj : j ≤ a.length) : (mix a b j).getD m 0 = a.getD m 0 := by
  unfold mix
  rw [List.getD_eq_getElem?_getD, List.getElem?_append_left (by simp; omega), List.getElem?_take, if_pos h, List.getD_eq_getElem?_getD]
theorem mix_set (a b : List Int) (j : Nat) (h : a.length = b.length) (hj : j < b.length) : (mix a b j).set j (a.getD j 0) = mix a b (j + 1) := by
  apply List.ext_getElem?
  intro m
  rw [List.getElem?_set, mix_length a b j h (by omega)]
  unfold mix
  by_cases h1 : j = m
  · subst h1
    rw [if_pos rfl, if_pos hj, List.getElem?_append_left (by simp; omega), List.getElem?_take, if_pos (by omega), List.getD_eq_getElem?_getD, List.getElem?_eq_getElem (by omega)]
    rfl
  · rw [if_neg h1]
    by_cases h2 : m < j
    · rw [List.getElem?_append_left (by simp; omega), List.getElem?_append_left (by simp; omega), List.getElem?_take, List.getElem?_take, if_pos h2, if_pos (by omega)]
    · rw [List.getElem?_append_right (by simp; omega), List.getElem?_append_right (by simp; omega), List.getElem?_drop, List.getElem?_drop, List.length_take, List.length_take]
      congr 1
      omega
theorem mix_whole (a b : List Int) (h : a.length = b.length) : mix a b b.length = a := by
  unfold mix
  rw [List.take_of_length_le (by omega), List.drop_of_length_le (Nat.le_refl _), List.append_nil]
theorem mix_first (s : List Int) (i : Nat) (h : i < s.length) : s.set i (s.getD i 0 + 1) = mix (nextAt s i) s (i + 1) := by
  rw [← mix_set _ _ _ (nextAt_length s i h) h, nextAt_getD s i i (Nat.le_refl _) h]
  have e : mix (nextAt s i) s i = s := by
    unfold mix nextAt
    rw [List.take_append_of_le_length (by simp; omega), List.take_take, Nat.min_self, List.take_append_drop]
  rw [e]
  simp

/-- What the last place is that can grow. -/
def Last (s : List Int) (n : Int) (i : Nat) : Prop := i < s.length ∧ s.getD i 0 < n - s.length + i ∧ ∀ j, i < j → j < s.length → ¬ s.getD j 0 < n - s.length + j

theorem NextSet_spec (hF : F 34 = some mf34) (st : St) (id : Nat) (s : List Int) (n : Int) (hb : HasInts st.bx id .i64 3 s) (hs : s.length < 1000000) (hn : 0 ≤ n ∧ n ≤ 1000000) (hr : ∀ x ∈ s, 0 ≤ x ∧ x ≤ 1000000) :
    ∃ v bx', doCall F (E G F) .shared 34 [.own id s.length, .int .i64 n] st = some (v, { st with bx := bx' }) ∧
      ((v = .bool true ∧ ∃ i, Last s n i ∧ bx' = st.bx.set id ⟨(nextAt s i).map (.int .i64), 1, 3, .live⟩) ∨ (v = .bool false ∧ bx' = st.bx ∧ ∀ i, ¬ Last s n i)) := by
  refine doCall_shared_ex hF (by simp) ?_
  unfold mf34
  simp only
  have hlen := hb.len
  repeat' first
    | refine W_seq ?_
    | refine W_skip ?_
    | refine W_exit ?_
    | refine W_ret ?_
    | refine W_block ?_
    | (refine W_ops (by simp (disch := first | decide | omega | assumption | exact plain_int _ _ | exact plain_ints _ | exact plain_bool _ | exact one_int _ _ | exact plain_des _ | exact plain_rows _) only [AM, initTm, Nat.reduceAdd, Nat.reduceEqDiff, reduceCtorEq, hlen]; rfl) ?_)
    | (refine W_cond (by simp (disch := first | decide | omega | assumption | exact plain_int _ _ | exact plain_ints _ | exact plain_bool _ | exact one_int _ _ | exact plain_des _ | exact plain_rows _) only [AM, initTm, Nat.reduceAdd, Nat.reduceEqDiff, reduceCtorEq, hlen]; rfl) ?_ ?_ <;> intro hcond <;> (try simp only [decide_eq_true_eq, decide_eq_false_iff_not, beq_iff_eq, beq_eq_false_iff_ne, ne_eq, reduceCtorEq, Bool.not_eq_true', Bool.not_eq_false', bne_iff_ne, bne_eq_false_iff_eq] at hcond) <;> (try (exfalso; omega)))
    | refine thenQ_n ?_
    | refine thenQ_e ?_
    | refine thenQ_r ?_
    | refine outQ_n ?_
    | refine outQ_r ?_
    | refine outQ_e ?_
    | refine outQ_d (by decide) ?_
  refine W_loop (k := s.length) (fun k st' => ∃ (i : Int) (tm : Tm), st' = ⟨tm, st.bx, 0⟩ ∧ tm.get 0 = .own id s.length ∧ tm.get 1 = .int .i64 n ∧ tm.get 5 = .int .i64 s.length ∧ tm.get 6 = .int .i64 i ∧ -1 ≤ i ∧ i < s.length ∧ k = (i + 1).toNat ∧ ∀ j : Nat, i < j → j < s.length → ¬ s.getD j 0 < n - s.length + j) ⟨(s.length : Int) - 1, _, rfl, rfl, rfl, by simp (disch := first | decide | omega | assumption | exact plain_int _ _ | exact plain_ints _ | exact plain_bool _ | exact one_int _ _ | exact plain_des _ | exact plain_rows _) only [AM, initTm, Nat.reduceAdd, Nat.reduceEqDiff, reduceCtorEq], by simp (disch := first | decide | omega | assumption | exact plain_int _ _ | exact plain_ints _ | exact plain_bool _ | exact one_int _ _ | exact plain_des _ | exact plain_rows _) only [AM, initTm, Nat.reduceAdd, Nat.reduceEqDiff, reduceCtorEq], by omega, by omega, by omega, fun j h1 h2 => by omega⟩ ?_
  rintro k st' ⟨i, tm, rfl, h0, h1, h5, h6, hi0, hi1, rfl, hall⟩
  have hia := hb.iaddr
  have hld := hb.ld
  have hwr := hb.write
  by_cases hneg : i < 0
  · repeat' first
      | refine W_seq ?_
      | refine W_skip ?_
      | refine W_exit ?_
      | refine W_ret ?_
      | refine W_block ?_
      | (refine W_ops (by simp (disch := first | decide | omega | assumption | exact plain_int _ _ | exact plain_ints _ | exact plain_bool _ | exact one_int _ _ | exact plain_des _ | exact plain_rows _) only [AM, initTm, Nat.reduceAdd, Nat.reduceEqDiff, reduceCtorEq, h0, h1, h5, h6, hneg]; rfl) ?_)
      | (refine W_cond (by simp (disch := first | decide | omega | assumption | exact plain_int _ _ | exact plain_ints _ | exact plain_bool _ | exact one_int _ _ | exact plain_des _ | exact plain_rows _) only [AM, initTm, Nat.reduceAdd, Nat.reduceEqDiff, reduceCtorEq, h0, h1, h5, h6, hneg]; rfl) ?_ ?_ <;> intro hcond <;> (try simp only [decide_eq_true_eq, decide_eq_false_iff_not, beq_iff_eq, beq_eq_false_iff_ne, ne_eq, reduceCtorEq, Bool.not_eq_true', Bool.not_eq_false', bne_iff_ne, bne_eq_false_iff_eq] at hcond) <;> (try (exfalso; omega)))
      | refine thenQ_n ?_
      | refine thenQ_e ?_
      | refine thenQ_r ?_
      | refine outQ_n ?_
      | refine outQ_r ?_
      | refine outQ_e ?_
      | refine outQ_d (by decide) ?_
    refine ⟨.inr rfl, [_], rfl, .inr ⟨?_, rfl, fun m hm => hall m (by omega) hm.1 hm.2.1⟩⟩
    rw [tuple_one]
    simp (disch := first | decide | omega | assumption | exact plain_int _ _ | exact plain_ints _ | exact plain_bool _ | exact one_int _ _ | exact plain_des _ | exact plain_rows _) only [AM, initTm, Nat.reduceAdd, Nat.reduceEqDiff, reduceCtorEq]
  · have hx := hr _ (getD_mem (l := s) (i := i.toNat) (by omega))
    repeat' first
      | refine W_seq ?_
      | refine W_skip ?_
      | refine W_exit ?_
      | refine W_ret ?_
      | refine W_block ?_
      | (refine W_ops (by simp (disch := first | decide | omega | assumption | exact plain_int _ _ | exact plain_ints _ | exact plain_bool _ | exact one_int _ _ | exact plain_des _ | exact plain_rows _) only [AM, initTm, Nat.reduceAdd, Nat.reduceEqDiff, reduceCtorEq, h0, h1, h5, h6, hia, hld, hwr]; rfl) ?_)
      | (refine W_cond (by simp (disch := first | decide | omega | assumption | exact plain_int _ _ | exact plain_ints _ | exact plain_bool _ | exact one_int _ _ | exact plain_des _ | exact plain_rows _) only [AM, initTm, Nat.reduceAdd, Nat.reduceEqDiff, reduceCtorEq, h0, h1, h5, h6, hia, hld, hwr]; rfl) ?_ ?_ <;> intro hcond <;> (try simp only [decide_eq_true_eq, decide_eq_false_iff_not, beq_iff_eq, beq_eq_false_iff_ne, ne_eq, reduceCtorEq, Bool.not_eq_true', Bool.not_eq_false', bne_iff_ne, bne_eq_false_iff_eq] at hcond) <;> (try (exfalso; omega)))
      | refine thenQ_n ?_
      | refine thenQ_e ?_
      | refine thenQ_r ?_
      | refine outQ_n ?_
      | refine outQ_r ?_
      | refine outQ_e ?_
      | refine outQ_d (by decide) ?_
    · obtain ⟨i, rfl⟩ : ∃ m : Nat, i = (m : Int) := ⟨i.toNat, by omega⟩
      rw [Int.toNat_natCast] at *
      have hi : i < s.length := by omega
      rw [mix_first s i hi]
      refine W_loop (k := s.length - (i + 1)) (fun k st' => ∃ (j : Nat) (tm : Tm), st' = ⟨tm, st.bx.set id ⟨(mix (nextAt s i) s j).map (.int .i64), 1, 3, .live⟩, 0⟩ ∧ tm.get 0 = .own id s.length ∧ tm.get 5 = .int .i64 s.length ∧ tm.get 7 = .int .i64 j ∧ i + 1 ≤ j ∧ j ≤ s.length ∧ k = s.length - j) ⟨i + 1, _, rfl, by simp (disch := first | decide | omega | assumption | exact plain_int _ _ | exact plain_ints _ | exact plain_bool _ | exact one_int _ _ | exact plain_des _ | exact plain_rows _) only [AM, initTm, Nat.reduceAdd, Nat.reduceEqDiff, reduceCtorEq, h0], by simp (disch := first | decide | omega | assumption | exact plain_int _ _ | exact plain_ints _ | exact plain_bool _ | exact one_int _ _ | exact plain_des _ | exact plain_rows _) only [AM, initTm, Nat.reduceAdd, Nat.reduceEqDiff, reduceCtorEq, h5], by simp (disch := first | decide | omega | assumption | exact plain_int _ _ | exact plain_ints _ | exact plain_bool _ | exact one_int _ _ | exact plain_des _ | exact plain_rows _) only [AM, initTm, Nat.reduceAdd, Nat.reduceEqDiff, reduceCtorEq]; rfl, by omega, by omega, by omega⟩ ?_
      rintro k st' ⟨j, tm', rfl, g0, g5, g7, hj0, hj1, rfl⟩
      have hH : HasInts (st.bx.set id ⟨(mix (nextAt s i) s j).map (.int .i64), 1, 3, .live⟩) id .i64 3 (mix (nextAt s i) s j) := hb.set _
      have hml := mix_length (nextAt s i) s j (nextAt_length s i hi) hj1
      have gia := hH.iaddr
      have gld := hH.ld
      have gwr := hH.write
      rw [hml] at gia gld gwr
      have hprev : (mix (nextAt s i) s j).getD (j - 1) 0 = s.getD i 0 + 1 + ((j - 1 - i : Nat) : Int) := by
        rw [mix_lt _ _ _ _ (by omega) (by rw [nextAt_length s i hi]; exact hj1), nextAt_getD s i (j - 1) (by omega) (by omega)]
      have ej : ((j : Int) - 1).toNat = j - 1 := by omega
      repeat' first
        | refine W_seq ?_
        | refine W_skip ?_
        | refine W_exit ?_
        | refine W_ret ?_
        | refine W_block ?_
        | (refine W_ops (by simp (disch := first | decide | omega | assumption | exact plain_int _ _ | exact plain_ints _ | exact plain_bool _ | exact one_int _ _ | exact plain_des _ | exact plain_rows _) only [AM, initTm, Nat.reduceAdd, Nat.reduceEqDiff, reduceCtorEq, g0, g5, g7, gia, gld, gwr, ej, hprev]; rfl) ?_)
        | (refine W_cond (by simp (disch := first | decide | omega | assumption | exact plain_int _ _ | exact plain_ints _ | exact plain_bool _ | exact one_int _ _ | exact plain_des _ | exact plain_rows _) only [AM, initTm, Nat.reduceAdd, Nat.reduceEqDiff, reduceCtorEq, g0, g5, g7, gia, gld, gwr, ej, hprev]; rfl) ?_ ?_ <;> intro hcond <;> (try simp only [decide_eq_true_eq, decide_eq_false_iff_not, beq_iff_eq, beq_eq_false_iff_ne, ne_eq, reduceCtorEq, Bool.not_eq_true', Bool.not_eq_false', bne_iff_ne, bne_eq_false_iff_eq] at hcond) <;> (try (exfalso; omega)))
        | refine thenQ_n ?_
        | refine thenQ_e ?_
        | refine thenQ_r ?_
        | refine outQ_n ?_
        | refine outQ_r ?_
        | refine outQ_e ?_
        | refine outQ_d (by decide) ?_
      · have ev : s.getD i 0 + 1 + ((j - 1 - i : Nat) : Int) + 1 = (nextAt s i).getD j 0 := by
          rw [nextAt_getD s i j (by omega) (by omega)]
          omega
        rw [ev, List.set_set, mix_set _ _ _ (nextAt_length s i hi) (by omega)]
        exact ⟨s.length - (j + 1), by omega, j + 1, _, rfl, by simp (disch := first | decide | omega | assumption | exact plain_int _ _ | exact plain_ints _ | exact plain_bool _ | exact one_int _ _ | exact plain_des _ | exact plain_rows _) only [AM, initTm, Nat.reduceAdd, Nat.reduceEqDiff, reduceCtorEq, g0], by simp (disch := first | decide | omega | assumption | exact plain_int _ _ | exact plain_ints _ | exact plain_bool _ | exact one_int _ _ | exact plain_des _ | exact plain_rows _) only [AM, initTm, Nat.reduceAdd, Nat.reduceEqDiff, reduceCtorEq, g5], by simp (disch := first | decide | omega | assumption | exact plain_int _ _ | exact plain_ints _ | exact plain_bool _ | exact one_int _ _ | exact plain_des _ | exact plain_rows _) only [AM, initTm, Nat.reduceAdd, Nat.reduceEqDiff, reduceCtorEq]; rfl, by omega, by omega, rfl⟩
      · have ej : j = s.length := by omega
        subst ej
        rw [mix_whole _ _ (nextAt_length s i hi)]
        refine ⟨.inr rfl, [_], rfl, .inl ⟨?_, i, ⟨hi, by assumption, fun m h1 h2 => hall m (by omega) h2⟩, rfl⟩⟩
        rw [tuple_one]
        simp (disch := first | decide | omega | assumption | exact plain_int _ _ | exact plain_ints _ | exact plain_bool _ | exact one_int _ _ | exact plain_des _ | exact plain_rows _) only [AM, initTm, Nat.reduceAdd, Nat.reduceEqDiff, reduceCtorEq]
    · exact ⟨((i - 1) + 1).toNat, by omega, i - 1, _, rfl, by simp (disch := first | decide | omega | assumption | exact plain_int _ _ | exact plain_ints _ | exact plain_bool _ | exact one_int _ _ | exact plain_des _ | exact plain_rows _) only [AM, initTm, Nat.reduceAdd, Nat.reduceEqDiff, reduceCtorEq, h0], by simp (disch := first | decide | omega | assumption | exact plain_int _ _ | exact plain_ints _ | exact plain_bool _ | exact one_int _ _ | exact plain_des _ | exact plain_rows _) only [AM, initTm, Nat.reduceAdd, Nat.reduceEqDiff, reduceCtorEq, h1], by simp (disch := first | decide | omega | assumption | exact plain_int _ _ | exact plain_ints _ | exact plain_bool _ | exact one_int _ _ | exact plain_des _ | exact plain_rows _) only [AM, initTm, Nat.reduceAdd, Nat.reduceEqDiff, reduceCtorEq, h5], by simp (disch := first | decide | omega | assumption | exact plain_int _ _ | exact plain_ints _ | exact plain_bool _ | exact one_int _ _ | exact plain_des _ | exact plain_rows _) only [AM, initTm, Nat.reduceAdd, Nat.reduceEqDiff, reduceCtorEq], by omega, by omega, by omega, fun j h1 h2 => by
        by_cases hj : (j : Int) = i
        · subst hj; simpa using hcond
        · exact hall j (by omega) h2⟩
end
end Go.Am
