/- Polynomials: digits, division. -/
import Derived.Test.YtcibofbmennjpaaDoorAmFd1
set_option linter.unusedVariables false
set_option linter.unusedSimpArgs false
namespace Go.Am

/-- Seven numbers below p. -/
def Poly (p : Int) (l : List Int) : Prop := l.length = 7 ∧ ∀ x ∈ l, 0 ≤ x ∧ x < p
theorem Poly.get {p : Int} {l : List Int} (h : Poly p l) {i : Nat} (hi : i < 7) : 0 ≤ l.getD i 0 ∧ l.getD i 0 < p := h.2 _ (getD_mem (by rw [h.1]; exact hi))
theorem Poly.set {p : Int} {l : List Int} (h : Poly p l) (i : Nat) (x : Int) (hx : 0 ≤ x ∧ x < p) : Poly p (l.set i x) := by
  refine ⟨by rw [List.length_set]; exact h.1, fun y hy => ?_⟩
  rcases List.mem_or_eq_of_mem_set hy with h1 | h1
  · exact h.2 y h1
  · rw [h1]; exact hx

/-- Nothing, seven times. -/
def Z7 : List Int := [0, 0, 0, 0, 0, 0, 0]
theorem Z7_poly (p : Int) (h : 0 < p) : Poly p Z7 := ⟨rfl, fun x hx => by simp [Z7] at hx; omega⟩

section
variable {G : Nat → List AV} {F : Nat → Option MF} {rec : Rec}

theorem agg_alias (l : List Int) (bx : List Box) : alias reifyDepth bx (.agg (l.map (.int .i64))) = false := by
  have : (l.map (AV.int .i64)).any (alias 7 bx) = false := by
    induction l with
    | nil => rfl
    | cons a l ih => rw [List.map_cons, List.any_cons, ih]; rfl
  exact this

theorem digits_spec (hF : F 93 = some mf93) (p n : Int) (hp : 2 ≤ p ∧ p ≤ 61) (hn : 0 ≤ n ∧ n < 64) :
    ∃ v, pcall F (E G F) 93 [.int .i64 p, .int .i64 n] = some (.val v, false) ∧ ∃ l, v = .agg (l.map (.int .i64)) ∧ Poly p l := by
  have hz : [AV.int .i64 0, .int .i64 0, .int .i64 0, .int .i64 0, .int .i64 0, .int .i64 0, .int .i64 0] = Z7.map (.int .i64) := rfl
  have hZp := Z7_poly p (by omega)
  have hZm : (Z7.map (AV.int .i64)).length = 7 := rfl
  generalize Z7 = Z at *
  refine pcall_ex hF (fun v ⟨l, he, _⟩ => he ▸ ⟨fun _ _ h => (by cases h), fun bx => reify_arr 6 bx l, fun bx => agg_alias l bx⟩) ?_
  unfold mf93
  simp only
  repeat' first
    | refine W_seq ?_
    | refine W_skip ?_
    | refine W_exit ?_
    | refine W_ret ?_
    | refine W_block ?_
    | (refine W_ops (by simp (maxSteps := 1000000) (disch := first | decide | omega | assumption | exact plain_int _ _ | exact plain_ints _ | exact plain_bool _ | exact one_int _ _ | exact plain_des _ | exact plain_rows _) only [AM, initTm, Nat.reduceAdd, Nat.reduceEqDiff, reduceCtorEq, run_aaddr, run_stn, run_bld, bldV_nil, hz, hZm, List.length_cons]; rfl) ?_)
    | (refine W_cond (by simp (maxSteps := 1000000) (disch := first | decide | omega | assumption | exact plain_int _ _ | exact plain_ints _ | exact plain_bool _ | exact one_int _ _ | exact plain_des _ | exact plain_rows _) only [AM, initTm, Nat.reduceAdd, Nat.reduceEqDiff, reduceCtorEq, run_aaddr, run_stn, run_bld, bldV_nil, hz, hZm, List.length_cons]; rfl) ?_ ?_ <;> intro hcond <;> (try simp only [decide_eq_true_eq, decide_eq_false_iff_not, beq_iff_eq, beq_eq_false_iff_ne, ne_eq, reduceCtorEq, Bool.not_eq_true', Bool.not_eq_false', bne_iff_ne, bne_eq_false_iff_eq] at hcond) <;> (try (exfalso; omega)))
    | refine thenQ_n ?_
    | refine thenQ_e ?_
    | refine thenQ_r ?_
    | refine outQ_n ?_
    | refine outQ_r ?_
    | refine outQ_e ?_
    | refine outQ_d (by decide) ?_
  refine W_loop (k := n.toNat) (fun m s => ∃ (i : Nat) (x : Int) (l : List Int) (tm : Tm), s = ⟨tm, [⟨Z.map (.int .i64), 7, 136, .live⟩, ⟨l.map (.int .i64), 7, 136, .live⟩], 0⟩ ∧ tm.get 0 = .int .i64 p ∧ tm.get 1 = .int .i64 x ∧ tm.get 4 = .ptr 0 7 0 ∧ tm.get 5 = .ptr 1 7 0 ∧ tm.get 6 = .int .i64 i ∧ i ≤ 6 ∧ 0 ≤ x ∧ x.toNat < 2 ^ (6 - i) ∧ m = x.toNat ∧ Poly p l) ⟨0, n, Z, _, rfl, by simp (maxSteps := 1000000) (disch := first | decide | omega | assumption | exact plain_int _ _ | exact plain_ints _ | exact plain_bool _ | exact one_int _ _ | exact plain_des _ | exact plain_rows _) only [AM, initTm, Nat.reduceAdd, Nat.reduceEqDiff, reduceCtorEq, run_aaddr, run_stn, run_bld, bldV_nil], by simp (maxSteps := 1000000) (disch := first | decide | omega | assumption | exact plain_int _ _ | exact plain_ints _ | exact plain_bool _ | exact one_int _ _ | exact plain_des _ | exact plain_rows _) only [AM, initTm, Nat.reduceAdd, Nat.reduceEqDiff, reduceCtorEq, run_aaddr, run_stn, run_bld, bldV_nil], by simp (maxSteps := 1000000) (disch := first | decide | omega | assumption | exact plain_int _ _ | exact plain_ints _ | exact plain_bool _ | exact one_int _ _ | exact plain_des _ | exact plain_rows _) only [AM, initTm, Nat.reduceAdd, Nat.reduceEqDiff, reduceCtorEq, run_aaddr, run_stn, run_bld, bldV_nil], by simp (maxSteps := 1000000) (disch := first | decide | omega | assumption | exact plain_int _ _ | exact plain_ints _ | exact plain_bool _ | exact one_int _ _ | exact plain_des _ | exact plain_rows _) only [AM, initTm, Nat.reduceAdd, Nat.reduceEqDiff, reduceCtorEq, run_aaddr, run_stn, run_bld, bldV_nil], by simp (maxSteps := 1000000) (disch := first | decide | omega | assumption | exact plain_int _ _ | exact plain_ints _ | exact plain_bool _ | exact one_int _ _ | exact plain_des _ | exact plain_rows _) only [AM, initTm, Nat.reduceAdd, Nat.reduceEqDiff, reduceCtorEq, run_aaddr, run_stn, run_bld, bldV_nil]; rfl, by omega, by omega, by simp; omega, rfl, hZp⟩ ?_
  rintro m s ⟨i, x, l, tm, rfl, g0, g1, g4, g5, g6, hi, hx0, hx1, rfl, hl⟩
  have hA : HasArr [⟨Z.map (.int .i64), 7, 136, .live⟩, ⟨l.map (.int .i64), 7, 136, .live⟩] 1 7 136 l := rfl
  have haa := fun tm rb o len s => hA.aaddr tm rb 7 o len s hl.1.symm
  have hwr := fun tm rb => hA.write tm rb 7 hl.1.symm
  have hpw : (2 : Nat) ^ (6 - i) ≤ 64 := by
    have : (2 : Nat) ^ (6 - i) ≤ 2 ^ 6 := Nat.pow_le_pow_right (by decide) (by omega)
    exact this
  by_cases hgt : x > 0
  · have hi6 : i < 6 := by
      apply Classical.byContradiction
      intro h
      have : i = 6 := by omega
      subst this
      simp at hx1
      omega
    have hs : (2 : Nat) ^ (6 - i) = 2 * 2 ^ (6 - (i + 1)) := by
      rw [show 6 - i = (6 - (i + 1)) + 1 by omega, Nat.pow_succ]; omega
    have hq := abin_quo_n x p ⟨⟨hx0, by omega⟩, by omega⟩
    have hr := abin_rem_n x p ⟨hx0, by omega⟩
    have hr0 : 0 ≤ x % p := Int.emod_nonneg _ (by omega)
    have hr1 : x % p < p := Int.emod_lt_of_pos _ (by omega)
    have hq0 : 0 ≤ x / p := Int.ediv_nonneg hx0 (by omega)
    have hq1 : x / p * 2 ≤ x := by
      have h1 : x / p * 2 ≤ x / p * p := Int.mul_le_mul_of_nonneg_left hp.1 hq0
      have h2 := Int.ediv_mul_le x (show p ≠ 0 by omega)
      omega
    repeat' first
      | refine W_seq ?_
      | refine W_skip ?_
      | refine W_exit ?_
      | refine W_ret ?_
      | refine W_block ?_
      | (refine W_ops (by simp (maxSteps := 1000000) (disch := first | decide | omega | assumption | exact plain_int _ _ | exact plain_ints _ | exact plain_bool _ | exact one_int _ _ | exact plain_des _ | exact plain_rows _) only [AM, initTm, Nat.reduceAdd, Nat.reduceEqDiff, reduceCtorEq, run_aaddr, run_stn, run_bld, bldV_nil, g0, g1, g4, g5, g6, hgt, haa, hwr, hq, hr, List.set_cons_succ, List.set_cons_zero]; rfl) ?_)
      | (refine W_cond (by simp (maxSteps := 1000000) (disch := first | decide | omega | assumption | exact plain_int _ _ | exact plain_ints _ | exact plain_bool _ | exact one_int _ _ | exact plain_des _ | exact plain_rows _) only [AM, initTm, Nat.reduceAdd, Nat.reduceEqDiff, reduceCtorEq, run_aaddr, run_stn, run_bld, bldV_nil, g0, g1, g4, g5, g6, hgt, haa, hwr, hq, hr, List.set_cons_succ, List.set_cons_zero]; rfl) ?_ ?_ <;> intro hcond <;> (try simp only [decide_eq_true_eq, decide_eq_false_iff_not, beq_iff_eq, beq_eq_false_iff_ne, ne_eq, reduceCtorEq, Bool.not_eq_true', Bool.not_eq_false', bne_iff_ne, bne_eq_false_iff_eq] at hcond) <;> (try (exfalso; omega)))
      | refine thenQ_n ?_
      | refine thenQ_e ?_
      | refine thenQ_r ?_
      | refine outQ_n ?_
      | refine outQ_r ?_
      | refine outQ_e ?_
      | refine outQ_d (by decide) ?_
    exact ⟨(x / p).toNat, by omega, i + 1, x / p, l.set i (x % p), _, rfl, by simp (maxSteps := 1000000) (disch := first | decide | omega | assumption | exact plain_int _ _ | exact plain_ints _ | exact plain_bool _ | exact one_int _ _ | exact plain_des _ | exact plain_rows _) only [AM, initTm, Nat.reduceAdd, Nat.reduceEqDiff, reduceCtorEq, run_aaddr, run_stn, run_bld, bldV_nil, g0], by simp (maxSteps := 1000000) (disch := first | decide | omega | assumption | exact plain_int _ _ | exact plain_ints _ | exact plain_bool _ | exact one_int _ _ | exact plain_des _ | exact plain_rows _) only [AM, initTm, Nat.reduceAdd, Nat.reduceEqDiff, reduceCtorEq, run_aaddr, run_stn, run_bld, bldV_nil], by simp (maxSteps := 1000000) (disch := first | decide | omega | assumption | exact plain_int _ _ | exact plain_ints _ | exact plain_bool _ | exact one_int _ _ | exact plain_des _ | exact plain_rows _) only [AM, initTm, Nat.reduceAdd, Nat.reduceEqDiff, reduceCtorEq, run_aaddr, run_stn, run_bld, bldV_nil, g4], by simp (maxSteps := 1000000) (disch := first | decide | omega | assumption | exact plain_int _ _ | exact plain_ints _ | exact plain_bool _ | exact one_int _ _ | exact plain_des _ | exact plain_rows _) only [AM, initTm, Nat.reduceAdd, Nat.reduceEqDiff, reduceCtorEq, run_aaddr, run_stn, run_bld, bldV_nil, g5], by simp (maxSteps := 1000000) (disch := first | decide | omega | assumption | exact plain_int _ _ | exact plain_ints _ | exact plain_bool _ | exact one_int _ _ | exact plain_des _ | exact plain_rows _) only [AM, initTm, Nat.reduceAdd, Nat.reduceEqDiff, reduceCtorEq, run_aaddr, run_stn, run_bld, bldV_nil]; rfl, by omega, hq0, by omega, rfl, hl.set i _ ⟨hr0, hr1⟩⟩
  · have hld := fun tm rb => hA.has.ldn tm rb 7 (by rw [List.length_map, hl.1])
    have hA0 : HasArr [⟨Z.map (.int .i64), 7, 136, .live⟩, ⟨l.map (.int .i64), 7, 136, .live⟩] 0 7 136 Z := rfl
    have hwh := fun tm rb => hA0.whole tm rb 7 hZp.1.symm l hl.1
    repeat' first
      | refine W_seq ?_
      | refine W_skip ?_
      | refine W_exit ?_
      | refine W_ret ?_
      | refine W_block ?_
      | (refine W_ops (by simp (maxSteps := 1000000) (disch := first | decide | omega | assumption | exact plain_int _ _ | exact plain_ints _ | exact plain_bool _ | exact one_int _ _ | exact plain_des _ | exact plain_rows _) only [AM, initTm, Nat.reduceAdd, Nat.reduceEqDiff, reduceCtorEq, run_aaddr, run_stn, run_bld, bldV_nil, g0, g1, g4, g5, g6, hgt, run_ldn, hld, hwh, List.set_cons_succ, List.set_cons_zero]; rfl) ?_)
      | (refine W_cond (by simp (maxSteps := 1000000) (disch := first | decide | omega | assumption | exact plain_int _ _ | exact plain_ints _ | exact plain_bool _ | exact one_int _ _ | exact plain_des _ | exact plain_rows _) only [AM, initTm, Nat.reduceAdd, Nat.reduceEqDiff, reduceCtorEq, run_aaddr, run_stn, run_bld, bldV_nil, g0, g1, g4, g5, g6, hgt, run_ldn, hld, hwh, List.set_cons_succ, List.set_cons_zero]; rfl) ?_ ?_ <;> intro hcond <;> (try simp only [decide_eq_true_eq, decide_eq_false_iff_not, beq_iff_eq, beq_eq_false_iff_ne, ne_eq, reduceCtorEq, Bool.not_eq_true', Bool.not_eq_false', bne_iff_ne, bne_eq_false_iff_eq] at hcond) <;> (try (exfalso; omega)))
      | refine thenQ_n ?_
      | refine thenQ_e ?_
      | refine thenQ_r ?_
      | refine outQ_n ?_
      | refine outQ_r ?_
      | refine outQ_e ?_
      | refine outQ_d (by decide) ?_
    have hA1 : HasArr [⟨l.map (.int .i64), 7, 136, .live⟩, ⟨l.map (.int .i64), 7, 136, .live⟩] 0 7 136 l := rfl
    refine ⟨.inr rfl, [.agg (l.map (.int .i64))], ?_, l, rfl, hl⟩
    rw [List.mapM_cons, hA1.res _ _ 7 4 hl.1.symm (by simp (maxSteps := 1000000) (disch := first | decide | omega | assumption | exact plain_int _ _ | exact plain_ints _ | exact plain_bool _ | exact one_int _ _ | exact plain_des _ | exact plain_rows _) only [AM, initTm, Nat.reduceAdd, Nat.reduceEqDiff, reduceCtorEq, run_aaddr, run_stn, run_bld, bldV_nil, g4])]
    rfl

theorem agg_reify7 (l : List Int) (bx : List Box) : reify reifyDepth bx (.agg (l.map (.int .i64))) = some (.agg (l.map (.int .i64))) := reify_arr 6 bx l

/-- Whether one polynomial divides another: an answer. -/
theorem divides_spec (hF : F 127 = some mf127) (p degree k : Int) (d a : List Int) (hp : 2 ≤ p ∧ p ≤ 61) (hk : 1 ≤ degree ∧ degree ≤ k ∧ k ≤ 6) (hd : Poly p d) (ha : Poly p a) :
    ∃ v, pcall F (E G F) 127 [.int .i64 p, .agg (d.map (.int .i64)), .int .i64 degree, .agg (a.map (.int .i64)), .int .i64 k] = some (.val v, false) ∧ ∃ b, v = .bool b := by
  have hcl : ∀ l : List Int, (AV.agg (l.map (AV.int .i64))).cells = l.map (.int .i64) := fun _ => rfl
  have hml : ∀ l : List Int, l.length = 7 → (l.map (AV.int .i64)).length = 7 := fun l h => by rw [List.length_map, h]
  have hmd := hml d hd.1
  have hma := hml a ha.1
  have hone := all_one_ints
  have hz : [AV.int .i64 0, .int .i64 0, .int .i64 0, .int .i64 0, .int .i64 0, .int .i64 0, .int .i64 0] = Z7.map (.int .i64) := rfl
  have hZl : Z7.length = 7 := rfl
  refine pcall_ex hF (fun v ⟨b, he⟩ => he ▸ ⟨fun _ _ h => (by cases h), fun _ => rfl, fun _ => rfl⟩) ?_
  unfold mf127
  simp only
  repeat' first
    | refine W_seq ?_
    | refine W_skip ?_
    | refine W_exit ?_
    | refine W_ret ?_
    | refine W_block ?_
    | (refine W_ops (by simp (maxSteps := 1000000) (disch := first | decide | omega | assumption | exact plain_int _ _ | exact plain_ints _ | exact plain_bool _ | exact one_int _ _ | exact plain_des _ | exact plain_rows _) only [AM, initTm, Nat.reduceAdd, Nat.reduceEqDiff, reduceCtorEq, run_aaddr, run_stn, run_bld, bldV_nil, hcl, hmd, hma, hone, hd.1, ha.1, List.length_cons]; rfl) ?_)
    | (refine W_cond (by simp (maxSteps := 1000000) (disch := first | decide | omega | assumption | exact plain_int _ _ | exact plain_ints _ | exact plain_bool _ | exact one_int _ _ | exact plain_des _ | exact plain_rows _) only [AM, initTm, Nat.reduceAdd, Nat.reduceEqDiff, reduceCtorEq, run_aaddr, run_stn, run_bld, bldV_nil, hcl, hmd, hma, hone, hd.1, ha.1, List.length_cons]; rfl) ?_ ?_ <;> intro hcond <;> (try simp only [decide_eq_true_eq, decide_eq_false_iff_not, beq_iff_eq, beq_eq_false_iff_ne, ne_eq, reduceCtorEq, Bool.not_eq_true', Bool.not_eq_false', bne_iff_ne, bne_eq_false_iff_eq] at hcond) <;> (try (exfalso; omega)))
    | refine thenQ_n ?_
    | refine thenQ_e ?_
    | refine thenQ_r ?_
    | refine outQ_n ?_
    | refine outQ_r ?_
    | refine outQ_e ?_
    | refine outQ_d (by decide) ?_
  refine W_loop (k := k.toNat) (fun m s => ∃ (top : Int) (a : List Int) (tm : Tm), s = ⟨tm, [⟨d.map (.int .i64), 7, 136, .live⟩, ⟨a.map (.int .i64), 7, 136, .live⟩], 0⟩ ∧ tm.get 0 = .int .i64 p ∧ tm.get 2 = .int .i64 degree ∧ tm.get 6 = .ptr 0 7 0 ∧ tm.get 8 = .ptr 1 7 0 ∧ tm.get 11 = .int .i64 top ∧ degree - 1 ≤ top ∧ top ≤ k ∧ m = top.toNat ∧ Poly p a) ⟨k, a, _, rfl, by simp (maxSteps := 1000000) (disch := first | decide | omega | assumption | exact plain_int _ _ | exact plain_ints _ | exact plain_bool _ | exact one_int _ _ | exact plain_des _ | exact plain_rows _) only [AM, initTm, Nat.reduceAdd, Nat.reduceEqDiff, reduceCtorEq, run_aaddr, run_stn, run_bld, bldV_nil], by simp (maxSteps := 1000000) (disch := first | decide | omega | assumption | exact plain_int _ _ | exact plain_ints _ | exact plain_bool _ | exact one_int _ _ | exact plain_des _ | exact plain_rows _) only [AM, initTm, Nat.reduceAdd, Nat.reduceEqDiff, reduceCtorEq, run_aaddr, run_stn, run_bld, bldV_nil], by simp (maxSteps := 1000000) (disch := first | decide | omega | assumption | exact plain_int _ _ | exact plain_ints _ | exact plain_bool _ | exact one_int _ _ | exact plain_des _ | exact plain_rows _) only [AM, initTm, Nat.reduceAdd, Nat.reduceEqDiff, reduceCtorEq, run_aaddr, run_stn, run_bld, bldV_nil], by simp (maxSteps := 1000000) (disch := first | decide | omega | assumption | exact plain_int _ _ | exact plain_ints _ | exact plain_bool _ | exact one_int _ _ | exact plain_des _ | exact plain_rows _) only [AM, initTm, Nat.reduceAdd, Nat.reduceEqDiff, reduceCtorEq, run_aaddr, run_stn, run_bld, bldV_nil], by simp (maxSteps := 1000000) (disch := first | decide | omega | assumption | exact plain_int _ _ | exact plain_ints _ | exact plain_bool _ | exact one_int _ _ | exact plain_des _ | exact plain_rows _) only [AM, initTm, Nat.reduceAdd, Nat.reduceEqDiff, reduceCtorEq, run_aaddr, run_stn, run_bld, bldV_nil], by omega, by omega, rfl, ha⟩ ?_
  clear ha hma a
  rintro m s ⟨top, a, tm, rfl, g0, g2, g6, g8, g11, ht0, ht1, rfl, ha⟩
  have hA : HasArr [⟨d.map (.int .i64), 7, 136, .live⟩, ⟨a.map (.int .i64), 7, 136, .live⟩] 1 7 136 a := rfl
  have haa := fun tm rb o len s => hA.aaddr tm rb 7 o len s ha.1.symm
  have hal := fun tm rb => hA.ld tm rb 7 ha.1.symm
  by_cases hge : top ≥ degree
  · have hti := ha.get (i := top.toNat) (by omega)
    repeat' first
      | refine W_seq ?_
      | refine W_skip ?_
      | refine W_exit ?_
      | refine W_ret ?_
      | refine W_block ?_
      | (refine W_ops (by simp (maxSteps := 1000000) (disch := first | decide | omega | assumption | exact plain_int _ _ | exact plain_ints _ | exact plain_bool _ | exact one_int _ _ | exact plain_des _ | exact plain_rows _) only [AM, initTm, Nat.reduceAdd, Nat.reduceEqDiff, reduceCtorEq, run_aaddr, run_stn, run_bld, bldV_nil, g0, g2, g6, g8, g11, hge, haa, hal]; rfl) ?_)
      | (refine W_cond (by simp (maxSteps := 1000000) (disch := first | decide | omega | assumption | exact plain_int _ _ | exact plain_ints _ | exact plain_bool _ | exact one_int _ _ | exact plain_des _ | exact plain_rows _) only [AM, initTm, Nat.reduceAdd, Nat.reduceEqDiff, reduceCtorEq, run_aaddr, run_stn, run_bld, bldV_nil, g0, g2, g6, g8, g11, hge, haa, hal]; rfl) ?_ ?_ <;> intro hcond <;> (try simp only [decide_eq_true_eq, decide_eq_false_iff_not, beq_iff_eq, beq_eq_false_iff_ne, ne_eq, reduceCtorEq, Bool.not_eq_true', Bool.not_eq_false', bne_iff_ne, bne_eq_false_iff_eq] at hcond) <;> (try (exfalso; omega)))
      | refine thenQ_n ?_
      | refine thenQ_e ?_
      | refine thenQ_r ?_
      | refine outQ_n ?_
      | refine outQ_r ?_
      | refine outQ_e ?_
      | refine outQ_d (by decide) ?_
    generalize htm : a.getD top.toNat 0 = times at *
    refine W_loop (k := 8) (fun m s => ∃ (i : Nat) (a : List Int) (tm : Tm), s = ⟨tm, [⟨d.map (.int .i64), 7, 136, .live⟩, ⟨a.map (.int .i64), 7, 136, .live⟩], 0⟩ ∧ tm.get 0 = .int .i64 p ∧ tm.get 2 = .int .i64 degree ∧ tm.get 6 = .ptr 0 7 0 ∧ tm.get 8 = .ptr 1 7 0 ∧ tm.get 11 = .int .i64 top ∧ tm.get 12 = .int .i64 times ∧ tm.get 25 = .int .i64 (degree + 1) ∧ tm.get 26 = .int .i64 i ∧ (i : Int) ≤ degree + 1 ∧ m = 8 - i ∧ Poly p a) ⟨0, a, _, rfl, by simp (maxSteps := 1000000) (disch := first | decide | omega | assumption | exact plain_int _ _ | exact plain_ints _ | exact plain_bool _ | exact one_int _ _ | exact plain_des _ | exact plain_rows _) only [AM, initTm, Nat.reduceAdd, Nat.reduceEqDiff, reduceCtorEq, run_aaddr, run_stn, run_bld, bldV_nil, g0], by simp (maxSteps := 1000000) (disch := first | decide | omega | assumption | exact plain_int _ _ | exact plain_ints _ | exact plain_bool _ | exact one_int _ _ | exact plain_des _ | exact plain_rows _) only [AM, initTm, Nat.reduceAdd, Nat.reduceEqDiff, reduceCtorEq, run_aaddr, run_stn, run_bld, bldV_nil, g2], by simp (maxSteps := 1000000) (disch := first | decide | omega | assumption | exact plain_int _ _ | exact plain_ints _ | exact plain_bool _ | exact one_int _ _ | exact plain_des _ | exact plain_rows _) only [AM, initTm, Nat.reduceAdd, Nat.reduceEqDiff, reduceCtorEq, run_aaddr, run_stn, run_bld, bldV_nil, g6], by simp (maxSteps := 1000000) (disch := first | decide | omega | assumption | exact plain_int _ _ | exact plain_ints _ | exact plain_bool _ | exact one_int _ _ | exact plain_des _ | exact plain_rows _) only [AM, initTm, Nat.reduceAdd, Nat.reduceEqDiff, reduceCtorEq, run_aaddr, run_stn, run_bld, bldV_nil, g8], by simp (maxSteps := 1000000) (disch := first | decide | omega | assumption | exact plain_int _ _ | exact plain_ints _ | exact plain_bool _ | exact one_int _ _ | exact plain_des _ | exact plain_rows _) only [AM, initTm, Nat.reduceAdd, Nat.reduceEqDiff, reduceCtorEq, run_aaddr, run_stn, run_bld, bldV_nil, g11], by simp (maxSteps := 1000000) (disch := first | decide | omega | assumption | exact plain_int _ _ | exact plain_ints _ | exact plain_bool _ | exact one_int _ _ | exact plain_des _ | exact plain_rows _) only [AM, initTm, Nat.reduceAdd, Nat.reduceEqDiff, reduceCtorEq, run_aaddr, run_stn, run_bld, bldV_nil, htm], by simp (maxSteps := 1000000) (disch := first | decide | omega | assumption | exact plain_int _ _ | exact plain_ints _ | exact plain_bool _ | exact one_int _ _ | exact plain_des _ | exact plain_rows _) only [AM, initTm, Nat.reduceAdd, Nat.reduceEqDiff, reduceCtorEq, run_aaddr, run_stn, run_bld, bldV_nil], by simp (maxSteps := 1000000) (disch := first | decide | omega | assumption | exact plain_int _ _ | exact plain_ints _ | exact plain_bool _ | exact one_int _ _ | exact plain_des _ | exact plain_rows _) only [AM, initTm, Nat.reduceAdd, Nat.reduceEqDiff, reduceCtorEq, run_aaddr, run_stn, run_bld, bldV_nil]; rfl, by omega, rfl, ha⟩ ?_
    clear g0 g2 g6 g8 g11 haa hal hA ha htm tm a
    rintro m s ⟨i, a, tm, rfl, g0, g2, g6, g8, g11, g12, g25, g26, hi, rfl, ha⟩
    have hA : HasArr [⟨d.map (.int .i64), 7, 136, .live⟩, ⟨a.map (.int .i64), 7, 136, .live⟩] 1 7 136 a := rfl
    have hD : HasArr [⟨d.map (.int .i64), 7, 136, .live⟩, ⟨a.map (.int .i64), 7, 136, .live⟩] 0 7 136 d := rfl
    have haa := fun tm rb o len s => hA.aaddr tm rb 7 o len s ha.1.symm
    have hal := fun tm rb => hA.ld tm rb 7 ha.1.symm
    have hwr := fun tm rb => hA.write tm rb 7 ha.1.symm
    have hda := fun tm rb o len s => hD.aaddr tm rb 7 o len s hd.1.symm
    have hdl := fun tm rb => hD.ld tm rb 7 hd.1.symm
    by_cases hlt : (i : Int) < degree + 1
    · obtain ⟨at', hat⟩ : ∃ n : Nat, top - degree + (i : Int) = (n : Int) := ⟨(top - degree + i).toNat, by omega⟩
      have hai := ha.get (i := at') (by omega)
      have hdi := hd.get (i := i) (by omega)
      have hm0 : 0 ≤ (p - times) * d.getD i 0 := Int.mul_nonneg (by omega) hdi.1
      have hm1 : (p - times) * d.getD i 0 ≤ 61 * 61 := Int.mul_le_mul (by omega) (by omega) hdi.1 (by omega)
      have hr := abin_rem_n (a.getD at' 0 + (p - times) * d.getD i 0) p ⟨by omega, by omega⟩
      have hr0 : 0 ≤ (a.getD at' 0 + (p - times) * d.getD i 0) % p := Int.emod_nonneg _ (by omega)
      have hr1 : (a.getD at' 0 + (p - times) * d.getD i 0) % p < p := Int.emod_lt_of_pos _ (by omega)
      have hw1 : IntKind.i64.wrap (top - degree + (i : Int)) = (at' : Int) := by rw [hat, i64w (by omega) (by omega)]
      repeat' first
        | refine W_seq ?_
        | refine W_skip ?_
        | refine W_exit ?_
        | refine W_ret ?_
        | refine W_block ?_
        | (refine W_ops (by simp (maxSteps := 1000000) (disch := first | decide | omega | assumption | exact plain_int _ _ | exact plain_ints _ | exact plain_bool _ | exact one_int _ _ | exact plain_des _ | exact plain_rows _) only [AM, initTm, Nat.reduceAdd, Nat.reduceEqDiff, reduceCtorEq, run_aaddr, run_stn, run_bld, bldV_nil, g0, g2, g6, g8, g11, g12, g25, g26, hlt, haa, hal, hwr, hda, hdl, hw1, hr, List.set_cons_succ, List.set_cons_zero]; rfl) ?_)
        | (refine W_cond (by simp (maxSteps := 1000000) (disch := first | decide | omega | assumption | exact plain_int _ _ | exact plain_ints _ | exact plain_bool _ | exact one_int _ _ | exact plain_des _ | exact plain_rows _) only [AM, initTm, Nat.reduceAdd, Nat.reduceEqDiff, reduceCtorEq, run_aaddr, run_stn, run_bld, bldV_nil, g0, g2, g6, g8, g11, g12, g25, g26, hlt, haa, hal, hwr, hda, hdl, hw1, hr, List.set_cons_succ, List.set_cons_zero]; rfl) ?_ ?_ <;> intro hcond <;> (try simp only [decide_eq_true_eq, decide_eq_false_iff_not, beq_iff_eq, beq_eq_false_iff_ne, ne_eq, reduceCtorEq, Bool.not_eq_true', Bool.not_eq_false', bne_iff_ne, bne_eq_false_iff_eq] at hcond) <;> (try (exfalso; omega)))
        | refine thenQ_n ?_
        | refine thenQ_e ?_
        | refine thenQ_r ?_
        | refine outQ_n ?_
        | refine outQ_r ?_
        | refine outQ_e ?_
        | refine outQ_d (by decide) ?_
      exact ⟨8 - (i + 1), by omega, i + 1, a.set at' ((a.getD at' 0 + (p - times) * d.getD i 0) % p), _, rfl, by simp (maxSteps := 1000000) (disch := first | decide | omega | assumption | exact plain_int _ _ | exact plain_ints _ | exact plain_bool _ | exact one_int _ _ | exact plain_des _ | exact plain_rows _) only [AM, initTm, Nat.reduceAdd, Nat.reduceEqDiff, reduceCtorEq, run_aaddr, run_stn, run_bld, bldV_nil, g0], by simp (maxSteps := 1000000) (disch := first | decide | omega | assumption | exact plain_int _ _ | exact plain_ints _ | exact plain_bool _ | exact one_int _ _ | exact plain_des _ | exact plain_rows _) only [AM, initTm, Nat.reduceAdd, Nat.reduceEqDiff, reduceCtorEq, run_aaddr, run_stn, run_bld, bldV_nil, g2], by simp (maxSteps := 1000000) (disch := first | decide | omega | assumption | exact plain_int _ _ | exact plain_ints _ | exact plain_bool _ | exact one_int _ _ | exact plain_des _ | exact plain_rows _) only [AM, initTm, Nat.reduceAdd, Nat.reduceEqDiff, reduceCtorEq, run_aaddr, run_stn, run_bld, bldV_nil, g6], by simp (maxSteps := 1000000) (disch := first | decide | omega | assumption | exact plain_int _ _ | exact plain_ints _ | exact plain_bool _ | exact one_int _ _ | exact plain_des _ | exact plain_rows _) only [AM, initTm, Nat.reduceAdd, Nat.reduceEqDiff, reduceCtorEq, run_aaddr, run_stn, run_bld, bldV_nil, g8], by simp (maxSteps := 1000000) (disch := first | decide | omega | assumption | exact plain_int _ _ | exact plain_ints _ | exact plain_bool _ | exact one_int _ _ | exact plain_des _ | exact plain_rows _) only [AM, initTm, Nat.reduceAdd, Nat.reduceEqDiff, reduceCtorEq, run_aaddr, run_stn, run_bld, bldV_nil, g11], by simp (maxSteps := 1000000) (disch := first | decide | omega | assumption | exact plain_int _ _ | exact plain_ints _ | exact plain_bool _ | exact one_int _ _ | exact plain_des _ | exact plain_rows _) only [AM, initTm, Nat.reduceAdd, Nat.reduceEqDiff, reduceCtorEq, run_aaddr, run_stn, run_bld, bldV_nil, g12], by simp (maxSteps := 1000000) (disch := first | decide | omega | assumption | exact plain_int _ _ | exact plain_ints _ | exact plain_bool _ | exact one_int _ _ | exact plain_des _ | exact plain_rows _) only [AM, initTm, Nat.reduceAdd, Nat.reduceEqDiff, reduceCtorEq, run_aaddr, run_stn, run_bld, bldV_nil, g25], by simp (maxSteps := 1000000) (disch := first | decide | omega | assumption | exact plain_int _ _ | exact plain_ints _ | exact plain_bool _ | exact one_int _ _ | exact plain_des _ | exact plain_rows _) only [AM, initTm, Nat.reduceAdd, Nat.reduceEqDiff, reduceCtorEq, run_aaddr, run_stn, run_bld, bldV_nil]; rfl, by omega, rfl, ha.set at' _ ⟨hr0, hr1⟩⟩
    · repeat' first
        | refine W_seq ?_
        | refine W_skip ?_
        | refine W_exit ?_
        | refine W_ret ?_
        | refine W_block ?_
        | (refine W_ops (by simp (maxSteps := 1000000) (disch := first | decide | omega | assumption | exact plain_int _ _ | exact plain_ints _ | exact plain_bool _ | exact one_int _ _ | exact plain_des _ | exact plain_rows _) only [AM, initTm, Nat.reduceAdd, Nat.reduceEqDiff, reduceCtorEq, run_aaddr, run_stn, run_bld, bldV_nil, g0, g2, g6, g8, g11, g12, g25, g26, hlt]; rfl) ?_)
        | (refine W_cond (by simp (maxSteps := 1000000) (disch := first | decide | omega | assumption | exact plain_int _ _ | exact plain_ints _ | exact plain_bool _ | exact one_int _ _ | exact plain_des _ | exact plain_rows _) only [AM, initTm, Nat.reduceAdd, Nat.reduceEqDiff, reduceCtorEq, run_aaddr, run_stn, run_bld, bldV_nil, g0, g2, g6, g8, g11, g12, g25, g26, hlt]; rfl) ?_ ?_ <;> intro hcond <;> (try simp only [decide_eq_true_eq, decide_eq_false_iff_not, beq_iff_eq, beq_eq_false_iff_ne, ne_eq, reduceCtorEq, Bool.not_eq_true', Bool.not_eq_false', bne_iff_ne, bne_eq_false_iff_eq] at hcond) <;> (try (exfalso; omega)))
        | refine thenQ_n ?_
        | refine thenQ_e ?_
        | refine thenQ_r ?_
        | refine outQ_n ?_
        | refine outQ_r ?_
        | refine outQ_e ?_
        | refine outQ_d (by decide) ?_
      exact ⟨(top - 1).toNat, by omega, top - 1, a, _, rfl, by simp (maxSteps := 1000000) (disch := first | decide | omega | assumption | exact plain_int _ _ | exact plain_ints _ | exact plain_bool _ | exact one_int _ _ | exact plain_des _ | exact plain_rows _) only [AM, initTm, Nat.reduceAdd, Nat.reduceEqDiff, reduceCtorEq, run_aaddr, run_stn, run_bld, bldV_nil, g0], by simp (maxSteps := 1000000) (disch := first | decide | omega | assumption | exact plain_int _ _ | exact plain_ints _ | exact plain_bool _ | exact one_int _ _ | exact plain_des _ | exact plain_rows _) only [AM, initTm, Nat.reduceAdd, Nat.reduceEqDiff, reduceCtorEq, run_aaddr, run_stn, run_bld, bldV_nil, g2], by simp (maxSteps := 1000000) (disch := first | decide | omega | assumption | exact plain_int _ _ | exact plain_ints _ | exact plain_bool _ | exact one_int _ _ | exact plain_des _ | exact plain_rows _) only [AM, initTm, Nat.reduceAdd, Nat.reduceEqDiff, reduceCtorEq, run_aaddr, run_stn, run_bld, bldV_nil, g6], by simp (maxSteps := 1000000) (disch := first | decide | omega | assumption | exact plain_int _ _ | exact plain_ints _ | exact plain_bool _ | exact one_int _ _ | exact plain_des _ | exact plain_rows _) only [AM, initTm, Nat.reduceAdd, Nat.reduceEqDiff, reduceCtorEq, run_aaddr, run_stn, run_bld, bldV_nil, g8], by simp (maxSteps := 1000000) (disch := first | decide | omega | assumption | exact plain_int _ _ | exact plain_ints _ | exact plain_bool _ | exact one_int _ _ | exact plain_des _ | exact plain_rows _) only [AM, initTm, Nat.reduceAdd, Nat.reduceEqDiff, reduceCtorEq, run_aaddr, run_stn, run_bld, bldV_nil], by omega, by omega, rfl, ha⟩
  · have hld := fun tm rb => hA.has.ldn tm rb 7 (by rw [List.length_map, ha.1])
    have heq := eqarrV_ints 7 .i64 a Z7 ha.1 hZl
    repeat' first
      | refine W_seq ?_
      | refine W_skip ?_
      | refine W_exit ?_
      | refine W_ret ?_
      | refine W_block ?_
      | (refine W_ops (by simp (maxSteps := 1000000) (disch := first | decide | omega | assumption | exact plain_int _ _ | exact plain_ints _ | exact plain_bool _ | exact one_int _ _ | exact plain_des _ | exact plain_rows _) only [AM, initTm, Nat.reduceAdd, Nat.reduceEqDiff, reduceCtorEq, run_aaddr, run_stn, run_bld, bldV_nil, g0, g2, g6, g8, g11, hge, run_ldn, hld, hz, run_eqarr, heq]; rfl) ?_)
      | (refine W_cond (by simp (maxSteps := 1000000) (disch := first | decide | omega | assumption | exact plain_int _ _ | exact plain_ints _ | exact plain_bool _ | exact one_int _ _ | exact plain_des _ | exact plain_rows _) only [AM, initTm, Nat.reduceAdd, Nat.reduceEqDiff, reduceCtorEq, run_aaddr, run_stn, run_bld, bldV_nil, g0, g2, g6, g8, g11, hge, run_ldn, hld, hz, run_eqarr, heq]; rfl) ?_ ?_ <;> intro hcond <;> (try simp only [decide_eq_true_eq, decide_eq_false_iff_not, beq_iff_eq, beq_eq_false_iff_ne, ne_eq, reduceCtorEq, Bool.not_eq_true', Bool.not_eq_false', bne_iff_ne, bne_eq_false_iff_eq] at hcond) <;> (try (exfalso; omega)))
      | refine thenQ_n ?_
      | refine thenQ_e ?_
      | refine thenQ_r ?_
      | refine outQ_n ?_
      | refine outQ_r ?_
      | refine outQ_e ?_
      | refine outQ_d (by decide) ?_
    exact ⟨.inr rfl, [_], rfl, (a == Z7), by rw [tuple_one]; simp (maxSteps := 1000000) (disch := first | decide | omega | assumption | exact plain_int _ _ | exact plain_ints _ | exact plain_bool _ | exact one_int _ _ | exact plain_des _ | exact plain_rows _) only [AM, initTm, Nat.reduceAdd, Nat.reduceEqDiff, reduceCtorEq, run_aaddr, run_stn, run_bld, bldV_nil]⟩
end
end Go.Am
