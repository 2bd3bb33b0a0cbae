/- The document's answers. -/
import Derived.Test.YtcibofbmennjpaaAmPl2
set_option linter.unusedVariables false
set_option linter.unusedSimpArgs false
namespace Go.Am

/-- Nothing is longer than a slice can be. -/
structure Des.Ok (d : Des) : Prop where
  n : d.rows.length < 9223372036854775808
  r : ∀ i, ((d.rows.getD i none).getD []).length < 9223372036854775808

section
variable {G : Nat → List AV} {F : Nat → Option MF}

theorem any_bl (d : Des) (f : List Int → Bool) : d.bl.any f = true ↔ ∃ i, i < d.rows.length ∧ f ((d.rows.getD i none).getD []) = true := by
  unfold Des.bl
  rw [List.any_map, List.any_eq_true]
  constructor
  · rintro ⟨r, hr, hf⟩
    obtain ⟨i, hi, rfl⟩ := List.mem_iff_getElem.1 hr
    exact ⟨i, hi, by rw [List.getD_eq_getElem?_getD, List.getElem?_eq_getElem hi]; exact hf⟩
  · rintro ⟨i, hi, hf⟩
    rw [List.getD_eq_getElem?_getD, List.getElem?_eq_getElem hi] at hf
    exact ⟨_, List.getElem_mem hi, hf⟩

theorem pcall_lined (hF : F 18 = some mf18) (hT : F 32 = some mf32) (hL : F 31 = some mf31) (d : Des) (hd : d.Ok) (p : Option (List Int)) (hp : (p.getD []).length < 9223372036854775808) :
    pcall F (E G F) 18 [d.av, ints p] = some (.val (.bool (d.bl.any fun b => decide (2 < together (p.getD []) b))), false) := by
  have htog := fun i => Together_spec (G := G) hT hL p (d.rows.getD i none) hp (hd.r i)
  have hH : Has [⟨d.cells, 2, 24, .live⟩] 0 d.cells := Has.new _ _ _
  have hfa := fun tm rb o off => hH.faddr tm rb 2 o off rfl
  have hld := fun tm rb off => hH.ld1 tm rb 2 off rfl
  have hdn := hd.n
  refine pcall_val hF (v := .bool (d.bl.any fun b => decide (2 < together (p.getD []) b))) (fun _ _ h => by cases h) ?_ (fun _ => rfl) (fun _ => rfl)
  unfold mf18
  simp only
  repeat' first
    | refine W_seq ?_
    | refine W_skip ?_
    | refine W_exit ?_
    | refine W_ret ?_
    | refine W_block ?_
    | (refine W_ops (by simp (disch := first | decide | omega | assumption | exact plain_int _ _ | exact plain_ints _ | exact plain_bool _ | exact one_int _ _ | exact plain_des _ | exact plain_rows _) only [AM, initTm, Nat.reduceAdd, Nat.reduceEqDiff, reduceCtorEq, hfa, hld]; rfl) ?_)
    | (refine W_cond (by simp (disch := first | decide | omega | assumption | exact plain_int _ _ | exact plain_ints _ | exact plain_bool _ | exact one_int _ _ | exact plain_des _ | exact plain_rows _) only [AM, initTm, Nat.reduceAdd, Nat.reduceEqDiff, reduceCtorEq, hfa, hld]; rfl) ?_ ?_ <;> intro hcond <;> (try simp only [decide_eq_true_eq, decide_eq_false_iff_not, beq_iff_eq, beq_eq_false_iff_ne, ne_eq, reduceCtorEq, Bool.not_eq_true', Bool.not_eq_false', bne_iff_ne, bne_eq_false_iff_eq] at hcond) <;> (try (exfalso; omega)))
    | refine thenQ_n ?_
    | refine thenQ_e ?_
    | refine thenQ_r ?_
    | refine outQ_n ?_
    | refine outQ_r ?_
    | refine outQ_e ?_
    | refine outQ_d (by decide) ?_
  refine W_loop (k := d.rows.length) (fun k s => ∃ (i : Nat) (tm : Tm), s = ⟨tm, [⟨d.cells, 2, 24, .live⟩], 0⟩ ∧ tm.get 1 = ints p ∧ tm.get 2 = .ptr 0 2 0 ∧ tm.get 5 = .int .i64 i ∧ i ≤ d.rows.length ∧ k = d.rows.length - i ∧ ∀ j, j < i → ¬ 2 < together (p.getD []) ((d.rows.getD j none).getD [])) ⟨0, _, rfl, rfl, rfl, rfl, Nat.zero_le _, rfl, fun j hj => by omega⟩ ?_
  rintro k s ⟨i, tm, rfl, h1, h2, h5, hi, rfl, hx⟩
  repeat' first
    | refine W_seq ?_
    | refine W_skip ?_
    | refine W_exit ?_
    | refine W_ret ?_
    | refine W_block ?_
    | (refine W_ops (by simp (disch := first | decide | omega | assumption | exact plain_int _ _ | exact plain_ints _ | exact plain_bool _ | exact one_int _ _ | exact plain_des _ | exact plain_rows _) only [AM, initTm, Nat.reduceAdd, Nat.reduceEqDiff, reduceCtorEq, h1, h2, h5, hfa, hld, htog]; rfl) ?_)
    | (refine W_cond (by simp (disch := first | decide | omega | assumption | exact plain_int _ _ | exact plain_ints _ | exact plain_bool _ | exact one_int _ _ | exact plain_des _ | exact plain_rows _) only [AM, initTm, Nat.reduceAdd, Nat.reduceEqDiff, reduceCtorEq, h1, h2, h5, hfa, hld, htog]; rfl) ?_ ?_ <;> intro hcond <;> (try simp only [decide_eq_true_eq, decide_eq_false_iff_not, beq_iff_eq, beq_eq_false_iff_ne, ne_eq, reduceCtorEq, Bool.not_eq_true', Bool.not_eq_false', bne_iff_ne, bne_eq_false_iff_eq] at hcond) <;> (try (exfalso; omega)))
    | refine thenQ_n ?_
    | refine thenQ_e ?_
    | refine thenQ_r ?_
    | refine outQ_n ?_
    | refine outQ_r ?_
    | refine outQ_e ?_
    | refine outQ_d (by decide) ?_
  · refine ⟨.inr rfl, [_], rfl, ?_⟩
    rw [tuple_one]
    simp (disch := first | decide | omega | assumption | exact plain_int _ _ | exact plain_ints _ | exact plain_bool _ | exact one_int _ _ | exact plain_des _ | exact plain_rows _) only [AM, initTm, Nat.reduceAdd, Nat.reduceEqDiff, reduceCtorEq]
    rw [(any_bl d _).2 ⟨i, by omega, decide_eq_true (by omega)⟩]
  · exact ⟨_, by omega, i + 1, _, rfl, by simp (disch := first | decide | omega | assumption | exact plain_int _ _ | exact plain_ints _ | exact plain_bool _ | exact one_int _ _ | exact plain_des _ | exact plain_rows _) only [AM, initTm, Nat.reduceAdd, Nat.reduceEqDiff, reduceCtorEq, h1], by simp (disch := first | decide | omega | assumption | exact plain_int _ _ | exact plain_ints _ | exact plain_bool _ | exact one_int _ _ | exact plain_des _ | exact plain_rows _) only [AM, initTm, Nat.reduceAdd, Nat.reduceEqDiff, reduceCtorEq, h2], by simp (disch := first | decide | omega | assumption | exact plain_int _ _ | exact plain_ints _ | exact plain_bool _ | exact one_int _ _ | exact plain_des _ | exact plain_rows _) only [AM, initTm, Nat.reduceAdd, Nat.reduceEqDiff, reduceCtorEq]; rfl, by omega, rfl, fun j hj => by
      by_cases e : j = i
      · subst e; omega
      · exact hx j (by omega)⟩
  · refine ⟨.inr rfl, [_], rfl, ?_⟩
    rw [tuple_one]
    simp (disch := first | decide | omega | assumption | exact plain_int _ _ | exact plain_ints _ | exact plain_bool _ | exact one_int _ _ | exact plain_des _ | exact plain_rows _) only [AM, initTm, Nat.reduceAdd, Nat.reduceEqDiff, reduceCtorEq]
    cases hb : d.bl.any fun b => decide (2 < together (p.getD []) b) with
    | false => rfl
    | true =>
      obtain ⟨j, hj, hc⟩ := (any_bl d _).1 hb
      exact absurd (of_decide_eq_true hc) (hx j (by omega))

/-- What is wrong with a block of points below n. -/
def Out (n : Int) (b : List Int) : Prop := ∃ i, i < b.length ∧ (b.getD i 0 < 0 ∨ n ≤ b.getD i 0)
def Down (b : List Int) : Prop := ∃ i, 1 ≤ i ∧ i < b.length ∧ b.getD i 0 ≤ b.getD (i - 1) 0
/-- The first fault: its kind. -/
inductive Fault (d : Des) : Int → Prop where
  | few (h : d.points < 1 ∨ 40 < d.points) : Fault d 1
  | full (h : ¬ (d.points < 1 ∨ 40 < d.points)) (h2 : 200 < d.rows.length) : Fault d 3
  | out (h : ¬ (d.points < 1 ∨ 40 < d.points)) (h2 : ¬ 200 < d.rows.length) (i : Nat) (hi : i < d.rows.length) (ok : ∀ j, j < i → ¬ Out d.points ((d.rows.getD j none).getD []) ∧ ¬ Down ((d.rows.getD j none).getD [])) (ho : Out d.points ((d.rows.getD i none).getD [])) : Fault d 1
  | down (h : ¬ (d.points < 1 ∨ 40 < d.points)) (h2 : ¬ 200 < d.rows.length) (i : Nat) (hi : i < d.rows.length) (ok : ∀ j, j < i → ¬ Out d.points ((d.rows.getD j none).getD []) ∧ ¬ Down ((d.rows.getD j none).getD [])) (hn : ¬ Out d.points ((d.rows.getD i none).getD [])) (hd : Down ((d.rows.getD i none).getD [])) : Fault d 2
  | ok (h : ¬ (d.points < 1 ∨ 40 < d.points)) (h2 : ¬ 200 < d.rows.length) (ok : ∀ j, j < d.rows.length → ¬ Out d.points ((d.rows.getD j none).getD []) ∧ ¬ Down ((d.rows.getD j none).getD [])) : Fault d 0

/-- A function of a value, by a property of its answer. -/
theorem pcall_ex {f : Nat} {mf : MF} (hf : F f = some mf) {args : List AV} {P : AV → Prop} (hv : ∀ v, P v → (∀ id n, v ≠ .own id n) ∧ (∀ bx, reify reifyDepth bx v = some v) ∧ ∀ bx, alias reifyDepth bx v = false)
    (h : W G F mf.body ⟨initTm 0 args .e, [], 0⟩ fun e s => (e = .normal ∨ e = .ret) ∧ ∃ rs, mf.res.mapM (rvar s) = some rs ∧ P (tuple rs)) :
    ∃ v, pcall F (E G F) f args = some (.val v, false) ∧ P v := by
  obtain ⟨s, rs, h1, h2⟩ := runBody_W h
  obtain ⟨a, b, c⟩ := hv _ h2
  refine ⟨tuple rs, ?_, h2⟩
  unfold pcall
  rw [hf]
  simp only [h1]
  generalize tuple rs = v at *
  cases v with
  | own id n => exact absurd rfl (a id n)
  | _ => simp only [b, c]; rfl

theorem pcall_DesignFault (hF : F 13 = some mf13) (d : Des) (hd : d.Ok) :
    ∃ v, pcall F (E G F) 13 [d.av] = some (.val v, false) ∧ ∃ e, v = .int .i64 e ∧ Fault d e := by
  have hH : Has [⟨d.cells, 2, 24, .live⟩] 0 d.cells := Has.new _ _ _
  have hfa := fun tm rb o off => hH.faddr tm rb 2 o off rfl
  have hld := fun tm rb off => hH.ld1 tm rb 2 off rfl
  have hdn := hd.n
  refine pcall_ex hF (fun v ⟨e, he, _⟩ => he ▸ ⟨fun _ _ h => (by cases h), fun _ => rfl, fun _ => rfl⟩) ?_
  unfold mf13
  simp only
  by_cases hp1 : d.points < 1
  · repeat' first
      | refine W_seq ?_
      | refine W_skip ?_
      | refine W_exit ?_
      | refine W_ret ?_
      | refine W_block ?_
      | (refine W_ops (by simp (disch := first | decide | omega | assumption | exact plain_int _ _ | exact plain_ints _ | exact plain_bool _ | exact one_int _ _ | exact plain_des _ | exact plain_rows _) only [AM, initTm, Nat.reduceAdd, Nat.reduceEqDiff, reduceCtorEq, hfa, hld, hp1]; rfl) ?_)
      | (refine W_cond (by simp (disch := first | decide | omega | assumption | exact plain_int _ _ | exact plain_ints _ | exact plain_bool _ | exact one_int _ _ | exact plain_des _ | exact plain_rows _) only [AM, initTm, Nat.reduceAdd, Nat.reduceEqDiff, reduceCtorEq, hfa, hld, hp1]; rfl) ?_ ?_ <;> intro hcond <;> (try simp only [decide_eq_true_eq, decide_eq_false_iff_not, beq_iff_eq, beq_eq_false_iff_ne, ne_eq, reduceCtorEq, Bool.not_eq_true', Bool.not_eq_false', bne_iff_ne, bne_eq_false_iff_eq] at hcond) <;> (try (exfalso; omega)))
      | refine thenQ_n ?_
      | refine thenQ_e ?_
      | refine thenQ_r ?_
      | refine outQ_n ?_
      | refine outQ_r ?_
      | refine outQ_e ?_
      | refine outQ_d (by decide) ?_
    exact ⟨.inr rfl, [_], rfl, 1, by rw [tuple_one]; simp (disch := first | decide | omega | assumption | exact plain_int _ _ | exact plain_ints _ | exact plain_bool _ | exact one_int _ _ | exact plain_des _ | exact plain_rows _) only [AM, initTm, Nat.reduceAdd, Nat.reduceEqDiff, reduceCtorEq], .few (.inl hp1)⟩
  by_cases hp2 : d.points > 40
  · repeat' first
      | refine W_seq ?_
      | refine W_skip ?_
      | refine W_exit ?_
      | refine W_ret ?_
      | refine W_block ?_
      | (refine W_ops (by simp (disch := first | decide | omega | assumption | exact plain_int _ _ | exact plain_ints _ | exact plain_bool _ | exact one_int _ _ | exact plain_des _ | exact plain_rows _) only [AM, initTm, Nat.reduceAdd, Nat.reduceEqDiff, reduceCtorEq, hfa, hld, hp1, hp2]; rfl) ?_)
      | (refine W_cond (by simp (disch := first | decide | omega | assumption | exact plain_int _ _ | exact plain_ints _ | exact plain_bool _ | exact one_int _ _ | exact plain_des _ | exact plain_rows _) only [AM, initTm, Nat.reduceAdd, Nat.reduceEqDiff, reduceCtorEq, hfa, hld, hp1, hp2]; rfl) ?_ ?_ <;> intro hcond <;> (try simp only [decide_eq_true_eq, decide_eq_false_iff_not, beq_iff_eq, beq_eq_false_iff_ne, ne_eq, reduceCtorEq, Bool.not_eq_true', Bool.not_eq_false', bne_iff_ne, bne_eq_false_iff_eq] at hcond) <;> (try (exfalso; omega)))
      | refine thenQ_n ?_
      | refine thenQ_e ?_
      | refine thenQ_r ?_
      | refine outQ_n ?_
      | refine outQ_r ?_
      | refine outQ_e ?_
      | refine outQ_d (by decide) ?_
    exact ⟨.inr rfl, [_], rfl, 1, by rw [tuple_one]; simp (disch := first | decide | omega | assumption | exact plain_int _ _ | exact plain_ints _ | exact plain_bool _ | exact one_int _ _ | exact plain_des _ | exact plain_rows _) only [AM, initTm, Nat.reduceAdd, Nat.reduceEqDiff, reduceCtorEq], .few (.inr hp2)⟩
  have hp : ¬ (d.points < 1 ∨ 40 < d.points) := by omega
  repeat' first
    | refine W_seq ?_
    | refine W_skip ?_
    | refine W_exit ?_
    | refine W_ret ?_
    | refine W_block ?_
    | (refine W_ops (by simp (disch := first | decide | omega | assumption | exact plain_int _ _ | exact plain_ints _ | exact plain_bool _ | exact one_int _ _ | exact plain_des _ | exact plain_rows _) only [AM, initTm, Nat.reduceAdd, Nat.reduceEqDiff, reduceCtorEq, hfa, hld, hp1, hp2]; rfl) ?_)
    | (refine W_cond (by simp (disch := first | decide | omega | assumption | exact plain_int _ _ | exact plain_ints _ | exact plain_bool _ | exact one_int _ _ | exact plain_des _ | exact plain_rows _) only [AM, initTm, Nat.reduceAdd, Nat.reduceEqDiff, reduceCtorEq, hfa, hld, hp1, hp2]; rfl) ?_ ?_ <;> intro hcond <;> (try simp only [decide_eq_true_eq, decide_eq_false_iff_not, beq_iff_eq, beq_eq_false_iff_ne, ne_eq, reduceCtorEq, Bool.not_eq_true', Bool.not_eq_false', bne_iff_ne, bne_eq_false_iff_eq] at hcond) <;> (try (exfalso; omega)))
    | refine thenQ_n ?_
    | refine thenQ_e ?_
    | refine thenQ_r ?_
    | refine outQ_n ?_
    | refine outQ_r ?_
    | refine outQ_e ?_
    | refine outQ_d (by decide) ?_
  · exact ⟨.inr rfl, [_], rfl, 3, by rw [tuple_one]; simp (disch := first | decide | omega | assumption | exact plain_int _ _ | exact plain_ints _ | exact plain_bool _ | exact one_int _ _ | exact plain_des _ | exact plain_rows _) only [AM, initTm, Nat.reduceAdd, Nat.reduceEqDiff, reduceCtorEq], .full hp (by omega)⟩
  refine W_loop (k := d.rows.length) (fun k s => ∃ (i : Nat) (tm : Tm), s = ⟨tm, [⟨d.cells, 2, 24, .live⟩], 0⟩ ∧ tm.get 1 = .ptr 0 2 0 ∧ tm.get 3 = .int .i64 i ∧ i ≤ d.rows.length ∧ k = d.rows.length - i ∧ ∀ j, j < i → ¬ Out d.points ((d.rows.getD j none).getD []) ∧ ¬ Down ((d.rows.getD j none).getD [])) ⟨0, _, rfl, by simp (disch := first | decide | omega | assumption | exact plain_int _ _ | exact plain_ints _ | exact plain_bool _ | exact one_int _ _ | exact plain_des _ | exact plain_rows _) only [AM, initTm, Nat.reduceAdd, Nat.reduceEqDiff, reduceCtorEq], by simp (disch := first | decide | omega | assumption | exact plain_int _ _ | exact plain_ints _ | exact plain_bool _ | exact one_int _ _ | exact plain_des _ | exact plain_rows _) only [AM, initTm, Nat.reduceAdd, Nat.reduceEqDiff, reduceCtorEq]; rfl, Nat.zero_le _, rfl, fun j hj => by omega⟩ ?_
  rintro k s ⟨i, tm, rfl, h1, h3, hi, rfl, hx⟩
  repeat' first
    | refine W_seq ?_
    | refine W_skip ?_
    | refine W_exit ?_
    | refine W_ret ?_
    | refine W_block ?_
    | (refine W_ops (by simp (disch := first | decide | omega | assumption | exact plain_int _ _ | exact plain_ints _ | exact plain_bool _ | exact one_int _ _ | exact plain_des _ | exact plain_rows _) only [AM, initTm, Nat.reduceAdd, Nat.reduceEqDiff, reduceCtorEq, h1, h3, hfa, hld]; rfl) ?_)
    | (refine W_cond (by simp (disch := first | decide | omega | assumption | exact plain_int _ _ | exact plain_ints _ | exact plain_bool _ | exact one_int _ _ | exact plain_des _ | exact plain_rows _) only [AM, initTm, Nat.reduceAdd, Nat.reduceEqDiff, reduceCtorEq, h1, h3, hfa, hld]; rfl) ?_ ?_ <;> intro hcond <;> (try simp only [decide_eq_true_eq, decide_eq_false_iff_not, beq_iff_eq, beq_eq_false_iff_ne, ne_eq, reduceCtorEq, Bool.not_eq_true', Bool.not_eq_false', bne_iff_ne, bne_eq_false_iff_eq] at hcond) <;> (try (exfalso; omega)))
    | refine thenQ_n ?_
    | refine thenQ_e ?_
    | refine thenQ_r ?_
    | refine outQ_n ?_
    | refine outQ_r ?_
    | refine outQ_e ?_
    | refine outQ_d (by decide) ?_
  · have hri := hd.r i
    generalize hro : d.rows.getD i none = ro at *
    refine W_loop (k := (ro.getD []).length) (fun k s => ∃ (j : Nat) (tm : Tm), s = ⟨tm, [⟨d.cells, 2, 24, .live⟩], 0⟩ ∧ tm.get 1 = .ptr 0 2 0 ∧ tm.get 3 = .int .i64 i ∧ tm.get 4 = ints ro ∧ tm.get 5 = .int .i64 j ∧ j ≤ (ro.getD []).length ∧ k = (ro.getD []).length - j ∧ ∀ m, m < j → ¬ ((ro.getD []).getD m 0 < 0 ∨ d.points ≤ (ro.getD []).getD m 0)) ⟨0, _, rfl, by simp (disch := first | decide | omega | assumption | exact plain_int _ _ | exact plain_ints _ | exact plain_bool _ | exact one_int _ _ | exact plain_des _ | exact plain_rows _) only [AM, initTm, Nat.reduceAdd, Nat.reduceEqDiff, reduceCtorEq, h1], by simp (disch := first | decide | omega | assumption | exact plain_int _ _ | exact plain_ints _ | exact plain_bool _ | exact one_int _ _ | exact plain_des _ | exact plain_rows _) only [AM, initTm, Nat.reduceAdd, Nat.reduceEqDiff, reduceCtorEq, h3], by simp (disch := first | decide | omega | assumption | exact plain_int _ _ | exact plain_ints _ | exact plain_bool _ | exact one_int _ _ | exact plain_des _ | exact plain_rows _) only [AM, initTm, Nat.reduceAdd, Nat.reduceEqDiff, reduceCtorEq, hro], by simp (disch := first | decide | omega | assumption | exact plain_int _ _ | exact plain_ints _ | exact plain_bool _ | exact one_int _ _ | exact plain_des _ | exact plain_rows _) only [AM, initTm, Nat.reduceAdd, Nat.reduceEqDiff, reduceCtorEq]; rfl, Nat.zero_le _, rfl, fun m hm => by omega⟩ ?_
    have hin : i < d.rows.length := by omega
    rintro k s ⟨j, tm', rfl, g1, g3, g4, g5, hj, rfl, hm⟩
    by_cases hlt : (j : Int) < ((ro.getD []).length : Int)
    · by_cases hneg : (ro.getD []).getD j 0 < 0
      · repeat' first
          | refine W_seq ?_
          | refine W_skip ?_
          | refine W_exit ?_
          | refine W_ret ?_
          | refine W_block ?_
          | (refine W_ops (by simp (disch := first | decide | omega | assumption | exact plain_int _ _ | exact plain_ints _ | exact plain_bool _ | exact one_int _ _ | exact plain_des _ | exact plain_rows _) only [AM, initTm, Nat.reduceAdd, Nat.reduceEqDiff, reduceCtorEq, g1, g3, g4, g5, hfa, hld, hneg, hlt]; rfl) ?_)
          | (refine W_cond (by simp (disch := first | decide | omega | assumption | exact plain_int _ _ | exact plain_ints _ | exact plain_bool _ | exact one_int _ _ | exact plain_des _ | exact plain_rows _) only [AM, initTm, Nat.reduceAdd, Nat.reduceEqDiff, reduceCtorEq, g1, g3, g4, g5, hfa, hld, hneg, hlt]; rfl) ?_ ?_ <;> intro hcond <;> (try simp only [decide_eq_true_eq, decide_eq_false_iff_not, beq_iff_eq, beq_eq_false_iff_ne, ne_eq, reduceCtorEq, Bool.not_eq_true', Bool.not_eq_false', bne_iff_ne, bne_eq_false_iff_eq] at hcond) <;> (try (exfalso; omega)))
          | refine thenQ_n ?_
          | refine thenQ_e ?_
          | refine thenQ_r ?_
          | refine outQ_n ?_
          | refine outQ_r ?_
          | refine outQ_e ?_
          | refine outQ_d (by decide) ?_
        exact ⟨.inr rfl, [_], rfl, 1, by rw [tuple_one]; simp (disch := first | decide | omega | assumption | exact plain_int _ _ | exact plain_ints _ | exact plain_bool _ | exact one_int _ _ | exact plain_des _ | exact plain_rows _) only [AM, initTm, Nat.reduceAdd, Nat.reduceEqDiff, reduceCtorEq], .out hp (by omega) i hin hx (by rw [hro]; exact ⟨j, by omega, .inl hneg⟩)⟩
      · repeat' first
          | refine W_seq ?_
          | refine W_skip ?_
          | refine W_exit ?_
          | refine W_ret ?_
          | refine W_block ?_
          | (refine W_ops (by simp (disch := first | decide | omega | assumption | exact plain_int _ _ | exact plain_ints _ | exact plain_bool _ | exact one_int _ _ | exact plain_des _ | exact plain_rows _) only [AM, initTm, Nat.reduceAdd, Nat.reduceEqDiff, reduceCtorEq, g1, g3, g4, g5, hfa, hld, hneg, hlt]; rfl) ?_)
          | (refine W_cond (by simp (disch := first | decide | omega | assumption | exact plain_int _ _ | exact plain_ints _ | exact plain_bool _ | exact one_int _ _ | exact plain_des _ | exact plain_rows _) only [AM, initTm, Nat.reduceAdd, Nat.reduceEqDiff, reduceCtorEq, g1, g3, g4, g5, hfa, hld, hneg, hlt]; rfl) ?_ ?_ <;> intro hcond <;> (try simp only [decide_eq_true_eq, decide_eq_false_iff_not, beq_iff_eq, beq_eq_false_iff_ne, ne_eq, reduceCtorEq, Bool.not_eq_true', Bool.not_eq_false', bne_iff_ne, bne_eq_false_iff_eq] at hcond) <;> (try (exfalso; omega)))
          | refine thenQ_n ?_
          | refine thenQ_e ?_
          | refine thenQ_r ?_
          | refine outQ_n ?_
          | refine outQ_r ?_
          | refine outQ_e ?_
          | refine outQ_d (by decide) ?_
        · exact ⟨.inr rfl, [_], rfl, 1, by rw [tuple_one]; simp (disch := first | decide | omega | assumption | exact plain_int _ _ | exact plain_ints _ | exact plain_bool _ | exact one_int _ _ | exact plain_des _ | exact plain_rows _) only [AM, initTm, Nat.reduceAdd, Nat.reduceEqDiff, reduceCtorEq], .out hp (by omega) i hin hx (by rw [hro]; exact ⟨j, by omega, .inr (by omega)⟩)⟩
        · exact ⟨(ro.getD []).length - (j + 1), by omega, j + 1, _, rfl, by simp (disch := first | decide | omega | assumption | exact plain_int _ _ | exact plain_ints _ | exact plain_bool _ | exact one_int _ _ | exact plain_des _ | exact plain_rows _) only [AM, initTm, Nat.reduceAdd, Nat.reduceEqDiff, reduceCtorEq, g1], by simp (disch := first | decide | omega | assumption | exact plain_int _ _ | exact plain_ints _ | exact plain_bool _ | exact one_int _ _ | exact plain_des _ | exact plain_rows _) only [AM, initTm, Nat.reduceAdd, Nat.reduceEqDiff, reduceCtorEq, g3], by simp (disch := first | decide | omega | assumption | exact plain_int _ _ | exact plain_ints _ | exact plain_bool _ | exact one_int _ _ | exact plain_des _ | exact plain_rows _) only [AM, initTm, Nat.reduceAdd, Nat.reduceEqDiff, reduceCtorEq, g4], by simp (disch := first | decide | omega | assumption | exact plain_int _ _ | exact plain_ints _ | exact plain_bool _ | exact one_int _ _ | exact plain_des _ | exact plain_rows _) only [AM, initTm, Nat.reduceAdd, Nat.reduceEqDiff, reduceCtorEq]; rfl, by omega, rfl, fun m hm' => by
            by_cases e : m = j
            · subst e; omega
            · exact hm m (by omega)⟩
    · repeat' first
        | refine W_seq ?_
        | refine W_skip ?_
        | refine W_exit ?_
        | refine W_ret ?_
        | refine W_block ?_
        | (refine W_ops (by simp (disch := first | decide | omega | assumption | exact plain_int _ _ | exact plain_ints _ | exact plain_bool _ | exact one_int _ _ | exact plain_des _ | exact plain_rows _) only [AM, initTm, Nat.reduceAdd, Nat.reduceEqDiff, reduceCtorEq, g1, g3, g4, g5, hfa, hld, hlt]; rfl) ?_)
        | (refine W_cond (by simp (disch := first | decide | omega | assumption | exact plain_int _ _ | exact plain_ints _ | exact plain_bool _ | exact one_int _ _ | exact plain_des _ | exact plain_rows _) only [AM, initTm, Nat.reduceAdd, Nat.reduceEqDiff, reduceCtorEq, g1, g3, g4, g5, hfa, hld, hlt]; rfl) ?_ ?_ <;> intro hcond <;> (try simp only [decide_eq_true_eq, decide_eq_false_iff_not, beq_iff_eq, beq_eq_false_iff_ne, ne_eq, reduceCtorEq, Bool.not_eq_true', Bool.not_eq_false', bne_iff_ne, bne_eq_false_iff_eq] at hcond) <;> (try (exfalso; omega)))
        | refine thenQ_n ?_
        | refine thenQ_e ?_
        | refine thenQ_r ?_
        | refine outQ_n ?_
        | refine outQ_r ?_
        | refine outQ_e ?_
        | refine outQ_d (by decide) ?_
      have hout : ¬ Out d.points (ro.getD []) := fun ⟨m, h1, h2⟩ => hm m (by omega) h2
      refine W_loop (k := (ro.getD []).length - 1) (fun k s => ∃ (j : Nat) (tm : Tm), s = ⟨tm, [⟨d.cells, 2, 24, .live⟩], 0⟩ ∧ tm.get 1 = .ptr 0 2 0 ∧ tm.get 3 = .int .i64 i ∧ tm.get 4 = ints ro ∧ tm.get 6 = .int .i64 j ∧ 1 ≤ j ∧ k = (ro.getD []).length - j ∧ j ≤ (ro.getD []).length + 1 ∧ ∀ m, 1 ≤ m → m < j → m < (ro.getD []).length → ¬ ((ro.getD []).getD m 0 ≤ (ro.getD []).getD (m - 1) 0)) ⟨1, _, rfl, by simp (disch := first | decide | omega | assumption | exact plain_int _ _ | exact plain_ints _ | exact plain_bool _ | exact one_int _ _ | exact plain_des _ | exact plain_rows _) only [AM, initTm, Nat.reduceAdd, Nat.reduceEqDiff, reduceCtorEq, g1], by simp (disch := first | decide | omega | assumption | exact plain_int _ _ | exact plain_ints _ | exact plain_bool _ | exact one_int _ _ | exact plain_des _ | exact plain_rows _) only [AM, initTm, Nat.reduceAdd, Nat.reduceEqDiff, reduceCtorEq, g3], by simp (disch := first | decide | omega | assumption | exact plain_int _ _ | exact plain_ints _ | exact plain_bool _ | exact one_int _ _ | exact plain_des _ | exact plain_rows _) only [AM, initTm, Nat.reduceAdd, Nat.reduceEqDiff, reduceCtorEq, g4], by simp (disch := first | decide | omega | assumption | exact plain_int _ _ | exact plain_ints _ | exact plain_bool _ | exact one_int _ _ | exact plain_des _ | exact plain_rows _) only [AM, initTm, Nat.reduceAdd, Nat.reduceEqDiff, reduceCtorEq]; rfl, Nat.le_refl _, rfl, by omega, fun m h1 h2 => by omega⟩ ?_
      rintro k s ⟨j, tm', rfl, g1, g3, g4, g6, hj, rfl, hj1, hm⟩
      have ej : ((j : Int) - 1).toNat = j - 1 := by omega
      repeat' first
        | refine W_seq ?_
        | refine W_skip ?_
        | refine W_exit ?_
        | refine W_ret ?_
        | refine W_block ?_
        | (refine W_ops (by simp (disch := first | decide | omega | assumption | exact plain_int _ _ | exact plain_ints _ | exact plain_bool _ | exact one_int _ _ | exact plain_des _ | exact plain_rows _) only [AM, initTm, Nat.reduceAdd, Nat.reduceEqDiff, reduceCtorEq, g1, g3, g4, g6, hfa, hld, ej]; rfl) ?_)
        | (refine W_cond (by simp (disch := first | decide | omega | assumption | exact plain_int _ _ | exact plain_ints _ | exact plain_bool _ | exact one_int _ _ | exact plain_des _ | exact plain_rows _) only [AM, initTm, Nat.reduceAdd, Nat.reduceEqDiff, reduceCtorEq, g1, g3, g4, g6, hfa, hld, ej]; rfl) ?_ ?_ <;> intro hcond <;> (try simp only [decide_eq_true_eq, decide_eq_false_iff_not, beq_iff_eq, beq_eq_false_iff_ne, ne_eq, reduceCtorEq, Bool.not_eq_true', Bool.not_eq_false', bne_iff_ne, bne_eq_false_iff_eq] at hcond) <;> (try (exfalso; omega)))
        | refine thenQ_n ?_
        | refine thenQ_e ?_
        | refine thenQ_r ?_
        | refine outQ_n ?_
        | refine outQ_r ?_
        | refine outQ_e ?_
        | refine outQ_d (by decide) ?_
      · exact ⟨.inr rfl, [_], rfl, 2, by rw [tuple_one]; simp (disch := first | decide | omega | assumption | exact plain_int _ _ | exact plain_ints _ | exact plain_bool _ | exact one_int _ _ | exact plain_des _ | exact plain_rows _) only [AM, initTm, Nat.reduceAdd, Nat.reduceEqDiff, reduceCtorEq], .down hp (by omega) i hin hx (by rw [hro]; exact hout) (by rw [hro]; exact ⟨j, hj, by omega, hcond⟩)⟩
      · exact ⟨(ro.getD []).length - (j + 1), by omega, j + 1, _, rfl, by simp (disch := first | decide | omega | assumption | exact plain_int _ _ | exact plain_ints _ | exact plain_bool _ | exact one_int _ _ | exact plain_des _ | exact plain_rows _) only [AM, initTm, Nat.reduceAdd, Nat.reduceEqDiff, reduceCtorEq, g1], by simp (disch := first | decide | omega | assumption | exact plain_int _ _ | exact plain_ints _ | exact plain_bool _ | exact one_int _ _ | exact plain_des _ | exact plain_rows _) only [AM, initTm, Nat.reduceAdd, Nat.reduceEqDiff, reduceCtorEq, g3], by simp (disch := first | decide | omega | assumption | exact plain_int _ _ | exact plain_ints _ | exact plain_bool _ | exact one_int _ _ | exact plain_des _ | exact plain_rows _) only [AM, initTm, Nat.reduceAdd, Nat.reduceEqDiff, reduceCtorEq, g4], by simp (disch := first | decide | omega | assumption | exact plain_int _ _ | exact plain_ints _ | exact plain_bool _ | exact one_int _ _ | exact plain_des _ | exact plain_rows _) only [AM, initTm, Nat.reduceAdd, Nat.reduceEqDiff, reduceCtorEq]; rfl, by omega, rfl, by omega, fun m h1 h2 h3 => by
          by_cases e : m = j
          · subst e; exact hcond
          · exact hm m h1 (by omega) h3⟩
      · exact ⟨d.rows.length - (i + 1), by omega, i + 1, _, rfl, by simp (disch := first | decide | omega | assumption | exact plain_int _ _ | exact plain_ints _ | exact plain_bool _ | exact one_int _ _ | exact plain_des _ | exact plain_rows _) only [AM, initTm, Nat.reduceAdd, Nat.reduceEqDiff, reduceCtorEq, g1], by simp (disch := first | decide | omega | assumption | exact plain_int _ _ | exact plain_ints _ | exact plain_bool _ | exact one_int _ _ | exact plain_des _ | exact plain_rows _) only [AM, initTm, Nat.reduceAdd, Nat.reduceEqDiff, reduceCtorEq]; rfl, by omega, rfl, fun m hm' => by
          by_cases e : m = i
          · subst e; rw [hro]; exact ⟨hout, fun ⟨q, q1, q2, q3⟩ => hm q q1 (by omega) q2 q3⟩
          · exact hx m (by omega)⟩
  · exact ⟨.inr rfl, [_], rfl, 0, by rw [tuple_one]; simp (disch := first | decide | omega | assumption | exact plain_int _ _ | exact plain_ints _ | exact plain_bool _ | exact one_int _ _ | exact plain_des _ | exact plain_rows _) only [AM, initTm, Nat.reduceAdd, Nat.reduceEqDiff, reduceCtorEq], .ok hp (by omega) (fun j hj => hx j (by omega))⟩
end
end Go.Am
