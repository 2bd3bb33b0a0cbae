/- The document's answers, on. -/
import Derived.Test.YtcibofbmennjpaaAmPl4
set_option linter.unusedVariables false
set_option linter.unusedSimpArgs false
namespace Go.Am

theorem Fault.one {d : Des} {e e' : Int} (h : Fault d e) (h' : Fault d e') : e = e' := by
  have lt : ∀ {i j : Nat}, (∀ m, m < i → ¬ Out d.points ((d.rows.getD m none).getD []) ∧ ¬ Down ((d.rows.getD m none).getD [])) → (Out d.points ((d.rows.getD j none).getD []) ∨ Down ((d.rows.getD j none).getD [])) → ¬ j < i := by
    intro i j hi hj hlt
    rcases hj with hj | hj
    · exact (hi j hlt).1 hj
    · exact (hi j hlt).2 hj
  cases h with
  | few h =>
    cases h' with
    | few => rfl
    | out h2 => exact rfl
    | _ h2 => exact absurd h h2
  | full h h2 =>
    cases h' with
    | full => rfl
    | few h' => exact absurd h' h
    | out _ h' => exact absurd h2 h'
    | down _ h' => exact absurd h2 h'
    | ok _ h' => exact absurd h2 h'
  | out h h2 i hi ok ho =>
    cases h' with
    | few h' => rfl
    | full _ h' => exact absurd h' h2
    | out => rfl
    | down _ _ j hj ok' hn hd =>
      have a := lt ok (.inr hd)
      have b := lt ok' (.inl ho)
      have : i = j := by omega
      subst this
      exact absurd ho hn
    | ok _ _ h' => exact absurd ho (h' i hi).1
  | down h h2 i hi ok hn hd =>
    cases h' with
    | few h' => exact absurd h' h
    | full _ h' => exact absurd h' h2
    | out _ _ j hj ok' ho =>
      have a := lt ok (.inl ho)
      have b := lt ok' (.inr hd)
      have : i = j := by omega
      subst this
      exact absurd ho hn
    | down => rfl
    | ok _ _ h' => exact absurd hd (h' i hi).2
  | ok h h2 ok =>
    cases h' with
    | few h' => exact absurd h' h
    | full _ h' => exact absurd h' h2
    | out _ _ j hj _ ho => exact absurd ho (ok j hj).1
    | down _ _ j hj _ _ hd => exact absurd hd (ok j hj).2
    | ok => rfl

section
variable {G : Nat → List AV} {F : Nat → Option MF}

/-- The answer about an arc: points out of range; points not ascending; else: no block has three. -/
def ArcAns (d : Des) (l : List Int) (b : Bool) (e : Int) : Prop :=
  (Out d.points l ∧ b = false ∧ e = 1) ∨ (¬ Out d.points l ∧ Down l ∧ b = false ∧ e = 2) ∨ (¬ Out d.points l ∧ ¬ Down l ∧ b = !(d.bl.any fun x => decide (2 < together l x)) ∧ e = 0)

theorem pcall_ArcOf (hF : F 7 = some mf7) (hLi : F 18 = some mf18) (hT : F 32 = some mf32) (hL : F 31 = some mf31) (d : Des) (hd : d.Ok) (p : Option (List Int)) (hp : (p.getD []).length < 9223372036854775808) :
    ∃ v, pcall F (E G F) 7 [d.av, ints p] = some (.val v, false) ∧ ∃ b e, v = .tup [.bool b, .int .i64 e] ∧ ArcAns d (p.getD []) b e := by
  have hH : Has [⟨d.cells, 2, 24, .live⟩] 0 d.cells := Has.new _ _ _
  have hfa := fun tm rb o off => hH.faddr tm rb 2 o off rfl
  have hld := fun tm rb off => hH.ld1 tm rb 2 off rfl
  have hldn : ∀ tm rb, ldnV ⟨tm, [⟨d.cells, 2, 24, .live⟩], rb⟩ 2 (.ptr 0 2 0) = some d.av := fun tm rb => hH.ldn tm rb 2 rfl
  have hlined := pcall_lined (G := G) hLi hT hL d hd p hp
  refine pcall_ex hF (fun v ⟨b, e, he, _⟩ => he ▸ ⟨fun _ _ h => (by cases h), fun _ => rfl, fun _ => rfl⟩) ?_
  unfold mf7
  simp only
  repeat' first
    | refine W_seq ?_
    | refine W_skip ?_
    | refine W_exit ?_
    | refine W_ret ?_
    | refine W_block ?_
    | (refine W_ops (by simp (disch := first | decide | omega | assumption | exact plain_int _ _ | exact plain_ints _ | exact plain_bool _ | exact one_int _ _ | exact plain_des _ | exact plain_rows _) only [AM, initTm, Nat.reduceAdd, Nat.reduceEqDiff, reduceCtorEq, hfa, hld]; rfl) ?_)
    | (refine W_cond (by simp (disch := first | decide | omega | assumption | exact plain_int _ _ | exact plain_ints _ | exact plain_bool _ | exact one_int _ _ | exact plain_des _ | exact plain_rows _) only [AM, initTm, Nat.reduceAdd, Nat.reduceEqDiff, reduceCtorEq, hfa, hld]; rfl) ?_ ?_ <;> intro hcond <;> (try simp only [decide_eq_true_eq, decide_eq_false_iff_not, beq_iff_eq, beq_eq_false_iff_ne, ne_eq, reduceCtorEq, Bool.not_eq_true', Bool.not_eq_false', bne_iff_ne, bne_eq_false_iff_eq] at hcond) <;> (try (exfalso; omega)))
    | refine thenQ_n ?_
    | refine thenQ_e ?_
    | refine thenQ_r ?_
    | refine outQ_n ?_
    | refine outQ_r ?_
    | refine outQ_e ?_
    | refine outQ_d (by decide) ?_
  refine W_loop (k := (p.getD []).length) (fun k s => ∃ (j : Nat) (tm : Tm), s = ⟨tm, [⟨d.cells, 2, 24, .live⟩], 0⟩ ∧ tm.get 1 = ints p ∧ tm.get 2 = .ptr 0 2 0 ∧ tm.get 6 = .int .i64 j ∧ j ≤ (p.getD []).length ∧ k = (p.getD []).length - j ∧ ∀ m, m < j → ¬ ((p.getD []).getD m 0 < 0 ∨ d.points ≤ (p.getD []).getD m 0)) ⟨0, _, rfl, by simp (disch := first | decide | omega | assumption | exact plain_int _ _ | exact plain_ints _ | exact plain_bool _ | exact one_int _ _ | exact plain_des _ | exact plain_rows _) only [AM, initTm, Nat.reduceAdd, Nat.reduceEqDiff, reduceCtorEq], by simp (disch := first | decide | omega | assumption | exact plain_int _ _ | exact plain_ints _ | exact plain_bool _ | exact one_int _ _ | exact plain_des _ | exact plain_rows _) only [AM, initTm, Nat.reduceAdd, Nat.reduceEqDiff, reduceCtorEq], by simp (disch := first | decide | omega | assumption | exact plain_int _ _ | exact plain_ints _ | exact plain_bool _ | exact one_int _ _ | exact plain_des _ | exact plain_rows _) only [AM, initTm, Nat.reduceAdd, Nat.reduceEqDiff, reduceCtorEq]; rfl, Nat.zero_le _, rfl, fun m hm => by omega⟩ ?_
  rintro k s ⟨j, tm, rfl, g1, g2, g6, hj, rfl, hm⟩
  by_cases hlt : (j : Int) < ((p.getD []).length : Int)
  · by_cases hneg : (p.getD []).getD j 0 < 0
    · repeat' first
        | refine W_seq ?_
        | refine W_skip ?_
        | refine W_exit ?_
        | refine W_ret ?_
        | refine W_block ?_
        | (refine W_ops (by simp (disch := first | decide | omega | assumption | exact plain_int _ _ | exact plain_ints _ | exact plain_bool _ | exact one_int _ _ | exact plain_des _ | exact plain_rows _) only [AM, initTm, Nat.reduceAdd, Nat.reduceEqDiff, reduceCtorEq, g1, g2, g6, hfa, hld, hneg, hlt]; rfl) ?_)
        | (refine W_cond (by simp (disch := first | decide | omega | assumption | exact plain_int _ _ | exact plain_ints _ | exact plain_bool _ | exact one_int _ _ | exact plain_des _ | exact plain_rows _) only [AM, initTm, Nat.reduceAdd, Nat.reduceEqDiff, reduceCtorEq, g1, g2, g6, hfa, hld, hneg, hlt]; rfl) ?_ ?_ <;> intro hcond <;> (try simp only [decide_eq_true_eq, decide_eq_false_iff_not, beq_iff_eq, beq_eq_false_iff_ne, ne_eq, reduceCtorEq, Bool.not_eq_true', Bool.not_eq_false', bne_iff_ne, bne_eq_false_iff_eq] at hcond) <;> (try (exfalso; omega)))
        | refine thenQ_n ?_
        | refine thenQ_e ?_
        | refine thenQ_r ?_
        | refine outQ_n ?_
        | refine outQ_r ?_
        | refine outQ_e ?_
        | refine outQ_d (by decide) ?_
      exact ⟨.inr rfl, [_, _], rfl, false, 1, by unfold tuple; simp (disch := first | decide | omega | assumption | exact plain_int _ _ | exact plain_ints _ | exact plain_bool _ | exact one_int _ _ | exact plain_des _ | exact plain_rows _) only [AM, initTm, Nat.reduceAdd, Nat.reduceEqDiff, reduceCtorEq], .inl ⟨⟨j, by omega, .inl hneg⟩, rfl, rfl⟩⟩
    · repeat' first
        | refine W_seq ?_
        | refine W_skip ?_
        | refine W_exit ?_
        | refine W_ret ?_
        | refine W_block ?_
        | (refine W_ops (by simp (disch := first | decide | omega | assumption | exact plain_int _ _ | exact plain_ints _ | exact plain_bool _ | exact one_int _ _ | exact plain_des _ | exact plain_rows _) only [AM, initTm, Nat.reduceAdd, Nat.reduceEqDiff, reduceCtorEq, g1, g2, g6, hfa, hld, hneg, hlt]; rfl) ?_)
        | (refine W_cond (by simp (disch := first | decide | omega | assumption | exact plain_int _ _ | exact plain_ints _ | exact plain_bool _ | exact one_int _ _ | exact plain_des _ | exact plain_rows _) only [AM, initTm, Nat.reduceAdd, Nat.reduceEqDiff, reduceCtorEq, g1, g2, g6, hfa, hld, hneg, hlt]; rfl) ?_ ?_ <;> intro hcond <;> (try simp only [decide_eq_true_eq, decide_eq_false_iff_not, beq_iff_eq, beq_eq_false_iff_ne, ne_eq, reduceCtorEq, Bool.not_eq_true', Bool.not_eq_false', bne_iff_ne, bne_eq_false_iff_eq] at hcond) <;> (try (exfalso; omega)))
        | refine thenQ_n ?_
        | refine thenQ_e ?_
        | refine thenQ_r ?_
        | refine outQ_n ?_
        | refine outQ_r ?_
        | refine outQ_e ?_
        | refine outQ_d (by decide) ?_
      · exact ⟨.inr rfl, [_, _], rfl, false, 1, by unfold tuple; simp (disch := first | decide | omega | assumption | exact plain_int _ _ | exact plain_ints _ | exact plain_bool _ | exact one_int _ _ | exact plain_des _ | exact plain_rows _) only [AM, initTm, Nat.reduceAdd, Nat.reduceEqDiff, reduceCtorEq], .inl ⟨⟨j, by omega, .inr (by omega)⟩, rfl, rfl⟩⟩
      · exact ⟨(p.getD []).length - (j + 1), by omega, j + 1, _, rfl, by simp (disch := first | decide | omega | assumption | exact plain_int _ _ | exact plain_ints _ | exact plain_bool _ | exact one_int _ _ | exact plain_des _ | exact plain_rows _) only [AM, initTm, Nat.reduceAdd, Nat.reduceEqDiff, reduceCtorEq, g1], by simp (disch := first | decide | omega | assumption | exact plain_int _ _ | exact plain_ints _ | exact plain_bool _ | exact one_int _ _ | exact plain_des _ | exact plain_rows _) only [AM, initTm, Nat.reduceAdd, Nat.reduceEqDiff, reduceCtorEq, g2], by simp (disch := first | decide | omega | assumption | exact plain_int _ _ | exact plain_ints _ | exact plain_bool _ | exact one_int _ _ | exact plain_des _ | exact plain_rows _) only [AM, initTm, Nat.reduceAdd, Nat.reduceEqDiff, reduceCtorEq]; rfl, by omega, rfl, fun m hm' => by
          by_cases e : m = j
          · subst e; omega
          · exact hm m (by omega)⟩
  · repeat' first
      | refine W_seq ?_
      | refine W_skip ?_
      | refine W_exit ?_
      | refine W_ret ?_
      | refine W_block ?_
      | (refine W_ops (by simp (disch := first | decide | omega | assumption | exact plain_int _ _ | exact plain_ints _ | exact plain_bool _ | exact one_int _ _ | exact plain_des _ | exact plain_rows _) only [AM, initTm, Nat.reduceAdd, Nat.reduceEqDiff, reduceCtorEq, g1, g2, g6, hfa, hld, hlt]; rfl) ?_)
      | (refine W_cond (by simp (disch := first | decide | omega | assumption | exact plain_int _ _ | exact plain_ints _ | exact plain_bool _ | exact one_int _ _ | exact plain_des _ | exact plain_rows _) only [AM, initTm, Nat.reduceAdd, Nat.reduceEqDiff, reduceCtorEq, g1, g2, g6, hfa, hld, hlt]; rfl) ?_ ?_ <;> intro hcond <;> (try simp only [decide_eq_true_eq, decide_eq_false_iff_not, beq_iff_eq, beq_eq_false_iff_ne, ne_eq, reduceCtorEq, Bool.not_eq_true', Bool.not_eq_false', bne_iff_ne, bne_eq_false_iff_eq] at hcond) <;> (try (exfalso; omega)))
      | refine thenQ_n ?_
      | refine thenQ_e ?_
      | refine thenQ_r ?_
      | refine outQ_n ?_
      | refine outQ_r ?_
      | refine outQ_e ?_
      | refine outQ_d (by decide) ?_
    have hout : ¬ Out d.points (p.getD []) := fun ⟨m, h1, h2⟩ => hm m (by omega) h2
    refine W_loop (k := (p.getD []).length - 1) (fun k s => ∃ (j : Nat) (tm : Tm), s = ⟨tm, [⟨d.cells, 2, 24, .live⟩], 0⟩ ∧ tm.get 1 = ints p ∧ tm.get 2 = .ptr 0 2 0 ∧ tm.get 7 = .int .i64 j ∧ 1 ≤ j ∧ k = (p.getD []).length - j ∧ j ≤ (p.getD []).length + 1 ∧ ∀ m, 1 ≤ m → m < j → m < (p.getD []).length → ¬ ((p.getD []).getD m 0 ≤ (p.getD []).getD (m - 1) 0)) ⟨1, _, rfl, by simp (disch := first | decide | omega | assumption | exact plain_int _ _ | exact plain_ints _ | exact plain_bool _ | exact one_int _ _ | exact plain_des _ | exact plain_rows _) only [AM, initTm, Nat.reduceAdd, Nat.reduceEqDiff, reduceCtorEq, g1], by simp (disch := first | decide | omega | assumption | exact plain_int _ _ | exact plain_ints _ | exact plain_bool _ | exact one_int _ _ | exact plain_des _ | exact plain_rows _) only [AM, initTm, Nat.reduceAdd, Nat.reduceEqDiff, reduceCtorEq, g2], by simp (disch := first | decide | omega | assumption | exact plain_int _ _ | exact plain_ints _ | exact plain_bool _ | exact one_int _ _ | exact plain_des _ | exact plain_rows _) only [AM, initTm, Nat.reduceAdd, Nat.reduceEqDiff, reduceCtorEq]; rfl, Nat.le_refl _, rfl, by omega, fun m h1 h2 => by omega⟩ ?_
    rintro k s ⟨j, tm', rfl, g1, g2, g7, hj, rfl, hj1, hm⟩
    have ej : ((j : Int) - 1).toNat = j - 1 := by omega
    repeat' first
      | refine W_seq ?_
      | refine W_skip ?_
      | refine W_exit ?_
      | refine W_ret ?_
      | refine W_block ?_
      | (refine W_ops (by simp (disch := first | decide | omega | assumption | exact plain_int _ _ | exact plain_ints _ | exact plain_bool _ | exact one_int _ _ | exact plain_des _ | exact plain_rows _) only [AM, initTm, Nat.reduceAdd, Nat.reduceEqDiff, reduceCtorEq, g1, g2, g7, hfa, hld, hldn, hlined, ej]; rfl) ?_)
      | (refine W_cond (by simp (disch := first | decide | omega | assumption | exact plain_int _ _ | exact plain_ints _ | exact plain_bool _ | exact one_int _ _ | exact plain_des _ | exact plain_rows _) only [AM, initTm, Nat.reduceAdd, Nat.reduceEqDiff, reduceCtorEq, g1, g2, g7, hfa, hld, hldn, hlined, ej]; rfl) ?_ ?_ <;> intro hcond <;> (try simp only [decide_eq_true_eq, decide_eq_false_iff_not, beq_iff_eq, beq_eq_false_iff_ne, ne_eq, reduceCtorEq, Bool.not_eq_true', Bool.not_eq_false', bne_iff_ne, bne_eq_false_iff_eq] at hcond) <;> (try (exfalso; omega)))
      | refine thenQ_n ?_
      | refine thenQ_e ?_
      | refine thenQ_r ?_
      | refine outQ_n ?_
      | refine outQ_r ?_
      | refine outQ_e ?_
      | refine outQ_d (by decide) ?_
    · exact ⟨.inr rfl, [_, _], rfl, false, 2, by unfold tuple; simp (disch := first | decide | omega | assumption | exact plain_int _ _ | exact plain_ints _ | exact plain_bool _ | exact one_int _ _ | exact plain_des _ | exact plain_rows _) only [AM, initTm, Nat.reduceAdd, Nat.reduceEqDiff, reduceCtorEq], .inr (.inl ⟨hout, ⟨j, hj, by omega, hcond⟩, rfl, rfl⟩)⟩
    · exact ⟨(p.getD []).length - (j + 1), by omega, j + 1, _, rfl, by simp (disch := first | decide | omega | assumption | exact plain_int _ _ | exact plain_ints _ | exact plain_bool _ | exact one_int _ _ | exact plain_des _ | exact plain_rows _) only [AM, initTm, Nat.reduceAdd, Nat.reduceEqDiff, reduceCtorEq, g1], by simp (disch := first | decide | omega | assumption | exact plain_int _ _ | exact plain_ints _ | exact plain_bool _ | exact one_int _ _ | exact plain_des _ | exact plain_rows _) only [AM, initTm, Nat.reduceAdd, Nat.reduceEqDiff, reduceCtorEq, g2], by simp (disch := first | decide | omega | assumption | exact plain_int _ _ | exact plain_ints _ | exact plain_bool _ | exact one_int _ _ | exact plain_des _ | exact plain_rows _) only [AM, initTm, Nat.reduceAdd, Nat.reduceEqDiff, reduceCtorEq]; rfl, by omega, rfl, by omega, fun m h1 h2 h3 => by
        by_cases e : m = j
        · subst e; exact hcond
        · exact hm m h1 (by omega) h3⟩
    · exact ⟨.inr rfl, [_, _], rfl, _, 0, by unfold tuple; simp (disch := first | decide | omega | assumption | exact plain_int _ _ | exact plain_ints _ | exact plain_bool _ | exact one_int _ _ | exact plain_des _ | exact plain_rows _) only [AM, initTm, Nat.reduceAdd, Nat.reduceEqDiff, reduceCtorEq], .inr (.inr ⟨hout, fun ⟨q, q1, q2, q3⟩ => hm q q1 (by omega) q2 q3, rfl, rfl⟩)⟩

/-- The answer about a join: the first block that has both. -/
def JoinAns (d : Des) (p q : Int) (c e : Int) : Prop :=
  ((p < 0 ∨ d.points ≤ p ∨ q < 0 ∨ d.points ≤ q) ∧ c = 0 ∧ e = 1) ∨
  (¬ (p < 0 ∨ d.points ≤ p ∨ q < 0 ∨ d.points ≤ q) ∧ p = q ∧ c = 0 ∧ e = 6) ∨
  (¬ (p < 0 ∨ d.points ≤ p ∨ q < 0 ∨ d.points ≤ q) ∧ p ≠ q ∧
    ((∃ i : Nat, i < d.rows.length ∧ c = i ∧ e = 0 ∧ (p ∈ (d.rows.getD i none).getD [] ∧ q ∈ (d.rows.getD i none).getD []) ∧ ∀ j, j < i → ¬ (p ∈ (d.rows.getD j none).getD [] ∧ q ∈ (d.rows.getD j none).getD [])) ∨
     (c = 0 ∧ e = 4 ∧ ∀ j, j < d.rows.length → ¬ (p ∈ (d.rows.getD j none).getD [] ∧ q ∈ (d.rows.getD j none).getD []))))

theorem pcall_JoinOf (hF : F 11 = some mf11) (hL : F 31 = some mf31) (d : Des) (hd : d.Ok) (p q : Int) :
    ∃ v, pcall F (E G F) 11 [d.av, .int .i64 p, .int .i64 q] = some (.val v, false) ∧ ∃ c e, v = .tup [.int .i64 c, .int .i64 e] ∧ JoinAns d p q c e := by
  have hH : Has [⟨d.cells, 2, 24, .live⟩] 0 d.cells := Has.new _ _ _
  have hfa := fun tm rb o off => hH.faddr tm rb 2 o off rfl
  have hld := fun tm rb off => hH.ld1 tm rb 2 off rfl
  have hdn := hd.n
  refine pcall_ex hF (fun v ⟨b, e, he, _⟩ => he ▸ ⟨fun _ _ h => (by cases h), fun _ => rfl, fun _ => rfl⟩) ?_
  unfold mf11
  simp only
  by_cases p1 : p < 0
  · repeat' first
      | refine W_seq ?_
      | refine W_skip ?_
      | refine W_exit ?_
      | refine W_ret ?_
      | refine W_block ?_
      | (refine W_ops (by simp (disch := first | decide | omega | assumption | exact plain_int _ _ | exact plain_ints _ | exact plain_bool _ | exact one_int _ _ | exact plain_des _ | exact plain_rows _) only [AM, initTm, Nat.reduceAdd, Nat.reduceEqDiff, reduceCtorEq, hfa, hld, p1]; rfl) ?_)
      | (refine W_cond (by simp (disch := first | decide | omega | assumption | exact plain_int _ _ | exact plain_ints _ | exact plain_bool _ | exact one_int _ _ | exact plain_des _ | exact plain_rows _) only [AM, initTm, Nat.reduceAdd, Nat.reduceEqDiff, reduceCtorEq, hfa, hld, p1]; rfl) ?_ ?_ <;> intro hcond <;> (try simp only [decide_eq_true_eq, decide_eq_false_iff_not, beq_iff_eq, beq_eq_false_iff_ne, ne_eq, reduceCtorEq, Bool.not_eq_true', Bool.not_eq_false', bne_iff_ne, bne_eq_false_iff_eq] at hcond) <;> (try (exfalso; omega)))
      | refine thenQ_n ?_
      | refine thenQ_e ?_
      | refine thenQ_r ?_
      | refine outQ_n ?_
      | refine outQ_r ?_
      | refine outQ_e ?_
      | refine outQ_d (by decide) ?_
    exact ⟨.inr rfl, [_, _], rfl, 0, 1, by unfold tuple; simp (disch := first | decide | omega | assumption | exact plain_int _ _ | exact plain_ints _ | exact plain_bool _ | exact one_int _ _ | exact plain_des _ | exact plain_rows _) only [AM, initTm, Nat.reduceAdd, Nat.reduceEqDiff, reduceCtorEq], .inl ⟨by omega, rfl, rfl⟩⟩
  by_cases p2 : p ≥ d.points
  · repeat' first
      | refine W_seq ?_
      | refine W_skip ?_
      | refine W_exit ?_
      | refine W_ret ?_
      | refine W_block ?_
      | (refine W_ops (by simp (disch := first | decide | omega | assumption | exact plain_int _ _ | exact plain_ints _ | exact plain_bool _ | exact one_int _ _ | exact plain_des _ | exact plain_rows _) only [AM, initTm, Nat.reduceAdd, Nat.reduceEqDiff, reduceCtorEq, hfa, hld, p1, p2]; rfl) ?_)
      | (refine W_cond (by simp (disch := first | decide | omega | assumption | exact plain_int _ _ | exact plain_ints _ | exact plain_bool _ | exact one_int _ _ | exact plain_des _ | exact plain_rows _) only [AM, initTm, Nat.reduceAdd, Nat.reduceEqDiff, reduceCtorEq, hfa, hld, p1, p2]; rfl) ?_ ?_ <;> intro hcond <;> (try simp only [decide_eq_true_eq, decide_eq_false_iff_not, beq_iff_eq, beq_eq_false_iff_ne, ne_eq, reduceCtorEq, Bool.not_eq_true', Bool.not_eq_false', bne_iff_ne, bne_eq_false_iff_eq] at hcond) <;> (try (exfalso; omega)))
      | refine thenQ_n ?_
      | refine thenQ_e ?_
      | refine thenQ_r ?_
      | refine outQ_n ?_
      | refine outQ_r ?_
      | refine outQ_e ?_
      | refine outQ_d (by decide) ?_
    exact ⟨.inr rfl, [_, _], rfl, 0, 1, by unfold tuple; simp (disch := first | decide | omega | assumption | exact plain_int _ _ | exact plain_ints _ | exact plain_bool _ | exact one_int _ _ | exact plain_des _ | exact plain_rows _) only [AM, initTm, Nat.reduceAdd, Nat.reduceEqDiff, reduceCtorEq], .inl ⟨by omega, rfl, rfl⟩⟩
  by_cases q1 : q < 0
  · repeat' first
      | refine W_seq ?_
      | refine W_skip ?_
      | refine W_exit ?_
      | refine W_ret ?_
      | refine W_block ?_
      | (refine W_ops (by simp (disch := first | decide | omega | assumption | exact plain_int _ _ | exact plain_ints _ | exact plain_bool _ | exact one_int _ _ | exact plain_des _ | exact plain_rows _) only [AM, initTm, Nat.reduceAdd, Nat.reduceEqDiff, reduceCtorEq, hfa, hld, p1, p2, q1]; rfl) ?_)
      | (refine W_cond (by simp (disch := first | decide | omega | assumption | exact plain_int _ _ | exact plain_ints _ | exact plain_bool _ | exact one_int _ _ | exact plain_des _ | exact plain_rows _) only [AM, initTm, Nat.reduceAdd, Nat.reduceEqDiff, reduceCtorEq, hfa, hld, p1, p2, q1]; rfl) ?_ ?_ <;> intro hcond <;> (try simp only [decide_eq_true_eq, decide_eq_false_iff_not, beq_iff_eq, beq_eq_false_iff_ne, ne_eq, reduceCtorEq, Bool.not_eq_true', Bool.not_eq_false', bne_iff_ne, bne_eq_false_iff_eq] at hcond) <;> (try (exfalso; omega)))
      | refine thenQ_n ?_
      | refine thenQ_e ?_
      | refine thenQ_r ?_
      | refine outQ_n ?_
      | refine outQ_r ?_
      | refine outQ_e ?_
      | refine outQ_d (by decide) ?_
    exact ⟨.inr rfl, [_, _], rfl, 0, 1, by unfold tuple; simp (disch := first | decide | omega | assumption | exact plain_int _ _ | exact plain_ints _ | exact plain_bool _ | exact one_int _ _ | exact plain_des _ | exact plain_rows _) only [AM, initTm, Nat.reduceAdd, Nat.reduceEqDiff, reduceCtorEq], .inl ⟨by omega, rfl, rfl⟩⟩
  by_cases q2 : q ≥ d.points
  · repeat' first
      | refine W_seq ?_
      | refine W_skip ?_
      | refine W_exit ?_
      | refine W_ret ?_
      | refine W_block ?_
      | (refine W_ops (by simp (disch := first | decide | omega | assumption | exact plain_int _ _ | exact plain_ints _ | exact plain_bool _ | exact one_int _ _ | exact plain_des _ | exact plain_rows _) only [AM, initTm, Nat.reduceAdd, Nat.reduceEqDiff, reduceCtorEq, hfa, hld, p1, p2, q1, q2]; rfl) ?_)
      | (refine W_cond (by simp (disch := first | decide | omega | assumption | exact plain_int _ _ | exact plain_ints _ | exact plain_bool _ | exact one_int _ _ | exact plain_des _ | exact plain_rows _) only [AM, initTm, Nat.reduceAdd, Nat.reduceEqDiff, reduceCtorEq, hfa, hld, p1, p2, q1, q2]; rfl) ?_ ?_ <;> intro hcond <;> (try simp only [decide_eq_true_eq, decide_eq_false_iff_not, beq_iff_eq, beq_eq_false_iff_ne, ne_eq, reduceCtorEq, Bool.not_eq_true', Bool.not_eq_false', bne_iff_ne, bne_eq_false_iff_eq] at hcond) <;> (try (exfalso; omega)))
      | refine thenQ_n ?_
      | refine thenQ_e ?_
      | refine thenQ_r ?_
      | refine outQ_n ?_
      | refine outQ_r ?_
      | refine outQ_e ?_
      | refine outQ_d (by decide) ?_
    exact ⟨.inr rfl, [_, _], rfl, 0, 1, by unfold tuple; simp (disch := first | decide | omega | assumption | exact plain_int _ _ | exact plain_ints _ | exact plain_bool _ | exact one_int _ _ | exact plain_des _ | exact plain_rows _) only [AM, initTm, Nat.reduceAdd, Nat.reduceEqDiff, reduceCtorEq], .inl ⟨by omega, rfl, rfl⟩⟩
  have hin : ¬ (p < 0 ∨ d.points ≤ p ∨ q < 0 ∨ d.points ≤ q) := by omega
  repeat' first
    | refine W_seq ?_
    | refine W_skip ?_
    | refine W_exit ?_
    | refine W_ret ?_
    | refine W_block ?_
    | (refine W_ops (by simp (disch := first | decide | omega | assumption | exact plain_int _ _ | exact plain_ints _ | exact plain_bool _ | exact one_int _ _ | exact plain_des _ | exact plain_rows _) only [AM, initTm, Nat.reduceAdd, Nat.reduceEqDiff, reduceCtorEq, hfa, hld, p1, p2, q1, q2]; rfl) ?_)
    | (refine W_cond (by simp (disch := first | decide | omega | assumption | exact plain_int _ _ | exact plain_ints _ | exact plain_bool _ | exact one_int _ _ | exact plain_des _ | exact plain_rows _) only [AM, initTm, Nat.reduceAdd, Nat.reduceEqDiff, reduceCtorEq, hfa, hld, p1, p2, q1, q2]; rfl) ?_ ?_ <;> intro hcond <;> (try simp only [decide_eq_true_eq, decide_eq_false_iff_not, beq_iff_eq, beq_eq_false_iff_ne, ne_eq, reduceCtorEq, Bool.not_eq_true', Bool.not_eq_false', bne_iff_ne, bne_eq_false_iff_eq] at hcond) <;> (try (exfalso; omega)))
    | refine thenQ_n ?_
    | refine thenQ_e ?_
    | refine thenQ_r ?_
    | refine outQ_n ?_
    | refine outQ_r ?_
    | refine outQ_e ?_
    | refine outQ_d (by decide) ?_
  · exact ⟨.inr rfl, [_, _], rfl, 0, 6, by unfold tuple; simp (disch := first | decide | omega | assumption | exact plain_int _ _ | exact plain_ints _ | exact plain_bool _ | exact one_int _ _ | exact plain_des _ | exact plain_rows _) only [AM, initTm, Nat.reduceAdd, Nat.reduceEqDiff, reduceCtorEq], .inr (.inl ⟨hin, hcond, rfl, rfl⟩)⟩
  have hne : p ≠ q := hcond
  refine W_loop (k := d.rows.length) (fun k s => ∃ (i : Nat) (tm : Tm), s = ⟨tm, [⟨d.cells, 2, 24, .live⟩], 0⟩ ∧ tm.get 1 = .int .i64 p ∧ tm.get 2 = .int .i64 q ∧ tm.get 3 = .ptr 0 2 0 ∧ tm.get 8 = .int .i64 i ∧ i ≤ d.rows.length ∧ k = d.rows.length - i ∧ ∀ j, j < i → ¬ (p ∈ (d.rows.getD j none).getD [] ∧ q ∈ (d.rows.getD j none).getD [])) ⟨0, _, rfl, by simp (disch := first | decide | omega | assumption | exact plain_int _ _ | exact plain_ints _ | exact plain_bool _ | exact one_int _ _ | exact plain_des _ | exact plain_rows _) only [AM, initTm, Nat.reduceAdd, Nat.reduceEqDiff, reduceCtorEq], by simp (disch := first | decide | omega | assumption | exact plain_int _ _ | exact plain_ints _ | exact plain_bool _ | exact one_int _ _ | exact plain_des _ | exact plain_rows _) only [AM, initTm, Nat.reduceAdd, Nat.reduceEqDiff, reduceCtorEq], by simp (disch := first | decide | omega | assumption | exact plain_int _ _ | exact plain_ints _ | exact plain_bool _ | exact one_int _ _ | exact plain_des _ | exact plain_rows _) only [AM, initTm, Nat.reduceAdd, Nat.reduceEqDiff, reduceCtorEq], by simp (disch := first | decide | omega | assumption | exact plain_int _ _ | exact plain_ints _ | exact plain_bool _ | exact one_int _ _ | exact plain_des _ | exact plain_rows _) only [AM, initTm, Nat.reduceAdd, Nat.reduceEqDiff, reduceCtorEq]; rfl, Nat.zero_le _, rfl, fun j hj => by omega⟩ ?_
  rintro k s ⟨i, tm, rfl, g1, g2, g3, g8, hi, rfl, hx⟩
  have hlp := Lies_spec (G := G) hL (d.rows.getD i none) p (hd.r i)
  have hlq := Lies_spec (G := G) hL (d.rows.getD i none) q (hd.r i)
  by_cases hlt : (i : Int) < (d.rows.length : Int)
  · by_cases hp : p ∈ (d.rows.getD i none).getD []
    · repeat' first
        | refine W_seq ?_
        | refine W_skip ?_
        | refine W_exit ?_
        | refine W_ret ?_
        | refine W_block ?_
        | (refine W_ops (by simp (disch := first | decide | omega | assumption | exact plain_int _ _ | exact plain_ints _ | exact plain_bool _ | exact one_int _ _ | exact plain_des _ | exact plain_rows _) only [AM, initTm, Nat.reduceAdd, Nat.reduceEqDiff, reduceCtorEq, g1, g2, g3, g8, hfa, hld, hlt, hlp, hlq, hp]; rfl) ?_)
        | (refine W_cond (by simp (disch := first | decide | omega | assumption | exact plain_int _ _ | exact plain_ints _ | exact plain_bool _ | exact one_int _ _ | exact plain_des _ | exact plain_rows _) only [AM, initTm, Nat.reduceAdd, Nat.reduceEqDiff, reduceCtorEq, g1, g2, g3, g8, hfa, hld, hlt, hlp, hlq, hp]; rfl) ?_ ?_ <;> intro hcond <;> (try simp only [decide_eq_true_eq, decide_eq_false_iff_not, beq_iff_eq, beq_eq_false_iff_ne, ne_eq, reduceCtorEq, Bool.not_eq_true', Bool.not_eq_false', bne_iff_ne, bne_eq_false_iff_eq] at hcond) <;> (try (exfalso; omega)))
        | refine thenQ_n ?_
        | refine thenQ_e ?_
        | refine thenQ_r ?_
        | refine outQ_n ?_
        | refine outQ_r ?_
        | refine outQ_e ?_
        | refine outQ_d (by decide) ?_
      · exact ⟨.inr rfl, [_, _], rfl, i, 0, by unfold tuple; simp (disch := first | decide | omega | assumption | exact plain_int _ _ | exact plain_ints _ | exact plain_bool _ | exact one_int _ _ | exact plain_des _ | exact plain_rows _) only [AM, initTm, Nat.reduceAdd, Nat.reduceEqDiff, reduceCtorEq], .inr (.inr ⟨hin, hne, .inl ⟨i, by omega, rfl, rfl, ⟨hp, hcond⟩, hx⟩⟩)⟩
      · exact ⟨d.rows.length - (i + 1), by omega, i + 1, _, rfl, by simp (disch := first | decide | omega | assumption | exact plain_int _ _ | exact plain_ints _ | exact plain_bool _ | exact one_int _ _ | exact plain_des _ | exact plain_rows _) only [AM, initTm, Nat.reduceAdd, Nat.reduceEqDiff, reduceCtorEq, g1], by simp (disch := first | decide | omega | assumption | exact plain_int _ _ | exact plain_ints _ | exact plain_bool _ | exact one_int _ _ | exact plain_des _ | exact plain_rows _) only [AM, initTm, Nat.reduceAdd, Nat.reduceEqDiff, reduceCtorEq, g2], by simp (disch := first | decide | omega | assumption | exact plain_int _ _ | exact plain_ints _ | exact plain_bool _ | exact one_int _ _ | exact plain_des _ | exact plain_rows _) only [AM, initTm, Nat.reduceAdd, Nat.reduceEqDiff, reduceCtorEq, g3], by simp (disch := first | decide | omega | assumption | exact plain_int _ _ | exact plain_ints _ | exact plain_bool _ | exact one_int _ _ | exact plain_des _ | exact plain_rows _) only [AM, initTm, Nat.reduceAdd, Nat.reduceEqDiff, reduceCtorEq]; rfl, by omega, rfl, fun m hm' => by
          by_cases e : m = i
          · subst e; exact fun h => hcond h.2
          · exact hx m (by omega)⟩
    · repeat' first
        | refine W_seq ?_
        | refine W_skip ?_
        | refine W_exit ?_
        | refine W_ret ?_
        | refine W_block ?_
        | (refine W_ops (by simp (disch := first | decide | omega | assumption | exact plain_int _ _ | exact plain_ints _ | exact plain_bool _ | exact one_int _ _ | exact plain_des _ | exact plain_rows _) only [AM, initTm, Nat.reduceAdd, Nat.reduceEqDiff, reduceCtorEq, g1, g2, g3, g8, hfa, hld, hlt, hlp, hlq, hp]; rfl) ?_)
        | (refine W_cond (by simp (disch := first | decide | omega | assumption | exact plain_int _ _ | exact plain_ints _ | exact plain_bool _ | exact one_int _ _ | exact plain_des _ | exact plain_rows _) only [AM, initTm, Nat.reduceAdd, Nat.reduceEqDiff, reduceCtorEq, g1, g2, g3, g8, hfa, hld, hlt, hlp, hlq, hp]; rfl) ?_ ?_ <;> intro hcond <;> (try simp only [decide_eq_true_eq, decide_eq_false_iff_not, beq_iff_eq, beq_eq_false_iff_ne, ne_eq, reduceCtorEq, Bool.not_eq_true', Bool.not_eq_false', bne_iff_ne, bne_eq_false_iff_eq] at hcond) <;> (try (exfalso; omega)))
        | refine thenQ_n ?_
        | refine thenQ_e ?_
        | refine thenQ_r ?_
        | refine outQ_n ?_
        | refine outQ_r ?_
        | refine outQ_e ?_
        | refine outQ_d (by decide) ?_
      exact ⟨d.rows.length - (i + 1), by omega, i + 1, _, rfl, by simp (disch := first | decide | omega | assumption | exact plain_int _ _ | exact plain_ints _ | exact plain_bool _ | exact one_int _ _ | exact plain_des _ | exact plain_rows _) only [AM, initTm, Nat.reduceAdd, Nat.reduceEqDiff, reduceCtorEq, g1], by simp (disch := first | decide | omega | assumption | exact plain_int _ _ | exact plain_ints _ | exact plain_bool _ | exact one_int _ _ | exact plain_des _ | exact plain_rows _) only [AM, initTm, Nat.reduceAdd, Nat.reduceEqDiff, reduceCtorEq, g2], by simp (disch := first | decide | omega | assumption | exact plain_int _ _ | exact plain_ints _ | exact plain_bool _ | exact one_int _ _ | exact plain_des _ | exact plain_rows _) only [AM, initTm, Nat.reduceAdd, Nat.reduceEqDiff, reduceCtorEq, g3], by simp (disch := first | decide | omega | assumption | exact plain_int _ _ | exact plain_ints _ | exact plain_bool _ | exact one_int _ _ | exact plain_des _ | exact plain_rows _) only [AM, initTm, Nat.reduceAdd, Nat.reduceEqDiff, reduceCtorEq]; rfl, by omega, rfl, fun m hm' => by
          by_cases e : m = i
          · subst e; exact fun h => hp h.1
          · exact hx m (by omega)⟩
  · repeat' first
      | refine W_seq ?_
      | refine W_skip ?_
      | refine W_exit ?_
      | refine W_ret ?_
      | refine W_block ?_
      | (refine W_ops (by simp (disch := first | decide | omega | assumption | exact plain_int _ _ | exact plain_ints _ | exact plain_bool _ | exact one_int _ _ | exact plain_des _ | exact plain_rows _) only [AM, initTm, Nat.reduceAdd, Nat.reduceEqDiff, reduceCtorEq, g1, g2, g3, g8, hfa, hld, hlt]; rfl) ?_)
      | (refine W_cond (by simp (disch := first | decide | omega | assumption | exact plain_int _ _ | exact plain_ints _ | exact plain_bool _ | exact one_int _ _ | exact plain_des _ | exact plain_rows _) only [AM, initTm, Nat.reduceAdd, Nat.reduceEqDiff, reduceCtorEq, g1, g2, g3, g8, hfa, hld, hlt]; rfl) ?_ ?_ <;> intro hcond <;> (try simp only [decide_eq_true_eq, decide_eq_false_iff_not, beq_iff_eq, beq_eq_false_iff_ne, ne_eq, reduceCtorEq, Bool.not_eq_true', Bool.not_eq_false', bne_iff_ne, bne_eq_false_iff_eq] at hcond) <;> (try (exfalso; omega)))
      | refine thenQ_n ?_
      | refine thenQ_e ?_
      | refine thenQ_r ?_
      | refine outQ_n ?_
      | refine outQ_r ?_
      | refine outQ_e ?_
      | refine outQ_d (by decide) ?_
    exact ⟨.inr rfl, [_, _], rfl, 0, 4, by unfold tuple; simp (disch := first | decide | omega | assumption | exact plain_int _ _ | exact plain_ints _ | exact plain_bool _ | exact one_int _ _ | exact plain_des _ | exact plain_rows _) only [AM, initTm, Nat.reduceAdd, Nat.reduceEqDiff, reduceCtorEq], .inr (.inr ⟨hin, hne, .inr ⟨rfl, rfl, fun j hj => hx j (by omega)⟩⟩)⟩

/-- Row k, as a list. -/
def Des.row (d : Des) (k : Int) : List Int := (d.rows.getD k.toNat none).getD []

/-- The answer about a meeting: the first point of the one that is on the other. -/
def MeetAns (d : Des) (b c : Int) (x e : Int) : Prop :=
  ((b < 0 ∨ (d.rows.length : Int) ≤ b ∨ c < 0 ∨ (d.rows.length : Int) ≤ c) ∧ x = 0 ∧ e = 1) ∨
  (¬ (b < 0 ∨ (d.rows.length : Int) ≤ b ∨ c < 0 ∨ (d.rows.length : Int) ≤ c) ∧ b = c ∧ x = 0 ∧ e = 6) ∨
  (¬ (b < 0 ∨ (d.rows.length : Int) ≤ b ∨ c < 0 ∨ (d.rows.length : Int) ≤ c) ∧ b ≠ c ∧
    ((∃ i : Nat, i < (d.row b).length ∧ x = (d.row b).getD i 0 ∧ e = 0 ∧ (d.row b).getD i 0 ∈ d.row c ∧ ∀ j, j < i → (d.row b).getD j 0 ∉ d.row c) ∨
     (x = 0 ∧ e = 4 ∧ ∀ j, j < (d.row b).length → (d.row b).getD j 0 ∉ d.row c)))

theorem pcall_MeetOf (hF : F 12 = some mf12) (hL : F 31 = some mf31) (d : Des) (hd : d.Ok) (b c : Int) :
    ∃ v, pcall F (E G F) 12 [d.av, .int .i64 b, .int .i64 c] = some (.val v, false) ∧ ∃ x e, v = .tup [.int .i64 x, .int .i64 e] ∧ MeetAns d b c x e := by
  have hH : Has [⟨d.cells, 2, 24, .live⟩] 0 d.cells := Has.new _ _ _
  have hfa := fun tm rb o off => hH.faddr tm rb 2 o off rfl
  have hld := fun tm rb off => hH.ld1 tm rb 2 off rfl
  have hdn := hd.n
  refine pcall_ex hF (fun v ⟨b, e, he, _⟩ => he ▸ ⟨fun _ _ h => (by cases h), fun _ => rfl, fun _ => rfl⟩) ?_
  unfold mf12
  simp only
  by_cases p1 : b < 0
  · repeat' first
      | refine W_seq ?_
      | refine W_skip ?_
      | refine W_exit ?_
      | refine W_ret ?_
      | refine W_block ?_
      | (refine W_ops (by simp (disch := first | decide | omega | assumption | exact plain_int _ _ | exact plain_ints _ | exact plain_bool _ | exact one_int _ _ | exact plain_des _ | exact plain_rows _) only [AM, initTm, Nat.reduceAdd, Nat.reduceEqDiff, reduceCtorEq, hfa, hld, p1]; rfl) ?_)
      | (refine W_cond (by simp (disch := first | decide | omega | assumption | exact plain_int _ _ | exact plain_ints _ | exact plain_bool _ | exact one_int _ _ | exact plain_des _ | exact plain_rows _) only [AM, initTm, Nat.reduceAdd, Nat.reduceEqDiff, reduceCtorEq, hfa, hld, p1]; rfl) ?_ ?_ <;> intro hcond <;> (try simp only [decide_eq_true_eq, decide_eq_false_iff_not, beq_iff_eq, beq_eq_false_iff_ne, ne_eq, reduceCtorEq, Bool.not_eq_true', Bool.not_eq_false', bne_iff_ne, bne_eq_false_iff_eq] at hcond) <;> (try (exfalso; omega)))
      | refine thenQ_n ?_
      | refine thenQ_e ?_
      | refine thenQ_r ?_
      | refine outQ_n ?_
      | refine outQ_r ?_
      | refine outQ_e ?_
      | refine outQ_d (by decide) ?_
    exact ⟨.inr rfl, [_, _], rfl, 0, 1, by unfold tuple; simp (disch := first | decide | omega | assumption | exact plain_int _ _ | exact plain_ints _ | exact plain_bool _ | exact one_int _ _ | exact plain_des _ | exact plain_rows _) only [AM, initTm, Nat.reduceAdd, Nat.reduceEqDiff, reduceCtorEq], .inl ⟨by omega, rfl, rfl⟩⟩
  by_cases p2 : b ≥ (d.rows.length : Int)
  · repeat' first
      | refine W_seq ?_
      | refine W_skip ?_
      | refine W_exit ?_
      | refine W_ret ?_
      | refine W_block ?_
      | (refine W_ops (by simp (disch := first | decide | omega | assumption | exact plain_int _ _ | exact plain_ints _ | exact plain_bool _ | exact one_int _ _ | exact plain_des _ | exact plain_rows _) only [AM, initTm, Nat.reduceAdd, Nat.reduceEqDiff, reduceCtorEq, hfa, hld, p1, p2]; rfl) ?_)
      | (refine W_cond (by simp (disch := first | decide | omega | assumption | exact plain_int _ _ | exact plain_ints _ | exact plain_bool _ | exact one_int _ _ | exact plain_des _ | exact plain_rows _) only [AM, initTm, Nat.reduceAdd, Nat.reduceEqDiff, reduceCtorEq, hfa, hld, p1, p2]; rfl) ?_ ?_ <;> intro hcond <;> (try simp only [decide_eq_true_eq, decide_eq_false_iff_not, beq_iff_eq, beq_eq_false_iff_ne, ne_eq, reduceCtorEq, Bool.not_eq_true', Bool.not_eq_false', bne_iff_ne, bne_eq_false_iff_eq] at hcond) <;> (try (exfalso; omega)))
      | refine thenQ_n ?_
      | refine thenQ_e ?_
      | refine thenQ_r ?_
      | refine outQ_n ?_
      | refine outQ_r ?_
      | refine outQ_e ?_
      | refine outQ_d (by decide) ?_
    exact ⟨.inr rfl, [_, _], rfl, 0, 1, by unfold tuple; simp (disch := first | decide | omega | assumption | exact plain_int _ _ | exact plain_ints _ | exact plain_bool _ | exact one_int _ _ | exact plain_des _ | exact plain_rows _) only [AM, initTm, Nat.reduceAdd, Nat.reduceEqDiff, reduceCtorEq], .inl ⟨by omega, rfl, rfl⟩⟩
  by_cases q1 : c < 0
  · repeat' first
      | refine W_seq ?_
      | refine W_skip ?_
      | refine W_exit ?_
      | refine W_ret ?_
      | refine W_block ?_
      | (refine W_ops (by simp (disch := first | decide | omega | assumption | exact plain_int _ _ | exact plain_ints _ | exact plain_bool _ | exact one_int _ _ | exact plain_des _ | exact plain_rows _) only [AM, initTm, Nat.reduceAdd, Nat.reduceEqDiff, reduceCtorEq, hfa, hld, p1, p2, q1]; rfl) ?_)
      | (refine W_cond (by simp (disch := first | decide | omega | assumption | exact plain_int _ _ | exact plain_ints _ | exact plain_bool _ | exact one_int _ _ | exact plain_des _ | exact plain_rows _) only [AM, initTm, Nat.reduceAdd, Nat.reduceEqDiff, reduceCtorEq, hfa, hld, p1, p2, q1]; rfl) ?_ ?_ <;> intro hcond <;> (try simp only [decide_eq_true_eq, decide_eq_false_iff_not, beq_iff_eq, beq_eq_false_iff_ne, ne_eq, reduceCtorEq, Bool.not_eq_true', Bool.not_eq_false', bne_iff_ne, bne_eq_false_iff_eq] at hcond) <;> (try (exfalso; omega)))
      | refine thenQ_n ?_
      | refine thenQ_e ?_
      | refine thenQ_r ?_
      | refine outQ_n ?_
      | refine outQ_r ?_
      | refine outQ_e ?_
      | refine outQ_d (by decide) ?_
    exact ⟨.inr rfl, [_, _], rfl, 0, 1, by unfold tuple; simp (disch := first | decide | omega | assumption | exact plain_int _ _ | exact plain_ints _ | exact plain_bool _ | exact one_int _ _ | exact plain_des _ | exact plain_rows _) only [AM, initTm, Nat.reduceAdd, Nat.reduceEqDiff, reduceCtorEq], .inl ⟨by omega, rfl, rfl⟩⟩
  by_cases q2 : c ≥ (d.rows.length : Int)
  · repeat' first
      | refine W_seq ?_
      | refine W_skip ?_
      | refine W_exit ?_
      | refine W_ret ?_
      | refine W_block ?_
      | (refine W_ops (by simp (disch := first | decide | omega | assumption | exact plain_int _ _ | exact plain_ints _ | exact plain_bool _ | exact one_int _ _ | exact plain_des _ | exact plain_rows _) only [AM, initTm, Nat.reduceAdd, Nat.reduceEqDiff, reduceCtorEq, hfa, hld, p1, p2, q1, q2]; rfl) ?_)
      | (refine W_cond (by simp (disch := first | decide | omega | assumption | exact plain_int _ _ | exact plain_ints _ | exact plain_bool _ | exact one_int _ _ | exact plain_des _ | exact plain_rows _) only [AM, initTm, Nat.reduceAdd, Nat.reduceEqDiff, reduceCtorEq, hfa, hld, p1, p2, q1, q2]; rfl) ?_ ?_ <;> intro hcond <;> (try simp only [decide_eq_true_eq, decide_eq_false_iff_not, beq_iff_eq, beq_eq_false_iff_ne, ne_eq, reduceCtorEq, Bool.not_eq_true', Bool.not_eq_false', bne_iff_ne, bne_eq_false_iff_eq] at hcond) <;> (try (exfalso; omega)))
      | refine thenQ_n ?_
      | refine thenQ_e ?_
      | refine thenQ_r ?_
      | refine outQ_n ?_
      | refine outQ_r ?_
      | refine outQ_e ?_
      | refine outQ_d (by decide) ?_
    exact ⟨.inr rfl, [_, _], rfl, 0, 1, by unfold tuple; simp (disch := first | decide | omega | assumption | exact plain_int _ _ | exact plain_ints _ | exact plain_bool _ | exact one_int _ _ | exact plain_des _ | exact plain_rows _) only [AM, initTm, Nat.reduceAdd, Nat.reduceEqDiff, reduceCtorEq], .inl ⟨by omega, rfl, rfl⟩⟩
  have hin : ¬ (b < 0 ∨ (d.rows.length : Int) ≤ b ∨ c < 0 ∨ (d.rows.length : Int) ≤ c) := by omega
  repeat' first
    | refine W_seq ?_
    | refine W_skip ?_
    | refine W_exit ?_
    | refine W_ret ?_
    | refine W_block ?_
    | (refine W_ops (by simp (disch := first | decide | omega | assumption | exact plain_int _ _ | exact plain_ints _ | exact plain_bool _ | exact one_int _ _ | exact plain_des _ | exact plain_rows _) only [AM, initTm, Nat.reduceAdd, Nat.reduceEqDiff, reduceCtorEq, hfa, hld, p1, p2, q1, q2]; rfl) ?_)
    | (refine W_cond (by simp (disch := first | decide | omega | assumption | exact plain_int _ _ | exact plain_ints _ | exact plain_bool _ | exact one_int _ _ | exact plain_des _ | exact plain_rows _) only [AM, initTm, Nat.reduceAdd, Nat.reduceEqDiff, reduceCtorEq, hfa, hld, p1, p2, q1, q2]; rfl) ?_ ?_ <;> intro hcond <;> (try simp only [decide_eq_true_eq, decide_eq_false_iff_not, beq_iff_eq, beq_eq_false_iff_ne, ne_eq, reduceCtorEq, Bool.not_eq_true', Bool.not_eq_false', bne_iff_ne, bne_eq_false_iff_eq] at hcond) <;> (try (exfalso; omega)))
    | refine thenQ_n ?_
    | refine thenQ_e ?_
    | refine thenQ_r ?_
    | refine outQ_n ?_
    | refine outQ_r ?_
    | refine outQ_e ?_
    | refine outQ_d (by decide) ?_
  · exact ⟨.inr rfl, [_, _], rfl, 0, 6, by unfold tuple; simp (disch := first | decide | omega | assumption | exact plain_int _ _ | exact plain_ints _ | exact plain_bool _ | exact one_int _ _ | exact plain_des _ | exact plain_rows _) only [AM, initTm, Nat.reduceAdd, Nat.reduceEqDiff, reduceCtorEq], .inr (.inl ⟨hin, hcond, rfl, rfl⟩)⟩
  have hne : b ≠ c := hcond
  obtain ⟨b, rfl⟩ : ∃ m : Nat, b = (m : Int) := ⟨b.toNat, by omega⟩
  obtain ⟨c, rfl⟩ : ∃ m : Nat, c = (m : Int) := ⟨c.toNat, by omega⟩
  have hrb := hd.r b
  have hrc := hd.r c
  have eb : d.row (b : Int) = (d.rows.getD b none).getD [] := rfl
  have ec : d.row (c : Int) = (d.rows.getD c none).getD [] := rfl
  generalize hrob : d.rows.getD b none = rb at *
  generalize hroc : d.rows.getD c none = rc at *
  have hlies := fun x => Lies_spec (G := G) hL rc x hrc
  refine W_loop (k := (rb.getD []).length) (fun k s => ∃ (i : Nat) (tm : Tm), s = ⟨tm, [⟨d.cells, 2, 24, .live⟩], 0⟩ ∧ tm.get 1 = .int .i64 b ∧ tm.get 2 = .int .i64 c ∧ tm.get 3 = .ptr 0 2 0 ∧ tm.get 8 = .int .i64 i ∧ i ≤ (rb.getD []).length ∧ k = (rb.getD []).length - i ∧ ∀ j, j < i → (rb.getD []).getD j 0 ∉ rc.getD []) ⟨0, _, rfl, by simp (disch := first | decide | omega | assumption | exact plain_int _ _ | exact plain_ints _ | exact plain_bool _ | exact one_int _ _ | exact plain_des _ | exact plain_rows _) only [AM, initTm, Nat.reduceAdd, Nat.reduceEqDiff, reduceCtorEq], by simp (disch := first | decide | omega | assumption | exact plain_int _ _ | exact plain_ints _ | exact plain_bool _ | exact one_int _ _ | exact plain_des _ | exact plain_rows _) only [AM, initTm, Nat.reduceAdd, Nat.reduceEqDiff, reduceCtorEq], by simp (disch := first | decide | omega | assumption | exact plain_int _ _ | exact plain_ints _ | exact plain_bool _ | exact one_int _ _ | exact plain_des _ | exact plain_rows _) only [AM, initTm, Nat.reduceAdd, Nat.reduceEqDiff, reduceCtorEq], by simp (disch := first | decide | omega | assumption | exact plain_int _ _ | exact plain_ints _ | exact plain_bool _ | exact one_int _ _ | exact plain_des _ | exact plain_rows _) only [AM, initTm, Nat.reduceAdd, Nat.reduceEqDiff, reduceCtorEq]; rfl, Nat.zero_le _, rfl, fun j hj => by omega⟩ ?_
  rintro k s ⟨i, tm, rfl, g1, g2, g3, g8, hi, rfl, hx⟩
  repeat' first
    | refine W_seq ?_
    | refine W_skip ?_
    | refine W_exit ?_
    | refine W_ret ?_
    | refine W_block ?_
    | (refine W_ops (by simp (disch := first | decide | omega | assumption | exact plain_int _ _ | exact plain_ints _ | exact plain_bool _ | exact one_int _ _ | exact plain_des _ | exact plain_rows _) only [AM, initTm, Nat.reduceAdd, Nat.reduceEqDiff, reduceCtorEq, g1, g2, g3, g8, hfa, hld, hlies, hrob, hroc]; rfl) ?_)
    | (refine W_cond (by simp (disch := first | decide | omega | assumption | exact plain_int _ _ | exact plain_ints _ | exact plain_bool _ | exact one_int _ _ | exact plain_des _ | exact plain_rows _) only [AM, initTm, Nat.reduceAdd, Nat.reduceEqDiff, reduceCtorEq, g1, g2, g3, g8, hfa, hld, hlies, hrob, hroc]; rfl) ?_ ?_ <;> intro hcond <;> (try simp only [decide_eq_true_eq, decide_eq_false_iff_not, beq_iff_eq, beq_eq_false_iff_ne, ne_eq, reduceCtorEq, Bool.not_eq_true', Bool.not_eq_false', bne_iff_ne, bne_eq_false_iff_eq] at hcond) <;> (try (exfalso; omega)))
    | refine thenQ_n ?_
    | refine thenQ_e ?_
    | refine thenQ_r ?_
    | refine outQ_n ?_
    | refine outQ_r ?_
    | refine outQ_e ?_
    | refine outQ_d (by decide) ?_
  · exact ⟨.inr rfl, [_, _], rfl, (d.row b).getD i 0, 0, by unfold tuple; rw [eb]; simp (disch := first | decide | omega | assumption | exact plain_int _ _ | exact plain_ints _ | exact plain_bool _ | exact one_int _ _ | exact plain_des _ | exact plain_rows _) only [AM, initTm, Nat.reduceAdd, Nat.reduceEqDiff, reduceCtorEq], .inr (.inr ⟨hin, hne, .inl ⟨i, by rw [eb]; omega, rfl, rfl, by rw [eb, ec]; exact hcond, by rw [eb, ec]; exact hx⟩⟩)⟩
  · exact ⟨(rb.getD []).length - (i + 1), by omega, i + 1, _, rfl, by simp (disch := first | decide | omega | assumption | exact plain_int _ _ | exact plain_ints _ | exact plain_bool _ | exact one_int _ _ | exact plain_des _ | exact plain_rows _) only [AM, initTm, Nat.reduceAdd, Nat.reduceEqDiff, reduceCtorEq, g1], by simp (disch := first | decide | omega | assumption | exact plain_int _ _ | exact plain_ints _ | exact plain_bool _ | exact one_int _ _ | exact plain_des _ | exact plain_rows _) only [AM, initTm, Nat.reduceAdd, Nat.reduceEqDiff, reduceCtorEq, g2], by simp (disch := first | decide | omega | assumption | exact plain_int _ _ | exact plain_ints _ | exact plain_bool _ | exact one_int _ _ | exact plain_des _ | exact plain_rows _) only [AM, initTm, Nat.reduceAdd, Nat.reduceEqDiff, reduceCtorEq, g3], by simp (disch := first | decide | omega | assumption | exact plain_int _ _ | exact plain_ints _ | exact plain_bool _ | exact one_int _ _ | exact plain_des _ | exact plain_rows _) only [AM, initTm, Nat.reduceAdd, Nat.reduceEqDiff, reduceCtorEq]; rfl, by omega, rfl, fun m hm' => by
      by_cases e : m = i
      · subst e; exact hcond
      · exact hx m (by omega)⟩
  · exact ⟨.inr rfl, [_, _], rfl, 0, 4, by unfold tuple; simp (disch := first | decide | omega | assumption | exact plain_int _ _ | exact plain_ints _ | exact plain_bool _ | exact one_int _ _ | exact plain_des _ | exact plain_rows _) only [AM, initTm, Nat.reduceAdd, Nat.reduceEqDiff, reduceCtorEq], .inr (.inr ⟨hin, hne, .inr ⟨rfl, rfl, by rw [eb, ec]; exact fun j hj => hx j (by omega)⟩⟩)⟩
end
end Go.Am
