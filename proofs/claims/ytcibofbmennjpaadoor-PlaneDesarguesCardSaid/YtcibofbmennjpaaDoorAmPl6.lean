/- The document's answers, on. -/
import Derived.Test.YtcibofbmennjpaaDoorAmPl4
set_option linter.unusedVariables false
set_option linter.unusedSimpArgs false
namespace Go.Am

theorem Fault.one {d : Des} {e e' : Int} (h : Fault d e) (h' : Fault d e') : e = e' := by
  have lt : ∀ {i j : Nat}, (∀ m, m < i → ¬ Out d.points ((d.rows.getD m none).getD []) ∧ ¬ Down ((d.rows.getD m none).getD [])) → (Out d.points ((d.rows.getD j none).getD []) ∨ Down ((d.rows.getD j none).getD [])) → ¬ j < i := by
    intro i j hi hj hlt
    rcases hj with hj | hj
    · exact (hi j hlt).1 hj
    · exact (hi j hlt).2 hj
  cases h with
  | few h =>
    cases h' with
    | few => rfl
    | out h2 => exact rfl
    | _ h2 => exact absurd h h2
  | full h h2 =>
    cases h' with
    | full => rfl
    | few h' => exact absurd h' h
    | out _ h' => exact absurd h2 h'
    | down _ h' => exact absurd h2 h'
    | ok _ h' => exact absurd h2 h'
  | out h h2 i hi ok ho =>
    cases h' with
    | few h' => rfl
    | full _ h' => exact absurd h' h2
    | out => rfl
    | down _ _ j hj ok' hn hd =>
      have a := lt ok (.inr hd)
      have b := lt ok' (.inl ho)
      have : i = j := by omega
      subst this
      exact absurd ho hn
    | ok _ _ h' => exact absurd ho (h' i hi).1
  | down h h2 i hi ok hn hd =>
    cases h' with
    | few h' => exact absurd h' h
    | full _ h' => exact absurd h' h2
    | out _ _ j hj ok' ho =>
      have a := lt ok (.inl ho)
      have b := lt ok' (.inr hd)
      have : i = j := by omega
      subst this
      exact absurd ho hn
    | down => rfl
    | ok _ _ h' => exact absurd hd (h' i hi).2
  | ok h h2 ok =>
    cases h' with
    | few h' => exact absurd h' h
    | full _ h' => exact absurd h' h2
    | out _ _ j hj _ ho => exact absurd ho (ok j hj).1
    | down _ _ j hj _ _ hd => exact absurd hd (ok j hj).2
    | ok => rfl

section
variable {G : Nat → List AV} {F : Nat → Option MF}

/-- The answer about an arc: points out of range; points not ascending; else: no block has three. -/
def ArcAns (d : Des) (l : List Int) (b : Bool) (e : Int) : Prop :=
  (Out d.points l ∧ b = false ∧ e = 1) ∨ (¬ Out d.points l ∧ Down l ∧ b = false ∧ e = 2) ∨ (¬ Out d.points l ∧ ¬ Down l ∧ b = !(d.bl.any fun x => decide (2 < together l x)) ∧ e = 0)



/-- The answer about a join: the first block that has both. -/
def JoinAns (d : Des) (p q : Int) (c e : Int) : Prop :=
  ((p < 0 ∨ d.points ≤ p ∨ q < 0 ∨ d.points ≤ q) ∧ c = 0 ∧ e = 1) ∨
  (¬ (p < 0 ∨ d.points ≤ p ∨ q < 0 ∨ d.points ≤ q) ∧ p = q ∧ c = 0 ∧ e = 6) ∨
  (¬ (p < 0 ∨ d.points ≤ p ∨ q < 0 ∨ d.points ≤ q) ∧ p ≠ q ∧
    ((∃ i : Nat, i < d.rows.length ∧ c = i ∧ e = 0 ∧ (p ∈ (d.rows.getD i none).getD [] ∧ q ∈ (d.rows.getD i none).getD []) ∧ ∀ j, j < i → ¬ (p ∈ (d.rows.getD j none).getD [] ∧ q ∈ (d.rows.getD j none).getD [])) ∨
     (c = 0 ∧ e = 4 ∧ ∀ j, j < d.rows.length → ¬ (p ∈ (d.rows.getD j none).getD [] ∧ q ∈ (d.rows.getD j none).getD []))))



/-- Row k, as a list. -/
def Des.row (d : Des) (k : Int) : List Int := (d.rows.getD k.toNat none).getD []

/-- The answer about a meeting: the first point of the one that is on the other. -/
def MeetAns (d : Des) (b c : Int) (x e : Int) : Prop :=
  ((b < 0 ∨ (d.rows.length : Int) ≤ b ∨ c < 0 ∨ (d.rows.length : Int) ≤ c) ∧ x = 0 ∧ e = 1) ∨
  (¬ (b < 0 ∨ (d.rows.length : Int) ≤ b ∨ c < 0 ∨ (d.rows.length : Int) ≤ c) ∧ b = c ∧ x = 0 ∧ e = 6) ∨
  (¬ (b < 0 ∨ (d.rows.length : Int) ≤ b ∨ c < 0 ∨ (d.rows.length : Int) ≤ c) ∧ b ≠ c ∧
    ((∃ i : Nat, i < (d.row b).length ∧ x = (d.row b).getD i 0 ∧ e = 0 ∧ (d.row b).getD i 0 ∈ d.row c ∧ ∀ j, j < i → (d.row b).getD j 0 ∉ d.row c) ∨
     (x = 0 ∧ e = 4 ∧ ∀ j, j < (d.row b).length → (d.row b).getD j 0 ∉ d.row c)))

end

end Go.Am

/- Functions that take a function, over rows. -/
set_option linter.unusedVariables false
set_option linter.unusedSimpArgs false
namespace Go.Am

section
variable {G : Nat → List AV} {F : Nat → Option MF}

/-- Where it first holds of the rows; -1: nowhere. -/
def firstRow (f : Option (List Int) → Bool) (l : List (Option (List Int))) (v : Int) : Prop :=
  (∃ i : Nat, v = i ∧ i < l.length ∧ f (l.getD i none) = true ∧ ∀ j, j < i → f (l.getD j none) = false) ∨ (v = -1 ∧ ∀ j, j < l.length → f (l.getD j none) = false)

theorem IndexRows_spec (hF : F 89 = some mf89) (d : Des) (hl : d.rows.length < 9223372036854775808) (g : Nat) (cap : List AV) (st : St) (f : Option (List Int) → Bool)
    (hc : ∀ tm rb i, doCall F (E G F) .quiet g (ints (d.rows.getD i none) :: cap) ⟨tm, st.bx.map Box.freeze, rb⟩ = some (.bool (f (d.rows.getD i none)), ⟨tm, st.bx.map Box.freeze, rb⟩)) :
    ∃ v, doCall F (E G F) .quiet 89 [rowsV d.blocks, .clo g cap] st = some (v, st) ∧ ∃ n, v = .int .i64 n ∧ firstRow f d.rows n := by
  refine doCall_quiet_ex hF (by simp) (fun v ⟨n, h, _⟩ => by rw [h]; rfl) ?_
  unfold mf89
  simp only
  generalize st.bx.map Box.freeze = bx at *
  repeat' first
    | refine W_seq ?_
    | refine W_skip ?_
    | refine W_exit ?_
    | refine W_ret ?_
    | refine W_block ?_
    | (refine W_ops (by simp (disch := first | decide | omega | assumption | exact plain_int _ _ | exact plain_ints _ | exact plain_bool _ | exact one_int _ _ | exact plain_des _ | exact plain_rows _) only [AM, initTm, Nat.reduceAdd, Nat.reduceEqDiff, reduceCtorEq]; rfl) ?_)
    | (refine W_cond (by simp (disch := first | decide | omega | assumption | exact plain_int _ _ | exact plain_ints _ | exact plain_bool _ | exact one_int _ _ | exact plain_des _ | exact plain_rows _) only [AM, initTm, Nat.reduceAdd, Nat.reduceEqDiff, reduceCtorEq]; rfl) ?_ ?_ <;> intro hcond <;> (try simp only [decide_eq_true_eq, decide_eq_false_iff_not, beq_iff_eq, beq_eq_false_iff_ne, ne_eq, reduceCtorEq, Bool.not_eq_true', Bool.not_eq_false', bne_iff_ne, bne_eq_false_iff_eq] at hcond) <;> (try (exfalso; omega)))
    | refine thenQ_n ?_
    | refine thenQ_e ?_
    | refine thenQ_r ?_
    | refine outQ_n ?_
    | refine outQ_r ?_
    | refine outQ_e ?_
    | refine outQ_d (by decide) ?_
  refine W_loop (k := d.rows.length) (fun k s => ∃ (i : Nat) (tm : Tm), s = ⟨tm, bx, 0⟩ ∧ tm.get 0 = rowsV d.blocks ∧ tm.get 1 = .clo g cap ∧ tm.get 7 = .int .i64 d.rows.length ∧ tm.get 8 = .int .i64 i ∧ i ≤ d.rows.length ∧ k = d.rows.length - i ∧ ∀ j, j < i → f (d.rows.getD j none) = false) ⟨0, _, rfl, by simp (disch := first | decide | omega | assumption | exact plain_int _ _ | exact plain_ints _ | exact plain_bool _ | exact one_int _ _ | exact plain_des _ | exact plain_rows _) only [AM, initTm, Nat.reduceAdd, Nat.reduceEqDiff, reduceCtorEq], by simp (disch := first | decide | omega | assumption | exact plain_int _ _ | exact plain_ints _ | exact plain_bool _ | exact one_int _ _ | exact plain_des _ | exact plain_rows _) only [AM, initTm, Nat.reduceAdd, Nat.reduceEqDiff, reduceCtorEq], by simp (disch := first | decide | omega | assumption | exact plain_int _ _ | exact plain_ints _ | exact plain_bool _ | exact one_int _ _ | exact plain_des _ | exact plain_rows _) only [AM, initTm, Nat.reduceAdd, Nat.reduceEqDiff, reduceCtorEq], by simp (disch := first | decide | omega | assumption | exact plain_int _ _ | exact plain_ints _ | exact plain_bool _ | exact one_int _ _ | exact plain_des _ | exact plain_rows _) only [AM, initTm, Nat.reduceAdd, Nat.reduceEqDiff, reduceCtorEq]; rfl, Nat.zero_le _, rfl, fun j hj => by omega⟩ ?_
  rintro k s ⟨i, tm, rfl, h0, h1, h7, h8, hi, rfl, hx⟩
  repeat' first
    | refine W_seq ?_
    | refine W_skip ?_
    | refine W_exit ?_
    | refine W_ret ?_
    | refine W_block ?_
    | (refine W_ops (by simp (disch := first | decide | omega | assumption | exact plain_int _ _ | exact plain_ints _ | exact plain_bool _ | exact one_int _ _ | exact plain_des _ | exact plain_rows _) only [AM, initTm, Nat.reduceAdd, Nat.reduceEqDiff, reduceCtorEq, h0, h1, h7, h8, hc]; rfl) ?_)
    | (refine W_cond (by simp (disch := first | decide | omega | assumption | exact plain_int _ _ | exact plain_ints _ | exact plain_bool _ | exact one_int _ _ | exact plain_des _ | exact plain_rows _) only [AM, initTm, Nat.reduceAdd, Nat.reduceEqDiff, reduceCtorEq, h0, h1, h7, h8, hc]; rfl) ?_ ?_ <;> intro hcond <;> (try simp only [decide_eq_true_eq, decide_eq_false_iff_not, beq_iff_eq, beq_eq_false_iff_ne, ne_eq, reduceCtorEq, Bool.not_eq_true', Bool.not_eq_false', bne_iff_ne, bne_eq_false_iff_eq] at hcond) <;> (try (exfalso; omega)))
    | refine thenQ_n ?_
    | refine thenQ_e ?_
    | refine thenQ_r ?_
    | refine outQ_n ?_
    | refine outQ_r ?_
    | refine outQ_e ?_
    | refine outQ_d (by decide) ?_
  · exact ⟨.inr rfl, [_], rfl, i, by rw [tuple_one]; simp (disch := first | decide | omega | assumption | exact plain_int _ _ | exact plain_ints _ | exact plain_bool _ | exact one_int _ _ | exact plain_des _ | exact plain_rows _) only [AM, initTm, Nat.reduceAdd, Nat.reduceEqDiff, reduceCtorEq, h8], .inl ⟨i, rfl, by omega, hcond, hx⟩⟩
  · exact ⟨d.rows.length - (i + 1), by omega, i + 1, _, rfl, by simp (disch := first | decide | omega | assumption | exact plain_int _ _ | exact plain_ints _ | exact plain_bool _ | exact one_int _ _ | exact plain_des _ | exact plain_rows _) only [AM, initTm, Nat.reduceAdd, Nat.reduceEqDiff, reduceCtorEq, h0], by simp (disch := first | decide | omega | assumption | exact plain_int _ _ | exact plain_ints _ | exact plain_bool _ | exact one_int _ _ | exact plain_des _ | exact plain_rows _) only [AM, initTm, Nat.reduceAdd, Nat.reduceEqDiff, reduceCtorEq, h1], by simp (disch := first | decide | omega | assumption | exact plain_int _ _ | exact plain_ints _ | exact plain_bool _ | exact one_int _ _ | exact plain_des _ | exact plain_rows _) only [AM, initTm, Nat.reduceAdd, Nat.reduceEqDiff, reduceCtorEq, h7], by simp (disch := first | decide | omega | assumption | exact plain_int _ _ | exact plain_ints _ | exact plain_bool _ | exact one_int _ _ | exact plain_des _ | exact plain_rows _) only [AM, initTm, Nat.reduceAdd, Nat.reduceEqDiff, reduceCtorEq, h8]; rfl, by omega, rfl, fun j hj => by
      by_cases e : j = i
      · subst e; exact hcond
      · exact hx j (by omega)⟩
  · exact ⟨.inr rfl, [_], rfl, -1, by rw [tuple_one]; simp (disch := first | decide | omega | assumption | exact plain_int _ _ | exact plain_ints _ | exact plain_bool _ | exact one_int _ _ | exact plain_des _ | exact plain_rows _) only [AM, initTm, Nat.reduceAdd, Nat.reduceEqDiff, reduceCtorEq], .inr ⟨rfl, fun j hj => hx j (by omega)⟩⟩

theorem Arc1_spec (hF : F 91 = some mf91) (d : Des) (id : Nat) (bx : List Box) (hb : Has bx id d.cells) (tm : Tm) (rb : Nat) (x : Int) :
    doCall F (E G F) .quiet 91 [.int .i64 x, .ptr id 2 0] ⟨tm, bx, rb⟩ = some (.bool (decide (x < 0 ∨ d.points ≤ x)), ⟨tm, bx, rb⟩) := by
  refine doCall_quiet_of hF (by simp) rfl ?_
  unfold mf91
  simp only
  have hH := hb.freeze
  have hfa := fun tm rb o off => hH.faddr tm rb 2 o off rfl
  have hld := fun tm rb off => hH.ld1 tm rb 2 off rfl
  by_cases hneg : x < 0
  · repeat' first
      | refine W_seq ?_
      | refine W_skip ?_
      | refine W_exit ?_
      | refine W_ret ?_
      | refine W_block ?_
      | (refine W_ops (by simp (disch := first | decide | omega | assumption | exact plain_int _ _ | exact plain_ints _ | exact plain_bool _ | exact one_int _ _ | exact plain_des _ | exact plain_rows _) only [AM, initTm, Nat.reduceAdd, Nat.reduceEqDiff, reduceCtorEq, hfa, hld, hneg]; rfl) ?_)
      | (refine W_cond (by simp (disch := first | decide | omega | assumption | exact plain_int _ _ | exact plain_ints _ | exact plain_bool _ | exact one_int _ _ | exact plain_des _ | exact plain_rows _) only [AM, initTm, Nat.reduceAdd, Nat.reduceEqDiff, reduceCtorEq, hfa, hld, hneg]; rfl) ?_ ?_ <;> intro hcond <;> (try simp only [decide_eq_true_eq, decide_eq_false_iff_not, beq_iff_eq, beq_eq_false_iff_ne, ne_eq, reduceCtorEq, Bool.not_eq_true', Bool.not_eq_false', bne_iff_ne, bne_eq_false_iff_eq] at hcond) <;> (try (exfalso; omega)))
      | refine thenQ_n ?_
      | refine thenQ_e ?_
      | refine thenQ_r ?_
      | refine outQ_n ?_
      | refine outQ_r ?_
      | refine outQ_e ?_
      | refine outQ_d (by decide) ?_
    refine ⟨.inr rfl, [_], rfl, ?_⟩
    rw [tuple_one]
    simp (disch := first | decide | omega | assumption | exact plain_int _ _ | exact plain_ints _ | exact plain_bool _ | exact one_int _ _ | exact plain_des _ | exact plain_rows _) only [AM, initTm, Nat.reduceAdd, Nat.reduceEqDiff, reduceCtorEq]
    rw [decide_eq_true (.inl hneg)]
  · repeat' first
      | refine W_seq ?_
      | refine W_skip ?_
      | refine W_exit ?_
      | refine W_ret ?_
      | refine W_block ?_
      | (refine W_ops (by simp (disch := first | decide | omega | assumption | exact plain_int _ _ | exact plain_ints _ | exact plain_bool _ | exact one_int _ _ | exact plain_des _ | exact plain_rows _) only [AM, initTm, Nat.reduceAdd, Nat.reduceEqDiff, reduceCtorEq, hfa, hld, hneg]; rfl) ?_)
      | (refine W_cond (by simp (disch := first | decide | omega | assumption | exact plain_int _ _ | exact plain_ints _ | exact plain_bool _ | exact one_int _ _ | exact plain_des _ | exact plain_rows _) only [AM, initTm, Nat.reduceAdd, Nat.reduceEqDiff, reduceCtorEq, hfa, hld, hneg]; rfl) ?_ ?_ <;> intro hcond <;> (try simp only [decide_eq_true_eq, decide_eq_false_iff_not, beq_iff_eq, beq_eq_false_iff_ne, ne_eq, reduceCtorEq, Bool.not_eq_true', Bool.not_eq_false', bne_iff_ne, bne_eq_false_iff_eq] at hcond) <;> (try (exfalso; omega)))
      | refine thenQ_n ?_
      | refine thenQ_e ?_
      | refine thenQ_r ?_
      | refine outQ_n ?_
      | refine outQ_r ?_
      | refine outQ_e ?_
      | refine outQ_d (by decide) ?_
    refine ⟨.inr rfl, [_], rfl, ?_⟩
    rw [tuple_one]
    simp (disch := first | decide | omega | assumption | exact plain_int _ _ | exact plain_ints _ | exact plain_bool _ | exact one_int _ _ | exact plain_des _ | exact plain_rows _) only [AM, initTm, Nat.reduceAdd, Nat.reduceEqDiff, reduceCtorEq]
    simp [hneg]


theorem Join11_spec (hF : F 90 = some mf90) (hC : F 75 = some mf75) (hI : F 117 = some mf117) (o : Option (List Int)) (hl : (o.getD []).length < 9223372036854775808) (ip iq : Nat) (bx : List Box) (p q : Int) (hp : Has bx ip [.int .i64 p]) (hq : Has bx iq [.int .i64 q]) (tm : Tm) (rb : Nat) :
    doCall F (E G F) .quiet 90 [ints o, .ptr ip 1 0, .ptr iq 1 0] ⟨tm, bx, rb⟩ = some (.bool (decide (p ∈ o.getD [] ∧ q ∈ o.getD [])), ⟨tm, bx, rb⟩) := by
  have hcp := Contains_spec (G := G) hC hI o p hl
  have hcq := Contains_spec (G := G) hC hI o q hl
  refine doCall_quiet_of hF (by simp) rfl ?_
  unfold mf90
  simp only
  have hP := hp.freeze
  have hQ := hq.freeze
  have hlp : ∀ tm rb, ld1V ⟨tm, bx.map Box.freeze, rb⟩ (.ptr ip 1 0) = some (.int .i64 p) := fun tm rb => hP.ld1 tm rb 1 0 rfl
  have hlq : ∀ tm rb, ld1V ⟨tm, bx.map Box.freeze, rb⟩ (.ptr iq 1 0) = some (.int .i64 q) := fun tm rb => hQ.ld1 tm rb 1 0 rfl
  by_cases h1 : p ∈ o.getD []
  · repeat' first
      | refine W_seq ?_
      | refine W_skip ?_
      | refine W_exit ?_
      | refine W_ret ?_
      | refine W_block ?_
      | (refine W_ops (by simp (disch := first | decide | omega | assumption | exact plain_int _ _ | exact plain_ints _ | exact plain_bool _ | exact one_int _ _ | exact plain_des _ | exact plain_rows _) only [AM, initTm, Nat.reduceAdd, Nat.reduceEqDiff, reduceCtorEq, hlp, hlq, hcp, hcq, h1]; rfl) ?_)
      | (refine W_cond (by simp (disch := first | decide | omega | assumption | exact plain_int _ _ | exact plain_ints _ | exact plain_bool _ | exact one_int _ _ | exact plain_des _ | exact plain_rows _) only [AM, initTm, Nat.reduceAdd, Nat.reduceEqDiff, reduceCtorEq, hlp, hlq, hcp, hcq, h1]; rfl) ?_ ?_ <;> intro hcond <;> (try simp only [decide_eq_true_eq, decide_eq_false_iff_not, beq_iff_eq, beq_eq_false_iff_ne, ne_eq, reduceCtorEq, Bool.not_eq_true', Bool.not_eq_false', bne_iff_ne, bne_eq_false_iff_eq] at hcond) <;> (try (exfalso; omega)))
      | refine thenQ_n ?_
      | refine thenQ_e ?_
      | refine thenQ_r ?_
      | refine outQ_n ?_
      | refine outQ_r ?_
      | refine outQ_e ?_
      | refine outQ_d (by decide) ?_
    refine ⟨.inr rfl, [_], rfl, ?_⟩
    rw [tuple_one]
    simp (disch := first | decide | omega | assumption | exact plain_int _ _ | exact plain_ints _ | exact plain_bool _ | exact one_int _ _ | exact plain_des _ | exact plain_rows _) only [AM, initTm, Nat.reduceAdd, Nat.reduceEqDiff, reduceCtorEq]
    simp [h1]
  · repeat' first
      | refine W_seq ?_
      | refine W_skip ?_
      | refine W_exit ?_
      | refine W_ret ?_
      | refine W_block ?_
      | (refine W_ops (by simp (disch := first | decide | omega | assumption | exact plain_int _ _ | exact plain_ints _ | exact plain_bool _ | exact one_int _ _ | exact plain_des _ | exact plain_rows _) only [AM, initTm, Nat.reduceAdd, Nat.reduceEqDiff, reduceCtorEq, hlp, hlq, hcp, hcq, h1]; rfl) ?_)
      | (refine W_cond (by simp (disch := first | decide | omega | assumption | exact plain_int _ _ | exact plain_ints _ | exact plain_bool _ | exact one_int _ _ | exact plain_des _ | exact plain_rows _) only [AM, initTm, Nat.reduceAdd, Nat.reduceEqDiff, reduceCtorEq, hlp, hlq, hcp, hcq, h1]; rfl) ?_ ?_ <;> intro hcond <;> (try simp only [decide_eq_true_eq, decide_eq_false_iff_not, beq_iff_eq, beq_eq_false_iff_ne, ne_eq, reduceCtorEq, Bool.not_eq_true', Bool.not_eq_false', bne_iff_ne, bne_eq_false_iff_eq] at hcond) <;> (try (exfalso; omega)))
      | refine thenQ_n ?_
      | refine thenQ_e ?_
      | refine thenQ_r ?_
      | refine outQ_n ?_
      | refine outQ_r ?_
      | refine outQ_e ?_
      | refine outQ_d (by decide) ?_
    refine ⟨.inr rfl, [_], rfl, ?_⟩
    rw [tuple_one]
    simp (disch := first | decide | omega | assumption | exact plain_int _ _ | exact plain_ints _ | exact plain_bool _ | exact one_int _ _ | exact plain_des _ | exact plain_rows _) only [AM, initTm, Nat.reduceAdd, Nat.reduceEqDiff, reduceCtorEq]
    simp [h1]

theorem firstRow_one {f : Option (List Int) → Bool} {l : List (Option (List Int))} {v w : Int} (h : firstRow f l v) (h' : firstRow f l w) : v = w := by
  rcases h with ⟨i, rfl, hi, hf, hn⟩ | ⟨rfl, hn⟩ <;> rcases h' with ⟨j, rfl, hj, hg, hm⟩ | ⟨rfl, hm⟩
  · by_cases h1 : i < j
    · rw [hm i h1] at hf; cases hf
    · by_cases h2 : j < i
      · rw [hn j h2] at hg; cases hg
      · omega
  · rw [hm i hi] at hf; cases hf
  · rw [hn j hj] at hg; cases hg
  · rfl

theorem Join1_spec (hF : F 88 = some mf88) (hR : F 89 = some mf89) (hJ : F 90 = some mf90) (hC : F 75 = some mf75) (hI : F 117 = some mf117) (d : Des) (hd : d.Ok) (id ip iq : Nat) (st : St) (p q : Int)
    (hD : Has st.bx id d.cells) (hp : Has st.bx ip [.int .i64 p]) (hq : Has st.bx iq [.int .i64 q]) :
    ∃ v, doCall F (E G F) .quiet 88 [.ptr id 2 0, .ptr ip 1 0, .ptr iq 1 0] st = some (v, st) ∧ ∃ n, v = .int .i64 n ∧ firstRow (fun r => decide (p ∈ r.getD [] ∧ q ∈ r.getD [])) d.rows n := by
  refine doCall_quiet_ex hF (by simp) (fun v ⟨n, h, _⟩ => by rw [h]; rfl) ?_
  unfold mf88
  simp only
  have hH := hD.freeze
  have hP := hp.freeze
  have hQ := hq.freeze
  have hff := freeze_freeze st.bx
  generalize st.bx.map Box.freeze = bx at *
  have hfa := fun tm rb o off => hH.faddr tm rb 2 o off rfl
  have hld := fun tm rb off => hH.ld1 tm rb 2 off rfl
  obtain ⟨v, hv, n, rfl, hn⟩ : ∃ v, (∀ tm rb, doCall F (E G F) .quiet 89 [rowsV d.blocks, .clo 90 [.ptr ip 1 0, .ptr iq 1 0]] ⟨tm, bx, rb⟩ = some (v, ⟨tm, bx, rb⟩)) ∧ ∃ n, v = .int .i64 n ∧ firstRow (fun r => decide (p ∈ r.getD [] ∧ q ∈ r.getD [])) d.rows n := by
    have key := fun tm rb => IndexRows_spec (G := G) hR d hd.n 90 [.ptr ip 1 0, .ptr iq 1 0] ⟨tm, bx, rb⟩ (fun r => decide (p ∈ r.getD [] ∧ q ∈ r.getD [])) (fun tm rb i => by
      simp only [hff]
      exact Join11_spec hJ hC hI (d.rows.getD i none) (hd.r i) ip iq bx p q hP hQ tm rb)
    obtain ⟨v, h1, n, hn, h2⟩ := key .e 0
    refine ⟨v, fun tm rb => ?_, n, hn, h2⟩
    obtain ⟨v', h1', n', hn', h2'⟩ := key tm rb
    rw [h1', hn', hn]
    have : n' = n := firstRow_one h2' h2
    rw [this]
  repeat' first
    | refine W_seq ?_
    | refine W_skip ?_
    | refine W_exit ?_
    | refine W_ret ?_
    | refine W_block ?_
    | (refine W_ops (by simp (disch := first | decide | omega | assumption | exact plain_int _ _ | exact plain_ints _ | exact plain_bool _ | exact one_int _ _ | exact plain_des _ | exact plain_rows _) only [AM, initTm, Nat.reduceAdd, Nat.reduceEqDiff, reduceCtorEq, hfa, hld, hv]; rfl) ?_)
    | (refine W_cond (by simp (disch := first | decide | omega | assumption | exact plain_int _ _ | exact plain_ints _ | exact plain_bool _ | exact one_int _ _ | exact plain_des _ | exact plain_rows _) only [AM, initTm, Nat.reduceAdd, Nat.reduceEqDiff, reduceCtorEq, hfa, hld, hv]; rfl) ?_ ?_ <;> intro hcond <;> (try simp only [decide_eq_true_eq, decide_eq_false_iff_not, beq_iff_eq, beq_eq_false_iff_ne, ne_eq, reduceCtorEq, Bool.not_eq_true', Bool.not_eq_false', bne_iff_ne, bne_eq_false_iff_eq] at hcond) <;> (try (exfalso; omega)))
    | refine thenQ_n ?_
    | refine thenQ_e ?_
    | refine thenQ_r ?_
    | refine outQ_n ?_
    | refine outQ_r ?_
    | refine outQ_e ?_
    | refine outQ_d (by decide) ?_
  exact ⟨.inr rfl, [_], rfl, n, by rw [tuple_one]; simp (disch := first | decide | omega | assumption | exact plain_int _ _ | exact plain_ints _ | exact plain_bool _ | exact one_int _ _ | exact plain_des _ | exact plain_rows _) only [AM, initTm, Nat.reduceAdd, Nat.reduceEqDiff, reduceCtorEq], hn⟩

theorem Meet11_spec (hF : F 87 = some mf87) (hC : F 75 = some mf75) (hI : F 117 = some mf117) (d : Des) (hd : d.Ok) (id ic : Nat) (bx : List Box) (x : Int) (c : Nat) (hc : c < d.rows.length) (hD : Has bx id d.cells) (hcc : Has bx ic [.int .i64 c]) (tm : Tm) (rb : Nat) :
    doCall F (E G F) .quiet 87 [.int .i64 x, .ptr id 2 0, .ptr ic 1 0] ⟨tm, bx, rb⟩ = some (.bool (decide (x ∈ (d.rows.getD c none).getD [])), ⟨tm, bx, rb⟩) := by
  have hcx := Contains_spec (G := G) hC hI (d.rows.getD c none) x (hd.r c)
  have hdn := hd.n
  refine doCall_quiet_of hF (by simp) rfl ?_
  unfold mf87
  simp only
  have hH := hD.freeze
  have hQ := hcc.freeze
  generalize bx.map Box.freeze = bx at *
  have hfa := fun tm rb o off => hH.faddr tm rb 2 o off rfl
  have hld := fun tm rb off => hH.ld1 tm rb 2 off rfl
  have hlc : ∀ tm rb, ld1V ⟨tm, bx, rb⟩ (.ptr ic 1 0) = some (.int .i64 c) := fun tm rb => hQ.ld1 tm rb 1 0 rfl
  repeat' first
    | refine W_seq ?_
    | refine W_skip ?_
    | refine W_exit ?_
    | refine W_ret ?_
    | refine W_block ?_
    | (refine W_ops (by simp (disch := first | decide | omega | assumption | exact plain_int _ _ | exact plain_ints _ | exact plain_bool _ | exact one_int _ _ | exact plain_des _ | exact plain_rows _) only [AM, initTm, Nat.reduceAdd, Nat.reduceEqDiff, reduceCtorEq, hlc, hfa, hld, hcx]; rfl) ?_)
    | (refine W_cond (by simp (disch := first | decide | omega | assumption | exact plain_int _ _ | exact plain_ints _ | exact plain_bool _ | exact one_int _ _ | exact plain_des _ | exact plain_rows _) only [AM, initTm, Nat.reduceAdd, Nat.reduceEqDiff, reduceCtorEq, hlc, hfa, hld, hcx]; rfl) ?_ ?_ <;> intro hcond <;> (try simp only [decide_eq_true_eq, decide_eq_false_iff_not, beq_iff_eq, beq_eq_false_iff_ne, ne_eq, reduceCtorEq, Bool.not_eq_true', Bool.not_eq_false', bne_iff_ne, bne_eq_false_iff_eq] at hcond) <;> (try (exfalso; omega)))
    | refine thenQ_n ?_
    | refine thenQ_e ?_
    | refine thenQ_r ?_
    | refine outQ_n ?_
    | refine outQ_r ?_
    | refine outQ_e ?_
    | refine outQ_d (by decide) ?_
  exact ⟨.inr rfl, [_], rfl, by rw [tuple_one]; simp (disch := first | decide | omega | assumption | exact plain_int _ _ | exact plain_ints _ | exact plain_bool _ | exact one_int _ _ | exact plain_des _ | exact plain_rows _) only [AM, initTm, Nat.reduceAdd, Nat.reduceEqDiff, reduceCtorEq]⟩

theorem Meet1_spec (hF : F 85 = some mf85) (hX : F 86 = some mf86) (hM : F 87 = some mf87) (hC : F 75 = some mf75) (hI : F 117 = some mf117) (d : Des) (hd : d.Ok) (id ib ic : Nat) (st : St) (b c : Nat) (hb : b < d.rows.length) (hc : c < d.rows.length)
    (hD : Has st.bx id d.cells) (hbb : Has st.bx ib [.int .i64 b]) (hcc : Has st.bx ic [.int .i64 c]) (hex : ∃ j, j < ((d.rows.getD b none).getD []).length ∧ ((d.rows.getD b none).getD []).getD j 0 ∈ (d.rows.getD c none).getD []) :
    ∃ v, doCall F (E G F) .quiet 85 [.ptr id 2 0, .ptr ib 1 0, .ptr ic 1 0] st = some (v, st) ∧ ∃ i : Nat, v = .int .i64 (((d.rows.getD b none).getD []).getD i 0) ∧ i < ((d.rows.getD b none).getD []).length ∧ ((d.rows.getD b none).getD []).getD i 0 ∈ (d.rows.getD c none).getD [] ∧ ∀ j, j < i → ((d.rows.getD b none).getD []).getD j 0 ∉ (d.rows.getD c none).getD [] := by
  refine doCall_quiet_ex hF (by simp) (fun v ⟨n, h, _⟩ => by rw [h]; rfl) ?_
  unfold mf85
  simp only
  have hH := hD.freeze
  have hP := hbb.freeze
  have hQ := hcc.freeze
  have hff := freeze_freeze st.bx
  have hdn := hd.n
  have hrb := hd.r b
  generalize st.bx.map Box.freeze = bx at *
  have hfa := fun tm rb o off => hH.faddr tm rb 2 o off rfl
  have hld := fun tm rb off => hH.ld1 tm rb 2 off rfl
  have hlb : ∀ tm rb, ld1V ⟨tm, bx, rb⟩ (.ptr ib 1 0) = some (.int .i64 b) := fun tm rb => hP.ld1 tm rb 1 0 rfl
  have hcl : ∀ tm rb x, doCall F (E G F) .quiet 87 [.int .i64 x, .ptr id 2 0, .ptr ic 1 0] ⟨tm, bx, rb⟩ = some (.bool (decide (x ∈ (d.rows.getD c none).getD [])), ⟨tm, bx, rb⟩) := fun tm rb x => Meet11_spec hM hC hI d hd id ic bx x c hc hH hQ tm rb
  generalize hrow : d.rows.getD b none = rb0 at *
  obtain ⟨i, hv, hi, hin, hno⟩ : ∃ i : Nat, (∀ tm rb, doCall F (E G F) .quiet 86 [ints rb0, .clo 87 [.ptr id 2 0, .ptr ic 1 0]] ⟨tm, bx, rb⟩ = some (.int .i64 i, ⟨tm, bx, rb⟩)) ∧ i < (rb0.getD []).length ∧ (rb0.getD []).getD i 0 ∈ (d.rows.getD c none).getD [] ∧ ∀ j, j < i → (rb0.getD []).getD j 0 ∉ (d.rows.getD c none).getD [] := by
    have key := fun tm rb => IndexFunc_spec (G := G) hX rb0 hrb 87 [.ptr id 2 0, .ptr ic 1 0] ⟨tm, bx, rb⟩ (fun x => decide (x ∈ (d.rows.getD c none).getD [])) (fun tm rb x => by
      simp only [hff]
      exact hcl tm rb x)
    obtain ⟨v, h1, n, hn, h2⟩ := key .e 0
    have h2' := h2
    rcases h2 with ⟨i, rfl, hi, hf, hnn⟩ | ⟨rfl, hnn⟩
    · refine ⟨i, fun tm rb => ?_, hi, of_decide_eq_true hf, fun j hj => of_decide_eq_false (hnn j hj)⟩
      obtain ⟨v', h1', n', hn', h3⟩ := key tm rb
      rw [h1', hn', firstAt_one h3 h2']
    · obtain ⟨j, hj, hjc⟩ := hex
      exact absurd hjc (of_decide_eq_false (hnn j hj))
  repeat' first
    | refine W_seq ?_
    | refine W_skip ?_
    | refine W_exit ?_
    | refine W_ret ?_
    | refine W_block ?_
    | (refine W_ops (by simp (disch := first | decide | omega | assumption | exact plain_int _ _ | exact plain_ints _ | exact plain_bool _ | exact one_int _ _ | exact plain_des _ | exact plain_rows _) only [AM, initTm, Nat.reduceAdd, Nat.reduceEqDiff, reduceCtorEq, hlb, hfa, hld, hv, hrow]; rfl) ?_)
    | (refine W_cond (by simp (disch := first | decide | omega | assumption | exact plain_int _ _ | exact plain_ints _ | exact plain_bool _ | exact one_int _ _ | exact plain_des _ | exact plain_rows _) only [AM, initTm, Nat.reduceAdd, Nat.reduceEqDiff, reduceCtorEq, hlb, hfa, hld, hv, hrow]; rfl) ?_ ?_ <;> intro hcond <;> (try simp only [decide_eq_true_eq, decide_eq_false_iff_not, beq_iff_eq, beq_eq_false_iff_ne, ne_eq, reduceCtorEq, Bool.not_eq_true', Bool.not_eq_false', bne_iff_ne, bne_eq_false_iff_eq] at hcond) <;> (try (exfalso; omega)))
    | refine thenQ_n ?_
    | refine thenQ_e ?_
    | refine thenQ_r ?_
    | refine outQ_n ?_
    | refine outQ_r ?_
    | refine outQ_e ?_
    | refine outQ_d (by decide) ?_
  exact ⟨.inr rfl, [_], rfl, i, by rw [tuple_one]; simp (disch := first | decide | omega | assumption | exact plain_int _ _ | exact plain_ints _ | exact plain_bool _ | exact one_int _ _ | exact plain_des _ | exact plain_rows _) only [AM, initTm, Nat.reduceAdd, Nat.reduceEqDiff, reduceCtorEq], hi, hin, hno⟩

/-- What two things have in common. -/
theorem one_spec (hF : F 84 = some mf84) (many a b : Int) (g : Nat) (cap : List AV) (st : St) (n : Int)
    (hc : ¬ (a < 0 ∨ many ≤ a ∨ b < 0 ∨ many ≤ b) → a ≠ b → ∀ tm rb, doCall F (E G F) .quiet g cap ⟨tm, st.bx.map Box.freeze, rb⟩ = some (.int .i64 n, ⟨tm, st.bx.map Box.freeze, rb⟩)) :
    doCall F (E G F) .quiet 84 [.int .i64 many, .int .i64 a, .int .i64 b, .clo g cap] st =
      some (if a < 0 ∨ many ≤ a ∨ b < 0 ∨ many ≤ b then .tup [.int .i64 0, .int .i64 1] else if a = b then .tup [.int .i64 0, .int .i64 6] else .tup [.int .i64 n, .int .i64 0], st) := by
  refine doCall_quiet_of hF (by simp) (by split <;> (try split) <;> rfl) ?_
  unfold mf84
  simp only
  generalize st.bx.map Box.freeze = bx at *
  by_cases p1 : a < 0
  · repeat' first
      | refine W_seq ?_
      | refine W_skip ?_
      | refine W_exit ?_
      | refine W_ret ?_
      | refine W_block ?_
      | (refine W_ops (by simp (disch := first | decide | omega | assumption | exact plain_int _ _ | exact plain_ints _ | exact plain_bool _ | exact one_int _ _ | exact plain_des _ | exact plain_rows _) only [AM, initTm, Nat.reduceAdd, Nat.reduceEqDiff, reduceCtorEq, p1]; rfl) ?_)
      | (refine W_cond (by simp (disch := first | decide | omega | assumption | exact plain_int _ _ | exact plain_ints _ | exact plain_bool _ | exact one_int _ _ | exact plain_des _ | exact plain_rows _) only [AM, initTm, Nat.reduceAdd, Nat.reduceEqDiff, reduceCtorEq, p1]; rfl) ?_ ?_ <;> intro hcond <;> (try simp only [decide_eq_true_eq, decide_eq_false_iff_not, beq_iff_eq, beq_eq_false_iff_ne, ne_eq, reduceCtorEq, Bool.not_eq_true', Bool.not_eq_false', bne_iff_ne, bne_eq_false_iff_eq] at hcond) <;> (try (exfalso; omega)))
      | refine thenQ_n ?_
      | refine thenQ_e ?_
      | refine thenQ_r ?_
      | refine outQ_n ?_
      | refine outQ_r ?_
      | refine outQ_e ?_
      | refine outQ_d (by decide) ?_
    exact ⟨.inr rfl, [_, _], rfl, by rw [if_pos (by omega)]; unfold tuple; simp (disch := first | decide | omega | assumption | exact plain_int _ _ | exact plain_ints _ | exact plain_bool _ | exact one_int _ _ | exact plain_des _ | exact plain_rows _) only [AM, initTm, Nat.reduceAdd, Nat.reduceEqDiff, reduceCtorEq]⟩
  by_cases p2 : a ≥ many
  · repeat' first
      | refine W_seq ?_
      | refine W_skip ?_
      | refine W_exit ?_
      | refine W_ret ?_
      | refine W_block ?_
      | (refine W_ops (by simp (disch := first | decide | omega | assumption | exact plain_int _ _ | exact plain_ints _ | exact plain_bool _ | exact one_int _ _ | exact plain_des _ | exact plain_rows _) only [AM, initTm, Nat.reduceAdd, Nat.reduceEqDiff, reduceCtorEq, p1, p2]; rfl) ?_)
      | (refine W_cond (by simp (disch := first | decide | omega | assumption | exact plain_int _ _ | exact plain_ints _ | exact plain_bool _ | exact one_int _ _ | exact plain_des _ | exact plain_rows _) only [AM, initTm, Nat.reduceAdd, Nat.reduceEqDiff, reduceCtorEq, p1, p2]; rfl) ?_ ?_ <;> intro hcond <;> (try simp only [decide_eq_true_eq, decide_eq_false_iff_not, beq_iff_eq, beq_eq_false_iff_ne, ne_eq, reduceCtorEq, Bool.not_eq_true', Bool.not_eq_false', bne_iff_ne, bne_eq_false_iff_eq] at hcond) <;> (try (exfalso; omega)))
      | refine thenQ_n ?_
      | refine thenQ_e ?_
      | refine thenQ_r ?_
      | refine outQ_n ?_
      | refine outQ_r ?_
      | refine outQ_e ?_
      | refine outQ_d (by decide) ?_
    exact ⟨.inr rfl, [_, _], rfl, by rw [if_pos (by omega)]; unfold tuple; simp (disch := first | decide | omega | assumption | exact plain_int _ _ | exact plain_ints _ | exact plain_bool _ | exact one_int _ _ | exact plain_des _ | exact plain_rows _) only [AM, initTm, Nat.reduceAdd, Nat.reduceEqDiff, reduceCtorEq]⟩
  by_cases q1 : b < 0
  · repeat' first
      | refine W_seq ?_
      | refine W_skip ?_
      | refine W_exit ?_
      | refine W_ret ?_
      | refine W_block ?_
      | (refine W_ops (by simp (disch := first | decide | omega | assumption | exact plain_int _ _ | exact plain_ints _ | exact plain_bool _ | exact one_int _ _ | exact plain_des _ | exact plain_rows _) only [AM, initTm, Nat.reduceAdd, Nat.reduceEqDiff, reduceCtorEq, p1, p2, q1]; rfl) ?_)
      | (refine W_cond (by simp (disch := first | decide | omega | assumption | exact plain_int _ _ | exact plain_ints _ | exact plain_bool _ | exact one_int _ _ | exact plain_des _ | exact plain_rows _) only [AM, initTm, Nat.reduceAdd, Nat.reduceEqDiff, reduceCtorEq, p1, p2, q1]; rfl) ?_ ?_ <;> intro hcond <;> (try simp only [decide_eq_true_eq, decide_eq_false_iff_not, beq_iff_eq, beq_eq_false_iff_ne, ne_eq, reduceCtorEq, Bool.not_eq_true', Bool.not_eq_false', bne_iff_ne, bne_eq_false_iff_eq] at hcond) <;> (try (exfalso; omega)))
      | refine thenQ_n ?_
      | refine thenQ_e ?_
      | refine thenQ_r ?_
      | refine outQ_n ?_
      | refine outQ_r ?_
      | refine outQ_e ?_
      | refine outQ_d (by decide) ?_
    exact ⟨.inr rfl, [_, _], rfl, by rw [if_pos (by omega)]; unfold tuple; simp (disch := first | decide | omega | assumption | exact plain_int _ _ | exact plain_ints _ | exact plain_bool _ | exact one_int _ _ | exact plain_des _ | exact plain_rows _) only [AM, initTm, Nat.reduceAdd, Nat.reduceEqDiff, reduceCtorEq]⟩
  by_cases q2 : b ≥ many
  · repeat' first
      | refine W_seq ?_
      | refine W_skip ?_
      | refine W_exit ?_
      | refine W_ret ?_
      | refine W_block ?_
      | (refine W_ops (by simp (disch := first | decide | omega | assumption | exact plain_int _ _ | exact plain_ints _ | exact plain_bool _ | exact one_int _ _ | exact plain_des _ | exact plain_rows _) only [AM, initTm, Nat.reduceAdd, Nat.reduceEqDiff, reduceCtorEq, p1, p2, q1, q2]; rfl) ?_)
      | (refine W_cond (by simp (disch := first | decide | omega | assumption | exact plain_int _ _ | exact plain_ints _ | exact plain_bool _ | exact one_int _ _ | exact plain_des _ | exact plain_rows _) only [AM, initTm, Nat.reduceAdd, Nat.reduceEqDiff, reduceCtorEq, p1, p2, q1, q2]; rfl) ?_ ?_ <;> intro hcond <;> (try simp only [decide_eq_true_eq, decide_eq_false_iff_not, beq_iff_eq, beq_eq_false_iff_ne, ne_eq, reduceCtorEq, Bool.not_eq_true', Bool.not_eq_false', bne_iff_ne, bne_eq_false_iff_eq] at hcond) <;> (try (exfalso; omega)))
      | refine thenQ_n ?_
      | refine thenQ_e ?_
      | refine thenQ_r ?_
      | refine outQ_n ?_
      | refine outQ_r ?_
      | refine outQ_e ?_
      | refine outQ_d (by decide) ?_
    exact ⟨.inr rfl, [_, _], rfl, by rw [if_pos (by omega)]; unfold tuple; simp (disch := first | decide | omega | assumption | exact plain_int _ _ | exact plain_ints _ | exact plain_bool _ | exact one_int _ _ | exact plain_des _ | exact plain_rows _) only [AM, initTm, Nat.reduceAdd, Nat.reduceEqDiff, reduceCtorEq]⟩
  have hin : ¬ (a < 0 ∨ many ≤ a ∨ b < 0 ∨ many ≤ b) := by omega
  by_cases hab : a = b
  · subst hab
    repeat' first
      | refine W_seq ?_
      | refine W_skip ?_
      | refine W_exit ?_
      | refine W_ret ?_
      | refine W_block ?_
      | (refine W_ops (by simp (disch := first | decide | omega | assumption | exact plain_int _ _ | exact plain_ints _ | exact plain_bool _ | exact one_int _ _ | exact plain_des _ | exact plain_rows _) only [AM, initTm, Nat.reduceAdd, Nat.reduceEqDiff, reduceCtorEq, p1, p2, q1, q2]; rfl) ?_)
      | (refine W_cond (by simp (disch := first | decide | omega | assumption | exact plain_int _ _ | exact plain_ints _ | exact plain_bool _ | exact one_int _ _ | exact plain_des _ | exact plain_rows _) only [AM, initTm, Nat.reduceAdd, Nat.reduceEqDiff, reduceCtorEq, p1, p2, q1, q2]; rfl) ?_ ?_ <;> intro hcond <;> (try simp only [decide_eq_true_eq, decide_eq_false_iff_not, beq_iff_eq, beq_eq_false_iff_ne, ne_eq, reduceCtorEq, Bool.not_eq_true', Bool.not_eq_false', bne_iff_ne, bne_eq_false_iff_eq] at hcond) <;> (try (exfalso; omega)))
      | refine thenQ_n ?_
      | refine thenQ_e ?_
      | refine thenQ_r ?_
      | refine outQ_n ?_
      | refine outQ_r ?_
      | refine outQ_e ?_
      | refine outQ_d (by decide) ?_
    exact ⟨.inr rfl, [_, _], rfl, by rw [if_neg hin, if_pos rfl]; unfold tuple; simp (disch := first | decide | omega | assumption | exact plain_int _ _ | exact plain_ints _ | exact plain_bool _ | exact one_int _ _ | exact plain_des _ | exact plain_rows _) only [AM, initTm, Nat.reduceAdd, Nat.reduceEqDiff, reduceCtorEq]⟩
  · have hcc := hc hin hab
    have hab' : (a == b) = false := by simp [hab]
    repeat' first
      | refine W_seq ?_
      | refine W_skip ?_
      | refine W_exit ?_
      | refine W_ret ?_
      | refine W_block ?_
      | (refine W_ops (by simp (disch := first | decide | omega | assumption | exact plain_int _ _ | exact plain_ints _ | exact plain_bool _ | exact one_int _ _ | exact plain_des _ | exact plain_rows _) only [AM, initTm, Nat.reduceAdd, Nat.reduceEqDiff, reduceCtorEq, p1, p2, q1, q2, hcc, hab']; rfl) ?_)
      | (refine W_cond (by simp (disch := first | decide | omega | assumption | exact plain_int _ _ | exact plain_ints _ | exact plain_bool _ | exact one_int _ _ | exact plain_des _ | exact plain_rows _) only [AM, initTm, Nat.reduceAdd, Nat.reduceEqDiff, reduceCtorEq, p1, p2, q1, q2, hcc, hab']; rfl) ?_ ?_ <;> intro hcond <;> (try simp only [decide_eq_true_eq, decide_eq_false_iff_not, beq_iff_eq, beq_eq_false_iff_ne, ne_eq, reduceCtorEq, Bool.not_eq_true', Bool.not_eq_false', bne_iff_ne, bne_eq_false_iff_eq] at hcond) <;> (try (exfalso; omega)))
      | refine thenQ_n ?_
      | refine thenQ_e ?_
      | refine thenQ_r ?_
      | refine outQ_n ?_
      | refine outQ_r ?_
      | refine outQ_e ?_
      | refine outQ_d (by decide) ?_
    exact ⟨.inr rfl, [_, _], rfl, by rw [if_neg hin, if_neg hab]; unfold tuple; simp (disch := first | decide | omega | assumption | exact plain_int _ _ | exact plain_ints _ | exact plain_bool _ | exact one_int _ _ | exact plain_des _ | exact plain_rows _) only [AM, initTm, Nat.reduceAdd, Nat.reduceEqDiff, reduceCtorEq]⟩
end

end Go.Am

