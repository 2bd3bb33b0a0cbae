/- Functions that take a function. -/
import Derived.Test.YtcibofbmennjpaaDoorAmPl3
set_option linter.unusedVariables false
set_option linter.unusedSimpArgs false
namespace Go.Am

section
variable {G : Nat → List AV} {F : Nat → Option MF}

/-- Where it first holds; -1: nowhere. -/
def firstAt (f : Int → Bool) (l : List Int) (v : Int) : Prop :=
  (∃ i : Nat, v = i ∧ i < l.length ∧ f (l.getD i 0) = true ∧ ∀ j, j < i → f (l.getD j 0) = false) ∨ (v = -1 ∧ ∀ j, j < l.length → f (l.getD j 0) = false)

theorem firstAt_one {f : Int → Bool} {l : List Int} {v w : Int} (h : firstAt f l v) (h' : firstAt f l w) : v = w := by
  rcases h with ⟨i, rfl, hi, hf, hn⟩ | ⟨rfl, hn⟩ <;> rcases h' with ⟨j, rfl, hj, hg, hm⟩ | ⟨rfl, hm⟩
  · by_cases h1 : i < j
    · rw [hm i h1] at hf; cases hf
    · by_cases h2 : j < i
      · rw [hn j h2] at hg; cases hg
      · omega
  · rw [hm i hi] at hf; cases hf
  · rw [hn j hj] at hg; cases hg
  · rfl

theorem firstAt_any {f : Int → Bool} {l : List Int} {v : Int} (h : firstAt f l v) : decide (v ≥ 0) = l.any f := by
  rcases h with ⟨i, rfl, hi, hf, _⟩ | ⟨rfl, hn⟩
  · rw [decide_eq_true (by omega), eq_comm, List.any_eq_true]
    exact ⟨_, getD_mem hi, hf⟩
  · rw [decide_eq_false (by omega), eq_comm, List.any_eq_false]
    intro x hx
    obtain ⟨i, hi, rfl⟩ := List.mem_iff_getElem.1 hx
    have := hn i hi
    rw [List.getD_eq_getElem?_getD, List.getElem?_eq_getElem hi] at this
    simpa using this

theorem doCall_quiet_ex {f : Nat} {mf : MF} (hf : F f = some mf) {args : List AV} {st : St} {P : AV → Prop} (hl : args.length < 65535) (hv : ∀ v, P v → v.scalar = true)
    (h : W G F mf.body ⟨initTm 0 args .e, st.bx.map Box.freeze, 0⟩ fun ex s => (ex = .normal ∨ ex = .ret) ∧ ∃ rs, mf.res.mapM (rvar s) = some rs ∧ P (tuple rs)) :
    ∃ v, doCall F (E G F) .quiet f args st = some (v, st) ∧ P v := by
  obtain ⟨s, rs, h1, h2⟩ := runBody_W h
  refine ⟨tuple rs, ?_, h2⟩
  unfold doCall
  rw [if_neg (by omega)]
  simp only [hf, h1, hv _ h2, if_true]

theorem IndexFunc_spec (hF : F 86 = some mf86) (o : Option (List Int)) (hl : (o.getD []).length < 9223372036854775808) (g : Nat) (cap : List AV) (st : St) (f : Int → Bool)
    (hc : ∀ tm rb x, doCall F (E G F) .quiet g (.int .i64 x :: cap) ⟨tm, st.bx.map Box.freeze, rb⟩ = some (.bool (f x), ⟨tm, st.bx.map Box.freeze, rb⟩)) :
    ∃ v, doCall F (E G F) .quiet 86 [ints o, .clo g cap] st = some (v, st) ∧ ∃ n, v = .int .i64 n ∧ firstAt f (o.getD []) n := by
  refine doCall_quiet_ex hF (by simp) (fun v ⟨n, h, _⟩ => by rw [h]; rfl) ?_
  unfold mf86
  simp only
  generalize st.bx.map Box.freeze = bx at *
  repeat' first
    | refine W_seq ?_
    | refine W_skip ?_
    | refine W_exit ?_
    | refine W_ret ?_
    | refine W_block ?_
    | (refine W_ops (by simp (disch := first | decide | omega | assumption | exact plain_int _ _ | exact plain_ints _ | exact plain_bool _ | exact one_int _ _ | exact plain_des _ | exact plain_rows _) only [AM, initTm, Nat.reduceAdd, Nat.reduceEqDiff, reduceCtorEq]; rfl) ?_)
    | (refine W_cond (by simp (disch := first | decide | omega | assumption | exact plain_int _ _ | exact plain_ints _ | exact plain_bool _ | exact one_int _ _ | exact plain_des _ | exact plain_rows _) only [AM, initTm, Nat.reduceAdd, Nat.reduceEqDiff, reduceCtorEq]; rfl) ?_ ?_ <;> intro hcond <;> (try simp only [decide_eq_true_eq, decide_eq_false_iff_not, beq_iff_eq, beq_eq_false_iff_ne, ne_eq, reduceCtorEq, Bool.not_eq_true', Bool.not_eq_false', bne_iff_ne, bne_eq_false_iff_eq] at hcond) <;> (try (exfalso; omega)))
    | refine thenQ_n ?_
    | refine thenQ_e ?_
    | refine thenQ_r ?_
    | refine outQ_n ?_
    | refine outQ_r ?_
    | refine outQ_e ?_
    | refine outQ_d (by decide) ?_
  refine W_loop (k := (o.getD []).length) (fun k s => ∃ (i : Nat) (tm : Tm), s = ⟨tm, bx, 0⟩ ∧ tm.get 0 = ints o ∧ tm.get 1 = .clo g cap ∧ tm.get 7 = .int .i64 (o.getD []).length ∧ tm.get 8 = .int .i64 i ∧ i ≤ (o.getD []).length ∧ k = (o.getD []).length - i ∧ ∀ j, j < i → f ((o.getD []).getD j 0) = false) ⟨0, _, rfl, by simp (disch := first | decide | omega | assumption | exact plain_int _ _ | exact plain_ints _ | exact plain_bool _ | exact one_int _ _ | exact plain_des _ | exact plain_rows _) only [AM, initTm, Nat.reduceAdd, Nat.reduceEqDiff, reduceCtorEq], by simp (disch := first | decide | omega | assumption | exact plain_int _ _ | exact plain_ints _ | exact plain_bool _ | exact one_int _ _ | exact plain_des _ | exact plain_rows _) only [AM, initTm, Nat.reduceAdd, Nat.reduceEqDiff, reduceCtorEq], by simp (disch := first | decide | omega | assumption | exact plain_int _ _ | exact plain_ints _ | exact plain_bool _ | exact one_int _ _ | exact plain_des _ | exact plain_rows _) only [AM, initTm, Nat.reduceAdd, Nat.reduceEqDiff, reduceCtorEq], by simp (disch := first | decide | omega | assumption | exact plain_int _ _ | exact plain_ints _ | exact plain_bool _ | exact one_int _ _ | exact plain_des _ | exact plain_rows _) only [AM, initTm, Nat.reduceAdd, Nat.reduceEqDiff, reduceCtorEq]; rfl, Nat.zero_le _, rfl, fun j hj => by omega⟩ ?_
  rintro k s ⟨i, tm, rfl, h0, h1, h7, h8, hi, rfl, hx⟩
  repeat' first
    | refine W_seq ?_
    | refine W_skip ?_
    | refine W_exit ?_
    | refine W_ret ?_
    | refine W_block ?_
    | (refine W_ops (by simp (disch := first | decide | omega | assumption | exact plain_int _ _ | exact plain_ints _ | exact plain_bool _ | exact one_int _ _ | exact plain_des _ | exact plain_rows _) only [AM, initTm, Nat.reduceAdd, Nat.reduceEqDiff, reduceCtorEq, h0, h1, h7, h8, hc]; rfl) ?_)
    | (refine W_cond (by simp (disch := first | decide | omega | assumption | exact plain_int _ _ | exact plain_ints _ | exact plain_bool _ | exact one_int _ _ | exact plain_des _ | exact plain_rows _) only [AM, initTm, Nat.reduceAdd, Nat.reduceEqDiff, reduceCtorEq, h0, h1, h7, h8, hc]; rfl) ?_ ?_ <;> intro hcond <;> (try simp only [decide_eq_true_eq, decide_eq_false_iff_not, beq_iff_eq, beq_eq_false_iff_ne, ne_eq, reduceCtorEq, Bool.not_eq_true', Bool.not_eq_false', bne_iff_ne, bne_eq_false_iff_eq] at hcond) <;> (try (exfalso; omega)))
    | refine thenQ_n ?_
    | refine thenQ_e ?_
    | refine thenQ_r ?_
    | refine outQ_n ?_
    | refine outQ_r ?_
    | refine outQ_e ?_
    | refine outQ_d (by decide) ?_
  · exact ⟨.inr rfl, [_], rfl, i, by rw [tuple_one]; simp (disch := first | decide | omega | assumption | exact plain_int _ _ | exact plain_ints _ | exact plain_bool _ | exact one_int _ _ | exact plain_des _ | exact plain_rows _) only [AM, initTm, Nat.reduceAdd, Nat.reduceEqDiff, reduceCtorEq, h8], .inl ⟨i, rfl, by omega, hcond, hx⟩⟩
  · exact ⟨(o.getD []).length - (i + 1), by omega, i + 1, _, rfl, by simp (disch := first | decide | omega | assumption | exact plain_int _ _ | exact plain_ints _ | exact plain_bool _ | exact one_int _ _ | exact plain_des _ | exact plain_rows _) only [AM, initTm, Nat.reduceAdd, Nat.reduceEqDiff, reduceCtorEq, h0], by simp (disch := first | decide | omega | assumption | exact plain_int _ _ | exact plain_ints _ | exact plain_bool _ | exact one_int _ _ | exact plain_des _ | exact plain_rows _) only [AM, initTm, Nat.reduceAdd, Nat.reduceEqDiff, reduceCtorEq, h1], by simp (disch := first | decide | omega | assumption | exact plain_int _ _ | exact plain_ints _ | exact plain_bool _ | exact one_int _ _ | exact plain_des _ | exact plain_rows _) only [AM, initTm, Nat.reduceAdd, Nat.reduceEqDiff, reduceCtorEq, h7], by simp (disch := first | decide | omega | assumption | exact plain_int _ _ | exact plain_ints _ | exact plain_bool _ | exact one_int _ _ | exact plain_des _ | exact plain_rows _) only [AM, initTm, Nat.reduceAdd, Nat.reduceEqDiff, reduceCtorEq, h8]; rfl, by omega, rfl, fun j hj => by
      by_cases e : j = i
      · subst e; exact hcond
      · exact hx j (by omega)⟩
  · exact ⟨.inr rfl, [_], rfl, -1, by rw [tuple_one]; simp (disch := first | decide | omega | assumption | exact plain_int _ _ | exact plain_ints _ | exact plain_bool _ | exact one_int _ _ | exact plain_des _ | exact plain_rows _) only [AM, initTm, Nat.reduceAdd, Nat.reduceEqDiff, reduceCtorEq], .inr ⟨rfl, fun j hj => hx j (by omega)⟩⟩

theorem ContainsFunc_spec (hF : F 72 = some mf72) (hI : F 86 = some mf86) (o : Option (List Int)) (hl : (o.getD []).length < 9223372036854775808) (g : Nat) (cap : List AV) (st : St) (f : Int → Bool)
    (hc : ∀ tm rb x, doCall F (E G F) .quiet g (.int .i64 x :: cap) ⟨tm, st.bx.map Box.freeze, rb⟩ = some (.bool (f x), ⟨tm, st.bx.map Box.freeze, rb⟩)) :
    doCall F (E G F) .quiet 72 [ints o, .clo g cap] st = some (.bool ((o.getD []).any f), st) := by
  refine doCall_quiet_of hF (by simp) rfl ?_
  unfold mf72
  simp only
  have hff := freeze_freeze st.bx
  generalize hbx : st.bx.map Box.freeze = bx at *
  obtain ⟨v, hv, n, rfl, hn⟩ : ∃ v, (∀ tm rb, doCall F (E G F) .quiet 86 [ints o, .clo g cap] ⟨tm, bx, rb⟩ = some (v, ⟨tm, bx, rb⟩)) ∧ ∃ n, v = .int .i64 n ∧ firstAt f (o.getD []) n := by
    have key := fun tm rb => IndexFunc_spec (G := G) hI o hl g cap ⟨tm, bx, rb⟩ f (by rw [hff]; exact hc)
    obtain ⟨v, h1, n, hn, h2⟩ := key .e 0
    refine ⟨v, fun tm rb => ?_, n, hn, h2⟩
    obtain ⟨v', h1', n', hn', h2'⟩ := key tm rb
    rw [h1', hn', hn]
    have : n' = n := firstAt_one h2' h2
    rw [this]
  repeat' first
    | refine W_seq ?_
    | refine W_skip ?_
    | refine W_exit ?_
    | refine W_ret ?_
    | refine W_block ?_
    | (refine W_ops (by simp (disch := first | decide | omega | assumption | exact plain_int _ _ | exact plain_ints _ | exact plain_bool _ | exact one_int _ _ | exact plain_des _ | exact plain_rows _) only [AM, initTm, Nat.reduceAdd, Nat.reduceEqDiff, reduceCtorEq, hv]; rfl) ?_)
    | (refine W_cond (by simp (disch := first | decide | omega | assumption | exact plain_int _ _ | exact plain_ints _ | exact plain_bool _ | exact one_int _ _ | exact plain_des _ | exact plain_rows _) only [AM, initTm, Nat.reduceAdd, Nat.reduceEqDiff, reduceCtorEq, hv]; rfl) ?_ ?_ <;> intro hcond <;> (try simp only [decide_eq_true_eq, decide_eq_false_iff_not, beq_iff_eq, beq_eq_false_iff_ne, ne_eq, reduceCtorEq, Bool.not_eq_true', Bool.not_eq_false', bne_iff_ne, bne_eq_false_iff_eq] at hcond) <;> (try (exfalso; omega)))
    | refine thenQ_n ?_
    | refine thenQ_e ?_
    | refine thenQ_r ?_
    | refine outQ_n ?_
    | refine outQ_r ?_
    | refine outQ_e ?_
    | refine outQ_d (by decide) ?_
  refine ⟨.inr rfl, [_], rfl, ?_⟩
  rw [tuple_one]
  simp (disch := first | decide | omega | assumption | exact plain_int _ _ | exact plain_ints _ | exact plain_bool _ | exact one_int _ _ | exact plain_des _ | exact plain_rows _) only [AM, initTm, Nat.reduceAdd, Nat.reduceEqDiff, reduceCtorEq]
  rw [firstAt_any hn]

theorem Check1_spec (hF : F 108 = some mf108) (d : Des) (id : Nat) (bx : List Box) (hb : Has bx id d.cells) (tm : Tm) (rb : Nat) (x : Int) :
    doCall F (E G F) .quiet 108 [.int .i64 x, .ptr id 2 0] ⟨tm, bx, rb⟩ = some (.bool (decide (x < 0 ∨ d.points ≤ x)), ⟨tm, bx, rb⟩) := by
  refine doCall_quiet_of hF (by simp) rfl ?_
  unfold mf108
  simp only
  have hH := hb.freeze
  have hfa := fun tm rb o off => hH.faddr tm rb 2 o off rfl
  have hld := fun tm rb off => hH.ld1 tm rb 2 off rfl
  by_cases hneg : x < 0
  · repeat' first
      | refine W_seq ?_
      | refine W_skip ?_
      | refine W_exit ?_
      | refine W_ret ?_
      | refine W_block ?_
      | (refine W_ops (by simp (disch := first | decide | omega | assumption | exact plain_int _ _ | exact plain_ints _ | exact plain_bool _ | exact one_int _ _ | exact plain_des _ | exact plain_rows _) only [AM, initTm, Nat.reduceAdd, Nat.reduceEqDiff, reduceCtorEq, hfa, hld, hneg]; rfl) ?_)
      | (refine W_cond (by simp (disch := first | decide | omega | assumption | exact plain_int _ _ | exact plain_ints _ | exact plain_bool _ | exact one_int _ _ | exact plain_des _ | exact plain_rows _) only [AM, initTm, Nat.reduceAdd, Nat.reduceEqDiff, reduceCtorEq, hfa, hld, hneg]; rfl) ?_ ?_ <;> intro hcond <;> (try simp only [decide_eq_true_eq, decide_eq_false_iff_not, beq_iff_eq, beq_eq_false_iff_ne, ne_eq, reduceCtorEq, Bool.not_eq_true', Bool.not_eq_false', bne_iff_ne, bne_eq_false_iff_eq] at hcond) <;> (try (exfalso; omega)))
      | refine thenQ_n ?_
      | refine thenQ_e ?_
      | refine thenQ_r ?_
      | refine outQ_n ?_
      | refine outQ_r ?_
      | refine outQ_e ?_
      | refine outQ_d (by decide) ?_
    refine ⟨.inr rfl, [_], rfl, ?_⟩
    rw [tuple_one]
    simp (disch := first | decide | omega | assumption | exact plain_int _ _ | exact plain_ints _ | exact plain_bool _ | exact one_int _ _ | exact plain_des _ | exact plain_rows _) only [AM, initTm, Nat.reduceAdd, Nat.reduceEqDiff, reduceCtorEq]
    rw [decide_eq_true (.inl hneg)]
  · repeat' first
      | refine W_seq ?_
      | refine W_skip ?_
      | refine W_exit ?_
      | refine W_ret ?_
      | refine W_block ?_
      | (refine W_ops (by simp (disch := first | decide | omega | assumption | exact plain_int _ _ | exact plain_ints _ | exact plain_bool _ | exact one_int _ _ | exact plain_des _ | exact plain_rows _) only [AM, initTm, Nat.reduceAdd, Nat.reduceEqDiff, reduceCtorEq, hfa, hld, hneg]; rfl) ?_)
      | (refine W_cond (by simp (disch := first | decide | omega | assumption | exact plain_int _ _ | exact plain_ints _ | exact plain_bool _ | exact one_int _ _ | exact plain_des _ | exact plain_rows _) only [AM, initTm, Nat.reduceAdd, Nat.reduceEqDiff, reduceCtorEq, hfa, hld, hneg]; rfl) ?_ ?_ <;> intro hcond <;> (try simp only [decide_eq_true_eq, decide_eq_false_iff_not, beq_iff_eq, beq_eq_false_iff_ne, ne_eq, reduceCtorEq, Bool.not_eq_true', Bool.not_eq_false', bne_iff_ne, bne_eq_false_iff_eq] at hcond) <;> (try (exfalso; omega)))
      | refine thenQ_n ?_
      | refine thenQ_e ?_
      | refine thenQ_r ?_
      | refine outQ_n ?_
      | refine outQ_r ?_
      | refine outQ_e ?_
      | refine outQ_d (by decide) ?_
    refine ⟨.inr rfl, [_], rfl, ?_⟩
    rw [tuple_one]
    simp (disch := first | decide | omega | assumption | exact plain_int _ _ | exact plain_ints _ | exact plain_bool _ | exact one_int _ _ | exact plain_des _ | exact plain_rows _) only [AM, initTm, Nat.reduceAdd, Nat.reduceEqDiff, reduceCtorEq]
    simp [hneg]

theorem out_any (n : Int) (l : List Int) : (l.any fun x => decide (x < 0 ∨ n ≤ x)) = true ↔ Out n l := by
  rw [List.any_eq_true]
  constructor
  · rintro ⟨x, hx, hd⟩
    obtain ⟨i, hi, rfl⟩ := List.mem_iff_getElem.1 hx
    refine ⟨i, hi, ?_⟩
    rw [List.getD_eq_getElem?_getD, List.getElem?_eq_getElem hi]
    simpa using hd
  · rintro ⟨i, hi, hd⟩
    exact ⟨_, getD_mem hi, decide_eq_true hd⟩

theorem pcall_Check (hF : F 50 = some mf50) (h1 : F 108 = some mf108) (hCF : F 72 = some mf72) (hI : F 86 = some mf86) (d : Des) (hd : d.Ok) :
    ∃ v, pcall F (E G F) 50 [d.av] = some (.val v, false) ∧ ∃ e, v = .int .i64 e ∧ Fault d e := by
  have hH : Has [⟨d.cells, 2, 39, .live⟩] 0 d.cells := Has.new _ _ _
  have hfa := fun tm rb o off => hH.faddr tm rb 2 o off rfl
  have hld := fun tm rb off => hH.ld1 tm rb 2 off rfl
  have hdn := hd.n
  have hcf := fun (o : Option (List Int)) (hl : (o.getD []).length < 9223372036854775808) tm rb => ContainsFunc_spec (G := G) hCF hI o hl 108 [.ptr 0 2 0] ⟨tm, [⟨d.cells, 2, 39, .live⟩], rb⟩ (fun x => decide (x < 0 ∨ d.points ≤ x)) (fun tm rb x => Check1_spec h1 d 0 _ hH.freeze tm rb x)
  refine pcall_ex hF (fun v ⟨e, he, _⟩ => he ▸ ⟨fun _ _ h => (by cases h), fun _ => rfl, fun _ => rfl⟩) ?_
  unfold mf50
  simp only
  by_cases hp1 : d.points < 1
  · repeat' first
      | refine W_seq ?_
      | refine W_skip ?_
      | refine W_exit ?_
      | refine W_ret ?_
      | refine W_block ?_
      | (refine W_ops (by simp (disch := first | decide | omega | assumption | exact plain_int _ _ | exact plain_ints _ | exact plain_bool _ | exact one_int _ _ | exact plain_des _ | exact plain_rows _) only [AM, initTm, Nat.reduceAdd, Nat.reduceEqDiff, reduceCtorEq, hfa, hld, hp1]; rfl) ?_)
      | (refine W_cond (by simp (disch := first | decide | omega | assumption | exact plain_int _ _ | exact plain_ints _ | exact plain_bool _ | exact one_int _ _ | exact plain_des _ | exact plain_rows _) only [AM, initTm, Nat.reduceAdd, Nat.reduceEqDiff, reduceCtorEq, hfa, hld, hp1]; rfl) ?_ ?_ <;> intro hcond <;> (try simp only [decide_eq_true_eq, decide_eq_false_iff_not, beq_iff_eq, beq_eq_false_iff_ne, ne_eq, reduceCtorEq, Bool.not_eq_true', Bool.not_eq_false', bne_iff_ne, bne_eq_false_iff_eq] at hcond) <;> (try (exfalso; omega)))
      | refine thenQ_n ?_
      | refine thenQ_e ?_
      | refine thenQ_r ?_
      | refine outQ_n ?_
      | refine outQ_r ?_
      | refine outQ_e ?_
      | refine outQ_d (by decide) ?_
    exact ⟨.inr rfl, [_], rfl, 1, by rw [tuple_one]; simp (disch := first | decide | omega | assumption | exact plain_int _ _ | exact plain_ints _ | exact plain_bool _ | exact one_int _ _ | exact plain_des _ | exact plain_rows _) only [AM, initTm, Nat.reduceAdd, Nat.reduceEqDiff, reduceCtorEq], .few (.inl hp1)⟩
  by_cases hp2 : d.points > 40
  · repeat' first
      | refine W_seq ?_
      | refine W_skip ?_
      | refine W_exit ?_
      | refine W_ret ?_
      | refine W_block ?_
      | (refine W_ops (by simp (disch := first | decide | omega | assumption | exact plain_int _ _ | exact plain_ints _ | exact plain_bool _ | exact one_int _ _ | exact plain_des _ | exact plain_rows _) only [AM, initTm, Nat.reduceAdd, Nat.reduceEqDiff, reduceCtorEq, hfa, hld, hp1, hp2]; rfl) ?_)
      | (refine W_cond (by simp (disch := first | decide | omega | assumption | exact plain_int _ _ | exact plain_ints _ | exact plain_bool _ | exact one_int _ _ | exact plain_des _ | exact plain_rows _) only [AM, initTm, Nat.reduceAdd, Nat.reduceEqDiff, reduceCtorEq, hfa, hld, hp1, hp2]; rfl) ?_ ?_ <;> intro hcond <;> (try simp only [decide_eq_true_eq, decide_eq_false_iff_not, beq_iff_eq, beq_eq_false_iff_ne, ne_eq, reduceCtorEq, Bool.not_eq_true', Bool.not_eq_false', bne_iff_ne, bne_eq_false_iff_eq] at hcond) <;> (try (exfalso; omega)))
      | refine thenQ_n ?_
      | refine thenQ_e ?_
      | refine thenQ_r ?_
      | refine outQ_n ?_
      | refine outQ_r ?_
      | refine outQ_e ?_
      | refine outQ_d (by decide) ?_
    exact ⟨.inr rfl, [_], rfl, 1, by rw [tuple_one]; simp (disch := first | decide | omega | assumption | exact plain_int _ _ | exact plain_ints _ | exact plain_bool _ | exact one_int _ _ | exact plain_des _ | exact plain_rows _) only [AM, initTm, Nat.reduceAdd, Nat.reduceEqDiff, reduceCtorEq], .few (.inr hp2)⟩
  have hp : ¬ (d.points < 1 ∨ 40 < d.points) := by omega
  repeat' first
    | refine W_seq ?_
    | refine W_skip ?_
    | refine W_exit ?_
    | refine W_ret ?_
    | refine W_block ?_
    | (refine W_ops (by simp (disch := first | decide | omega | assumption | exact plain_int _ _ | exact plain_ints _ | exact plain_bool _ | exact one_int _ _ | exact plain_des _ | exact plain_rows _) only [AM, initTm, Nat.reduceAdd, Nat.reduceEqDiff, reduceCtorEq, hfa, hld, hp1, hp2]; rfl) ?_)
    | (refine W_cond (by simp (disch := first | decide | omega | assumption | exact plain_int _ _ | exact plain_ints _ | exact plain_bool _ | exact one_int _ _ | exact plain_des _ | exact plain_rows _) only [AM, initTm, Nat.reduceAdd, Nat.reduceEqDiff, reduceCtorEq, hfa, hld, hp1, hp2]; rfl) ?_ ?_ <;> intro hcond <;> (try simp only [decide_eq_true_eq, decide_eq_false_iff_not, beq_iff_eq, beq_eq_false_iff_ne, ne_eq, reduceCtorEq, Bool.not_eq_true', Bool.not_eq_false', bne_iff_ne, bne_eq_false_iff_eq] at hcond) <;> (try (exfalso; omega)))
    | refine thenQ_n ?_
    | refine thenQ_e ?_
    | refine thenQ_r ?_
    | refine outQ_n ?_
    | refine outQ_r ?_
    | refine outQ_e ?_
    | refine outQ_d (by decide) ?_
  · exact ⟨.inr rfl, [_], rfl, 3, by rw [tuple_one]; simp (disch := first | decide | omega | assumption | exact plain_int _ _ | exact plain_ints _ | exact plain_bool _ | exact one_int _ _ | exact plain_des _ | exact plain_rows _) only [AM, initTm, Nat.reduceAdd, Nat.reduceEqDiff, reduceCtorEq], .full hp (by omega)⟩
  refine W_loop (k := d.rows.length) (fun k s => ∃ (i : Nat) (tm : Tm), s = ⟨tm, [⟨d.cells, 2, 39, .live⟩], 0⟩ ∧ tm.get 1 = .ptr 0 2 0 ∧ tm.get 21 = rowsV d.blocks ∧ tm.get 22 = .int .i64 d.rows.length ∧ tm.get 23 = .int .i64 i ∧ i ≤ d.rows.length ∧ k = d.rows.length - i ∧ ∀ j, j < i → ¬ Out d.points ((d.rows.getD j none).getD []) ∧ ¬ Down ((d.rows.getD j none).getD [])) ⟨0, _, rfl, by simp (disch := first | decide | omega | assumption | exact plain_int _ _ | exact plain_ints _ | exact plain_bool _ | exact one_int _ _ | exact plain_des _ | exact plain_rows _) only [AM, initTm, Nat.reduceAdd, Nat.reduceEqDiff, reduceCtorEq], by simp (disch := first | decide | omega | assumption | exact plain_int _ _ | exact plain_ints _ | exact plain_bool _ | exact one_int _ _ | exact plain_des _ | exact plain_rows _) only [AM, initTm, Nat.reduceAdd, Nat.reduceEqDiff, reduceCtorEq], by simp (disch := first | decide | omega | assumption | exact plain_int _ _ | exact plain_ints _ | exact plain_bool _ | exact one_int _ _ | exact plain_des _ | exact plain_rows _) only [AM, initTm, Nat.reduceAdd, Nat.reduceEqDiff, reduceCtorEq], by simp (disch := first | decide | omega | assumption | exact plain_int _ _ | exact plain_ints _ | exact plain_bool _ | exact one_int _ _ | exact plain_des _ | exact plain_rows _) only [AM, initTm, Nat.reduceAdd, Nat.reduceEqDiff, reduceCtorEq]; rfl, Nat.zero_le _, rfl, fun j hj => by omega⟩ ?_
  rintro k s ⟨i, tm, rfl, g1, g21, g22, g23, hi, rfl, hx⟩
  by_cases hlt : (i : Int) < (d.rows.length : Int)
  · have hri := hd.r i
    have hin : i < d.rows.length := by omega
    generalize hro : d.rows.getD i none = ro at *
    have hcf' := hcf ro hri
    by_cases ho : Out d.points (ro.getD [])
    · have hany := (out_any d.points (ro.getD [])).2 ho
      repeat' first
        | refine W_seq ?_
        | refine W_skip ?_
        | refine W_exit ?_
        | refine W_ret ?_
        | refine W_block ?_
        | (refine W_ops (by simp (disch := first | decide | omega | assumption | exact plain_int _ _ | exact plain_ints _ | exact plain_bool _ | exact one_int _ _ | exact plain_des _ | exact plain_rows _) only [AM, initTm, Nat.reduceAdd, Nat.reduceEqDiff, reduceCtorEq, g1, g21, g22, g23, hfa, hld, hlt, hro, hcf', hany]; rfl) ?_)
        | (refine W_cond (by simp (disch := first | decide | omega | assumption | exact plain_int _ _ | exact plain_ints _ | exact plain_bool _ | exact one_int _ _ | exact plain_des _ | exact plain_rows _) only [AM, initTm, Nat.reduceAdd, Nat.reduceEqDiff, reduceCtorEq, g1, g21, g22, g23, hfa, hld, hlt, hro, hcf', hany]; rfl) ?_ ?_ <;> intro hcond <;> (try simp only [decide_eq_true_eq, decide_eq_false_iff_not, beq_iff_eq, beq_eq_false_iff_ne, ne_eq, reduceCtorEq, Bool.not_eq_true', Bool.not_eq_false', bne_iff_ne, bne_eq_false_iff_eq] at hcond) <;> (try (exfalso; omega)))
        | refine thenQ_n ?_
        | refine thenQ_e ?_
        | refine thenQ_r ?_
        | refine outQ_n ?_
        | refine outQ_r ?_
        | refine outQ_e ?_
        | refine outQ_d (by decide) ?_
      exact ⟨.inr rfl, [_], rfl, 1, by rw [tuple_one]; simp (disch := first | decide | omega | assumption | exact plain_int _ _ | exact plain_ints _ | exact plain_bool _ | exact one_int _ _ | exact plain_des _ | exact plain_rows _) only [AM, initTm, Nat.reduceAdd, Nat.reduceEqDiff, reduceCtorEq], .out hp (by omega) i hin hx (by rw [hro]; exact ho)⟩
    · have hany : ((ro.getD []).any fun x => decide (x < 0 ∨ d.points ≤ x)) = false := by
        cases h : (ro.getD []).any fun x => decide (x < 0 ∨ d.points ≤ x) with
        | false => rfl
        | true => exact absurd ((out_any _ _).1 h) ho
      repeat' first
        | refine W_seq ?_
        | refine W_skip ?_
        | refine W_exit ?_
        | refine W_ret ?_
        | refine W_block ?_
        | (refine W_ops (by simp (disch := first | decide | omega | assumption | exact plain_int _ _ | exact plain_ints _ | exact plain_bool _ | exact one_int _ _ | exact plain_des _ | exact plain_rows _) only [AM, initTm, Nat.reduceAdd, Nat.reduceEqDiff, reduceCtorEq, g1, g21, g22, g23, hfa, hld, hlt, hro, hcf', hany]; rfl) ?_)
        | (refine W_cond (by simp (disch := first | decide | omega | assumption | exact plain_int _ _ | exact plain_ints _ | exact plain_bool _ | exact one_int _ _ | exact plain_des _ | exact plain_rows _) only [AM, initTm, Nat.reduceAdd, Nat.reduceEqDiff, reduceCtorEq, g1, g21, g22, g23, hfa, hld, hlt, hro, hcf', hany]; rfl) ?_ ?_ <;> intro hcond <;> (try simp only [decide_eq_true_eq, decide_eq_false_iff_not, beq_iff_eq, beq_eq_false_iff_ne, ne_eq, reduceCtorEq, Bool.not_eq_true', Bool.not_eq_false', bne_iff_ne, bne_eq_false_iff_eq] at hcond) <;> (try (exfalso; omega)))
        | refine thenQ_n ?_
        | refine thenQ_e ?_
        | refine thenQ_r ?_
        | refine outQ_n ?_
        | refine outQ_r ?_
        | refine outQ_e ?_
        | refine outQ_d (by decide) ?_
      refine W_loop (k := (ro.getD []).length - 1) (fun k s => ∃ (j : Nat) (tm : Tm), s = ⟨tm, [⟨d.cells, 2, 39, .live⟩], 0⟩ ∧ tm.get 1 = .ptr 0 2 0 ∧ tm.get 21 = rowsV d.blocks ∧ tm.get 22 = .int .i64 d.rows.length ∧ tm.get 23 = .int .i64 i ∧ tm.get 4 = ints ro ∧ tm.get 5 = .int .i64 j ∧ 1 ≤ j ∧ k = (ro.getD []).length - j ∧ j ≤ (ro.getD []).length + 1 ∧ ∀ m, 1 ≤ m → m < j → m < (ro.getD []).length → ¬ ((ro.getD []).getD m 0 ≤ (ro.getD []).getD (m - 1) 0)) ⟨1, _, rfl, by simp (disch := first | decide | omega | assumption | exact plain_int _ _ | exact plain_ints _ | exact plain_bool _ | exact one_int _ _ | exact plain_des _ | exact plain_rows _) only [AM, initTm, Nat.reduceAdd, Nat.reduceEqDiff, reduceCtorEq, g1], by simp (disch := first | decide | omega | assumption | exact plain_int _ _ | exact plain_ints _ | exact plain_bool _ | exact one_int _ _ | exact plain_des _ | exact plain_rows _) only [AM, initTm, Nat.reduceAdd, Nat.reduceEqDiff, reduceCtorEq, g21], by simp (disch := first | decide | omega | assumption | exact plain_int _ _ | exact plain_ints _ | exact plain_bool _ | exact one_int _ _ | exact plain_des _ | exact plain_rows _) only [AM, initTm, Nat.reduceAdd, Nat.reduceEqDiff, reduceCtorEq, g22], by simp (disch := first | decide | omega | assumption | exact plain_int _ _ | exact plain_ints _ | exact plain_bool _ | exact one_int _ _ | exact plain_des _ | exact plain_rows _) only [AM, initTm, Nat.reduceAdd, Nat.reduceEqDiff, reduceCtorEq, g23], by simp (disch := first | decide | omega | assumption | exact plain_int _ _ | exact plain_ints _ | exact plain_bool _ | exact one_int _ _ | exact plain_des _ | exact plain_rows _) only [AM, initTm, Nat.reduceAdd, Nat.reduceEqDiff, reduceCtorEq], by simp (disch := first | decide | omega | assumption | exact plain_int _ _ | exact plain_ints _ | exact plain_bool _ | exact one_int _ _ | exact plain_des _ | exact plain_rows _) only [AM, initTm, Nat.reduceAdd, Nat.reduceEqDiff, reduceCtorEq]; rfl, Nat.le_refl _, rfl, by omega, fun m h1 h2 => by omega⟩ ?_
      rintro k s ⟨j, tm', rfl, g1, g21, g22, g23, g4, g5, hj, rfl, hj1, hm⟩
      have ej : ((j : Int) - 1).toNat = j - 1 := by omega
      repeat' first
        | refine W_seq ?_
        | refine W_skip ?_
        | refine W_exit ?_
        | refine W_ret ?_
        | refine W_block ?_
        | (refine W_ops (by simp (disch := first | decide | omega | assumption | exact plain_int _ _ | exact plain_ints _ | exact plain_bool _ | exact one_int _ _ | exact plain_des _ | exact plain_rows _) only [AM, initTm, Nat.reduceAdd, Nat.reduceEqDiff, reduceCtorEq, g1, g21, g22, g23, g4, g5, hfa, hld, ej]; rfl) ?_)
        | (refine W_cond (by simp (disch := first | decide | omega | assumption | exact plain_int _ _ | exact plain_ints _ | exact plain_bool _ | exact one_int _ _ | exact plain_des _ | exact plain_rows _) only [AM, initTm, Nat.reduceAdd, Nat.reduceEqDiff, reduceCtorEq, g1, g21, g22, g23, g4, g5, hfa, hld, ej]; rfl) ?_ ?_ <;> intro hcond <;> (try simp only [decide_eq_true_eq, decide_eq_false_iff_not, beq_iff_eq, beq_eq_false_iff_ne, ne_eq, reduceCtorEq, Bool.not_eq_true', Bool.not_eq_false', bne_iff_ne, bne_eq_false_iff_eq] at hcond) <;> (try (exfalso; omega)))
        | refine thenQ_n ?_
        | refine thenQ_e ?_
        | refine thenQ_r ?_
        | refine outQ_n ?_
        | refine outQ_r ?_
        | refine outQ_e ?_
        | refine outQ_d (by decide) ?_
      · exact ⟨.inr rfl, [_], rfl, 2, by rw [tuple_one]; simp (disch := first | decide | omega | assumption | exact plain_int _ _ | exact plain_ints _ | exact plain_bool _ | exact one_int _ _ | exact plain_des _ | exact plain_rows _) only [AM, initTm, Nat.reduceAdd, Nat.reduceEqDiff, reduceCtorEq], .down hp (by omega) i hin hx (by rw [hro]; exact ho) (by rw [hro]; exact ⟨j, hj, by omega, hcond⟩)⟩
      · exact ⟨(ro.getD []).length - (j + 1), by omega, j + 1, _, rfl, by simp (disch := first | decide | omega | assumption | exact plain_int _ _ | exact plain_ints _ | exact plain_bool _ | exact one_int _ _ | exact plain_des _ | exact plain_rows _) only [AM, initTm, Nat.reduceAdd, Nat.reduceEqDiff, reduceCtorEq, g1], by simp (disch := first | decide | omega | assumption | exact plain_int _ _ | exact plain_ints _ | exact plain_bool _ | exact one_int _ _ | exact plain_des _ | exact plain_rows _) only [AM, initTm, Nat.reduceAdd, Nat.reduceEqDiff, reduceCtorEq, g21], by simp (disch := first | decide | omega | assumption | exact plain_int _ _ | exact plain_ints _ | exact plain_bool _ | exact one_int _ _ | exact plain_des _ | exact plain_rows _) only [AM, initTm, Nat.reduceAdd, Nat.reduceEqDiff, reduceCtorEq, g22], by simp (disch := first | decide | omega | assumption | exact plain_int _ _ | exact plain_ints _ | exact plain_bool _ | exact one_int _ _ | exact plain_des _ | exact plain_rows _) only [AM, initTm, Nat.reduceAdd, Nat.reduceEqDiff, reduceCtorEq, g23], by simp (disch := first | decide | omega | assumption | exact plain_int _ _ | exact plain_ints _ | exact plain_bool _ | exact one_int _ _ | exact plain_des _ | exact plain_rows _) only [AM, initTm, Nat.reduceAdd, Nat.reduceEqDiff, reduceCtorEq, g4], by simp (disch := first | decide | omega | assumption | exact plain_int _ _ | exact plain_ints _ | exact plain_bool _ | exact one_int _ _ | exact plain_des _ | exact plain_rows _) only [AM, initTm, Nat.reduceAdd, Nat.reduceEqDiff, reduceCtorEq]; rfl, by omega, rfl, by omega, fun m h1 h2 h3 => by
          by_cases e : m = j
          · subst e; exact hcond
          · exact hm m h1 (by omega) h3⟩
      · exact ⟨d.rows.length - (i + 1), by omega, i + 1, _, rfl, by simp (disch := first | decide | omega | assumption | exact plain_int _ _ | exact plain_ints _ | exact plain_bool _ | exact one_int _ _ | exact plain_des _ | exact plain_rows _) only [AM, initTm, Nat.reduceAdd, Nat.reduceEqDiff, reduceCtorEq, g1], by simp (disch := first | decide | omega | assumption | exact plain_int _ _ | exact plain_ints _ | exact plain_bool _ | exact one_int _ _ | exact plain_des _ | exact plain_rows _) only [AM, initTm, Nat.reduceAdd, Nat.reduceEqDiff, reduceCtorEq, g21], by simp (disch := first | decide | omega | assumption | exact plain_int _ _ | exact plain_ints _ | exact plain_bool _ | exact one_int _ _ | exact plain_des _ | exact plain_rows _) only [AM, initTm, Nat.reduceAdd, Nat.reduceEqDiff, reduceCtorEq, g22], by simp (disch := first | decide | omega | assumption | exact plain_int _ _ | exact plain_ints _ | exact plain_bool _ | exact one_int _ _ | exact plain_des _ | exact plain_rows _) only [AM, initTm, Nat.reduceAdd, Nat.reduceEqDiff, reduceCtorEq]; rfl, by omega, rfl, fun m hm' => by
          by_cases e : m = i
          · subst e; rw [hro]; exact ⟨ho, fun ⟨q, q1, q2, q3⟩ => hm q q1 (by omega) q2 q3⟩
          · exact hx m (by omega)⟩
  · repeat' first
      | refine W_seq ?_
      | refine W_skip ?_
      | refine W_exit ?_
      | refine W_ret ?_
      | refine W_block ?_
      | (refine W_ops (by simp (disch := first | decide | omega | assumption | exact plain_int _ _ | exact plain_ints _ | exact plain_bool _ | exact one_int _ _ | exact plain_des _ | exact plain_rows _) only [AM, initTm, Nat.reduceAdd, Nat.reduceEqDiff, reduceCtorEq, g1, g21, g22, g23, hfa, hld, hlt]; rfl) ?_)
      | (refine W_cond (by simp (disch := first | decide | omega | assumption | exact plain_int _ _ | exact plain_ints _ | exact plain_bool _ | exact one_int _ _ | exact plain_des _ | exact plain_rows _) only [AM, initTm, Nat.reduceAdd, Nat.reduceEqDiff, reduceCtorEq, g1, g21, g22, g23, hfa, hld, hlt]; rfl) ?_ ?_ <;> intro hcond <;> (try simp only [decide_eq_true_eq, decide_eq_false_iff_not, beq_iff_eq, beq_eq_false_iff_ne, ne_eq, reduceCtorEq, Bool.not_eq_true', Bool.not_eq_false', bne_iff_ne, bne_eq_false_iff_eq] at hcond) <;> (try (exfalso; omega)))
      | refine thenQ_n ?_
      | refine thenQ_e ?_
      | refine thenQ_r ?_
      | refine outQ_n ?_
      | refine outQ_r ?_
      | refine outQ_e ?_
      | refine outQ_d (by decide) ?_
    exact ⟨.inr rfl, [_], rfl, 0, by rw [tuple_one]; simp (disch := first | decide | omega | assumption | exact plain_int _ _ | exact plain_ints _ | exact plain_bool _ | exact one_int _ _ | exact plain_des _ | exact plain_rows _) only [AM, initTm, Nat.reduceAdd, Nat.reduceEqDiff, reduceCtorEq], .ok hp (by omega) (fun j hj => hx j (by omega))⟩
end
end Go.Am
