/- The fields up to order 5: sums and products. -/
import Derived.Test.YtcibofbmennjpaaDoorAmFdE
set_option linter.unusedVariables false
set_option linter.unusedSimpArgs false
namespace Go.Am

section
variable {G : Nat → List AV} {F : Nat → Option MF} {rec : Rec}

theorem Mul_of (T : FTbl G F) (f : Fld) (q a b : Int) (ho : Opened G F f q) (ha : 0 ≤ a ∧ a < q) (hb : 0 ≤ b ∧ b < q) (c : Int) (hm : pcall F (E G F) 100 [.agg (f.room q), .int .i64 a, .int .i64 b] = some (.val (.int .i64 c), false)) :
    pcall F (E G F) 40 [f.av, .int .i64 a, .int .i64 b] = some (.val (.tup [.int .i64 c, .int .i64 0]), false) := by
  obtain ⟨al, hw⟩ := with_spec T f q a b ho ha hb
  have hcall : ∀ st, doCall F (E G F) .pureV 99 [f.av, .lst 2 [.int .i64 a, .int .i64 b]] st = some (.tup [.agg (f.room q), .int .i64 0], st) := fun st => by
    have h1 := doCall_plain2 (F := F) (rec := E G F) (f := 99) (st := st) (plain_fld f) (plain_ints (some [a, b]))
    have e : ints (some [a, b]) = .lst 2 [.int .i64 a, .int .i64 b] := rfl
    rw [e, hw] at h1
    exact h1
  have hcm : ∀ st, doCall F (E G F) .pureV 100 [.agg (f.room q), .int .i64 a, .int .i64 b] st = some (.int .i64 c, st) := fun st => by
    rw [doCall_plain3 (plain_room f q) (plain_int _ _) (plain_int _ _), hm]; rfl
  have hfc : f.av.cells = f.cells := rfl
  have hf1 := f.cells_one
  have hf3 : f.cells.length = 3 := rfl
  have hfa' : AV.agg f.cells = f.av := rfl
  have hH : ∀ x, Has (⟨f.cells, 3, 24, .live⟩ :: x) 0 f.cells := fun x => ⟨_, rfl, rfl, by simp⟩
  have hldn := fun x tm rb => (hH x).ldn tm rb 3 rfl
  have x0 : ∀ (a b : AV), [a, b][0]? = some a := fun _ _ => rfl
  have x1 : ∀ (a b : AV), [a, b][1]? = some b := fun _ _ => rfl
  have hr0 : [AV.int .i64 0, .int .i64 0, .nil, .int .i64 0] = Room0 := rfl
  have hr4 : Room0.length = 4 := rfl
  have hrl : (f.room q).length = 4 := rfl
  have hr1 := f.room_one q
  have hw1 := fun x tm rb => write_whole (bx := ⟨f.cells, 3, 24, .live⟩ :: ⟨Room0, 4, 142, .live⟩ :: x) (id := 1) (sz := 4) (e := 142) rfl tm rb 4 hr4 hrl hr1
  have hR : Has [⟨f.cells, 3, 24, .live⟩, ⟨f.room q, 4, 142, .live⟩] 1 (f.room q) := ⟨_, rfl, rfl, by simp⟩
  have hRldn := fun tm rb => hR.ldn tm rb 4 rfl
  refine pcall_val T.f_Mul (v := .tup [.int .i64 c, .int .i64 0]) (fun _ _ h => by cases h) ?_ (fun _ => rfl) (fun _ => rfl)
  unfold mf40
  simp only
  repeat' first
    | refine W_seq ?_
    | refine W_skip ?_
    | refine W_exit ?_
    | refine W_ret ?_
    | refine W_block ?_
    | (refine W_ops (by simp (maxSteps := 1000000) (disch := first | decide | omega | assumption | exact plain_int _ _ | exact plain_ints _ | exact plain_bool _ | exact one_int _ _ | exact plain_des _ | exact plain_rows _) only [AM, initTm, Nat.reduceAdd, Nat.reduceEqDiff, reduceCtorEq, run_aaddr, run_stn, run_bld, bldV_nil, hfc, hf1, hf3, run_ldn, hldn, hfa', hcall, hcm, x0, x1, hr0, hr4, hw1, hRldn, bne_self_eq_false, List.length_cons, List.set_cons_succ, List.set_cons_zero]; rfl) ?_)
    | (refine W_cond (by simp (maxSteps := 1000000) (disch := first | decide | omega | assumption | exact plain_int _ _ | exact plain_ints _ | exact plain_bool _ | exact one_int _ _ | exact plain_des _ | exact plain_rows _) only [AM, initTm, Nat.reduceAdd, Nat.reduceEqDiff, reduceCtorEq, run_aaddr, run_stn, run_bld, bldV_nil, hfc, hf1, hf3, run_ldn, hldn, hfa', hcall, hcm, x0, x1, hr0, hr4, hw1, hRldn, bne_self_eq_false, List.length_cons, List.set_cons_succ, List.set_cons_zero]; rfl) ?_ ?_ <;> intro hcond <;> (try simp only [decide_eq_true_eq, decide_eq_false_iff_not, beq_iff_eq, beq_eq_false_iff_ne, ne_eq, reduceCtorEq, Bool.not_eq_true', Bool.not_eq_false', bne_iff_ne, bne_eq_false_iff_eq] at hcond) <;> (try (exfalso; omega)))
    | refine thenQ_n ?_
    | refine thenQ_e ?_
    | refine thenQ_r ?_
    | refine outQ_n ?_
    | refine outQ_r ?_
    | refine outQ_e ?_
    | refine outQ_d (by decide) ?_
  exact ⟨.inr rfl, [_, _], rfl, by unfold tuple; simp (maxSteps := 1000000) (disch := first | decide | omega | assumption | exact plain_int _ _ | exact plain_ints _ | exact plain_bool _ | exact one_int _ _ | exact plain_des _ | exact plain_rows _) only [AM, initTm, Nat.reduceAdd, Nat.reduceEqDiff, reduceCtorEq, run_aaddr, run_stn, run_bld, bldV_nil]⟩

theorem Add_of (T : FTbl G F) (f : Fld) (q a b : Int) (ho : Opened G F f q) (ha : 0 ≤ a ∧ a < q) (hb : 0 ≤ b ∧ b < q) (c : Int) (hm : pcall F (E G F) 101 [.agg (f.room q), .int .i64 a, .int .i64 b] = some (.val (.int .i64 c), false)) :
    pcall F (E G F) 43 [f.av, .int .i64 a, .int .i64 b] = some (.val (.tup [.int .i64 c, .int .i64 0]), false) := by
  obtain ⟨al, hw⟩ := with_spec T f q a b ho ha hb
  have hcall : ∀ st, doCall F (E G F) .pureV 99 [f.av, .lst 2 [.int .i64 a, .int .i64 b]] st = some (.tup [.agg (f.room q), .int .i64 0], st) := fun st => by
    have h1 := doCall_plain2 (F := F) (rec := E G F) (f := 99) (st := st) (plain_fld f) (plain_ints (some [a, b]))
    have e : ints (some [a, b]) = .lst 2 [.int .i64 a, .int .i64 b] := rfl
    rw [e, hw] at h1
    exact h1
  have hcm : ∀ st, doCall F (E G F) .pureV 101 [.agg (f.room q), .int .i64 a, .int .i64 b] st = some (.int .i64 c, st) := fun st => by
    rw [doCall_plain3 (plain_room f q) (plain_int _ _) (plain_int _ _), hm]; rfl
  have hfc : f.av.cells = f.cells := rfl
  have hf1 := f.cells_one
  have hf3 : f.cells.length = 3 := rfl
  have hfa' : AV.agg f.cells = f.av := rfl
  have hH : ∀ x, Has (⟨f.cells, 3, 24, .live⟩ :: x) 0 f.cells := fun x => ⟨_, rfl, rfl, by simp⟩
  have hldn := fun x tm rb => (hH x).ldn tm rb 3 rfl
  have x0 : ∀ (a b : AV), [a, b][0]? = some a := fun _ _ => rfl
  have x1 : ∀ (a b : AV), [a, b][1]? = some b := fun _ _ => rfl
  have hr0 : [AV.int .i64 0, .int .i64 0, .nil, .int .i64 0] = Room0 := rfl
  have hr4 : Room0.length = 4 := rfl
  have hrl : (f.room q).length = 4 := rfl
  have hr1 := f.room_one q
  have hw1 := fun x tm rb => write_whole (bx := ⟨f.cells, 3, 24, .live⟩ :: ⟨Room0, 4, 142, .live⟩ :: x) (id := 1) (sz := 4) (e := 142) rfl tm rb 4 hr4 hrl hr1
  have hR : Has [⟨f.cells, 3, 24, .live⟩, ⟨f.room q, 4, 142, .live⟩] 1 (f.room q) := ⟨_, rfl, rfl, by simp⟩
  have hRldn := fun tm rb => hR.ldn tm rb 4 rfl
  refine pcall_val T.f_Add (v := .tup [.int .i64 c, .int .i64 0]) (fun _ _ h => by cases h) ?_ (fun _ => rfl) (fun _ => rfl)
  unfold mf43
  simp only
  repeat' first
    | refine W_seq ?_
    | refine W_skip ?_
    | refine W_exit ?_
    | refine W_ret ?_
    | refine W_block ?_
    | (refine W_ops (by simp (maxSteps := 1000000) (disch := first | decide | omega | assumption | exact plain_int _ _ | exact plain_ints _ | exact plain_bool _ | exact one_int _ _ | exact plain_des _ | exact plain_rows _) only [AM, initTm, Nat.reduceAdd, Nat.reduceEqDiff, reduceCtorEq, run_aaddr, run_stn, run_bld, bldV_nil, hfc, hf1, hf3, run_ldn, hldn, hfa', hcall, hcm, x0, x1, hr0, hr4, hw1, hRldn, bne_self_eq_false, List.length_cons, List.set_cons_succ, List.set_cons_zero]; rfl) ?_)
    | (refine W_cond (by simp (maxSteps := 1000000) (disch := first | decide | omega | assumption | exact plain_int _ _ | exact plain_ints _ | exact plain_bool _ | exact one_int _ _ | exact plain_des _ | exact plain_rows _) only [AM, initTm, Nat.reduceAdd, Nat.reduceEqDiff, reduceCtorEq, run_aaddr, run_stn, run_bld, bldV_nil, hfc, hf1, hf3, run_ldn, hldn, hfa', hcall, hcm, x0, x1, hr0, hr4, hw1, hRldn, bne_self_eq_false, List.length_cons, List.set_cons_succ, List.set_cons_zero]; rfl) ?_ ?_ <;> intro hcond <;> (try simp only [decide_eq_true_eq, decide_eq_false_iff_not, beq_iff_eq, beq_eq_false_iff_ne, ne_eq, reduceCtorEq, Bool.not_eq_true', Bool.not_eq_false', bne_iff_ne, bne_eq_false_iff_eq] at hcond) <;> (try (exfalso; omega)))
    | refine thenQ_n ?_
    | refine thenQ_e ?_
    | refine thenQ_r ?_
    | refine outQ_n ?_
    | refine outQ_r ?_
    | refine outQ_e ?_
    | refine outQ_d (by decide) ?_
  exact ⟨.inr rfl, [_, _], rfl, by unfold tuple; simp (maxSteps := 1000000) (disch := first | decide | omega | assumption | exact plain_int _ _ | exact plain_ints _ | exact plain_bool _ | exact one_int _ _ | exact plain_des _ | exact plain_rows _) only [AM, initTm, Nat.reduceAdd, Nat.reduceEqDiff, reduceCtorEq, run_aaddr, run_stn, run_bld, bldV_nil]⟩
end

/-- Which fields there are, up to order 5. -/
inductive Kind (f : Fld) : Nat → Prop where
  | prime (q : Nat) (hq : q = 2 ∨ q = 3 ∨ q = 5) (hp : f.p = q) (hk : f.k = 1) (c : Int) (hl : f.low = some [c]) : Kind f q
  | four (hp : f.p = 2) (hk : f.k = 2) (hl : f.low = some [1, 1]) : Kind f 4

section
variable {G : Nat → List AV}
set_option maxRecDepth 100000 in
theorem irr00 : pcall tabD (aexec G tabD 100) 94 [.int .i64 2, .int .i64 2, .agg ((pad [0, 0]).map (.int .i64))] = some (.val (.bool false), false) := by kernel_rfl
set_option maxRecDepth 100000 in
theorem irr01 : pcall tabD (aexec G tabD 100) 94 [.int .i64 2, .int .i64 2, .agg ((pad [0, 1]).map (.int .i64))] = some (.val (.bool false), false) := by kernel_rfl
set_option maxRecDepth 100000 in
theorem irr10 : pcall tabD (aexec G tabD 100) 94 [.int .i64 2, .int .i64 2, .agg ((pad [1, 0]).map (.int .i64))] = some (.val (.bool false), false) := by kernel_rfl

theorem kind_of {f : Fld} {q : Int} (h : FieldOk G tabD f q) (h5 : q ≤ 5) : ∃ n : Nat, q = n ∧ Kind f n := by
  obtain ⟨⟨hp, hk1, hk6, hq, _⟩, hlen, hlow, hirr⟩ := h
  obtain ⟨p, k, low⟩ := f
  simp only [Fld.l] at *
  have hl : ∃ l, low = some l ∧ (l.length : Int) = k := by
    cases low with
    | none => simp at hlen; omega
    | some l => exact ⟨l, rfl, by simpa using hlen⟩
  obtain ⟨l, rfl, hll⟩ := hl
  simp only [Option.getD_some] at *
  have hpk : (p = 2 ∧ (k = 1 ∨ k = 2)) ∨ (p = 3 ∧ k = 1) ∨ (p = 5 ∧ k = 1) := by
    have hb := primes_bd p hp
    obtain ⟨P, rfl⟩ : ∃ P : Nat, p = (P : Int) := ⟨p.toNat, by omega⟩
    obtain ⟨K, rfl⟩ : ∃ K : Nat, k = (K : Int) := ⟨k.toNat, by omega⟩
    rw [Int.toNat_natCast, ← Int.natCast_pow] at hq
    have h1 : P ^ K ≤ 5 := by omega
    have h2 : 2 ^ K ≤ P ^ K := Nat.pow_le_pow_left (by omega) K
    have hK : K ≤ 2 := by
      apply Classical.byContradiction
      intro h
      have : 2 ^ 3 ≤ 2 ^ K := Nat.pow_le_pow_right (by decide) (by omega)
      omega
    rcases (show K = 1 ∨ K = 2 by omega) with rfl | rfl
    · rw [Nat.pow_one] at h1
      have : P ≠ 4 := fun h => by subst h; revert hp; decide
      omega
    · have : P * P ≤ 5 := by rw [Nat.pow_two] at h1; exact h1
      have : P ≤ 2 := by
        apply Classical.byContradiction
        intro h
        have : 3 * 3 ≤ P * P := Nat.mul_le_mul (by omega) (by omega)
        omega
      omega
  rcases hpk with ⟨rfl, rfl | rfl⟩ | ⟨rfl, rfl⟩ | ⟨rfl, rfl⟩
  · match l, hll with
    | [c], _ => exact ⟨2, by simpa using hq, .prime 2 (.inl rfl) rfl rfl c rfl⟩
  · match l, hll with
    | [a, b], _ =>
      have ha := hlow a (by simp)
      have hb := hlow b (by simp)
      have e1 : a = 1 ∧ b = 1 := by
        rcases (show a = 0 ∨ a = 1 by omega) with rfl | rfl <;> rcases (show b = 0 ∨ b = 1 by omega) with rfl | rfl
        · rw [pcall_E (irr00 (G := G))] at hirr; cases hirr
        · rw [pcall_E (irr01 (G := G))] at hirr; cases hirr
        · rw [pcall_E (irr10 (G := G))] at hirr; cases hirr
        · exact ⟨rfl, rfl⟩
      obtain ⟨rfl, rfl⟩ := e1
      exact ⟨4, by simpa using hq, .four rfl rfl rfl⟩
  · match l, hll with
    | [c], _ => exact ⟨3, by simpa using hq, .prime 3 (.inr (.inl rfl)) rfl rfl c rfl⟩
  · match l, hll with
    | [c], _ => exact ⟨5, by simpa using hq, .prime 5 (.inr (.inr rfl)) rfl rfl c rfl⟩

theorem Mul_kind (hG : G 0 = primesI.map (.int .i64)) {f : Fld} {q : Nat} (hk : Kind f q) (ho : Opened G tabD f q) (a b : Nat) (ha : a < q) (hb : b < q) :
    pcall tabD (E G tabD) 40 [f.av, .int .i64 a, .int .i64 b] = some (.val (.tup [.int .i64 (mulT q a b : Nat), .int .i64 0]), false) := by
  refine Mul_of (tabD_F hG) f q a b ho (by omega) (by omega) _ ?_
  obtain ⟨p, k, low⟩ := f
  cases hk with
  | prime _ hq hp hk c hl =>
    simp only at hp hk hl
    subst hp hk hl
    rcases hq with rfl | rfl | rfl
    · exact pcall_E (m2 G c a b ha hb)
    · exact pcall_E (m3 G c a b ha hb)
    · exact pcall_E (m5 G c a b ha hb)
  | four hp hk hl =>
    simp only at hp hk hl
    subst hp hk hl
    exact pcall_E (m4 G a b ha hb)
theorem Add_kind (hG : G 0 = primesI.map (.int .i64)) {f : Fld} {q : Nat} (hk : Kind f q) (ho : Opened G tabD f q) (a b : Nat) (ha : a < q) (hb : b < q) :
    pcall tabD (E G tabD) 43 [f.av, .int .i64 a, .int .i64 b] = some (.val (.tup [.int .i64 (addT q a b : Nat), .int .i64 0]), false) := by
  refine Add_of (tabD_F hG) f q a b ho (by omega) (by omega) _ ?_
  obtain ⟨p, k, low⟩ := f
  cases hk with
  | prime _ hq hp hk c hl =>
    simp only at hp hk hl
    subst hp hk hl
    rcases hq with rfl | rfl | rfl
    · exact pcall_E (s2 G c a b ha hb)
    · exact pcall_E (s3 G c a b ha hb)
    · exact pcall_E (s5 G c a b ha hb)
  | four hp hk hl =>
    simp only at hp hk hl
    subst hp hk hl
    exact pcall_E (s4 G a b ha hb)
end
end Go.Am
