/- The table of the seat's functions; fields, on. -/
import Derived.Test.YtcibofbmennjpaaDoorAmFd4
set_option linter.unusedVariables false
set_option linter.unusedSimpArgs false
namespace Go.Am

def tabD : Nat → Option MF
  | 6 => some mf6
  | 7 => some mf7
  | 8 => some mf8
  | 9 => some mf9
  | 11 => some mf11
  | 23 => some mf23
  | 25 => some mf25
  | 26 => some mf26
  | 27 => some mf27
  | 28 => some mf28
  | 29 => some mf29
  | 30 => some mf30
  | 31 => some mf31
  | 32 => some mf32
  | 33 => some mf33
  | 34 => some mf34
  | 35 => some mf35
  | 36 => some mf36
  | 39 => some mf39
  | 40 => some mf40
  | 43 => some mf43
  | 50 => some mf50
  | 53 => some mf53
  | 72 => some mf72
  | 74 => some mf74
  | 75 => some mf75
  | 78 => some mf78
  | 79 => some mf79
  | 80 => some mf80
  | 81 => some mf81
  | 82 => some mf82
  | 83 => some mf83
  | 84 => some mf84
  | 85 => some mf85
  | 86 => some mf86
  | 87 => some mf87
  | 88 => some mf88
  | 89 => some mf89
  | 90 => some mf90
  | 91 => some mf91
  | 92 => some mf92
  | 93 => some mf93
  | 94 => some mf94
  | 98 => some mf98
  | 99 => some mf99
  | 100 => some mf100
  | 101 => some mf101
  | 108 => some mf108
  | 117 => some mf117
  | 123 => some mf123
  | 125 => some mf125
  | 126 => some mf126
  | 127 => some mf127
  | 129 => some mf129
  | 130 => some mf130
  | 131 => some mf131
  | 65 => some mfSort
  | _ => none
theorem tabD_Tbl : Tbl tabD := ⟨rfl, rfl, rfl, rfl, rfl, rfl, rfl, rfl, rfl, rfl, rfl, rfl, rfl, rfl, rfl, rfl, rfl, rfl, rfl, rfl, rfl, rfl, rfl, rfl, rfl⟩
theorem tabD_F {G : Nat → List AV} (h : G 0 = primesI.map (.int .i64)) : FTbl G tabD := ⟨h, rfl, rfl, rfl, rfl, rfl, rfl, rfl, rfl, rfl, rfl, rfl, rfl, rfl, rfl⟩

section
variable {G : Nat → List AV} {F : Nat → Option MF} {rec : Rec}

theorem pcall_E {n f : Nat} {args : List AV} {x : Res × Bool} (h : pcall F (aexec G F n) f args = some x) : pcall F (E G F) f args = some x :=
  pcall_ev (ι := Unit) (ev := fun p => p ()) (r := fun _ => E G F) ⟨trivial, fun a b => ⟨a, b⟩, fun f a => f _ a⟩ (fun c st x hx => (E_iff G F).2 ⟨n, hx⟩) h

/-- The field opens. -/
def Opened (G : Nat → List AV) (F : Nat → Option MF) (f : Fld) (q : Int) : Prop := ∃ al, pcall F (E G F) 123 [f.av] = some (.val (.tup [.agg (f.room q), .int .i64 0]), al)

theorem FCheck_spec (T : FTbl G F) (f : Fld) (hlen : f.l.length < 9223372036854775808) :
    ∃ v, pcall F (E G F) 125 [f.av] = some (.val v, false) ∧ ∃ e, v = .int .i64 e ∧ (e = 0 → ∃ q, FieldOk G F f q ∧ Opened G F f q) := by
  obtain ⟨v0, al, hc0, cs, e, rfl, hh⟩ := open_spec T f hlen
  have hd : (e = 0 → ∃ q, FieldOk G F f q ∧ Opened G F f q) := fun he => by
    rcases hh with ⟨h1, _⟩ | ⟨_, q, rfl, hok⟩
    · exact absurd he h1
    · exact ⟨q, hok, al, he ▸ hc0⟩
  have hcall : ∀ st, doCall F (E G F) .pureV 123 [f.av] st = some (.tup [.agg cs, .int .i64 e], st) := fun st => by
    rw [doCall_plain1 (plain_fld f), hc0]; rfl
  have hcs : cs.length = 4 ∧ cs.all AV.one = true := by
    rcases hh with ⟨_, rfl⟩ | ⟨_, q, rfl, _⟩
    · exact ⟨rfl, rfl⟩
    · exact ⟨rfl, f.room_one q⟩
  have hfc : f.av.cells = f.cells := rfl
  have hf1 := f.cells_one
  have hf3 : f.cells.length = 3 := rfl
  have hfa' : AV.agg f.cells = f.av := rfl
  have hH : ∀ x, Has (⟨f.cells, 3, 24, .live⟩ :: x) 0 f.cells := fun x => ⟨_, rfl, rfl, by simp⟩
  have hldn := fun x tm rb => (hH x).ldn tm rb 3 rfl
  have x0 : ∀ (a b : AV), [a, b][0]? = some a := fun _ _ => rfl
  have x1 : ∀ (a b : AV), [a, b][1]? = some b := fun _ _ => rfl
  have hr0 : [AV.int .i64 0, .int .i64 0, .nil, .int .i64 0] = Room0 := rfl
  have hr4 : Room0.length = 4 := rfl
  have hw := fun tm rb => write_whole (bx := [⟨f.cells, 3, 24, .live⟩, ⟨Room0, 4, 142, .live⟩]) (id := 1) (sz := 4) (e := 142) rfl tm rb 4 hr4 hcs.1 hcs.2
  refine pcall_ex T.f_Check (fun v ⟨e, he, _⟩ => he ▸ ⟨fun _ _ h => (by cases h), fun _ => rfl, fun _ => rfl⟩) ?_
  unfold mf125
  simp only
  repeat' first
    | refine W_seq ?_
    | refine W_skip ?_
    | refine W_exit ?_
    | refine W_ret ?_
    | refine W_block ?_
    | (refine W_ops (by simp (maxSteps := 1000000) (disch := first | decide | omega | assumption | exact plain_int _ _ | exact plain_ints _ | exact plain_bool _ | exact one_int _ _ | exact plain_des _ | exact plain_rows _) only [AM, initTm, Nat.reduceAdd, Nat.reduceEqDiff, reduceCtorEq, run_aaddr, run_stn, run_bld, bldV_nil, hfc, hf1, hf3, run_ldn, hldn, hfa', hcall, x0, x1, hr0, hr4, hw, List.length_cons]; rfl) ?_)
    | (refine W_cond (by simp (maxSteps := 1000000) (disch := first | decide | omega | assumption | exact plain_int _ _ | exact plain_ints _ | exact plain_bool _ | exact one_int _ _ | exact plain_des _ | exact plain_rows _) only [AM, initTm, Nat.reduceAdd, Nat.reduceEqDiff, reduceCtorEq, run_aaddr, run_stn, run_bld, bldV_nil, hfc, hf1, hf3, run_ldn, hldn, hfa', hcall, x0, x1, hr0, hr4, hw, List.length_cons]; rfl) ?_ ?_ <;> intro hcond <;> (try simp only [decide_eq_true_eq, decide_eq_false_iff_not, beq_iff_eq, beq_eq_false_iff_ne, ne_eq, reduceCtorEq, Bool.not_eq_true', Bool.not_eq_false', bne_iff_ne, bne_eq_false_iff_eq] at hcond) <;> (try (exfalso; omega)))
    | refine thenQ_n ?_
    | refine thenQ_e ?_
    | refine thenQ_r ?_
    | refine outQ_n ?_
    | refine outQ_r ?_
    | refine outQ_e ?_
    | refine outQ_d (by decide) ?_
  exact ⟨.inr rfl, [_], rfl, e, by rw [tuple_one]; simp (maxSteps := 1000000) (disch := first | decide | omega | assumption | exact plain_int _ _ | exact plain_ints _ | exact plain_bool _ | exact one_int _ _ | exact plain_des _ | exact plain_rows _) only [AM, initTm, Nat.reduceAdd, Nat.reduceEqDiff, reduceCtorEq, run_aaddr, run_stn, run_bld, bldV_nil], hd⟩

theorem POpen_spec (T : FTbl G F) (hO : F 78 = some mf78) (f : Fld) (hlen : f.l.length < 9223372036854775808) :
    ∃ v, pcall F (E G F) 78 [f.av] = some (.val v, false) ∧ ∃ q e, v = .tup [.int .i64 q, .int .i64 e] ∧ (e = 0 → FieldOk G F f q ∧ Opened G F f q ∧ q ≤ 5) := by
  obtain ⟨v0, hc0, e, rfl, hh⟩ := FCheck_spec T f hlen
  have hfc : f.av.cells = f.cells := rfl
  have hf1 := f.cells_one
  have hf3 : f.cells.length = 3 := rfl
  have hfa' : AV.agg f.cells = f.av := rfl
  have hpf := plain_fld f
  have hH : ∀ x, Has (⟨f.cells, 3, 24, .live⟩ :: x) 0 f.cells := fun x => ⟨_, rfl, rfl, by simp⟩
  have hldn := fun x tm rb => (hH x).ldn tm rb 3 rfl
  have hfa := fun x tm rb o off => (hH x).faddr tm rb 3 o off rfl
  have hld := fun x tm rb off => (hH x).ld1 tm rb 3 off rfl
  have c0 : f.cells[0]? = some (.int .i64 f.p) := rfl
  have c1 : f.cells[1]? = some (.int .i64 f.k) := rfl
  have hcall : ∀ st, doCall F (E G F) .pureV 125 [f.av] st = some (.int .i64 e, st) := fun st => by
    rw [doCall_plain1 (plain_fld f), hc0]; rfl
  refine pcall_ex hO (fun v ⟨q, e, he, _⟩ => he ▸ ⟨fun _ _ h => (by cases h), fun _ => rfl, fun _ => rfl⟩) ?_
  unfold mf78
  simp only
  by_cases h0 : e = 0
  · subst h0
    obtain ⟨q, hok, hop⟩ := hh rfl
    obtain ⟨hp1, hk1, hk6, hqe, hq64⟩ := hok.1
    have hpb := primes_bd f.p hp1
    repeat' first
      | refine W_seq ?_
      | refine W_skip ?_
      | refine W_exit ?_
      | refine W_ret ?_
      | refine W_block ?_
      | (refine W_ops (by simp (maxSteps := 1000000) (disch := first | decide | omega | assumption | exact plain_int _ _ | exact plain_ints _ | exact plain_bool _ | exact one_int _ _ | exact plain_des _ | exact plain_rows _) only [AM, initTm, Nat.reduceAdd, Nat.reduceEqDiff, reduceCtorEq, run_aaddr, run_stn, run_bld, bldV_nil, hfc, hf1, hf3, run_ldn, hldn, hfa', hcall, bne_self_eq_false, hfa, hld, c0, c1]; rfl) ?_)
      | (refine W_cond (by simp (maxSteps := 1000000) (disch := first | decide | omega | assumption | exact plain_int _ _ | exact plain_ints _ | exact plain_bool _ | exact one_int _ _ | exact plain_des _ | exact plain_rows _) only [AM, initTm, Nat.reduceAdd, Nat.reduceEqDiff, reduceCtorEq, run_aaddr, run_stn, run_bld, bldV_nil, hfc, hf1, hf3, run_ldn, hldn, hfa', hcall, bne_self_eq_false, hfa, hld, c0, c1]; rfl) ?_ ?_ <;> intro hcond <;> (try simp only [decide_eq_true_eq, decide_eq_false_iff_not, beq_iff_eq, beq_eq_false_iff_ne, ne_eq, reduceCtorEq, Bool.not_eq_true', Bool.not_eq_false', bne_iff_ne, bne_eq_false_iff_eq] at hcond) <;> (try (exfalso; omega)))
      | refine thenQ_n ?_
      | refine thenQ_e ?_
      | refine thenQ_r ?_
      | refine outQ_n ?_
      | refine outQ_r ?_
      | refine outQ_e ?_
      | refine outQ_d (by decide) ?_
    refine W_loop (k := f.k.toNat) (fun m s => ∃ (i : Nat) (x : Int) (tm : Tm), s = ⟨tm, [⟨f.cells, 3, 24, .live⟩], 0⟩ ∧ tm.get 1 = .ptr 0 3 0 ∧ tm.get 5 = .int .i64 x ∧ tm.get 12 = .int .i64 f.k ∧ tm.get 13 = .int .i64 i ∧ i ≤ f.k.toNat ∧ m = f.k.toNat - i ∧ x = f.p ^ i ∧ 0 ≤ x ∧ x ≤ 64) ⟨0, 1, _, rfl, by simp (maxSteps := 1000000) (disch := first | decide | omega | assumption | exact plain_int _ _ | exact plain_ints _ | exact plain_bool _ | exact one_int _ _ | exact plain_des _ | exact plain_rows _) only [AM, initTm, Nat.reduceAdd, Nat.reduceEqDiff, reduceCtorEq, run_aaddr, run_stn, run_bld, bldV_nil], by simp (maxSteps := 1000000) (disch := first | decide | omega | assumption | exact plain_int _ _ | exact plain_ints _ | exact plain_bool _ | exact one_int _ _ | exact plain_des _ | exact plain_rows _) only [AM, initTm, Nat.reduceAdd, Nat.reduceEqDiff, reduceCtorEq, run_aaddr, run_stn, run_bld, bldV_nil], by simp (maxSteps := 1000000) (disch := first | decide | omega | assumption | exact plain_int _ _ | exact plain_ints _ | exact plain_bool _ | exact one_int _ _ | exact plain_des _ | exact plain_rows _) only [AM, initTm, Nat.reduceAdd, Nat.reduceEqDiff, reduceCtorEq, run_aaddr, run_stn, run_bld, bldV_nil], by simp (maxSteps := 1000000) (disch := first | decide | omega | assumption | exact plain_int _ _ | exact plain_ints _ | exact plain_bool _ | exact one_int _ _ | exact plain_des _ | exact plain_rows _) only [AM, initTm, Nat.reduceAdd, Nat.reduceEqDiff, reduceCtorEq, run_aaddr, run_stn, run_bld, bldV_nil]; rfl, by omega, rfl, by simp, by omega, by omega⟩ ?_
    rintro m s ⟨i, x, tm, rfl, g1, g5, g12, g13, hi, rfl, hx, hx0, hx1⟩
    have hb1 : 0 ≤ x * f.p := Int.mul_nonneg hx0 (by omega)
    have hb2 : x * f.p ≤ 64 * 61 := Int.mul_le_mul hx1 (by omega) (by omega) (by omega)
    by_cases hlt : (i : Int) < f.k
    · have hle : x * f.p ≤ 64 := by
        obtain ⟨P, hP⟩ : ∃ P : Nat, f.p = (P : Int) := ⟨f.p.toNat, by omega⟩
        have h1 : x * f.p = f.p ^ (i + 1) := by rw [hx, Int.pow_succ]
        have h2 : P ^ (i + 1) ≤ P ^ f.k.toNat := Nat.pow_le_pow_right (by omega) (by omega)
        rw [h1]
        rw [hqe] at hq64
        rw [hP, ← Int.natCast_pow] at hq64 ⊢
        omega
      repeat' first
        | refine W_seq ?_
        | refine W_skip ?_
        | refine W_exit ?_
        | refine W_ret ?_
        | refine W_block ?_
        | (refine W_ops (by simp (maxSteps := 1000000) (disch := first | decide | omega | assumption | exact plain_int _ _ | exact plain_ints _ | exact plain_bool _ | exact one_int _ _ | exact plain_des _ | exact plain_rows _) only [AM, initTm, Nat.reduceAdd, Nat.reduceEqDiff, reduceCtorEq, run_aaddr, run_stn, run_bld, bldV_nil, g1, g5, g12, g13, hlt, hfa, hld, c0]; rfl) ?_)
        | (refine W_cond (by simp (maxSteps := 1000000) (disch := first | decide | omega | assumption | exact plain_int _ _ | exact plain_ints _ | exact plain_bool _ | exact one_int _ _ | exact plain_des _ | exact plain_rows _) only [AM, initTm, Nat.reduceAdd, Nat.reduceEqDiff, reduceCtorEq, run_aaddr, run_stn, run_bld, bldV_nil, g1, g5, g12, g13, hlt, hfa, hld, c0]; rfl) ?_ ?_ <;> intro hcond <;> (try simp only [decide_eq_true_eq, decide_eq_false_iff_not, beq_iff_eq, beq_eq_false_iff_ne, ne_eq, reduceCtorEq, Bool.not_eq_true', Bool.not_eq_false', bne_iff_ne, bne_eq_false_iff_eq] at hcond) <;> (try (exfalso; omega)))
        | refine thenQ_n ?_
        | refine thenQ_e ?_
        | refine thenQ_r ?_
        | refine outQ_n ?_
        | refine outQ_r ?_
        | refine outQ_e ?_
        | refine outQ_d (by decide) ?_
      exact ⟨f.k.toNat - (i + 1), by omega, i + 1, x * f.p, _, rfl, by simp (maxSteps := 1000000) (disch := first | decide | omega | assumption | exact plain_int _ _ | exact plain_ints _ | exact plain_bool _ | exact one_int _ _ | exact plain_des _ | exact plain_rows _) only [AM, initTm, Nat.reduceAdd, Nat.reduceEqDiff, reduceCtorEq, run_aaddr, run_stn, run_bld, bldV_nil, g1], by simp (maxSteps := 1000000) (disch := first | decide | omega | assumption | exact plain_int _ _ | exact plain_ints _ | exact plain_bool _ | exact one_int _ _ | exact plain_des _ | exact plain_rows _) only [AM, initTm, Nat.reduceAdd, Nat.reduceEqDiff, reduceCtorEq, run_aaddr, run_stn, run_bld, bldV_nil], by simp (maxSteps := 1000000) (disch := first | decide | omega | assumption | exact plain_int _ _ | exact plain_ints _ | exact plain_bool _ | exact one_int _ _ | exact plain_des _ | exact plain_rows _) only [AM, initTm, Nat.reduceAdd, Nat.reduceEqDiff, reduceCtorEq, run_aaddr, run_stn, run_bld, bldV_nil, g12], by simp (maxSteps := 1000000) (disch := first | decide | omega | assumption | exact plain_int _ _ | exact plain_ints _ | exact plain_bool _ | exact one_int _ _ | exact plain_des _ | exact plain_rows _) only [AM, initTm, Nat.reduceAdd, Nat.reduceEqDiff, reduceCtorEq, run_aaddr, run_stn, run_bld, bldV_nil]; rfl, by omega, rfl, by rw [hx, Int.pow_succ], hb1, hle⟩
    · have hxq : x = q := by rw [hx, hqe, show i = f.k.toNat by omega]
      subst hxq
      repeat' first
        | refine W_seq ?_
        | refine W_skip ?_
        | refine W_exit ?_
        | refine W_ret ?_
        | refine W_block ?_
        | (refine W_ops (by simp (maxSteps := 1000000) (disch := first | decide | omega | assumption | exact plain_int _ _ | exact plain_ints _ | exact plain_bool _ | exact one_int _ _ | exact plain_des _ | exact plain_rows _) only [AM, initTm, Nat.reduceAdd, Nat.reduceEqDiff, reduceCtorEq, run_aaddr, run_stn, run_bld, bldV_nil, g1, g5, g12, g13, hlt]; rfl) ?_)
        | (refine W_cond (by simp (maxSteps := 1000000) (disch := first | decide | omega | assumption | exact plain_int _ _ | exact plain_ints _ | exact plain_bool _ | exact one_int _ _ | exact plain_des _ | exact plain_rows _) only [AM, initTm, Nat.reduceAdd, Nat.reduceEqDiff, reduceCtorEq, run_aaddr, run_stn, run_bld, bldV_nil, g1, g5, g12, g13, hlt]; rfl) ?_ ?_ <;> intro hcond <;> (try simp only [decide_eq_true_eq, decide_eq_false_iff_not, beq_iff_eq, beq_eq_false_iff_ne, ne_eq, reduceCtorEq, Bool.not_eq_true', Bool.not_eq_false', bne_iff_ne, bne_eq_false_iff_eq] at hcond) <;> (try (exfalso; omega)))
        | refine thenQ_n ?_
        | refine thenQ_e ?_
        | refine thenQ_r ?_
        | refine outQ_n ?_
        | refine outQ_r ?_
        | refine outQ_e ?_
        | refine outQ_d (by decide) ?_
      · exact ⟨.inr rfl, [_, _], rfl, 0, 3, by unfold tuple; simp (maxSteps := 1000000) (disch := first | decide | omega | assumption | exact plain_int _ _ | exact plain_ints _ | exact plain_bool _ | exact one_int _ _ | exact plain_des _ | exact plain_rows _) only [AM, initTm, Nat.reduceAdd, Nat.reduceEqDiff, reduceCtorEq, run_aaddr, run_stn, run_bld, bldV_nil], fun h => by cases h⟩
      · exact ⟨.inr rfl, [_, _], rfl, x, 0, by unfold tuple; simp (maxSteps := 1000000) (disch := first | decide | omega | assumption | exact plain_int _ _ | exact plain_ints _ | exact plain_bool _ | exact one_int _ _ | exact plain_des _ | exact plain_rows _) only [AM, initTm, Nat.reduceAdd, Nat.reduceEqDiff, reduceCtorEq, run_aaddr, run_stn, run_bld, bldV_nil, g5], fun _ => ⟨hok, hop, by omega⟩⟩
  · repeat' first
      | refine W_seq ?_
      | refine W_skip ?_
      | refine W_exit ?_
      | refine W_ret ?_
      | refine W_block ?_
      | (refine W_ops (by simp (maxSteps := 1000000) (disch := first | decide | omega | assumption | exact plain_int _ _ | exact plain_ints _ | exact plain_bool _ | exact one_int _ _ | exact plain_des _ | exact plain_rows _) only [AM, initTm, Nat.reduceAdd, Nat.reduceEqDiff, reduceCtorEq, run_aaddr, run_stn, run_bld, bldV_nil, hfc, hf1, hf3, run_ldn, hldn, hfa', hcall]; rfl) ?_)
      | (refine W_cond (by simp (maxSteps := 1000000) (disch := first | decide | omega | assumption | exact plain_int _ _ | exact plain_ints _ | exact plain_bool _ | exact one_int _ _ | exact plain_des _ | exact plain_rows _) only [AM, initTm, Nat.reduceAdd, Nat.reduceEqDiff, reduceCtorEq, run_aaddr, run_stn, run_bld, bldV_nil, hfc, hf1, hf3, run_ldn, hldn, hfa', hcall]; rfl) ?_ ?_ <;> intro hcond <;> (try simp only [decide_eq_true_eq, decide_eq_false_iff_not, beq_iff_eq, beq_eq_false_iff_ne, ne_eq, reduceCtorEq, Bool.not_eq_true', Bool.not_eq_false', bne_iff_ne, bne_eq_false_iff_eq] at hcond) <;> (try (exfalso; omega)))
      | refine thenQ_n ?_
      | refine thenQ_e ?_
      | refine thenQ_r ?_
      | refine outQ_n ?_
      | refine outQ_r ?_
      | refine outQ_e ?_
      | refine outQ_d (by decide) ?_
    exact ⟨.inr rfl, [_, _], rfl, 0, e, by unfold tuple; simp (maxSteps := 1000000) (disch := first | decide | omega | assumption | exact plain_int _ _ | exact plain_ints _ | exact plain_bool _ | exact one_int _ _ | exact plain_des _ | exact plain_rows _) only [AM, initTm, Nat.reduceAdd, Nat.reduceEqDiff, reduceCtorEq, run_aaddr, run_stn, run_bld, bldV_nil], fun h => absurd h h0⟩

theorem with_spec (T : FTbl G F) (f : Fld) (q a b : Int) (ho : Opened G F f q) (ha : 0 ≤ a ∧ a < q) (hb : 0 ≤ b ∧ b < q) :
    ∃ al, pcall F (E G F) 99 [f.av, .lst 2 [.int .i64 a, .int .i64 b]] = some (.val (.tup [.agg (f.room q), .int .i64 0]), al) := by
  obtain ⟨al0, hc0⟩ := ho
  have hcall : ∀ st, doCall F (E G F) .pureV 123 [f.av] st = some (.tup [.agg (f.room q), .int .i64 0], st) := fun st => by
    rw [doCall_plain1 (plain_fld f), hc0]; rfl
  have hfc : f.av.cells = f.cells := rfl
  have hf1 := f.cells_one
  have hf3 : f.cells.length = 3 := rfl
  have hfa' : AV.agg f.cells = f.av := rfl
  have hH : ∀ x, Has (⟨f.cells, 3, 24, .live⟩ :: x) 0 f.cells := fun x => ⟨_, rfl, rfl, by simp⟩
  have hldn := fun x tm rb => (hH x).ldn tm rb 3 rfl
  have x0 : ∀ (a b : AV), [a, b][0]? = some a := fun _ _ => rfl
  have x1 : ∀ (a b : AV), [a, b][1]? = some b := fun _ _ => rfl
  have hr0 : [AV.int .i64 0, .int .i64 0, .nil, .int .i64 0] = Room0 := rfl
  have hr4 : Room0.length = 4 := rfl
  have hro : Room0.all AV.one = true := rfl
  have hrl : (f.room q).length = 4 := rfl
  have hr1 := f.room_one q
  have c3 : (f.room q)[3]? = some (.int .i64 q) := rfl
  have hw2 := fun x tm rb => write_whole (bx := ⟨f.cells, 3, 24, .live⟩ :: ⟨Room0, 4, 142, .live⟩ :: ⟨Room0, 4, 142, .live⟩ :: x) (id := 2) (sz := 4) (e := 142) rfl tm rb 4 hr4 hrl hr1
  have hR : ∀ y, Has [⟨f.cells, 3, 24, .live⟩, y, ⟨f.room q, 4, 142, .live⟩] 2 (f.room q) := fun y => ⟨_, rfl, rfl, by simp⟩
  have hRfa := fun y tm rb o off => (hR y).faddr tm rb 4 o off rfl
  have hRld := fun y tm rb off => (hR y).ld1 tm rb 4 off rfl
  have hRldn := fun y tm rb => (hR y).ldn tm rb 4 rfl
  have hw1 := fun x tm rb => write_whole (bx := ⟨f.cells, 3, 24, .live⟩ :: ⟨Room0, 4, 142, .live⟩ :: x) (id := 1) (sz := 4) (e := 142) rfl tm rb 4 hr4 hrl hr1
  obtain ⟨v, al, h1, rfl⟩ := pcall_exA (G := G) (P := fun v => v = .tup [.agg (f.room q), .int .i64 0]) T.f_with (args := [f.av, .lst 2 [.int .i64 a, .int .i64 b]]) (fun v he => he ▸ ⟨fun _ _ h => (by cases h), fun bx => reify_roomE _ (room_reify7 f q) 0 bx⟩) (by
    unfold mf99
    simp only
    repeat' first
      | refine W_seq ?_
      | refine W_skip ?_
      | refine W_exit ?_
      | refine W_ret ?_
      | refine W_block ?_
      | (refine W_ops (by simp (maxSteps := 1000000) (disch := first | decide | omega | assumption | exact plain_int _ _ | exact plain_ints _ | exact plain_bool _ | exact one_int _ _ | exact plain_des _ | exact plain_rows _) only [AM, initTm, Nat.reduceAdd, Nat.reduceEqDiff, reduceCtorEq, run_aaddr, run_stn, run_bld, bldV_nil, hfc, hf1, hf3, run_ldn, hldn, hfa', hcall, x0, x1, hr0, hr4, hw2, List.length_cons, List.set_cons_succ, List.set_cons_zero, bne_self_eq_false, lenV_lst]; rfl) ?_)
      | (refine W_cond (by simp (maxSteps := 1000000) (disch := first | decide | omega | assumption | exact plain_int _ _ | exact plain_ints _ | exact plain_bool _ | exact one_int _ _ | exact plain_des _ | exact plain_rows _) only [AM, initTm, Nat.reduceAdd, Nat.reduceEqDiff, reduceCtorEq, run_aaddr, run_stn, run_bld, bldV_nil, hfc, hf1, hf3, run_ldn, hldn, hfa', hcall, x0, x1, hr0, hr4, hw2, List.length_cons, List.set_cons_succ, List.set_cons_zero, bne_self_eq_false, lenV_lst]; rfl) ?_ ?_ <;> intro hcond <;> (try simp only [decide_eq_true_eq, decide_eq_false_iff_not, beq_iff_eq, beq_eq_false_iff_ne, ne_eq, reduceCtorEq, Bool.not_eq_true', Bool.not_eq_false', bne_iff_ne, bne_eq_false_iff_eq] at hcond) <;> (try (exfalso; omega)))
      | refine thenQ_n ?_
      | refine thenQ_e ?_
      | refine thenQ_r ?_
      | refine outQ_n ?_
      | refine outQ_r ?_
      | refine outQ_e ?_
      | refine outQ_d (by decide) ?_
    refine W_loop (k := 2) (fun m s => ∃ (i : Nat) (tm : Tm), s = ⟨tm, [⟨f.cells, 3, 24, .live⟩, ⟨Room0, 4, 142, .live⟩, ⟨f.room q, 4, 142, .live⟩], 0⟩ ∧ tm.get 4 = .ptr 1 4 0 ∧ tm.get 6 = .ptr 2 4 0 ∧ tm.get 19 = .lst 2 [.int .i64 a, .int .i64 b] ∧ tm.get 20 = .int .i64 2 ∧ tm.get 21 = .int .i64 i ∧ i ≤ 2 ∧ m = 2 - i) ⟨0, _, rfl, by simp (maxSteps := 1000000) (disch := first | decide | omega | assumption | exact plain_int _ _ | exact plain_ints _ | exact plain_bool _ | exact one_int _ _ | exact plain_des _ | exact plain_rows _) only [AM, initTm, Nat.reduceAdd, Nat.reduceEqDiff, reduceCtorEq, run_aaddr, run_stn, run_bld, bldV_nil], by simp (maxSteps := 1000000) (disch := first | decide | omega | assumption | exact plain_int _ _ | exact plain_ints _ | exact plain_bool _ | exact one_int _ _ | exact plain_des _ | exact plain_rows _) only [AM, initTm, Nat.reduceAdd, Nat.reduceEqDiff, reduceCtorEq, run_aaddr, run_stn, run_bld, bldV_nil], by simp (maxSteps := 1000000) (disch := first | decide | omega | assumption | exact plain_int _ _ | exact plain_ints _ | exact plain_bool _ | exact one_int _ _ | exact plain_des _ | exact plain_rows _) only [AM, initTm, Nat.reduceAdd, Nat.reduceEqDiff, reduceCtorEq, run_aaddr, run_stn, run_bld, bldV_nil], by simp (maxSteps := 1000000) (disch := first | decide | omega | assumption | exact plain_int _ _ | exact plain_ints _ | exact plain_bool _ | exact one_int _ _ | exact plain_des _ | exact plain_rows _) only [AM, initTm, Nat.reduceAdd, Nat.reduceEqDiff, reduceCtorEq, run_aaddr, run_stn, run_bld, bldV_nil]; rfl, by simp (maxSteps := 1000000) (disch := first | decide | omega | assumption | exact plain_int _ _ | exact plain_ints _ | exact plain_bool _ | exact one_int _ _ | exact plain_des _ | exact plain_rows _) only [AM, initTm, Nat.reduceAdd, Nat.reduceEqDiff, reduceCtorEq, run_aaddr, run_stn, run_bld, bldV_nil]; rfl, by omega, rfl⟩ ?_
    rintro m s ⟨i, tm, rfl, g4, g6, g19, g20, g21, hi, rfl⟩
    by_cases hil : (i : Int) < 2
    · obtain ⟨y, hy, hy0⟩ : ∃ y, (∀ st, iaddrV st 1 (.lst 2 [.int .i64 a, .int .i64 b]) (.int .i64 (i : Int)) = some (.rptr ([AV.int .i64 a, .int .i64 b].drop i))) ∧ ([AV.int .i64 a, .int .i64 b].drop i).head? = some (.int .i64 y) ∧ (0 ≤ y ∧ y < q) := by
        rcases (show i = 0 ∨ i = 1 by omega) with rfl | rfl
        · exact ⟨a, fun st => rfl, rfl, ha⟩
        · exact ⟨b, fun st => rfl, rfl, hb⟩
      have hn1 : decide (y < 0) = false := decide_eq_false (by omega)
      have hn2 : decide (y ≥ q) = false := decide_eq_false (by omega)
      repeat' first
        | refine W_seq ?_
        | refine W_skip ?_
        | refine W_exit ?_
        | refine W_ret ?_
        | refine W_block ?_
        | (refine W_ops (by simp (maxSteps := 1000000) (disch := first | decide | omega | assumption | exact plain_int _ _ | exact plain_ints _ | exact plain_bool _ | exact one_int _ _ | exact plain_des _ | exact plain_rows _) only [AM, initTm, Nat.reduceAdd, Nat.reduceEqDiff, reduceCtorEq, run_aaddr, run_stn, run_bld, bldV_nil, g4, g6, g19, g20, g21, hil, hy, hy0.1, hn1, hn2, hRfa, hRld, c3]; rfl) ?_)
        | (refine W_cond (by simp (maxSteps := 1000000) (disch := first | decide | omega | assumption | exact plain_int _ _ | exact plain_ints _ | exact plain_bool _ | exact one_int _ _ | exact plain_des _ | exact plain_rows _) only [AM, initTm, Nat.reduceAdd, Nat.reduceEqDiff, reduceCtorEq, run_aaddr, run_stn, run_bld, bldV_nil, g4, g6, g19, g20, g21, hil, hy, hy0.1, hn1, hn2, hRfa, hRld, c3]; rfl) ?_ ?_ <;> intro hcond <;> (try simp only [decide_eq_true_eq, decide_eq_false_iff_not, beq_iff_eq, beq_eq_false_iff_ne, ne_eq, reduceCtorEq, Bool.not_eq_true', Bool.not_eq_false', bne_iff_ne, bne_eq_false_iff_eq] at hcond) <;> (try (exfalso; omega)))
        | refine thenQ_n ?_
        | refine thenQ_e ?_
        | refine thenQ_r ?_
        | refine outQ_n ?_
        | refine outQ_r ?_
        | refine outQ_e ?_
        | refine outQ_d (by decide) ?_
      exact ⟨2 - (i + 1), by omega, i + 1, _, rfl, by simp (maxSteps := 1000000) (disch := first | decide | omega | assumption | exact plain_int _ _ | exact plain_ints _ | exact plain_bool _ | exact one_int _ _ | exact plain_des _ | exact plain_rows _) only [AM, initTm, Nat.reduceAdd, Nat.reduceEqDiff, reduceCtorEq, run_aaddr, run_stn, run_bld, bldV_nil, g4], by simp (maxSteps := 1000000) (disch := first | decide | omega | assumption | exact plain_int _ _ | exact plain_ints _ | exact plain_bool _ | exact one_int _ _ | exact plain_des _ | exact plain_rows _) only [AM, initTm, Nat.reduceAdd, Nat.reduceEqDiff, reduceCtorEq, run_aaddr, run_stn, run_bld, bldV_nil, g6], by simp (maxSteps := 1000000) (disch := first | decide | omega | assumption | exact plain_int _ _ | exact plain_ints _ | exact plain_bool _ | exact one_int _ _ | exact plain_des _ | exact plain_rows _) only [AM, initTm, Nat.reduceAdd, Nat.reduceEqDiff, reduceCtorEq, run_aaddr, run_stn, run_bld, bldV_nil, g19], by simp (maxSteps := 1000000) (disch := first | decide | omega | assumption | exact plain_int _ _ | exact plain_ints _ | exact plain_bool _ | exact one_int _ _ | exact plain_des _ | exact plain_rows _) only [AM, initTm, Nat.reduceAdd, Nat.reduceEqDiff, reduceCtorEq, run_aaddr, run_stn, run_bld, bldV_nil, g20], by simp (maxSteps := 1000000) (disch := first | decide | omega | assumption | exact plain_int _ _ | exact plain_ints _ | exact plain_bool _ | exact one_int _ _ | exact plain_des _ | exact plain_rows _) only [AM, initTm, Nat.reduceAdd, Nat.reduceEqDiff, reduceCtorEq, run_aaddr, run_stn, run_bld, bldV_nil]; rfl, by omega, rfl⟩
    · repeat' first
        | refine W_seq ?_
        | refine W_skip ?_
        | refine W_exit ?_
        | refine W_ret ?_
        | refine W_block ?_
        | (refine W_ops (by simp (maxSteps := 1000000) (disch := first | decide | omega | assumption | exact plain_int _ _ | exact plain_ints _ | exact plain_bool _ | exact one_int _ _ | exact plain_des _ | exact plain_rows _) only [AM, initTm, Nat.reduceAdd, Nat.reduceEqDiff, reduceCtorEq, run_aaddr, run_stn, run_bld, bldV_nil, g4, g6, g19, g20, g21, hil, run_ldn, hRldn, hw1, List.set_cons_succ, List.set_cons_zero]; rfl) ?_)
        | (refine W_cond (by simp (maxSteps := 1000000) (disch := first | decide | omega | assumption | exact plain_int _ _ | exact plain_ints _ | exact plain_bool _ | exact one_int _ _ | exact plain_des _ | exact plain_rows _) only [AM, initTm, Nat.reduceAdd, Nat.reduceEqDiff, reduceCtorEq, run_aaddr, run_stn, run_bld, bldV_nil, g4, g6, g19, g20, g21, hil, run_ldn, hRldn, hw1, List.set_cons_succ, List.set_cons_zero]; rfl) ?_ ?_ <;> intro hcond <;> (try simp only [decide_eq_true_eq, decide_eq_false_iff_not, beq_iff_eq, beq_eq_false_iff_ne, ne_eq, reduceCtorEq, Bool.not_eq_true', Bool.not_eq_false', bne_iff_ne, bne_eq_false_iff_eq] at hcond) <;> (try (exfalso; omega)))
        | refine thenQ_n ?_
        | refine thenQ_e ?_
        | refine thenQ_r ?_
        | refine outQ_n ?_
        | refine outQ_r ?_
        | refine outQ_e ?_
        | refine outQ_d (by decide) ?_
      exact ⟨.inr rfl, [.agg (f.room q), .int .i64 0], mapM_two (res_whole (id := 1) (cs := f.room q) rfl (by decide) _ 0 4 4 rfl (by simp (maxSteps := 1000000) (disch := first | decide | omega | assumption | exact plain_int _ _ | exact plain_ints _ | exact plain_bool _ | exact one_int _ _ | exact plain_des _ | exact plain_rows _) only [AM, initTm, Nat.reduceAdd, Nat.reduceEqDiff, reduceCtorEq, run_aaddr, run_stn, run_bld, bldV_nil, g4])) (rvar_tmp (by simp (maxSteps := 1000000) (disch := first | decide | omega | assumption | exact plain_int _ _ | exact plain_ints _ | exact plain_bool _ | exact one_int _ _ | exact plain_des _ | exact plain_rows _) only [AM, initTm, Nat.reduceAdd, Nat.reduceEqDiff, reduceCtorEq, run_aaddr, run_stn, run_bld, bldV_nil]) _ _), rfl⟩)
  exact ⟨al, h1⟩
end
end Go.Am
