/- Fields: opened, checked. -/
import Derived.Test.YtcibofbmennjpaaDoorAmFd3
set_option linter.unusedVariables false
set_option linter.unusedSimpArgs false
namespace Go.Am

/-- A field, as it comes in. -/
structure Fld where
  p : Int
  k : Int
  low : Option (List Int)
def Fld.l (f : Fld) : List Int := f.low.getD []
def Fld.cells (f : Fld) : List AV := [.int .i64 f.p, .int .i64 f.k, ints f.low]
def Fld.av (f : Fld) : AV := .agg f.cells
def Fld.room (f : Fld) (q : Int) : List AV := [.int .i64 f.p, .int .i64 f.k, ints f.low, .int .i64 q]
theorem ints_one (o : Option (List Int)) : (ints o).one = true := by cases o <;> rfl
theorem Fld.cells_one (f : Fld) : f.cells.all AV.one = true := by
  unfold Fld.cells
  rw [List.all_cons, List.all_cons, List.all_cons, ints_one]; rfl
theorem Fld.room_one (f : Fld) (q : Int) : (f.room q).all AV.one = true := by
  unfold Fld.room
  rw [List.all_cons, List.all_cons, List.all_cons, ints_one]; rfl
theorem plain_agg {cs : List AV} (hc : AV.closedL cs = true) (hr : ∀ bx, cs.mapM (reify 7 bx) = some cs) : Plain (.agg cs) :=
  ⟨hc, fun bx => by show (cs.mapM (reify 7 bx)).map AV.agg = _; rw [hr]; rfl⟩
theorem reify7_ints (o : Option (List Int)) (bx : List Box) : reify 7 bx (ints o) = some (ints o) := by
  cases o with
  | none => rfl
  | some l =>
    have hc : (AV.lst (l.map (AV.int .i64)).length (l.map (AV.int .i64))).closed = true := closedL_ints l
    show (if (AV.lst (l.map (AV.int .i64)).length (l.map (AV.int .i64))).closed then some (AV.lst (l.map (AV.int .i64)).length (l.map (AV.int .i64))) else none) = _
    rw [hc]; rfl
theorem alias7_ints_closed (o : Option (List Int)) : (ints o).closed = true := (plain_ints o).1
theorem plain_fld (f : Fld) : Plain f.av := plain_agg (by simp [Fld.cells, AV.closedL, AV.closed, (plain_ints f.low).1]) (fun bx => by
  unfold Fld.cells
  rw [List.mapM_cons, List.mapM_cons, List.mapM_cons, reify7_ints]; rfl)
theorem plain_room (f : Fld) (q : Int) : Plain (.agg (f.room q)) := plain_agg (by simp [Fld.room, AV.closedL, AV.closed, (plain_ints f.low).1]) (fun bx => by
  unfold Fld.room
  rw [List.mapM_cons, List.mapM_cons, List.mapM_cons, reify7_ints]; rfl)

/-- The polynomial of a field: its numbers, and zeros. -/
def pad (l : List Int) : List Int := l ++ List.replicate (7 - l.length) 0
theorem pad_length (l : List Int) (h : l.length ≤ 6) : (pad l).length = 7 := by simp [pad]; omega
theorem pad_getD (l : List Int) (i : Nat) (h : i < l.length) : (pad l).getD i 0 = l.getD i 0 := by
  unfold pad
  rw [List.getD_eq_getElem?_getD, List.getElem?_append_left h, List.getD_eq_getElem?_getD]
theorem mix_pad (l : List Int) (h : l.length ≤ 6) : mix (pad l) Z7 l.length = pad l := by
  unfold mix pad
  rw [List.take_left', show Z7 = List.replicate 7 0 from rfl, List.drop_replicate]
  rfl
theorem mix_zero (a b : List Int) : mix a b 0 = b := by simp [mix]
theorem pad_poly {p : Int} {l : List Int} (h : l.length ≤ 6) (hp : 0 < p) (hl : ∀ x ∈ l, 0 ≤ x ∧ x < p) : Poly p (pad l) := by
  refine ⟨pad_length l h, fun x hx => ?_⟩
  rcases List.mem_append.1 hx with h1 | h1
  · exact hl x h1
  · rw [(List.mem_replicate.1 h1).2]; omega

section
variable {G : Nat → List AV} {F : Nat → Option MF} {rec : Rec}

/-- A field that is one, of order q. -/
def FieldOk (G : Nat → List AV) (F : Nat → Option MF) (f : Fld) (q : Int) : Prop :=
  OrderOk f.p f.k q ∧ (f.l.length : Int) = f.k ∧ (∀ x ∈ f.l, 0 ≤ x ∧ x < f.p) ∧ pcall F (E G F) 94 [.int .i64 f.p, .int .i64 f.k, .agg ((pad f.l).map (.int .i64))] = some (.val (.bool true), false)

/-- The fields' functions. -/
structure FTbl (G : Nat → List AV) (F : Nat → Option MF) : Prop where
  g : G 0 = primesI.map (.int .i64)
  f_isPrime : F 126 = some mf126
  f_order : F 92 = some mf92
  f_digits : F 93 = some mf93
  f_divides : F 127 = some mf127
  f_irreducible : F 94 = some mf94
  f_open : F 123 = some mf123
  f_Check : F 125 = some mf125
  f_with : F 99 = some mf99
  f_Mul : F 40 = some mf40
  f_Add : F 43 = some mf43
  f_mul : F 100 = some mf100
  f_add : F 101 = some mf101
  f_number : F 131 = some mf131
  f_shift : F 130 = some mf130

/-- A list that is an array of values to be read and written as a whole. -/
theorem write_whole {bx : List Box} {id sz : Nat} {e : TypeId} {old new : List AV} (h : bx[id]? = some ⟨old, sz, e, .live⟩) (tm : Tm) (rb n : Nat) (hn : old.length = n) (hl : new.length = n) (ho : new.all AV.one = true) :
    stnV ⟨tm, bx, rb⟩ n (.ptr id n 0) (.agg new) = some ⟨tm, bx.set id ⟨new, sz, e, .live⟩, rb⟩ := by
  subst hn
  simp only [stnV, hl, if_true, St.write]
  rw [h]
  have hp : putAt old 0 new = new := by simp [putAt, hl]
  simp only [true_and]
  rw [if_pos ⟨by omega, ho⟩, hp]
theorem res_whole {bx : List Box} {id sz : Nat} {e : TypeId} {cs : List AV} {s : Status} (h : bx[id]? = some ⟨cs, sz, e, s⟩) (hs : s ≠ .fresh) (tm : Tm) (rb n t : Nat) (hn : n = cs.length) (ht : tm.get t = .ptr id n 0) : rvar ⟨tm, bx, rb⟩ (.celln t n) = some (.agg cs) := by
  subst hn
  simp only [rvar, ht, St.at_]
  rw [h]
  simp only [ne_eq, hs, not_false_eq_true, and_self, if_true, List.drop_zero, Nat.le_refl]
  rw [List.take_of_length_le (Nat.le_refl _)]

def Room0 : List AV := [.int .i64 0, .int .i64 0, .nil, .int .i64 0]
theorem closed_not_own {cs : List AV} (id n : Nat) (e : Int) : AV.tup [.agg cs, .int .i64 e] ≠ .own id n := fun h => by cases h

theorem reify_roomE (cs : List AV) (h : ∀ bx, reify 7 bx (.agg cs) = some (.agg cs)) (e : Int) (bx : List Box) : reify reifyDepth bx (.tup [.agg cs, .int .i64 e]) = some (.tup [.agg cs, .int .i64 e]) := by
  show ([AV.agg cs, .int .i64 e].mapM (reify 7 bx)).map AV.tup = _
  rw [List.mapM_cons, h]; rfl
theorem reify6_ints (o : Option (List Int)) (bx : List Box) : reify 6 bx (ints o) = some (ints o) := by
  cases o with
  | none => rfl
  | some l =>
    have hc : (AV.lst (l.map (AV.int .i64)).length (l.map (AV.int .i64))).closed = true := closedL_ints l
    show (if (AV.lst (l.map (AV.int .i64)).length (l.map (AV.int .i64))).closed then some (AV.lst (l.map (AV.int .i64)).length (l.map (AV.int .i64))) else none) = _
    rw [hc]; rfl
theorem room_reify7 (f : Fld) (q : Int) (bx : List Box) : reify 7 bx (.agg (f.room q)) = some (.agg (f.room q)) := by
  show ((f.room q).mapM (reify 6 bx)).map AV.agg = _
  unfold Fld.room
  rw [List.mapM_cons, List.mapM_cons, List.mapM_cons, reify6_ints]; rfl
theorem room0_reify7 (bx : List Box) : reify 7 bx (.agg Room0) = some (.agg Room0) := rfl

/-- A function of a value, that may hand on what came in. -/
theorem pcall_exA {f : Nat} {mf : MF} (hf : F f = some mf) {args : List AV} {P : AV → Prop} (hv : ∀ v, P v → (∀ id n, v ≠ .own id n) ∧ (∀ bx, reify reifyDepth bx v = some v))
    (h : W G F mf.body ⟨initTm 0 args .e, [], 0⟩ fun e s => (e = .normal ∨ e = .ret) ∧ ∃ rs, mf.res.mapM (rvar s) = some rs ∧ P (tuple rs)) :
    ∃ v al, pcall F (E G F) f args = some (.val v, al) ∧ P v := by
  obtain ⟨s, rs, h1, h2⟩ := runBody_W h
  obtain ⟨a, b⟩ := hv _ h2
  refine ⟨tuple rs, alias reifyDepth s.bx (tuple rs), ?_, h2⟩
  unfold pcall
  rw [hf]
  simp only [h1]
  generalize tuple rs = v at *
  cases v with
  | own id n => exact absurd rfl (a id n)
  | _ => simp only [b]; rfl

theorem bld_room (f : Fld) (q : Int) (z0 z1 z2 z3 : AV) : bldV [(0, 3, .agg f.cells), (3, 1, .int .i64 q)] [z0, z1, z2, z3] = some (.agg (f.room q)) := by
  have h1 := f.cells_one
  unfold bldV
  simp only [fill, AV.cells, h1]
  simp [Fld.cells, Fld.room, putAt, AV.one]

set_option maxHeartbeats 1000000 in
theorem open_spec (T : FTbl G F) (f : Fld) (hlen : f.l.length < 9223372036854775808) :
    ∃ v al, pcall F (E G F) 123 [f.av] = some (.val v, al) ∧ ∃ cs e, v = .tup [.agg cs, .int .i64 e] ∧ ((e ≠ 0 ∧ cs = Room0) ∨ (e = 0 ∧ ∃ q, cs = f.room q ∧ FieldOk G F f q)) := by
  obtain ⟨v0, hc0, q, ok, rfl, hq⟩ := order_spec (G := G) T.g T.f_order T.f_isPrime f.p f.k
  have hfc : f.av.cells = f.cells := rfl
  have hf1 := f.cells_one
  have hf3 : f.cells.length = 3 := rfl
  have hr0 : [AV.int .i64 0, .int .i64 0, .nil, .int .i64 0] = Room0 := rfl
  have hr4 : Room0.length = 4 := rfl
  have hro : Room0.all AV.one = true := rfl
  have hz : [AV.int .i64 0, .int .i64 0, .int .i64 0, .int .i64 0, .int .i64 0, .int .i64 0, .int .i64 0] = Z7.map (.int .i64) := rfl
  have hZl : Z7.length = 7 := rfl
  have hZm : (Z7.map (AV.int .i64)).length = 7 := rfl
  have hH : ∀ x, Has (⟨f.cells, 3, 24, .live⟩ :: x) 0 f.cells := fun x => ⟨_, rfl, rfl, by simp⟩
  have hfa := fun x tm rb o off => (hH x).faddr tm rb 3 o off rfl
  have hld := fun x tm rb off => (hH x).ld1 tm rb 3 off rfl
  have hldn := fun x tm rb => (hH x).ldn tm rb 3 rfl
  have c0 : f.cells[0]? = some (.int .i64 f.p) := rfl
  have c1 : f.cells[1]? = some (.int .i64 f.k) := rfl
  have c2 : f.cells[2]? = some (ints f.low) := rfl
  have x0 : ∀ (a b : AV), [a, b][0]? = some a := fun _ _ => rfl
  have x1 : ∀ (a b : AV), [a, b][1]? = some b := fun _ _ => rfl
  have hwz := fun x tm rb => write_whole (bx := ⟨f.cells, 3, 24, .live⟩ :: ⟨Room0, 4, 142, .live⟩ :: x) (id := 1) (sz := 4) (e := 142) rfl tm rb 4 hr4 hr4 hro
  have res0 : ∀ (e : Int), e ≠ 0 → ∃ cs e', AV.tup [.agg Room0, .int .i64 e] = .tup [.agg cs, .int .i64 e'] ∧ ((e' ≠ 0 ∧ cs = Room0) ∨ (e' = 0 ∧ ∃ q, cs = f.room q ∧ FieldOk G F f q)) := fun e he => ⟨Room0, e, rfl, .inl ⟨he, rfl⟩⟩
  have out0 : ∀ (x : List Box) (tm : Tm) (e : Int), e ≠ 0 → tm.get 2 = .ptr 1 4 0 → tm.get 3 = .int .i64 e → ∃ rs, [RVar.celln 2 4, .tmp 3].mapM (rvar ⟨tm, ⟨f.cells, 3, 24, .live⟩ :: ⟨Room0, 4, 142, .live⟩ :: x, 0⟩) = some rs ∧ ∃ cs e', tuple rs = .tup [.agg cs, .int .i64 e'] ∧ ((e' ≠ 0 ∧ cs = Room0) ∨ (e' = 0 ∧ ∃ q, cs = f.room q ∧ FieldOk G F f q)) := fun x tm e he h2 h3 =>
    ⟨[.agg Room0, .int .i64 e], mapM_two (res_whole (id := 1) (cs := Room0) rfl (by decide) tm 0 4 2 rfl h2) (rvar_tmp h3 _ _), res0 e he⟩
  refine pcall_exA T.f_open (fun v ⟨cs, e, he, hh⟩ => he ▸ ⟨fun _ _ h => (by cases h), fun bx => reify_roomE cs (by
    rcases hh with ⟨_, rfl⟩ | ⟨_, q, rfl, _⟩
    · exact room0_reify7
    · exact room_reify7 f q) e bx⟩) ?_
  unfold mf123
  simp only
  cases ok with
  | false =>
    repeat' first
      | refine W_seq ?_
      | refine W_skip ?_
      | refine W_exit ?_
      | refine W_ret ?_
      | refine W_block ?_
      | (refine W_ops (by simp (maxSteps := 1000000) (disch := first | decide | omega | assumption | exact plain_int _ _ | exact plain_ints _ | exact plain_bool _ | exact one_int _ _ | exact plain_des _ | exact plain_rows _) only [AM, initTm, Nat.reduceAdd, Nat.reduceEqDiff, reduceCtorEq, run_aaddr, run_stn, run_bld, bldV_nil, hfc, hf1, hf3, hr0, hr4, hfa, hld, c0, c1, c2, hc0, x0, x1, run_bld, bldV_nil, hwz, List.length_cons, List.set_cons_succ, List.set_cons_zero]; rfl) ?_)
      | (refine W_cond (by simp (maxSteps := 1000000) (disch := first | decide | omega | assumption | exact plain_int _ _ | exact plain_ints _ | exact plain_bool _ | exact one_int _ _ | exact plain_des _ | exact plain_rows _) only [AM, initTm, Nat.reduceAdd, Nat.reduceEqDiff, reduceCtorEq, run_aaddr, run_stn, run_bld, bldV_nil, hfc, hf1, hf3, hr0, hr4, hfa, hld, c0, c1, c2, hc0, x0, x1, run_bld, bldV_nil, hwz, List.length_cons, List.set_cons_succ, List.set_cons_zero]; rfl) ?_ ?_ <;> intro hcond <;> (try simp only [decide_eq_true_eq, decide_eq_false_iff_not, beq_iff_eq, beq_eq_false_iff_ne, ne_eq, reduceCtorEq, Bool.not_eq_true', Bool.not_eq_false', bne_iff_ne, bne_eq_false_iff_eq] at hcond) <;> (try (exfalso; omega)))
      | refine thenQ_n ?_
      | refine thenQ_e ?_
      | refine thenQ_r ?_
      | refine outQ_n ?_
      | refine outQ_r ?_
      | refine outQ_e ?_
      | refine outQ_d (by decide) ?_
    exact ⟨.inr rfl, out0 _ _ 1 (by decide) (by simp (maxSteps := 1000000) (disch := first | decide | omega | assumption | exact plain_int _ _ | exact plain_ints _ | exact plain_bool _ | exact one_int _ _ | exact plain_des _ | exact plain_rows _) only [AM, initTm, Nat.reduceAdd, Nat.reduceEqDiff, reduceCtorEq, run_aaddr, run_stn, run_bld, bldV_nil]) (by simp (maxSteps := 1000000) (disch := first | decide | omega | assumption | exact plain_int _ _ | exact plain_ints _ | exact plain_bool _ | exact one_int _ _ | exact plain_des _ | exact plain_rows _) only [AM, initTm, Nat.reduceAdd, Nat.reduceEqDiff, reduceCtorEq, run_aaddr, run_stn, run_bld, bldV_nil])⟩
  | true =>
    have hqo := hq rfl
    obtain ⟨hp1, hk1, hk6, hqe, hq64⟩ := hqo
    have hpb := primes_bd f.p hp1
    by_cases hlk : (f.l.length : Int) = f.k
    · have hne : ((f.l.length : Int) != f.k) = false := by rw [hlk]; simp
      have hlle : f.l.length ≤ 6 := by omega
      have hlen' : ∀ st, lenV st (ints f.low) = some (f.l.length : Int) := fun st => lenV_ints st f.low
      repeat' first
        | refine W_seq ?_
        | refine W_skip ?_
        | refine W_exit ?_
        | refine W_ret ?_
        | refine W_block ?_
        | (refine W_ops (by simp (maxSteps := 1000000) (disch := first | decide | omega | assumption | exact plain_int _ _ | exact plain_ints _ | exact plain_bool _ | exact one_int _ _ | exact plain_des _ | exact plain_rows _) only [AM, initTm, Nat.reduceAdd, Nat.reduceEqDiff, reduceCtorEq, run_aaddr, run_stn, run_bld, bldV_nil, hfc, hf1, hf3, hr0, hr4, hfa, hld, c0, c1, c2, hc0, x0, x1, hne, hlen', hz, hZm, List.length_cons]; rfl) ?_)
        | (refine W_cond (by simp (maxSteps := 1000000) (disch := first | decide | omega | assumption | exact plain_int _ _ | exact plain_ints _ | exact plain_bool _ | exact one_int _ _ | exact plain_des _ | exact plain_rows _) only [AM, initTm, Nat.reduceAdd, Nat.reduceEqDiff, reduceCtorEq, run_aaddr, run_stn, run_bld, bldV_nil, hfc, hf1, hf3, hr0, hr4, hfa, hld, c0, c1, c2, hc0, x0, x1, hne, hlen', hz, hZm, List.length_cons]; rfl) ?_ ?_ <;> intro hcond <;> (try simp only [decide_eq_true_eq, decide_eq_false_iff_not, beq_iff_eq, beq_eq_false_iff_ne, ne_eq, reduceCtorEq, Bool.not_eq_true', Bool.not_eq_false', bne_iff_ne, bne_eq_false_iff_eq] at hcond) <;> (try (exfalso; omega)))
        | refine thenQ_n ?_
        | refine thenQ_e ?_
        | refine thenQ_r ?_
        | refine outQ_n ?_
        | refine outQ_r ?_
        | refine outQ_e ?_
        | refine outQ_d (by decide) ?_
      refine W_loop (k := f.l.length) (fun m s => ∃ (i : Nat) (tm : Tm), s = ⟨tm, [⟨f.cells, 3, 24, .live⟩, ⟨Room0, 4, 142, .live⟩, ⟨(mix (pad f.l) Z7 i).map (.int .i64), 7, 136, .live⟩], 0⟩ ∧ tm.get 1 = .ptr 0 3 0 ∧ tm.get 2 = .ptr 1 4 0 ∧ tm.get 4 = .int .i64 q ∧ tm.get 6 = .ptr 2 7 0 ∧ tm.get 28 = ints f.low ∧ tm.get 29 = .int .i64 f.l.length ∧ tm.get 30 = .int .i64 i ∧ i ≤ f.l.length ∧ m = f.l.length - i ∧ ∀ j, j < i → 0 ≤ f.l.getD j 0 ∧ f.l.getD j 0 < f.p) ⟨0, _, by rw [mix_zero], by simp (maxSteps := 1000000) (disch := first | decide | omega | assumption | exact plain_int _ _ | exact plain_ints _ | exact plain_bool _ | exact one_int _ _ | exact plain_des _ | exact plain_rows _) only [AM, initTm, Nat.reduceAdd, Nat.reduceEqDiff, reduceCtorEq, run_aaddr, run_stn, run_bld, bldV_nil], by simp (maxSteps := 1000000) (disch := first | decide | omega | assumption | exact plain_int _ _ | exact plain_ints _ | exact plain_bool _ | exact one_int _ _ | exact plain_des _ | exact plain_rows _) only [AM, initTm, Nat.reduceAdd, Nat.reduceEqDiff, reduceCtorEq, run_aaddr, run_stn, run_bld, bldV_nil], by simp (maxSteps := 1000000) (disch := first | decide | omega | assumption | exact plain_int _ _ | exact plain_ints _ | exact plain_bool _ | exact one_int _ _ | exact plain_des _ | exact plain_rows _) only [AM, initTm, Nat.reduceAdd, Nat.reduceEqDiff, reduceCtorEq, run_aaddr, run_stn, run_bld, bldV_nil], by simp (maxSteps := 1000000) (disch := first | decide | omega | assumption | exact plain_int _ _ | exact plain_ints _ | exact plain_bool _ | exact one_int _ _ | exact plain_des _ | exact plain_rows _) only [AM, initTm, Nat.reduceAdd, Nat.reduceEqDiff, reduceCtorEq, run_aaddr, run_stn, run_bld, bldV_nil], by simp (maxSteps := 1000000) (disch := first | decide | omega | assumption | exact plain_int _ _ | exact plain_ints _ | exact plain_bool _ | exact one_int _ _ | exact plain_des _ | exact plain_rows _) only [AM, initTm, Nat.reduceAdd, Nat.reduceEqDiff, reduceCtorEq, run_aaddr, run_stn, run_bld, bldV_nil], by simp (maxSteps := 1000000) (disch := first | decide | omega | assumption | exact plain_int _ _ | exact plain_ints _ | exact plain_bool _ | exact one_int _ _ | exact plain_des _ | exact plain_rows _) only [AM, initTm, Nat.reduceAdd, Nat.reduceEqDiff, reduceCtorEq, run_aaddr, run_stn, run_bld, bldV_nil], by simp (maxSteps := 1000000) (disch := first | decide | omega | assumption | exact plain_int _ _ | exact plain_ints _ | exact plain_bool _ | exact one_int _ _ | exact plain_des _ | exact plain_rows _) only [AM, initTm, Nat.reduceAdd, Nat.reduceEqDiff, reduceCtorEq, run_aaddr, run_stn, run_bld, bldV_nil]; rfl, by omega, rfl, fun j h => by omega⟩ ?_
      rintro m s ⟨i, tm, rfl, g1, g2, g4, g6, g28, g29, g30, hi, rfl, hx⟩
      have hmx : (mix (pad f.l) Z7 i).length = 7 := by rw [mix_length _ _ _ (by rw [pad_length _ hlle]; rfl) (by show i ≤ 7; omega)]; rfl
      have hP : HasArr [⟨f.cells, 3, 24, .live⟩, ⟨Room0, 4, 142, .live⟩, ⟨(mix (pad f.l) Z7 i).map (.int .i64), 7, 136, .live⟩] 2 7 136 (mix (pad f.l) Z7 i) := rfl
      have haP := fun tm rb o len s => hP.aaddr tm rb 7 o len s hmx.symm
      have hwP := fun tm rb => hP.write tm rb 7 hmx.symm
      have hldP := fun tm rb => hP.has.ldn tm rb 7 (by rw [List.length_map, hmx])
      by_cases hil : (i : Int) < (f.l.length : Int)
      · have hia : ∀ st, iaddrV st 1 (ints f.low) (.int .i64 (i : Int)) = some (.rptr ((f.l.drop i).map (AV.int .i64))) := fun st => by
          rw [iaddrV_ints_pos st f.low .i64 i ⟨by omega, hil⟩, Int.toNat_natCast]; rfl
        have hhd : ((f.l.drop i).map (AV.int .i64)).head? = some (.int .i64 (f.l.getD i 0)) := head_drop_n f.l i (by omega)
        by_cases hneg : f.l.getD i 0 < 0
        · repeat' first
            | refine W_seq ?_
            | refine W_skip ?_
            | refine W_exit ?_
            | refine W_ret ?_
            | refine W_block ?_
            | (refine W_ops (by simp (maxSteps := 1000000) (disch := first | decide | omega | assumption | exact plain_int _ _ | exact plain_ints _ | exact plain_bool _ | exact one_int _ _ | exact plain_des _ | exact plain_rows _) only [AM, initTm, Nat.reduceAdd, Nat.reduceEqDiff, reduceCtorEq, run_aaddr, run_stn, run_bld, bldV_nil, g1, g2, g4, g6, g28, g29, g30, hil, hia, hhd, hneg, hr0, hfa, hld, c0, run_bld, bldV_nil, hwz, List.set_cons_succ, List.set_cons_zero]; rfl) ?_)
            | (refine W_cond (by simp (maxSteps := 1000000) (disch := first | decide | omega | assumption | exact plain_int _ _ | exact plain_ints _ | exact plain_bool _ | exact one_int _ _ | exact plain_des _ | exact plain_rows _) only [AM, initTm, Nat.reduceAdd, Nat.reduceEqDiff, reduceCtorEq, run_aaddr, run_stn, run_bld, bldV_nil, g1, g2, g4, g6, g28, g29, g30, hil, hia, hhd, hneg, hr0, hfa, hld, c0, run_bld, bldV_nil, hwz, List.set_cons_succ, List.set_cons_zero]; rfl) ?_ ?_ <;> intro hcond <;> (try simp only [decide_eq_true_eq, decide_eq_false_iff_not, beq_iff_eq, beq_eq_false_iff_ne, ne_eq, reduceCtorEq, Bool.not_eq_true', Bool.not_eq_false', bne_iff_ne, bne_eq_false_iff_eq] at hcond) <;> (try (exfalso; omega)))
            | refine thenQ_n ?_
            | refine thenQ_e ?_
            | refine thenQ_r ?_
            | refine outQ_n ?_
            | refine outQ_r ?_
            | refine outQ_e ?_
            | refine outQ_d (by decide) ?_
          exact ⟨.inr rfl, out0 _ _ 1 (by decide) (by simp (maxSteps := 1000000) (disch := first | decide | omega | assumption | exact plain_int _ _ | exact plain_ints _ | exact plain_bool _ | exact one_int _ _ | exact plain_des _ | exact plain_rows _) only [AM, initTm, Nat.reduceAdd, Nat.reduceEqDiff, reduceCtorEq, run_aaddr, run_stn, run_bld, bldV_nil, g2]) (by simp (maxSteps := 1000000) (disch := first | decide | omega | assumption | exact plain_int _ _ | exact plain_ints _ | exact plain_bool _ | exact one_int _ _ | exact plain_des _ | exact plain_rows _) only [AM, initTm, Nat.reduceAdd, Nat.reduceEqDiff, reduceCtorEq, run_aaddr, run_stn, run_bld, bldV_nil])⟩
        · by_cases hge : f.l.getD i 0 ≥ f.p
          · repeat' first
              | refine W_seq ?_
              | refine W_skip ?_
              | refine W_exit ?_
              | refine W_ret ?_
              | refine W_block ?_
              | (refine W_ops (by simp (maxSteps := 1000000) (disch := first | decide | omega | assumption | exact plain_int _ _ | exact plain_ints _ | exact plain_bool _ | exact one_int _ _ | exact plain_des _ | exact plain_rows _) only [AM, initTm, Nat.reduceAdd, Nat.reduceEqDiff, reduceCtorEq, run_aaddr, run_stn, run_bld, bldV_nil, g1, g2, g4, g6, g28, g29, g30, hil, hia, hhd, hneg, hge, hr0, hfa, hld, c0, run_bld, bldV_nil, hwz, List.set_cons_succ, List.set_cons_zero]; rfl) ?_)
              | (refine W_cond (by simp (maxSteps := 1000000) (disch := first | decide | omega | assumption | exact plain_int _ _ | exact plain_ints _ | exact plain_bool _ | exact one_int _ _ | exact plain_des _ | exact plain_rows _) only [AM, initTm, Nat.reduceAdd, Nat.reduceEqDiff, reduceCtorEq, run_aaddr, run_stn, run_bld, bldV_nil, g1, g2, g4, g6, g28, g29, g30, hil, hia, hhd, hneg, hge, hr0, hfa, hld, c0, run_bld, bldV_nil, hwz, List.set_cons_succ, List.set_cons_zero]; rfl) ?_ ?_ <;> intro hcond <;> (try simp only [decide_eq_true_eq, decide_eq_false_iff_not, beq_iff_eq, beq_eq_false_iff_ne, ne_eq, reduceCtorEq, Bool.not_eq_true', Bool.not_eq_false', bne_iff_ne, bne_eq_false_iff_eq] at hcond) <;> (try (exfalso; omega)))
              | refine thenQ_n ?_
              | refine thenQ_e ?_
              | refine thenQ_r ?_
              | refine outQ_n ?_
              | refine outQ_r ?_
              | refine outQ_e ?_
              | refine outQ_d (by decide) ?_
            exact ⟨.inr rfl, out0 _ _ 1 (by decide) (by simp (maxSteps := 1000000) (disch := first | decide | omega | assumption | exact plain_int _ _ | exact plain_ints _ | exact plain_bool _ | exact one_int _ _ | exact plain_des _ | exact plain_rows _) only [AM, initTm, Nat.reduceAdd, Nat.reduceEqDiff, reduceCtorEq, run_aaddr, run_stn, run_bld, bldV_nil, g2]) (by simp (maxSteps := 1000000) (disch := first | decide | omega | assumption | exact plain_int _ _ | exact plain_ints _ | exact plain_bool _ | exact one_int _ _ | exact plain_des _ | exact plain_rows _) only [AM, initTm, Nat.reduceAdd, Nat.reduceEqDiff, reduceCtorEq, run_aaddr, run_stn, run_bld, bldV_nil])⟩
          · have hset : (mix (pad f.l) Z7 i).set i (f.l.getD i 0) = mix (pad f.l) Z7 (i + 1) := by
              rw [← pad_getD f.l i (by omega)]
              exact mix_set _ _ _ (by rw [pad_length _ hlle]; rfl) (by show i < 7; omega)
            repeat' first
              | refine W_seq ?_
              | refine W_skip ?_
              | refine W_exit ?_
              | refine W_ret ?_
              | refine W_block ?_
              | (refine W_ops (by simp (maxSteps := 1000000) (disch := first | decide | omega | assumption | exact plain_int _ _ | exact plain_ints _ | exact plain_bool _ | exact one_int _ _ | exact plain_des _ | exact plain_rows _) only [AM, initTm, Nat.reduceAdd, Nat.reduceEqDiff, reduceCtorEq, run_aaddr, run_stn, run_bld, bldV_nil, g1, g2, g4, g6, g28, g29, g30, hil, hia, hhd, hneg, hge, hfa, hld, c0, haP, hwP, hset, List.set_cons_succ, List.set_cons_zero]; rfl) ?_)
              | (refine W_cond (by simp (maxSteps := 1000000) (disch := first | decide | omega | assumption | exact plain_int _ _ | exact plain_ints _ | exact plain_bool _ | exact one_int _ _ | exact plain_des _ | exact plain_rows _) only [AM, initTm, Nat.reduceAdd, Nat.reduceEqDiff, reduceCtorEq, run_aaddr, run_stn, run_bld, bldV_nil, g1, g2, g4, g6, g28, g29, g30, hil, hia, hhd, hneg, hge, hfa, hld, c0, haP, hwP, hset, List.set_cons_succ, List.set_cons_zero]; rfl) ?_ ?_ <;> intro hcond <;> (try simp only [decide_eq_true_eq, decide_eq_false_iff_not, beq_iff_eq, beq_eq_false_iff_ne, ne_eq, reduceCtorEq, Bool.not_eq_true', Bool.not_eq_false', bne_iff_ne, bne_eq_false_iff_eq] at hcond) <;> (try (exfalso; omega)))
              | refine thenQ_n ?_
              | refine thenQ_e ?_
              | refine thenQ_r ?_
              | refine outQ_n ?_
              | refine outQ_r ?_
              | refine outQ_e ?_
              | refine outQ_d (by decide) ?_
            exact ⟨f.l.length - (i + 1), by omega, i + 1, _, rfl, by simp (maxSteps := 1000000) (disch := first | decide | omega | assumption | exact plain_int _ _ | exact plain_ints _ | exact plain_bool _ | exact one_int _ _ | exact plain_des _ | exact plain_rows _) only [AM, initTm, Nat.reduceAdd, Nat.reduceEqDiff, reduceCtorEq, run_aaddr, run_stn, run_bld, bldV_nil, g1], by simp (maxSteps := 1000000) (disch := first | decide | omega | assumption | exact plain_int _ _ | exact plain_ints _ | exact plain_bool _ | exact one_int _ _ | exact plain_des _ | exact plain_rows _) only [AM, initTm, Nat.reduceAdd, Nat.reduceEqDiff, reduceCtorEq, run_aaddr, run_stn, run_bld, bldV_nil, g2], by simp (maxSteps := 1000000) (disch := first | decide | omega | assumption | exact plain_int _ _ | exact plain_ints _ | exact plain_bool _ | exact one_int _ _ | exact plain_des _ | exact plain_rows _) only [AM, initTm, Nat.reduceAdd, Nat.reduceEqDiff, reduceCtorEq, run_aaddr, run_stn, run_bld, bldV_nil, g4], by simp (maxSteps := 1000000) (disch := first | decide | omega | assumption | exact plain_int _ _ | exact plain_ints _ | exact plain_bool _ | exact one_int _ _ | exact plain_des _ | exact plain_rows _) only [AM, initTm, Nat.reduceAdd, Nat.reduceEqDiff, reduceCtorEq, run_aaddr, run_stn, run_bld, bldV_nil, g6], by simp (maxSteps := 1000000) (disch := first | decide | omega | assumption | exact plain_int _ _ | exact plain_ints _ | exact plain_bool _ | exact one_int _ _ | exact plain_des _ | exact plain_rows _) only [AM, initTm, Nat.reduceAdd, Nat.reduceEqDiff, reduceCtorEq, run_aaddr, run_stn, run_bld, bldV_nil, g28], by simp (maxSteps := 1000000) (disch := first | decide | omega | assumption | exact plain_int _ _ | exact plain_ints _ | exact plain_bool _ | exact one_int _ _ | exact plain_des _ | exact plain_rows _) only [AM, initTm, Nat.reduceAdd, Nat.reduceEqDiff, reduceCtorEq, run_aaddr, run_stn, run_bld, bldV_nil, g29], by simp (maxSteps := 1000000) (disch := first | decide | omega | assumption | exact plain_int _ _ | exact plain_ints _ | exact plain_bool _ | exact one_int _ _ | exact plain_des _ | exact plain_rows _) only [AM, initTm, Nat.reduceAdd, Nat.reduceEqDiff, reduceCtorEq, run_aaddr, run_stn, run_bld, bldV_nil]; rfl, by omega, rfl, fun j hj => by
              by_cases e : j = i
              · subst e; omega
              · exact hx j (by omega)⟩
      · have ei : i = f.l.length := by omega
        have hall : ∀ x ∈ f.l, 0 ≤ x ∧ x < f.p := by
          intro x hxm
          obtain ⟨j, hj, rfl⟩ := List.mem_iff_getElem.1 hxm
          have := hx j (by omega)
          rw [List.getD_eq_getElem?_getD, List.getElem?_eq_getElem hj] at this
          exact this
        have hpp := pad_poly hlle (by omega) hall
        obtain ⟨P, hP'⟩ : ∃ P : Nat, f.p = (P : Int) := ⟨f.p.toNat, by omega⟩
        have hPk : P ^ f.k.toNat ≤ 64 := by
          rw [hqe, hP', ← Int.natCast_pow] at hq64
          exact Int.ofNat_le.1 hq64
        obtain ⟨v, hir, b, rfl⟩ := irreducible_spec (G := G) T.f_irreducible T.f_digits T.f_divides P f.k (pad f.l) (by omega) ⟨hk1, hk6⟩ hPk (hP' ▸ hpp)
        rw [← hP'] at hir
        have hcall : ∀ st, doCall F (E G F) .pureV 94 [.int .i64 f.p, .int .i64 f.k, .agg ((pad f.l).map (.int .i64))] st = some (.bool b, st) := fun st => by
          rw [doCall_plain3 (plain_int _ _) (plain_int _ _) (plain_arr _), hir]; rfl
        rw [ei, mix_pad f.l hlle] at hldP
        subst ei
        rw [mix_pad f.l hlle]
        cases b with
        | false =>
          repeat' first
            | refine W_seq ?_
            | refine W_skip ?_
            | refine W_exit ?_
            | refine W_ret ?_
            | refine W_block ?_
            | (refine W_ops (by simp (maxSteps := 1000000) (disch := first | decide | omega | assumption | exact plain_int _ _ | exact plain_ints _ | exact plain_bool _ | exact one_int _ _ | exact plain_des _ | exact plain_rows _) only [AM, initTm, Nat.reduceAdd, Nat.reduceEqDiff, reduceCtorEq, run_aaddr, run_stn, run_bld, bldV_nil, g1, g2, g4, g6, g28, g29, g30, hil, hfa, hld, c0, c1, run_ldn, hldP, hcall, hr0, run_bld, bldV_nil, hwz, List.set_cons_succ, List.set_cons_zero]; rfl) ?_)
            | (refine W_cond (by simp (maxSteps := 1000000) (disch := first | decide | omega | assumption | exact plain_int _ _ | exact plain_ints _ | exact plain_bool _ | exact one_int _ _ | exact plain_des _ | exact plain_rows _) only [AM, initTm, Nat.reduceAdd, Nat.reduceEqDiff, reduceCtorEq, run_aaddr, run_stn, run_bld, bldV_nil, g1, g2, g4, g6, g28, g29, g30, hil, hfa, hld, c0, c1, run_ldn, hldP, hcall, hr0, run_bld, bldV_nil, hwz, List.set_cons_succ, List.set_cons_zero]; rfl) ?_ ?_ <;> intro hcond <;> (try simp only [decide_eq_true_eq, decide_eq_false_iff_not, beq_iff_eq, beq_eq_false_iff_ne, ne_eq, reduceCtorEq, Bool.not_eq_true', Bool.not_eq_false', bne_iff_ne, bne_eq_false_iff_eq] at hcond) <;> (try (exfalso; omega)))
            | refine thenQ_n ?_
            | refine thenQ_e ?_
            | refine thenQ_r ?_
            | refine outQ_n ?_
            | refine outQ_r ?_
            | refine outQ_e ?_
            | refine outQ_d (by decide) ?_
          exact ⟨.inr rfl, out0 _ _ 4 (by decide) (by simp (maxSteps := 1000000) (disch := first | decide | omega | assumption | exact plain_int _ _ | exact plain_ints _ | exact plain_bool _ | exact one_int _ _ | exact plain_des _ | exact plain_rows _) only [AM, initTm, Nat.reduceAdd, Nat.reduceEqDiff, reduceCtorEq, run_aaddr, run_stn, run_bld, bldV_nil, g2]) (by simp (maxSteps := 1000000) (disch := first | decide | omega | assumption | exact plain_int _ _ | exact plain_ints _ | exact plain_bool _ | exact one_int _ _ | exact plain_des _ | exact plain_rows _) only [AM, initTm, Nat.reduceAdd, Nat.reduceEqDiff, reduceCtorEq, run_aaddr, run_stn, run_bld, bldV_nil])⟩
        | true =>
          have hbr := bld_room f q
          have hwr := fun x tm rb => write_whole (bx := ⟨f.cells, 3, 24, .live⟩ :: ⟨Room0, 4, 142, .live⟩ :: x) (id := 1) (sz := 4) (e := 142) rfl tm rb 4 hr4 (new := f.room q) rfl (f.room_one q)
          repeat' first
            | refine W_seq ?_
            | refine W_skip ?_
            | refine W_exit ?_
            | refine W_ret ?_
            | refine W_block ?_
            | (refine W_ops (by simp (maxSteps := 1000000) (disch := first | decide | omega | assumption | exact plain_int _ _ | exact plain_ints _ | exact plain_bool _ | exact one_int _ _ | exact plain_des _ | exact plain_rows _) only [AM, initTm, Nat.reduceAdd, Nat.reduceEqDiff, reduceCtorEq, run_aaddr, run_stn, run_bld, bldV_nil, g1, g2, g4, g6, g28, g29, g30, hil, hfa, hld, c0, c1, run_ldn, hldP, hldn, hcall, run_bld, hbr, hwr, List.set_cons_succ, List.set_cons_zero]; rfl) ?_)
            | (refine W_cond (by simp (maxSteps := 1000000) (disch := first | decide | omega | assumption | exact plain_int _ _ | exact plain_ints _ | exact plain_bool _ | exact one_int _ _ | exact plain_des _ | exact plain_rows _) only [AM, initTm, Nat.reduceAdd, Nat.reduceEqDiff, reduceCtorEq, run_aaddr, run_stn, run_bld, bldV_nil, g1, g2, g4, g6, g28, g29, g30, hil, hfa, hld, c0, c1, run_ldn, hldP, hldn, hcall, run_bld, hbr, hwr, List.set_cons_succ, List.set_cons_zero]; rfl) ?_ ?_ <;> intro hcond <;> (try simp only [decide_eq_true_eq, decide_eq_false_iff_not, beq_iff_eq, beq_eq_false_iff_ne, ne_eq, reduceCtorEq, Bool.not_eq_true', Bool.not_eq_false', bne_iff_ne, bne_eq_false_iff_eq] at hcond) <;> (try (exfalso; omega)))
            | refine thenQ_n ?_
            | refine thenQ_e ?_
            | refine thenQ_r ?_
            | refine outQ_n ?_
            | refine outQ_r ?_
            | refine outQ_e ?_
            | refine outQ_d (by decide) ?_
          exact ⟨.inr rfl, [.agg (f.room q), .int .i64 0], mapM_two (res_whole (id := 1) (cs := f.room q) rfl (by decide) _ 0 4 2 rfl (by simp (maxSteps := 1000000) (disch := first | decide | omega | assumption | exact plain_int _ _ | exact plain_ints _ | exact plain_bool _ | exact one_int _ _ | exact plain_des _ | exact plain_rows _) only [AM, initTm, Nat.reduceAdd, Nat.reduceEqDiff, reduceCtorEq, run_aaddr, run_stn, run_bld, bldV_nil, g2])) (rvar_tmp (by simp (maxSteps := 1000000) (disch := first | decide | omega | assumption | exact plain_int _ _ | exact plain_ints _ | exact plain_bool _ | exact one_int _ _ | exact plain_des _ | exact plain_rows _) only [AM, initTm, Nat.reduceAdd, Nat.reduceEqDiff, reduceCtorEq, run_aaddr, run_stn, run_bld, bldV_nil]) _ _), f.room q, 0, rfl, .inr ⟨rfl, q, rfl, ⟨hp1, hk1, hk6, hqe, hq64⟩, hlk, hall, hir⟩⟩
    · have hne : ((f.l.length : Int) != f.k) = true := bne_iff_ne.2 hlk
      have hlen' : ∀ st, lenV st (ints f.low) = some (f.l.length : Int) := fun st => lenV_ints st f.low
      repeat' first
        | refine W_seq ?_
        | refine W_skip ?_
        | refine W_exit ?_
        | refine W_ret ?_
        | refine W_block ?_
        | (refine W_ops (by simp (maxSteps := 1000000) (disch := first | decide | omega | assumption | exact plain_int _ _ | exact plain_ints _ | exact plain_bool _ | exact one_int _ _ | exact plain_des _ | exact plain_rows _) only [AM, initTm, Nat.reduceAdd, Nat.reduceEqDiff, reduceCtorEq, run_aaddr, run_stn, run_bld, bldV_nil, hfc, hf1, hf3, hr0, hr4, hfa, hld, c0, c1, c2, hc0, x0, x1, hne, hlen', run_bld, bldV_nil, hwz, List.length_cons, List.set_cons_succ, List.set_cons_zero]; rfl) ?_)
        | (refine W_cond (by simp (maxSteps := 1000000) (disch := first | decide | omega | assumption | exact plain_int _ _ | exact plain_ints _ | exact plain_bool _ | exact one_int _ _ | exact plain_des _ | exact plain_rows _) only [AM, initTm, Nat.reduceAdd, Nat.reduceEqDiff, reduceCtorEq, run_aaddr, run_stn, run_bld, bldV_nil, hfc, hf1, hf3, hr0, hr4, hfa, hld, c0, c1, c2, hc0, x0, x1, hne, hlen', run_bld, bldV_nil, hwz, List.length_cons, List.set_cons_succ, List.set_cons_zero]; rfl) ?_ ?_ <;> intro hcond <;> (try simp only [decide_eq_true_eq, decide_eq_false_iff_not, beq_iff_eq, beq_eq_false_iff_ne, ne_eq, reduceCtorEq, Bool.not_eq_true', Bool.not_eq_false', bne_iff_ne, bne_eq_false_iff_eq] at hcond) <;> (try (exfalso; omega)))
        | refine thenQ_n ?_
        | refine thenQ_e ?_
        | refine thenQ_r ?_
        | refine outQ_n ?_
        | refine outQ_r ?_
        | refine outQ_e ?_
        | refine outQ_d (by decide) ?_
      exact ⟨.inr rfl, out0 _ _ 2 (by decide) (by simp (maxSteps := 1000000) (disch := first | decide | omega | assumption | exact plain_int _ _ | exact plain_ints _ | exact plain_bool _ | exact one_int _ _ | exact plain_des _ | exact plain_rows _) only [AM, initTm, Nat.reduceAdd, Nat.reduceEqDiff, reduceCtorEq, run_aaddr, run_stn, run_bld, bldV_nil]) (by simp (maxSteps := 1000000) (disch := first | decide | omega | assumption | exact plain_int _ _ | exact plain_ints _ | exact plain_bool _ | exact one_int _ _ | exact plain_des _ | exact plain_rows _) only [AM, initTm, Nat.reduceAdd, Nat.reduceEqDiff, reduceCtorEq, run_aaddr, run_stn, run_bld, bldV_nil])⟩
end
end Go.Am
