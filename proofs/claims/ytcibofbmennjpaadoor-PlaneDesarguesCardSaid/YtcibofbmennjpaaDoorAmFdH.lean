/- Make answers a plane of order up to 5, or tells an error; planeFact. -/
import Derived.Test.YtcibofbmennjpaaDoorAmFdD
set_option linter.unusedVariables false
set_option linter.unusedSimpArgs false
namespace Go.Am

/-- The planes up to order 5. -/
inductive PQ : Nat → Nat → List (List Int) → Prop where
  | q2 : PQ 2 7 rowsQ2
  | q3 : PQ 3 13 rowsQ3
  | q4 : PQ 4 21 rowsQ4
  | q5 : PQ 5 31 rowsQ5
theorem PQ.planeL {q n : Nat} {rows : List (List Int)} (h : PQ q n rows) : PlaneL n rows := by
  cases h
  · exact planeL2
  · exact planeL3
  · exact planeL4
  · exact planeL5
theorem PQ.n_eq {q n : Nat} {rows : List (List Int)} (h : PQ q n rows) : n = q * q + q + 1 := by cases h <;> rfl
theorem PQ.q_le {q n : Nat} {rows : List (List Int)} (h : PQ q n rows) : 2 ≤ q ∧ q ≤ 5 := by cases h <;> decide
theorem PQ.rows_len {q n : Nat} {rows : List (List Int)} (h : PQ q n rows) : rows.length = n := by cases h <;> rfl
theorem PQ.row_len {q n : Nat} {rows : List (List Int)} (h : PQ q n rows) : ∀ r ∈ rows, r.length = q + 1 := by cases h <;> decide +kernel
theorem PQ.row0 {q n : Nat} {rows : List (List Int)} (h : PQ q n rows) : (rows.getD 0 []).length = q + 1 := by cases h <;> rfl
/-- Its design. -/
def pD (n : Nat) (rows : List (List Int)) : Des := ⟨n, rowsO rows⟩
theorem rows_ok (n : Int) (rows : List (List Int)) (h1 : rows.length < 1000) (h2 : ∀ r ∈ rows, r.length < 1000) : (Des.mk n (rowsO rows)).Ok := by
  refine ⟨by rw [rowsO_len]; omega, fun i => ?_⟩
  have e : ((Des.mk n (rowsO rows)).rows.getD i none).getD [] = rows.getD i [] := rowsO_rw n rows i
  rw [e, List.getD_eq_getElem?_getD]
  by_cases hi : i < rows.length
  · rw [List.getElem?_eq_getElem hi]
    have := h2 _ (List.getElem_mem hi)
    simp only [Option.getD_some]; omega
  · rw [List.getElem?_eq_none (by omega)]; simp
theorem PQ.ok {q n : Nat} {rows : List (List Int)} (h : PQ q n rows) : (pD n rows).Ok := by
  refine rows_ok n rows ?_ fun r hr => ?_
  · have := h.planeL.len; omega
  · have := h.row_len r hr; have := h.q_le; omega
theorem PQ.ord {q n : Nat} {rows : List (List Int)} (h : PQ q n rows) : Ord (pD n rows) q 0 := by
  obtain ⟨hg, hp⟩ := h.planeL.planeP
  refine .inr (.inr ⟨h.planeL.fault, ⟨n, hg, hp⟩, ?_, rfl⟩)
  unfold pD
  rw [rowsO_rw, h.row0]; omega
theorem GP0 : GP 0 = primesI.map (.int .i64) := rfl

section
variable {G : Nat → List AV} {F : Nat → Option MF} {rec : Rec}
theorem Make_err (hF : F 27 = some mf27) (f : Fld) (q e : Int) (he : e ≠ 0)
    (hopen : pcall F (E G F) 78 [f.av] = some (.val (.tup [.int .i64 q, .int .i64 e]), false)) :
    pcall F (E G F) 27 [f.av] = some (.val (.tup [(Des.mk 0 none).av, .int .i64 e]), false) := by
  have hfc : f.av.cells = f.cells := rfl
  have hf1 := f.cells_one
  have hf3 : f.cells.length = 3 := rfl
  have hfa' : AV.agg f.cells = f.av := rfl
  have hH0 : ∀ x, Has (⟨f.cells, 3, 24, .live⟩ :: x) 0 f.cells := fun x => ⟨_, rfl, rfl, by simp⟩
  have hldn0 := fun x tm rb => (hH0 x).ldn tm rb 3 rfl
  have x0 : ∀ (a b : AV), [a, b][0]? = some a := fun _ _ => rfl
  have x1 : ∀ (a b : AV), [a, b][1]? = some b := fun _ _ => rfl
  have hco : ∀ st, doCall F (E G F) .pureV 78 [f.av] st = some (.tup [.int .i64 q, .int .i64 e], st) := fun st => by
    rw [doCall_plain1 (plain_fld f), hopen]; rfl
  have hne : (e != 0) = true := bne_iff_ne.2 he
  have hwd := fun x tm rb => write_whole (bx := ⟨f.cells, 3, 24, .live⟩ :: ⟨[.int .i64 0, .nil], 2, 39, .live⟩ :: x) (id := 1) (sz := 2) (e := 39) rfl tm rb 2 rfl (new := [.int .i64 0, .nil]) rfl rfl
  refine pcall_val hF (v := .tup [(Des.mk 0 none).av, .int .i64 e]) (fun _ _ h => by cases h) ?_ (fun _ => rfl) (fun _ => rfl)
  unfold mf27
  simp only
  repeat' first
    | refine W_seq ?_
    | refine W_skip ?_
    | refine W_exit ?_
    | refine W_ret ?_
    | refine W_block ?_
    | (refine W_ops (by simp (maxSteps := 1000000) (disch := first | decide | omega | assumption | exact plain_int _ _ | exact plain_ints _ | exact plain_bool _ | exact one_int _ _ | exact plain_des _ | exact plain_rows _) only [AM, initTm, Nat.reduceAdd, Nat.reduceEqDiff, reduceCtorEq, run_aaddr, run_stn, run_bld, bldV_nil, hfc, hf1, hf3, run_ldn, hldn0, hfa', hco, x0, x1, hne, run_bld, bldV_nil, hwd, List.length_cons, List.length_nil, List.set_cons_succ, List.set_cons_zero]; rfl) ?_)
    | (refine W_cond (by simp (maxSteps := 1000000) (disch := first | decide | omega | assumption | exact plain_int _ _ | exact plain_ints _ | exact plain_bool _ | exact one_int _ _ | exact plain_des _ | exact plain_rows _) only [AM, initTm, Nat.reduceAdd, Nat.reduceEqDiff, reduceCtorEq, run_aaddr, run_stn, run_bld, bldV_nil, hfc, hf1, hf3, run_ldn, hldn0, hfa', hco, x0, x1, hne, run_bld, bldV_nil, hwd, List.length_cons, List.length_nil, List.set_cons_succ, List.set_cons_zero]; rfl) ?_ ?_ <;> intro hcond <;> (try simp only [decide_eq_true_eq, decide_eq_false_iff_not, beq_iff_eq, beq_eq_false_iff_ne, ne_eq, reduceCtorEq, Bool.not_eq_true', Bool.not_eq_false', bne_iff_ne, bne_eq_false_iff_eq] at hcond) <;> (try (exfalso; omega)))
    | refine thenQ_n ?_
    | refine thenQ_e ?_
    | refine thenQ_r ?_
    | refine outQ_n ?_
    | refine outQ_r ?_
    | refine outQ_e ?_
    | refine outQ_d (by decide) ?_
  exact ⟨.inr rfl, [.agg [.int .i64 0, .nil], .int .i64 e], mapM_two (res_whole (id := 1) (cs := [.int .i64 0, .nil]) rfl (by decide) _ 0 2 2 rfl (by simp (maxSteps := 1000000) (disch := first | decide | omega | assumption | exact plain_int _ _ | exact plain_ints _ | exact plain_bool _ | exact one_int _ _ | exact plain_des _ | exact plain_rows _) only [AM, initTm, Nat.reduceAdd, Nat.reduceEqDiff, reduceCtorEq, run_aaddr, run_stn, run_bld, bldV_nil])) (rvar_tmp (by simp (maxSteps := 1000000) (disch := first | decide | omega | assumption | exact plain_int _ _ | exact plain_ints _ | exact plain_bool _ | exact one_int _ _ | exact plain_des _ | exact plain_rows _) only [AM, initTm, Nat.reduceAdd, Nat.reduceEqDiff, reduceCtorEq, run_aaddr, run_stn, run_bld, bldV_nil]) _ _), rfl⟩
end

theorem kind_pq {f : Fld} {q : Nat} (hk : Kind f q) : q = 2 ∨ q = 3 ∨ q = 4 ∨ q = 5 := by
  cases hk with
  | prime _ hq _ _ _ _ => omega
  | four _ _ _ => omega
theorem Make_good (f : Fld) (q : Nat) (hk : Kind f q) (ho : Opened GP tabD f q) (hopen : pcall tabD (E GP tabD) 78 [f.av] = some (.val (.tup [.int .i64 q, .int .i64 0]), false)) :
    ∃ n rows, PQ q n rows ∧ pcall tabD (E GP tabD) 27 [f.av] = some (.val (.tup [(pD n rows).av, .int .i64 0]), false) := by
  have hq := kind_pq hk
  have A : Arith GP tabD f q := ⟨by omega, by omega, fun a b ha hb => Mul_kind GP0 hk ho a b ha hb, fun a b ha hb => Add_kind GP0 hk ho a b ha hb⟩
  rcases hq with rfl | rfl | rfl | rfl
  · refine ⟨7, rowsQ2, .q2, ?_⟩
    have h := Make_spec (G := GP) (F := tabD) rfl rfl f 2 7 tripsQ2 _ A tripL2 hopen (by rw [← tripsQ2_eq]; exact pcall_E (trip2 GP))
    rw [h]; unfold planeD; rw [rowsQ2_eq]; rfl
  · refine ⟨13, rowsQ3, .q3, ?_⟩
    have h := Make_spec (G := GP) (F := tabD) rfl rfl f 3 13 tripsQ3 _ A tripL3 hopen (by rw [← tripsQ3_eq]; exact pcall_E (trip3 GP))
    rw [h]; unfold planeD; rw [rowsQ3_eq]; rfl
  · refine ⟨21, rowsQ4, .q4, ?_⟩
    have h := Make_spec (G := GP) (F := tabD) rfl rfl f 4 21 tripsQ4 _ A tripL4 hopen (by rw [← tripsQ4_eq]; exact pcall_E (trip4 GP))
    rw [h]; unfold planeD; rw [rowsQ4_eq]; rfl
  · refine ⟨31, rowsQ5, .q5, ?_⟩
    have h := Make_spec (G := GP) (F := tabD) rfl rfl f 5 31 tripsQ5 _ A tripL5 hopen (by rw [← tripsQ5_eq]; exact pcall_E (trip5 GP))
    rw [h]; unfold planeD; rw [rowsQ5_eq]; rfl
/-- What a field's plane is. -/
inductive MadeP (f : Fld) : AV → Prop where
  | err (e : Int) (he : e ≠ 0) (q : Int) (ho : pcall tabD (E GP tabD) 78 [f.av] = some (.val (.tup [.int .i64 q, .int .i64 e]), false)) : MadeP f (.tup [(Des.mk 0 none).av, .int .i64 e])
  | ok (q n : Nat) (rows : List (List Int)) (hk : Kind f q) (ho : Opened GP tabD f q) (hopen : pcall tabD (E GP tabD) 78 [f.av] = some (.val (.tup [.int .i64 q, .int .i64 0]), false)) (hp : PQ q n rows) : MadeP f (.tup [(pD n rows).av, .int .i64 0])
theorem Make_any (f : Fld) (hlen : f.l.length < 9223372036854775808) : ∃ v, pcall tabD (E GP tabD) 27 [f.av] = some (.val v, false) ∧ MadeP f v := by
  obtain ⟨v, hv, q, e, rfl, hh⟩ := POpen_spec (G := GP) (F := tabD) (tabD_F GP0) rfl f hlen
  by_cases he : e = 0
  · subst he
    obtain ⟨hok, hop, h5⟩ := hh rfl
    obtain ⟨n, rfl, hk⟩ := kind_of hok h5
    obtain ⟨m, rows, hp, hm⟩ := Make_good f n hk hop hv
    exact ⟨_, hm, .ok n m rows hk hop hv hp⟩
  · exact ⟨_, Make_err (G := GP) (F := tabD) rfl f q e he hv, .err e he q hv⟩

theorem PQ.check {q n : Nat} {rows : List (List Int)} (h : PQ q n rows) : pcall tabD (E GP tabD) 28 [(pD n rows).av] = some (.val (.tup [.int .i64 q, .int .i64 0]), false) := by
  obtain ⟨v, hv, o, e, rfl, ho⟩ := Check_spec (G := GP) tabD_Tbl (pD n rows) h.ok
  obtain ⟨rfl, rfl⟩ := ho.one h.ord
  exact hv
theorem fact_true : pcall tabD (E GP tabD) 26 [] = some (.val (.bool true), false) := by
  have hl := pcall_E least2
  obtain ⟨F2, hF2⟩ : ∃ f : Fld, f = ⟨2, 1, some [0]⟩ := ⟨_, rfl⟩
  have e2 : fldV 2 1 [0] = F2.av := by rw [hF2]; rfl
  have hk : Kind F2 2 := by rw [hF2]; exact .prime 2 (.inl rfl) rfl rfl 0 rfl
  have ho : Opened GP tabD F2 2 := by
    refine ⟨true, ?_⟩
    have := pcall_E open2
    rw [e2] at this
    rw [this, hF2]
  have hm : pcall tabD (E GP tabD) 27 [F2.av] = some (.val (.tup [(pD 7 rowsQ2).av, .int .i64 0]), false) := by
    have hpo := pcall_E popen2
    rw [e2] at hpo
    obtain ⟨n, rows, hp, hm⟩ := Make_good F2 2 hk ho hpo
    cases hp
    exact hm
  have hc := PQ.q2.check
  rw [e2] at hl
  have hcl : ∀ st, doCall tabD (E GP tabD) .pureV 36 [.int .i64 2, .int .i64 1] st = some (.tup [F2.av, .int .i64 0], st) := fun st => by
    rw [doCall_plain2 (plain_int _ _) (plain_int _ _), hl]; rfl
  have hcm : ∀ st, doCall tabD (E GP tabD) .pureV 27 [F2.av] st = some (.tup [(pD 7 rowsQ2).av, .int .i64 0], st) := fun st => by
    rw [doCall_plain1 (plain_fld F2), hm]; rfl
  have hcc : ∀ st, doCall tabD (E GP tabD) .pureV 28 [(pD 7 rowsQ2).av] st = some (.tup [.int .i64 2, .int .i64 0], st) := fun st => by
    rw [doCall_plain1 (plain_des _), hc]; rfl
  have x0 : ∀ (a b : AV), [a, b][0]? = some a := fun _ _ => rfl
  have x1 : ∀ (a b : AV), [a, b][1]? = some b := fun _ _ => rfl
  clear hF2
  have ef : F2.av = .agg F2.cells := rfl
  have hf1 := F2.cells_one
  have hf3 : F2.cells.length = 3 := rfl
  obtain ⟨D, hD⟩ : ∃ D : Des, D = pD 7 rowsQ2 := ⟨_, rfl⟩
  rw [← hD] at hcm hcc
  have hDp : D.cells[0]? = some (.int .i64 7) := by rw [hD]; rfl
  have hD2 : D.cells.length = 2 := rfl
  have hD1 : D.cells.all AV.one = true := D.cells_one
  clear hD hm
  have hw0 := fun x tm rb => write_whole (bx := ⟨[.int .i64 0, .int .i64 0, .nil], 3, 24, .live⟩ :: x) (id := 0) (sz := 3) (e := 24) rfl tm rb 3 rfl (new := F2.cells) rfl hf1
  have hw1 := fun y x tm rb => write_whole (bx := y :: ⟨[.int .i64 0, .nil], 2, 39, .live⟩ :: x) (id := 1) (sz := 2) (e := 39) rfl tm rb 2 rfl (new := D.cells) rfl hD1
  have hH0 : ∀ x, Has (⟨F2.cells, 3, 24, .live⟩ :: x) 0 F2.cells := fun x => ⟨_, rfl, rfl, by simp⟩
  have hldn0 := fun x tm rb => (hH0 x).ldn tm rb 3 rfl
  have hH1 : ∀ y x, Has (y :: ⟨D.cells, 2, 39, .live⟩ :: x) 1 D.cells := fun y x => ⟨_, rfl, rfl, by simp⟩
  have hldn1 := fun y x tm rb => (hH1 y x).ldn tm rb 2 rfl
  have hfa1 := fun y x tm rb o off => (hH1 y x).faddr tm rb 2 o off rfl
  have hld1 := fun y x tm rb off => (hH1 y x).ld1 tm rb 2 off rfl
  have eF : AV.agg F2.cells = F2.av := rfl
  have eD : AV.agg D.cells = D.av := rfl
  have hw0' := hw0
  have hw1' := hw1
  simp only [eF] at hw0'
  simp only [eD] at hw1'
  refine pcall_val (F := tabD) (mf := mf26) rfl (v := .bool true) (fun _ _ h => by cases h) ?_ (fun _ => rfl) (fun _ => rfl)
  unfold mf26
  simp only
  repeat' first
    | refine W_seq ?_
    | refine W_skip ?_
    | refine W_exit ?_
    | refine W_ret ?_
    | refine W_block ?_
    | (refine W_ops (by simp (maxSteps := 1000000) (disch := first | decide | omega | assumption | exact plain_int _ _ | exact plain_ints _ | exact plain_bool _ | exact one_int _ _ | exact plain_des _ | exact plain_rows _) only [AM, initTm, Nat.reduceAdd, Nat.reduceEqDiff, reduceCtorEq, run_aaddr, run_stn, run_bld, bldV_nil, hcl, hcm, hcc, x0, x1, run_ldn, hw0', hw1', hldn0, hldn1, eF, eD, hfa1, hld1, hDp, List.length_cons, List.length_nil, List.set_cons_succ, List.set_cons_zero]; rfl) ?_)
    | (refine W_cond (by simp (maxSteps := 1000000) (disch := first | decide | omega | assumption | exact plain_int _ _ | exact plain_ints _ | exact plain_bool _ | exact one_int _ _ | exact plain_des _ | exact plain_rows _) only [AM, initTm, Nat.reduceAdd, Nat.reduceEqDiff, reduceCtorEq, run_aaddr, run_stn, run_bld, bldV_nil, hcl, hcm, hcc, x0, x1, run_ldn, hw0', hw1', hldn0, hldn1, eF, eD, hfa1, hld1, hDp, List.length_cons, List.length_nil, List.set_cons_succ, List.set_cons_zero]; rfl) ?_ ?_ <;> intro hcond <;> (try simp only [decide_eq_true_eq, decide_eq_false_iff_not, beq_iff_eq, beq_eq_false_iff_ne, ne_eq, reduceCtorEq, Bool.not_eq_true', Bool.not_eq_false', bne_iff_ne, bne_eq_false_iff_eq] at hcond) <;> (try (exfalso; omega)))
    | refine thenQ_n ?_
    | refine thenQ_e ?_
    | refine thenQ_r ?_
    | refine outQ_n ?_
    | refine outQ_r ?_
    | refine outQ_e ?_
    | refine outQ_d (by decide) ?_
  refine ⟨.inr rfl, [_], rfl, ?_⟩
  rw [tuple_one]
  simp (maxSteps := 1000000) (disch := first | decide | omega | assumption | exact plain_int _ _ | exact plain_ints _ | exact plain_bool _ | exact one_int _ _ | exact plain_des _ | exact plain_rows _) only [AM, initTm, Nat.reduceAdd, Nat.reduceEqDiff, reduceCtorEq, run_aaddr, run_stn, run_bld, bldV_nil]

end Go.Am

/- PlaneFields answers true on the machine. -/
set_option linter.unusedVariables false
set_option linter.unusedSimpArgs false
namespace Go.Am

theorem PQ.dual {q n : Nat} {rows : List (List Int)} (h : PQ q n rows) : pcall tabD (E GP tabD) 29 [(pD n rows).av] = some (.val (.tup [(pD n rows).av, .int .i64 0]), false) := by
  cases h
  · exact pcall_E (dual2 GP)
  · exact pcall_E (dual3 GP)
  · exact pcall_E (dual4 GP)
  · exact pcall_E (dual5 GP)
theorem size_of {f : Fld} {q : Nat} (hk : Kind f q) : pcall tabD (E GP tabD) 11 [f.av] = some (.val (.int .i64 q), false) := by
  obtain ⟨p, k, low⟩ := f
  cases hk with
  | prime _ hq hp hk c hl =>
    simp only at hp hk hl
    subst hp hk hl
    rcases hq with rfl | rfl | rfl
    · exact pcall_E (size2 GP c)
    · exact pcall_E (size3 GP c)
    · exact pcall_E (size5 GP c)
  | four hp hk hl =>
    simp only at hp hk hl
    subst hp hk hl
    exact pcall_E (size4 GP)
theorem call_fact (st : St) : doCall tabD (E GP tabD) .pureV 26 [] st = some (.bool true, st) := by
  rw [doCall_plain (by simp) (by simp), fact_true]; rfl

set_option maxHeartbeats 1000000 in
theorem PlaneFields_true (f : Fld) (hlen : f.l.length < 9223372036854775808) : pcall tabD (E GP tabD) 6 [f.av] = some (.val (.bool true), false) := by
  obtain ⟨v, hm, hv⟩ := Make_any f hlen
  have hcm : ∀ st, doCall tabD (E GP tabD) .pureV 27 [f.av] st = some (v, st) := fun st => by
    rw [doCall_plain1 (plain_fld f), hm]; rfl
  have hcf := call_fact
  have x0 : ∀ (a b : AV), [a, b][0]? = some a := fun _ _ => rfl
  have x1 : ∀ (a b : AV), [a, b][1]? = some b := fun _ _ => rfl
  have hfc : f.av.cells = f.cells := rfl
  have hf1 := f.cells_one
  have hf3 : f.cells.length = 3 := rfl
  have hfa' : AV.agg f.cells = f.av := rfl
  have hH0 : ∀ x, Has (⟨f.cells, 3, 24, .live⟩ :: x) 0 f.cells := fun x => ⟨_, rfl, rfl, by simp⟩
  have hldn0 := fun x tm rb => (hH0 x).ldn tm rb 3 rfl
  cases hv with
  | err e he q ho =>
    have hne : (e != 0) = true := bne_iff_ne.2 he
    obtain ⟨D, hD⟩ : ∃ D : Des, D = ⟨0, none⟩ := ⟨_, rfl⟩
    rw [← hD] at hcm
    have hD1 : D.cells.all AV.one = true := D.cells_one
    have hw1 := fun y x tm rb => write_whole (bx := y :: ⟨[.int .i64 0, .nil], 2, 39, .live⟩ :: x) (id := 1) (sz := 2) (e := 39) rfl tm rb 2 rfl (new := D.cells) rfl hD1
    have eD : AV.agg D.cells = D.av := rfl
    simp only [eD] at hw1
    refine pcall_val (F := tabD) (mf := mf6) rfl (v := .bool true) (fun _ _ h => by cases h) ?_ (fun _ => rfl) (fun _ => rfl)
    unfold mf6
    simp only
    repeat' first
      | refine W_seq ?_
      | refine W_skip ?_
      | refine W_exit ?_
      | refine W_ret ?_
      | refine W_block ?_
      | (refine W_ops (by simp (maxSteps := 1000000) (disch := first | decide | omega | assumption | exact plain_int _ _ | exact plain_ints _ | exact plain_bool _ | exact one_int _ _ | exact plain_des _ | exact plain_rows _) only [AM, initTm, Nat.reduceAdd, Nat.reduceEqDiff, reduceCtorEq, run_aaddr, run_stn, run_bld, bldV_nil, hcf, hcm, x0, x1, hfc, hf1, hf3, run_ldn, hldn0, hfa', hw1, eD, hne, List.length_cons, List.length_nil, List.set_cons_succ, List.set_cons_zero]; rfl) ?_)
      | (refine W_cond (by simp (maxSteps := 1000000) (disch := first | decide | omega | assumption | exact plain_int _ _ | exact plain_ints _ | exact plain_bool _ | exact one_int _ _ | exact plain_des _ | exact plain_rows _) only [AM, initTm, Nat.reduceAdd, Nat.reduceEqDiff, reduceCtorEq, run_aaddr, run_stn, run_bld, bldV_nil, hcf, hcm, x0, x1, hfc, hf1, hf3, run_ldn, hldn0, hfa', hw1, eD, hne, List.length_cons, List.length_nil, List.set_cons_succ, List.set_cons_zero]; rfl) ?_ ?_ <;> intro hcond <;> (try simp only [decide_eq_true_eq, decide_eq_false_iff_not, beq_iff_eq, beq_eq_false_iff_ne, ne_eq, reduceCtorEq, Bool.not_eq_true', Bool.not_eq_false', bne_iff_ne, bne_eq_false_iff_eq] at hcond) <;> (try (exfalso; omega)))
      | refine thenQ_n ?_
      | refine thenQ_e ?_
      | refine thenQ_r ?_
      | refine outQ_n ?_
      | refine outQ_r ?_
      | refine outQ_e ?_
      | refine outQ_d (by decide) ?_
    refine ⟨.inr rfl, [_], rfl, ?_⟩
    rw [tuple_one]
    simp (maxSteps := 1000000) (disch := first | decide | omega | assumption | exact plain_int _ _ | exact plain_ints _ | exact plain_bool _ | exact one_int _ _ | exact plain_des _ | exact plain_rows _) only [AM, initTm, Nat.reduceAdd, Nat.reduceEqDiff, reduceCtorEq, run_aaddr, run_stn, run_bld, bldV_nil]
  | ok q n rows hk ho hopen hp =>
    have hc := hp.check
    have hd := hp.dual
    have hs := size_of hk
    have hle := hp.q_le
    have hn := hp.n_eq
    obtain ⟨D, hD⟩ : ∃ D : Des, D = pD n rows := ⟨_, rfl⟩
    have hDp : D.cells[0]? = some (.int .i64 n) := by rw [hD]; rfl
    rw [← hD] at hcm hc hd
    clear hD
    have hcc : ∀ st, doCall tabD (E GP tabD) .pureV 28 [D.av] st = some (.tup [.int .i64 q, .int .i64 0], st) := fun st => by
      rw [doCall_plain1 (plain_des _), hc]; rfl
    have hcd : ∀ st, doCall tabD (E GP tabD) .pureV 29 [D.av] st = some (.tup [D.av, .int .i64 0], st) := fun st => by
      rw [doCall_plain1 (plain_des _), hd]; rfl
    have hcs : ∀ st, doCall tabD (E GP tabD) .pureV 11 [f.av] st = some (.int .i64 q, st) := fun st => by
      rw [doCall_plain1 (plain_fld _), hs]; rfl
    have hD1 : D.cells.all AV.one = true := D.cells_one
    have hw1 := fun y x tm rb => write_whole (bx := y :: ⟨[.int .i64 0, .nil], 2, 39, .live⟩ :: x) (id := 1) (sz := 2) (e := 39) rfl tm rb 2 rfl (new := D.cells) rfl hD1
    have hw2 := fun y z x tm rb => write_whole (bx := y :: z :: ⟨[.int .i64 0, .nil], 2, 39, .live⟩ :: x) (id := 2) (sz := 2) (e := 39) rfl tm rb 2 rfl (new := D.cells) rfl hD1
    have eD : AV.agg D.cells = D.av := rfl
    simp only [eD] at hw1 hw2
    have hH1 : ∀ y x, Has (y :: ⟨D.cells, 2, 39, .live⟩ :: x) 1 D.cells := fun y x => ⟨_, rfl, rfl, by simp⟩
    have hldn1 := fun y x tm rb => (hH1 y x).ldn tm rb 2 rfl
    have hfa1 := fun y x tm rb o off => (hH1 y x).faddr tm rb 2 o off rfl
    have hld1 := fun y x tm rb off => (hH1 y x).ld1 tm rb 2 off rfl
    have hH2 : ∀ y z x, Has (y :: z :: ⟨D.cells, 2, 39, .live⟩ :: x) 2 D.cells := fun y z x => ⟨_, rfl, rfl, by simp⟩
    have hldn2 := fun y z x tm rb => (hH2 y z x).ldn tm rb 2 rfl
    have hqq : (0 : Int) ≤ (q : Int) * q ∧ (q : Int) * q ≤ 25 := by
      constructor
      · exact Int.mul_nonneg (by omega) (by omega)
      · have : (q : Int) * q ≤ 5 * 5 := Int.mul_le_mul (by omega) (by omega) (by omega) (by omega)
        omega
    have hnn : (n : Int) = (q : Int) * q + q + 1 := by rw [hn]; simp
    have hne2 : ((n : Int) != (q : Int) * q + q + 1) = false := by rw [hnn]; simp
    have hqe : ((q : Int) == (q : Int)) = true := beq_self_eq_true _
    refine pcall_val (F := tabD) (mf := mf6) rfl (v := .bool true) (fun _ _ h => by cases h) ?_ (fun _ => rfl) (fun _ => rfl)
    unfold mf6
    simp only
    repeat' first
      | refine W_seq ?_
      | refine W_skip ?_
      | refine W_exit ?_
      | refine W_ret ?_
      | refine W_block ?_
      | (refine W_ops (by simp (maxSteps := 1000000) (disch := first | decide | omega | assumption | exact plain_int _ _ | exact plain_ints _ | exact plain_bool _ | exact one_int _ _ | exact plain_des _ | exact plain_rows _) only [AM, initTm, Nat.reduceAdd, Nat.reduceEqDiff, reduceCtorEq, run_aaddr, run_stn, run_bld, bldV_nil, hcf, hcm, hcc, hcd, hcs, x0, x1, hfc, hf1, hf3, run_ldn, hldn0, hldn1, hldn2, hfa1, hld1, hDp, hfa', hw1, hw2, eD, hne2, hqe, bne_self_eq_false, List.length_cons, List.length_nil, List.set_cons_succ, List.set_cons_zero]; rfl) ?_)
      | (refine W_cond (by simp (maxSteps := 1000000) (disch := first | decide | omega | assumption | exact plain_int _ _ | exact plain_ints _ | exact plain_bool _ | exact one_int _ _ | exact plain_des _ | exact plain_rows _) only [AM, initTm, Nat.reduceAdd, Nat.reduceEqDiff, reduceCtorEq, run_aaddr, run_stn, run_bld, bldV_nil, hcf, hcm, hcc, hcd, hcs, x0, x1, hfc, hf1, hf3, run_ldn, hldn0, hldn1, hldn2, hfa1, hld1, hDp, hfa', hw1, hw2, eD, hne2, hqe, bne_self_eq_false, List.length_cons, List.length_nil, List.set_cons_succ, List.set_cons_zero]; rfl) ?_ ?_ <;> intro hcond <;> (try simp only [decide_eq_true_eq, decide_eq_false_iff_not, beq_iff_eq, beq_eq_false_iff_ne, ne_eq, reduceCtorEq, Bool.not_eq_true', Bool.not_eq_false', bne_iff_ne, bne_eq_false_iff_eq] at hcond) <;> (try (exfalso; omega)))
      | refine thenQ_n ?_
      | refine thenQ_e ?_
      | refine thenQ_r ?_
      | refine outQ_n ?_
      | refine outQ_r ?_
      | refine outQ_e ?_
      | refine outQ_d (by decide) ?_
    refine ⟨.inr rfl, [_], rfl, ?_⟩
    rw [tuple_one]
    simp (maxSteps := 1000000) (disch := first | decide | omega | assumption | exact plain_int _ _ | exact plain_ints _ | exact plain_bool _ | exact one_int _ _ | exact plain_des _ | exact plain_rows _) only [AM, initTm, Nat.reduceAdd, Nat.reduceEqDiff, reduceCtorEq, run_aaddr, run_stn, run_bld, bldV_nil]

end Go.Am

