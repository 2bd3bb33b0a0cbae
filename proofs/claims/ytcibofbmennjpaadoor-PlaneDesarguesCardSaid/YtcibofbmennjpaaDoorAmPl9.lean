/- plane.linesOf: the table of the blocks of each two points. -/
import Derived.Test.YtcibofbmennjpaaDoorAmPl8
import Derived.Test.YtcibofbmennjpaaDoorAmSort
set_option linter.unusedVariables false
set_option linter.unusedSimpArgs false
namespace Go.Am

section
variable {G : Nat → List AV} {F : Nat → Option MF} {rec : Rec}
def addF (fp : Fp) (x : Option (St × List Fp)) : Option (St × List Fp) := x.map fun q => (q.1, fp :: q.2)
theorem addF_some (fp : Fp) (st : St) (l : List Fp) : addF fp (some (st, l)) = some (st, fp :: l) := rfl
def contF (G : Nat → List AV) (F : Nat → Option MF) (rec : Rec) (d : Option Nat) (l : List I) (fp : Fp) (x : Option (AV × St)) : Option (St × List Fp) := x.bind fun p => addF fp (execsF G F rec l (p.2.put d p.1))
theorem contF_some (d : Option Nat) (l : List I) (fp : Fp) (v : AV) (st : St) : contF G F rec d l fp (some (v, st)) = addF fp (execsF G F rec l (st.put d v)) := rfl
theorem execsF_nil (st : St) : execsF G F rec [] st = some (st, []) := rfl
theorem execsF_cons (d : Option Nat) (mi : MI) (l : List I) (st : St) : execsF G F rec (⟨d, none, mi⟩ :: l) st = contF G F rec d l (fpI G mi st) (runI G F rec mi st) := by
  simp only [execsF, exec1, contF, addF]
  cases runI G F rec mi st <;> rfl
theorem mapM_two {s : St} {a b : RVar} {x y : AV} (h1 : rvar s a = some x) (h2 : rvar s b = some y) : [a, b].mapM (rvar s) = some [x, y] := by
  rw [List.mapM_cons, List.mapM_cons, h1, h2]; rfl
theorem HasArr.res {bx : List Box} {id sz : Nat} {e : TypeId} {l : List Int} (h : HasArr bx id sz e l) (tm : Tm) (rb n t : Nat) (hn : n = l.length) (ht : tm.get t = .ptr id n 0) : rvar ⟨tm, bx, rb⟩ (.celln t n) = some (.agg (l.map (.int .i64))) := by
  subst hn
  simp only [rvar, ht, St.at_]
  rw [h]
  simp only [List.length_map, ne_eq, reduceCtorEq, not_false_eq_true, and_self, if_true, List.drop_zero, Nat.le_refl]
  rw [List.take_of_length_le (by simp)]
theorem reify_arr (f : Nat) (bx : List Box) (l : List Int) : reify (f + 2) bx (.agg (l.map (.int .i64))) = some (.agg (l.map (.int .i64))) := by
  have : (l.map (AV.int .i64)).mapM (reify (f + 1) bx) = some (l.map (AV.int .i64)) := by
    induction l with
    | nil => rfl
    | cons a l ih => rw [List.map_cons, List.mapM_cons, ih]; rfl
  show ((l.map (AV.int .i64)).mapM (reify (f + 1) bx)).map AV.agg = _
  rw [this]; rfl
theorem reify_arrB (bx : List Box) (l : List Int) (r : Bool) : reify reifyDepth bx (.tup [.agg (l.map (.int .i64)), .bool r]) = some (.tup [.agg (l.map (.int .i64)), .bool r]) := by
  show ([AV.agg (l.map (.int .i64)), .bool r].mapM (reify 7 bx)).map AV.tup = _
  rw [List.mapM_cons, List.mapM_cons, reify_arr 5]; rfl
theorem alias_arrB (bx : List Box) (l : List Int) (r : Bool) : alias reifyDepth bx (.tup [.agg (l.map (.int .i64)), .bool r]) = false := by
  have : (l.map (AV.int .i64)).any (alias 6 bx) = false := by
    induction l with
    | nil => rfl
    | cons a l ih => rw [List.map_cons, List.any_cons, ih]; rfl
  show ((l.map (AV.int .i64)).any (alias 6 bx) || ([AV.bool r].any (alias 7 bx))) = false
  rw [this]; rfl
theorem mem_take_succ {l : List Int} {i : Nat} (h : i < l.length) (x : Int) : x ∈ l.take (i + 1) ↔ x ∈ l.take i ∨ x = l.getD i 0 := by
  rw [List.take_succ_eq_append_getElem h, List.mem_append, List.getD_eq_getElem?_getD, List.getElem?_eq_getElem h]
  simp
theorem nodup_take {l : List Int} (hn : l.Nodup) {i : Nat} (h : i < l.length) : l.getD i 0 ∉ l.take i := by
  intro hm
  have h1 : (l.take (i + 1)).Nodup := hn.sublist (List.take_sublist _ _)
  rw [List.take_succ_eq_append_getElem h] at h1
  rw [List.getD_eq_getElem?_getD, List.getElem?_eq_getElem h] at hm
  have := (List.pairwise_append.1 h1).2.2 _ hm l[i] (by simp)
  exact this rfl

theorem rvar_tmp {tm : Tm} {t : Nat} {v : AV} (h : tm.get t = v) (bx : List Box) (rb : Nat) : rvar ⟨tm, bx, rb⟩ (.tmp t) = some v := by rw [← h]; rfl

/-- Block i. -/
def Des.rw (d : Des) (i : Nat) : List Int := (d.rows.getD i none).getD []

/-- Two points are in block i, one of the first k. -/
def Des.V (d : Des) (k : Nat) (i : Nat) (a b : Int) : Prop := i < k ∧ a ∈ d.rw i ∧ b ∈ d.rw i ∧ a ≠ b

/-- Each two points are in just one block. -/
def Des.Uniq (d : Des) (n : Nat) : Prop := ∀ a b : Nat, a < n → b < n → a ≠ b → ∃ i, i < d.rows.length ∧ (a : Int) ∈ d.rw i ∧ (b : Int) ∈ d.rw i ∧ ∀ j, j < d.rows.length → (a : Int) ∈ d.rw j → (b : Int) ∈ d.rw j → j = i

set_option maxHeartbeats 4000000 in
theorem linesOf_spec (hF : F 81 = some mf81) (d : Des) (hd : d.Ok) (n : Nat) (hn : d.points = n) (hn1 : 1 ≤ n) (hn4 : n ≤ 40) (hm : d.rows.length ≤ 200) (hin : ∀ i, ∀ p ∈ d.rw i, 0 ≤ p ∧ p < n) (hnd : ∀ i, (d.rw i).Nodup) :
    ∃ v, pcall F (E G F) 81 [d.av] = some (.val v, false) ∧ ∃ l r, v = .tup [.agg (l.map (.int .i64)), .bool r] ∧ l.length = 1600 ∧ (r = true ↔ d.Uniq n) ∧ (r = true → ∃ m, Tab (d.V d.rows.length) l m) := by
  obtain ⟨Z, hZ⟩ : ∃ Z : List Int, Z = List.replicate 1600 0 := ⟨_, rfl⟩
  have hrep : List.replicate 1600 (AV.int .i64 0) = Z.map (AV.int .i64) := by rw [hZ, List.map_replicate]
  have hZl : Z.length = 1600 := by rw [hZ, List.length_replicate]
  have hZm : (Z.map (AV.int .i64)).length = 1600 := by rw [List.length_map, hZl]
  have T0 : Tab (d.V 0) Z 0 := by rw [hZ]; exact Tab.zero.congr fun i a b => ⟨fun h => absurd h.1 (by omega), fun h => h.elim⟩
  have hH : ∀ x y, Has [⟨d.cells, 2, 39, .live⟩, x, y] 0 d.cells := fun x y => ⟨_, rfl, rfl, by simp⟩
  have hA : ∀ x l, HasArr [⟨d.cells, 2, 39, .live⟩, x, ⟨l.map (.int .i64), 1600, 124, .live⟩] 2 1600 124 l := fun x l => rfl
  have hB : ∀ x l, HasArr [⟨d.cells, 2, 39, .live⟩, ⟨l.map (.int .i64), 1600, 124, .live⟩, x] 1 1600 124 l := fun x l => rfl
  have hfa := fun x y tm rb o off => (hH x y).faddr tm rb 2 o off rfl
  have hld := fun x y tm rb off => (hH x y).ld1 tm rb 2 off rfl
  have hdn := hd.n
  refine pcall_ex hF (fun v ⟨l, r, he, _⟩ => he ▸ ⟨fun _ _ h => (by cases h), fun bx => reify_arrB bx l r, fun bx => alias_arrB bx l r⟩) ?_
  unfold mf81
  simp only
  repeat' first
    | refine W_seq ?_
    | refine W_skip ?_
    | refine W_exit ?_
    | refine W_ret ?_
    | refine W_block ?_
    | (refine W_ops (by simp (maxSteps := 1000000) (disch := first | decide | omega | assumption | exact plain_int _ _ | exact plain_ints _ | exact plain_bool _ | exact one_int _ _ | exact plain_des _ | exact plain_rows _) only [AM, initTm, Nat.reduceAdd, Nat.reduceEqDiff, reduceCtorEq, run_aaddr, run_stn, run_bld, bldV_nil, hfa, hld, hn, hrep, hZm, List.length_cons]; rfl) ?_)
    | (refine W_cond (by simp (maxSteps := 1000000) (disch := first | decide | omega | assumption | exact plain_int _ _ | exact plain_ints _ | exact plain_bool _ | exact one_int _ _ | exact plain_des _ | exact plain_rows _) only [AM, initTm, Nat.reduceAdd, Nat.reduceEqDiff, reduceCtorEq, run_aaddr, run_stn, run_bld, bldV_nil, hfa, hld, hn, hrep, hZm, List.length_cons]; rfl) ?_ ?_ <;> intro hcond <;> (try simp only [decide_eq_true_eq, decide_eq_false_iff_not, beq_iff_eq, beq_eq_false_iff_ne, ne_eq, reduceCtorEq, Bool.not_eq_true', Bool.not_eq_false', bne_iff_ne, bne_eq_false_iff_eq] at hcond) <;> (try (exfalso; omega)))
    | refine thenQ_n ?_
    | refine thenQ_e ?_
    | refine thenQ_r ?_
    | refine outQ_n ?_
    | refine outQ_r ?_
    | refine outQ_e ?_
    | refine outQ_d (by decide) ?_
  refine W_loop (k := d.rows.length) (fun k s => ∃ (i many : Nat) (L : List Int) (tm : Tm), s = ⟨tm, [⟨d.cells, 2, 39, .live⟩, ⟨Z.map (.int .i64), 1600, 124, .live⟩, ⟨L.map (.int .i64), 1600, 124, .live⟩], 0⟩ ∧ tm.get 1 = .ptr 0 2 0 ∧ tm.get 2 = .ptr 1 1600 0 ∧ tm.get 4 = .ptr 2 1600 0 ∧ tm.get 5 = .int .i64 many ∧ tm.get 13 = rowsV d.blocks ∧ tm.get 14 = .int .i64 d.rows.length ∧ tm.get 15 = .int .i64 i ∧ i ≤ d.rows.length ∧ k = d.rows.length - i ∧ Tab (d.V i) L many) ⟨0, 0, Z, _, rfl, by simp (maxSteps := 1000000) (disch := first | decide | omega | assumption | exact plain_int _ _ | exact plain_ints _ | exact plain_bool _ | exact one_int _ _ | exact plain_des _ | exact plain_rows _) only [AM, initTm, Nat.reduceAdd, Nat.reduceEqDiff, reduceCtorEq, run_aaddr, run_stn, run_bld, bldV_nil], by simp (maxSteps := 1000000) (disch := first | decide | omega | assumption | exact plain_int _ _ | exact plain_ints _ | exact plain_bool _ | exact one_int _ _ | exact plain_des _ | exact plain_rows _) only [AM, initTm, Nat.reduceAdd, Nat.reduceEqDiff, reduceCtorEq, run_aaddr, run_stn, run_bld, bldV_nil], by simp (maxSteps := 1000000) (disch := first | decide | omega | assumption | exact plain_int _ _ | exact plain_ints _ | exact plain_bool _ | exact one_int _ _ | exact plain_des _ | exact plain_rows _) only [AM, initTm, Nat.reduceAdd, Nat.reduceEqDiff, reduceCtorEq, run_aaddr, run_stn, run_bld, bldV_nil], by simp (maxSteps := 1000000) (disch := first | decide | omega | assumption | exact plain_int _ _ | exact plain_ints _ | exact plain_bool _ | exact one_int _ _ | exact plain_des _ | exact plain_rows _) only [AM, initTm, Nat.reduceAdd, Nat.reduceEqDiff, reduceCtorEq, run_aaddr, run_stn, run_bld, bldV_nil]; rfl, by simp (maxSteps := 1000000) (disch := first | decide | omega | assumption | exact plain_int _ _ | exact plain_ints _ | exact plain_bool _ | exact one_int _ _ | exact plain_des _ | exact plain_rows _) only [AM, initTm, Nat.reduceAdd, Nat.reduceEqDiff, reduceCtorEq, run_aaddr, run_stn, run_bld, bldV_nil], by simp (maxSteps := 1000000) (disch := first | decide | omega | assumption | exact plain_int _ _ | exact plain_ints _ | exact plain_bool _ | exact one_int _ _ | exact plain_des _ | exact plain_rows _) only [AM, initTm, Nat.reduceAdd, Nat.reduceEqDiff, reduceCtorEq, run_aaddr, run_stn, run_bld, bldV_nil], by simp (maxSteps := 1000000) (disch := first | decide | omega | assumption | exact plain_int _ _ | exact plain_ints _ | exact plain_bool _ | exact one_int _ _ | exact plain_des _ | exact plain_rows _) only [AM, initTm, Nat.reduceAdd, Nat.reduceEqDiff, reduceCtorEq, run_aaddr, run_stn, run_bld, bldV_nil]; rfl, Nat.zero_le _, rfl, T0⟩ ?_
  rintro k s ⟨i, many, L, tm, rfl, g1, g2, g4, g5, g13, g14, g15, hi, rfl, hT⟩
  have hAL := fun tm rb => (hA ⟨Z.map (.int .i64), 1600, 124, .live⟩ L).res tm rb 1600 4 hT.len.symm
  by_cases hlt : (i : Int) < (d.rows.length : Int)
  · have hri := hd.r i
    have hini := hin i
    have hndi := hnd i
    have eri : d.rw i = (d.rows.getD i none).getD [] := rfl
    generalize hro : d.rows.getD i none = ro at *
    rw [eri] at hini hndi
    have hlen : (ro.getD []).length ≤ 40 := by
      have := nodup_sub (a := ro.getD []) (b := (List.range 40).map fun (x : Nat) => (x : Int)) hndi fun x hx => List.mem_map.2 ⟨x.toNat, List.mem_range.2 (by have := hini x hx; omega), by have := hini x hx; omega⟩
      simpa using this
    repeat' first
      | refine W_seq ?_
      | refine W_skip ?_
      | refine W_exit ?_
      | refine W_ret ?_
      | refine W_block ?_
      | (refine W_ops (by simp (maxSteps := 1000000) (disch := first | decide | omega | assumption | exact plain_int _ _ | exact plain_ints _ | exact plain_bool _ | exact one_int _ _ | exact plain_des _ | exact plain_rows _) only [AM, initTm, Nat.reduceAdd, Nat.reduceEqDiff, reduceCtorEq, run_aaddr, run_stn, run_bld, bldV_nil, g1, g2, g4, g5, g13, g14, g15, hlt, hro]; rfl) ?_)
      | (refine W_cond (by simp (maxSteps := 1000000) (disch := first | decide | omega | assumption | exact plain_int _ _ | exact plain_ints _ | exact plain_bool _ | exact one_int _ _ | exact plain_des _ | exact plain_rows _) only [AM, initTm, Nat.reduceAdd, Nat.reduceEqDiff, reduceCtorEq, run_aaddr, run_stn, run_bld, bldV_nil, g1, g2, g4, g5, g13, g14, g15, hlt, hro]; rfl) ?_ ?_ <;> intro hcond <;> (try simp only [decide_eq_true_eq, decide_eq_false_iff_not, beq_iff_eq, beq_eq_false_iff_ne, ne_eq, reduceCtorEq, Bool.not_eq_true', Bool.not_eq_false', bne_iff_ne, bne_eq_false_iff_eq] at hcond) <;> (try (exfalso; omega)))
      | refine thenQ_n ?_
      | refine thenQ_e ?_
      | refine thenQ_r ?_
      | refine outQ_n ?_
      | refine outQ_r ?_
      | refine outQ_e ?_
      | refine outQ_d (by decide) ?_
    refine W_loop (k := (ro.getD []).length) (fun k s => ∃ (jp many : Nat) (L : List Int) (tm : Tm), s = ⟨tm, [⟨d.cells, 2, 39, .live⟩, ⟨Z.map (.int .i64), 1600, 124, .live⟩, ⟨L.map (.int .i64), 1600, 124, .live⟩], 0⟩ ∧ tm.get 1 = .ptr 0 2 0 ∧ tm.get 2 = .ptr 1 1600 0 ∧ tm.get 4 = .ptr 2 1600 0 ∧ tm.get 5 = .int .i64 many ∧ tm.get 13 = rowsV d.blocks ∧ tm.get 14 = .int .i64 d.rows.length ∧ tm.get 15 = .int .i64 i ∧ tm.get 6 = .int .i64 i ∧ tm.get 7 = ints ro ∧ tm.get 20 = ints ro ∧ tm.get 21 = .int .i64 (ro.getD []).length ∧ tm.get 22 = .int .i64 jp ∧ jp ≤ (ro.getD []).length ∧ k = (ro.getD []).length - jp ∧
      Tab (fun j a b => d.V i j a b ∨ (j = i ∧ a ∈ (ro.getD []).take jp ∧ b ∈ ro.getD [] ∧ a ≠ b)) L many) ⟨0, many, L, _, rfl, by simp (maxSteps := 1000000) (disch := first | decide | omega | assumption | exact plain_int _ _ | exact plain_ints _ | exact plain_bool _ | exact one_int _ _ | exact plain_des _ | exact plain_rows _) only [AM, initTm, Nat.reduceAdd, Nat.reduceEqDiff, reduceCtorEq, run_aaddr, run_stn, run_bld, bldV_nil, g1], by simp (maxSteps := 1000000) (disch := first | decide | omega | assumption | exact plain_int _ _ | exact plain_ints _ | exact plain_bool _ | exact one_int _ _ | exact plain_des _ | exact plain_rows _) only [AM, initTm, Nat.reduceAdd, Nat.reduceEqDiff, reduceCtorEq, run_aaddr, run_stn, run_bld, bldV_nil, g2], by simp (maxSteps := 1000000) (disch := first | decide | omega | assumption | exact plain_int _ _ | exact plain_ints _ | exact plain_bool _ | exact one_int _ _ | exact plain_des _ | exact plain_rows _) only [AM, initTm, Nat.reduceAdd, Nat.reduceEqDiff, reduceCtorEq, run_aaddr, run_stn, run_bld, bldV_nil, g4], by simp (maxSteps := 1000000) (disch := first | decide | omega | assumption | exact plain_int _ _ | exact plain_ints _ | exact plain_bool _ | exact one_int _ _ | exact plain_des _ | exact plain_rows _) only [AM, initTm, Nat.reduceAdd, Nat.reduceEqDiff, reduceCtorEq, run_aaddr, run_stn, run_bld, bldV_nil, g5], by simp (maxSteps := 1000000) (disch := first | decide | omega | assumption | exact plain_int _ _ | exact plain_ints _ | exact plain_bool _ | exact one_int _ _ | exact plain_des _ | exact plain_rows _) only [AM, initTm, Nat.reduceAdd, Nat.reduceEqDiff, reduceCtorEq, run_aaddr, run_stn, run_bld, bldV_nil, g13], by simp (maxSteps := 1000000) (disch := first | decide | omega | assumption | exact plain_int _ _ | exact plain_ints _ | exact plain_bool _ | exact one_int _ _ | exact plain_des _ | exact plain_rows _) only [AM, initTm, Nat.reduceAdd, Nat.reduceEqDiff, reduceCtorEq, run_aaddr, run_stn, run_bld, bldV_nil, g14], by simp (maxSteps := 1000000) (disch := first | decide | omega | assumption | exact plain_int _ _ | exact plain_ints _ | exact plain_bool _ | exact one_int _ _ | exact plain_des _ | exact plain_rows _) only [AM, initTm, Nat.reduceAdd, Nat.reduceEqDiff, reduceCtorEq, run_aaddr, run_stn, run_bld, bldV_nil, g15], by simp (maxSteps := 1000000) (disch := first | decide | omega | assumption | exact plain_int _ _ | exact plain_ints _ | exact plain_bool _ | exact one_int _ _ | exact plain_des _ | exact plain_rows _) only [AM, initTm, Nat.reduceAdd, Nat.reduceEqDiff, reduceCtorEq, run_aaddr, run_stn, run_bld, bldV_nil], by simp (maxSteps := 1000000) (disch := first | decide | omega | assumption | exact plain_int _ _ | exact plain_ints _ | exact plain_bool _ | exact one_int _ _ | exact plain_des _ | exact plain_rows _) only [AM, initTm, Nat.reduceAdd, Nat.reduceEqDiff, reduceCtorEq, run_aaddr, run_stn, run_bld, bldV_nil], by simp (maxSteps := 1000000) (disch := first | decide | omega | assumption | exact plain_int _ _ | exact plain_ints _ | exact plain_bool _ | exact one_int _ _ | exact plain_des _ | exact plain_rows _) only [AM, initTm, Nat.reduceAdd, Nat.reduceEqDiff, reduceCtorEq, run_aaddr, run_stn, run_bld, bldV_nil], by simp (maxSteps := 1000000) (disch := first | decide | omega | assumption | exact plain_int _ _ | exact plain_ints _ | exact plain_bool _ | exact one_int _ _ | exact plain_des _ | exact plain_rows _) only [AM, initTm, Nat.reduceAdd, Nat.reduceEqDiff, reduceCtorEq, run_aaddr, run_stn, run_bld, bldV_nil], by simp (maxSteps := 1000000) (disch := first | decide | omega | assumption | exact plain_int _ _ | exact plain_ints _ | exact plain_bool _ | exact one_int _ _ | exact plain_des _ | exact plain_rows _) only [AM, initTm, Nat.reduceAdd, Nat.reduceEqDiff, reduceCtorEq, run_aaddr, run_stn, run_bld, bldV_nil]; rfl, Nat.zero_le _, rfl, hT.congr fun j a b => ⟨fun h => h.elim id fun h => absurd h.2.1 (by simp), .inl⟩⟩ ?_
    clear g1 g2 g4 g5 g13 g14 g15 hT tm many L hAL
    rintro k s ⟨jp, many, L, tm, rfl, g1, g2, g4, g5, g13, g14, g15, g6, g7, g20, g21, g22, hjp, rfl, hT⟩
    by_cases hpl : (jp : Int) < ((ro.getD []).length : Int)
    · have hpm := getD_mem (l := ro.getD []) (i := jp) (by omega)
      have hpt := nodup_take hndi (i := jp) (by omega)
      have hmts := mem_take_succ (l := ro.getD []) (i := jp) (by omega)
      repeat' first
        | refine W_seq ?_
        | refine W_skip ?_
        | refine W_exit ?_
        | refine W_ret ?_
        | refine W_block ?_
        | (refine W_ops (by simp (maxSteps := 1000000) (disch := first | decide | omega | assumption | exact plain_int _ _ | exact plain_ints _ | exact plain_bool _ | exact one_int _ _ | exact plain_des _ | exact plain_rows _) only [AM, initTm, Nat.reduceAdd, Nat.reduceEqDiff, reduceCtorEq, run_aaddr, run_stn, run_bld, bldV_nil, g1, g2, g4, g5, g13, g14, g15, g6, g7, g20, g21, g22, hpl]; rfl) ?_)
        | (refine W_cond (by simp (maxSteps := 1000000) (disch := first | decide | omega | assumption | exact plain_int _ _ | exact plain_ints _ | exact plain_bool _ | exact one_int _ _ | exact plain_des _ | exact plain_rows _) only [AM, initTm, Nat.reduceAdd, Nat.reduceEqDiff, reduceCtorEq, run_aaddr, run_stn, run_bld, bldV_nil, g1, g2, g4, g5, g13, g14, g15, g6, g7, g20, g21, g22, hpl]; rfl) ?_ ?_ <;> intro hcond <;> (try simp only [decide_eq_true_eq, decide_eq_false_iff_not, beq_iff_eq, beq_eq_false_iff_ne, ne_eq, reduceCtorEq, Bool.not_eq_true', Bool.not_eq_false', bne_iff_ne, bne_eq_false_iff_eq] at hcond) <;> (try (exfalso; omega)))
        | refine thenQ_n ?_
        | refine thenQ_e ?_
        | refine thenQ_r ?_
        | refine outQ_n ?_
        | refine outQ_r ?_
        | refine outQ_e ?_
        | refine outQ_d (by decide) ?_
      generalize hp : (ro.getD []).getD jp 0 = p at *
      have hp0 := hini p hpm
      refine W_loop (k := (ro.getD []).length) (fun k s => ∃ (jq many : Nat) (L : List Int) (tm : Tm), s = ⟨tm, [⟨d.cells, 2, 39, .live⟩, ⟨Z.map (.int .i64), 1600, 124, .live⟩, ⟨L.map (.int .i64), 1600, 124, .live⟩], 0⟩ ∧ tm.get 1 = .ptr 0 2 0 ∧ tm.get 2 = .ptr 1 1600 0 ∧ tm.get 4 = .ptr 2 1600 0 ∧ tm.get 5 = .int .i64 many ∧ tm.get 13 = rowsV d.blocks ∧ tm.get 14 = .int .i64 d.rows.length ∧ tm.get 15 = .int .i64 i ∧ tm.get 6 = .int .i64 i ∧ tm.get 7 = ints ro ∧ tm.get 20 = ints ro ∧ tm.get 21 = .int .i64 (ro.getD []).length ∧ tm.get 22 = .int .i64 jp ∧ tm.get 9 = .int .i64 p ∧ tm.get 26 = ints ro ∧ tm.get 27 = .int .i64 (ro.getD []).length ∧ tm.get 28 = .int .i64 jq ∧ jq ≤ (ro.getD []).length ∧ k = (ro.getD []).length - jq ∧
        Tab (fun j a b => (d.V i j a b ∨ (j = i ∧ a ∈ (ro.getD []).take jp ∧ b ∈ ro.getD [] ∧ a ≠ b)) ∨ (j = i ∧ a = p ∧ b ∈ (ro.getD []).take jq ∧ a ≠ b)) L many) ⟨0, many, L, _, rfl, by simp (maxSteps := 1000000) (disch := first | decide | omega | assumption | exact plain_int _ _ | exact plain_ints _ | exact plain_bool _ | exact one_int _ _ | exact plain_des _ | exact plain_rows _) only [AM, initTm, Nat.reduceAdd, Nat.reduceEqDiff, reduceCtorEq, run_aaddr, run_stn, run_bld, bldV_nil, g1], by simp (maxSteps := 1000000) (disch := first | decide | omega | assumption | exact plain_int _ _ | exact plain_ints _ | exact plain_bool _ | exact one_int _ _ | exact plain_des _ | exact plain_rows _) only [AM, initTm, Nat.reduceAdd, Nat.reduceEqDiff, reduceCtorEq, run_aaddr, run_stn, run_bld, bldV_nil, g2], by simp (maxSteps := 1000000) (disch := first | decide | omega | assumption | exact plain_int _ _ | exact plain_ints _ | exact plain_bool _ | exact one_int _ _ | exact plain_des _ | exact plain_rows _) only [AM, initTm, Nat.reduceAdd, Nat.reduceEqDiff, reduceCtorEq, run_aaddr, run_stn, run_bld, bldV_nil, g4], by simp (maxSteps := 1000000) (disch := first | decide | omega | assumption | exact plain_int _ _ | exact plain_ints _ | exact plain_bool _ | exact one_int _ _ | exact plain_des _ | exact plain_rows _) only [AM, initTm, Nat.reduceAdd, Nat.reduceEqDiff, reduceCtorEq, run_aaddr, run_stn, run_bld, bldV_nil, g5], by simp (maxSteps := 1000000) (disch := first | decide | omega | assumption | exact plain_int _ _ | exact plain_ints _ | exact plain_bool _ | exact one_int _ _ | exact plain_des _ | exact plain_rows _) only [AM, initTm, Nat.reduceAdd, Nat.reduceEqDiff, reduceCtorEq, run_aaddr, run_stn, run_bld, bldV_nil, g13], by simp (maxSteps := 1000000) (disch := first | decide | omega | assumption | exact plain_int _ _ | exact plain_ints _ | exact plain_bool _ | exact one_int _ _ | exact plain_des _ | exact plain_rows _) only [AM, initTm, Nat.reduceAdd, Nat.reduceEqDiff, reduceCtorEq, run_aaddr, run_stn, run_bld, bldV_nil, g14], by simp (maxSteps := 1000000) (disch := first | decide | omega | assumption | exact plain_int _ _ | exact plain_ints _ | exact plain_bool _ | exact one_int _ _ | exact plain_des _ | exact plain_rows _) only [AM, initTm, Nat.reduceAdd, Nat.reduceEqDiff, reduceCtorEq, run_aaddr, run_stn, run_bld, bldV_nil, g15], by simp (maxSteps := 1000000) (disch := first | decide | omega | assumption | exact plain_int _ _ | exact plain_ints _ | exact plain_bool _ | exact one_int _ _ | exact plain_des _ | exact plain_rows _) only [AM, initTm, Nat.reduceAdd, Nat.reduceEqDiff, reduceCtorEq, run_aaddr, run_stn, run_bld, bldV_nil, g6], by simp (maxSteps := 1000000) (disch := first | decide | omega | assumption | exact plain_int _ _ | exact plain_ints _ | exact plain_bool _ | exact one_int _ _ | exact plain_des _ | exact plain_rows _) only [AM, initTm, Nat.reduceAdd, Nat.reduceEqDiff, reduceCtorEq, run_aaddr, run_stn, run_bld, bldV_nil, g7], by simp (maxSteps := 1000000) (disch := first | decide | omega | assumption | exact plain_int _ _ | exact plain_ints _ | exact plain_bool _ | exact one_int _ _ | exact plain_des _ | exact plain_rows _) only [AM, initTm, Nat.reduceAdd, Nat.reduceEqDiff, reduceCtorEq, run_aaddr, run_stn, run_bld, bldV_nil, g20], by simp (maxSteps := 1000000) (disch := first | decide | omega | assumption | exact plain_int _ _ | exact plain_ints _ | exact plain_bool _ | exact one_int _ _ | exact plain_des _ | exact plain_rows _) only [AM, initTm, Nat.reduceAdd, Nat.reduceEqDiff, reduceCtorEq, run_aaddr, run_stn, run_bld, bldV_nil, g21], by simp (maxSteps := 1000000) (disch := first | decide | omega | assumption | exact plain_int _ _ | exact plain_ints _ | exact plain_bool _ | exact one_int _ _ | exact plain_des _ | exact plain_rows _) only [AM, initTm, Nat.reduceAdd, Nat.reduceEqDiff, reduceCtorEq, run_aaddr, run_stn, run_bld, bldV_nil, g22], by simp (maxSteps := 1000000) (disch := first | decide | omega | assumption | exact plain_int _ _ | exact plain_ints _ | exact plain_bool _ | exact one_int _ _ | exact plain_des _ | exact plain_rows _) only [AM, initTm, Nat.reduceAdd, Nat.reduceEqDiff, reduceCtorEq, run_aaddr, run_stn, run_bld, bldV_nil, hp], by simp (maxSteps := 1000000) (disch := first | decide | omega | assumption | exact plain_int _ _ | exact plain_ints _ | exact plain_bool _ | exact one_int _ _ | exact plain_des _ | exact plain_rows _) only [AM, initTm, Nat.reduceAdd, Nat.reduceEqDiff, reduceCtorEq, run_aaddr, run_stn, run_bld, bldV_nil, g7], by simp (maxSteps := 1000000) (disch := first | decide | omega | assumption | exact plain_int _ _ | exact plain_ints _ | exact plain_bool _ | exact one_int _ _ | exact plain_des _ | exact plain_rows _) only [AM, initTm, Nat.reduceAdd, Nat.reduceEqDiff, reduceCtorEq, run_aaddr, run_stn, run_bld, bldV_nil], by simp (maxSteps := 1000000) (disch := first | decide | omega | assumption | exact plain_int _ _ | exact plain_ints _ | exact plain_bool _ | exact one_int _ _ | exact plain_des _ | exact plain_rows _) only [AM, initTm, Nat.reduceAdd, Nat.reduceEqDiff, reduceCtorEq, run_aaddr, run_stn, run_bld, bldV_nil]; rfl, Nat.zero_le _, rfl, hT.congr fun j a b => ⟨fun h => h.elim id fun h => absurd h.2.2.1 (by simp), .inl⟩⟩ ?_
      clear g1 g2 g4 g5 g13 g14 g15 g6 g7 g20 g21 g22 hT tm many L
      rintro k s ⟨jq, many, L, tm, rfl, g1, g2, g4, g5, g13, g14, g15, g6, g7, g20, g21, g22, g9, g26, g27, g28, hjq, rfl, hT⟩
      have haa := fun tm rb o len s => (hA ⟨Z.map (.int .i64), 1600, 124, .live⟩ L).aaddr tm rb 1600 o len s hT.len.symm
      have hal := fun tm rb => (hA ⟨Z.map (.int .i64), 1600, 124, .live⟩ L).ld tm rb 1600 hT.len.symm
      have hawr := fun tm rb => (hA ⟨Z.map (.int .i64), 1600, 124, .live⟩ L).write tm rb 1600 hT.len.symm
      have hwh := fun tm rb => (hB ⟨L.map (.int .i64), 1600, 124, .live⟩ Z).whole tm rb 1600 hZl.symm Z hZl
      have hmany : many ≤ 1600 := by rw [hT.cnt, ← hT.len]; exact List.countP_le_length
      by_cases hql : (jq : Int) < ((ro.getD []).length : Int)
      · have hqm := getD_mem (l := ro.getD []) (i := jq) (by omega)
        have hqt := nodup_take hndi (i := jq) (by omega)
        have hmtq := mem_take_succ (l := ro.getD []) (i := jq) (by omega)
        generalize hq : (ro.getD []).getD jq 0 = q at *
        have hq0 := hini q hqm
        by_cases hpq : p = q
        · repeat' first
            | refine W_seq ?_
            | refine W_skip ?_
            | refine W_exit ?_
            | refine W_ret ?_
            | refine W_block ?_
            | (refine W_ops (by simp (maxSteps := 1000000) (disch := first | decide | omega | assumption | exact plain_int _ _ | exact plain_ints _ | exact plain_bool _ | exact one_int _ _ | exact plain_des _ | exact plain_rows _) only [AM, initTm, Nat.reduceAdd, Nat.reduceEqDiff, reduceCtorEq, run_aaddr, run_stn, run_bld, bldV_nil, g1, g2, g4, g5, g13, g14, g15, g6, g7, g20, g21, g22, g9, g26, g27, g28, hql, hq, hpq]; rfl) ?_)
            | (refine W_cond (by simp (maxSteps := 1000000) (disch := first | decide | omega | assumption | exact plain_int _ _ | exact plain_ints _ | exact plain_bool _ | exact one_int _ _ | exact plain_des _ | exact plain_rows _) only [AM, initTm, Nat.reduceAdd, Nat.reduceEqDiff, reduceCtorEq, run_aaddr, run_stn, run_bld, bldV_nil, g1, g2, g4, g5, g13, g14, g15, g6, g7, g20, g21, g22, g9, g26, g27, g28, hql, hq, hpq]; rfl) ?_ ?_ <;> intro hcond <;> (try simp only [decide_eq_true_eq, decide_eq_false_iff_not, beq_iff_eq, beq_eq_false_iff_ne, ne_eq, reduceCtorEq, Bool.not_eq_true', Bool.not_eq_false', bne_iff_ne, bne_eq_false_iff_eq] at hcond) <;> (try (exfalso; omega)))
            | refine thenQ_n ?_
            | refine thenQ_e ?_
            | refine thenQ_r ?_
            | refine outQ_n ?_
            | refine outQ_r ?_
            | refine outQ_e ?_
            | refine outQ_d (by decide) ?_
          exact ⟨(ro.getD []).length - (jq + 1), by omega, jq + 1, many, L, _, rfl, by simp (maxSteps := 1000000) (disch := first | decide | omega | assumption | exact plain_int _ _ | exact plain_ints _ | exact plain_bool _ | exact one_int _ _ | exact plain_des _ | exact plain_rows _) only [AM, initTm, Nat.reduceAdd, Nat.reduceEqDiff, reduceCtorEq, run_aaddr, run_stn, run_bld, bldV_nil, g1], by simp (maxSteps := 1000000) (disch := first | decide | omega | assumption | exact plain_int _ _ | exact plain_ints _ | exact plain_bool _ | exact one_int _ _ | exact plain_des _ | exact plain_rows _) only [AM, initTm, Nat.reduceAdd, Nat.reduceEqDiff, reduceCtorEq, run_aaddr, run_stn, run_bld, bldV_nil, g2], by simp (maxSteps := 1000000) (disch := first | decide | omega | assumption | exact plain_int _ _ | exact plain_ints _ | exact plain_bool _ | exact one_int _ _ | exact plain_des _ | exact plain_rows _) only [AM, initTm, Nat.reduceAdd, Nat.reduceEqDiff, reduceCtorEq, run_aaddr, run_stn, run_bld, bldV_nil, g4], by simp (maxSteps := 1000000) (disch := first | decide | omega | assumption | exact plain_int _ _ | exact plain_ints _ | exact plain_bool _ | exact one_int _ _ | exact plain_des _ | exact plain_rows _) only [AM, initTm, Nat.reduceAdd, Nat.reduceEqDiff, reduceCtorEq, run_aaddr, run_stn, run_bld, bldV_nil, g5], by simp (maxSteps := 1000000) (disch := first | decide | omega | assumption | exact plain_int _ _ | exact plain_ints _ | exact plain_bool _ | exact one_int _ _ | exact plain_des _ | exact plain_rows _) only [AM, initTm, Nat.reduceAdd, Nat.reduceEqDiff, reduceCtorEq, run_aaddr, run_stn, run_bld, bldV_nil, g13], by simp (maxSteps := 1000000) (disch := first | decide | omega | assumption | exact plain_int _ _ | exact plain_ints _ | exact plain_bool _ | exact one_int _ _ | exact plain_des _ | exact plain_rows _) only [AM, initTm, Nat.reduceAdd, Nat.reduceEqDiff, reduceCtorEq, run_aaddr, run_stn, run_bld, bldV_nil, g14], by simp (maxSteps := 1000000) (disch := first | decide | omega | assumption | exact plain_int _ _ | exact plain_ints _ | exact plain_bool _ | exact one_int _ _ | exact plain_des _ | exact plain_rows _) only [AM, initTm, Nat.reduceAdd, Nat.reduceEqDiff, reduceCtorEq, run_aaddr, run_stn, run_bld, bldV_nil, g15], by simp (maxSteps := 1000000) (disch := first | decide | omega | assumption | exact plain_int _ _ | exact plain_ints _ | exact plain_bool _ | exact one_int _ _ | exact plain_des _ | exact plain_rows _) only [AM, initTm, Nat.reduceAdd, Nat.reduceEqDiff, reduceCtorEq, run_aaddr, run_stn, run_bld, bldV_nil, g6], by simp (maxSteps := 1000000) (disch := first | decide | omega | assumption | exact plain_int _ _ | exact plain_ints _ | exact plain_bool _ | exact one_int _ _ | exact plain_des _ | exact plain_rows _) only [AM, initTm, Nat.reduceAdd, Nat.reduceEqDiff, reduceCtorEq, run_aaddr, run_stn, run_bld, bldV_nil, g7], by simp (maxSteps := 1000000) (disch := first | decide | omega | assumption | exact plain_int _ _ | exact plain_ints _ | exact plain_bool _ | exact one_int _ _ | exact plain_des _ | exact plain_rows _) only [AM, initTm, Nat.reduceAdd, Nat.reduceEqDiff, reduceCtorEq, run_aaddr, run_stn, run_bld, bldV_nil, g20], by simp (maxSteps := 1000000) (disch := first | decide | omega | assumption | exact plain_int _ _ | exact plain_ints _ | exact plain_bool _ | exact one_int _ _ | exact plain_des _ | exact plain_rows _) only [AM, initTm, Nat.reduceAdd, Nat.reduceEqDiff, reduceCtorEq, run_aaddr, run_stn, run_bld, bldV_nil, g21], by simp (maxSteps := 1000000) (disch := first | decide | omega | assumption | exact plain_int _ _ | exact plain_ints _ | exact plain_bool _ | exact one_int _ _ | exact plain_des _ | exact plain_rows _) only [AM, initTm, Nat.reduceAdd, Nat.reduceEqDiff, reduceCtorEq, run_aaddr, run_stn, run_bld, bldV_nil, g22], by simp (maxSteps := 1000000) (disch := first | decide | omega | assumption | exact plain_int _ _ | exact plain_ints _ | exact plain_bool _ | exact one_int _ _ | exact plain_des _ | exact plain_rows _) only [AM, initTm, Nat.reduceAdd, Nat.reduceEqDiff, reduceCtorEq, run_aaddr, run_stn, run_bld, bldV_nil, g9], by simp (maxSteps := 1000000) (disch := first | decide | omega | assumption | exact plain_int _ _ | exact plain_ints _ | exact plain_bool _ | exact one_int _ _ | exact plain_des _ | exact plain_rows _) only [AM, initTm, Nat.reduceAdd, Nat.reduceEqDiff, reduceCtorEq, run_aaddr, run_stn, run_bld, bldV_nil, g26], by simp (maxSteps := 1000000) (disch := first | decide | omega | assumption | exact plain_int _ _ | exact plain_ints _ | exact plain_bool _ | exact one_int _ _ | exact plain_des _ | exact plain_rows _) only [AM, initTm, Nat.reduceAdd, Nat.reduceEqDiff, reduceCtorEq, run_aaddr, run_stn, run_bld, bldV_nil, g27], by simp (maxSteps := 1000000) (disch := first | decide | omega | assumption | exact plain_int _ _ | exact plain_ints _ | exact plain_bool _ | exact one_int _ _ | exact plain_des _ | exact plain_rows _) only [AM, initTm, Nat.reduceAdd, Nat.reduceEqDiff, reduceCtorEq, run_aaddr, run_stn, run_bld, bldV_nil]; rfl, by omega, rfl, hT.congr fun j a b => by
            rw [hmtq]
            constructor
            · rintro (h | ⟨h1, h2, h3 | h3, h4⟩)
              · exact .inl h
              · exact .inr ⟨h1, h2, h3, h4⟩
              · exact absurd (h2.trans (hpq.trans h3.symm)) h4
            · rintro (h | ⟨h1, h2, h3, h4⟩)
              · exact .inl h
              · exact .inr ⟨h1, h2, .inl h3, h4⟩⟩
        · by_cases hz : L.getD (p.toNat * 40 + q.toNat) 0 > 0
          · repeat' first
              | refine W_seq ?_
              | refine W_skip ?_
              | refine W_exit ?_
              | refine W_ret ?_
              | refine W_block ?_
              | (refine W_ops (by simp (maxSteps := 1000000) (disch := first | decide | omega | assumption | exact plain_int _ _ | exact plain_ints _ | exact plain_bool _ | exact one_int _ _ | exact plain_des _ | exact plain_rows _) only [AM, initTm, Nat.reduceAdd, Nat.reduceEqDiff, reduceCtorEq, run_aaddr, run_stn, run_bld, bldV_nil, g1, g2, g4, g5, g13, g14, g15, g6, g7, g20, g21, g22, g9, g26, g27, g28, hql, hq, hpq, haa, hal, hz, hrep, hwh, List.set_cons_succ, List.set_cons_zero]; rfl) ?_)
              | (refine W_cond (by simp (maxSteps := 1000000) (disch := first | decide | omega | assumption | exact plain_int _ _ | exact plain_ints _ | exact plain_bool _ | exact one_int _ _ | exact plain_des _ | exact plain_rows _) only [AM, initTm, Nat.reduceAdd, Nat.reduceEqDiff, reduceCtorEq, run_aaddr, run_stn, run_bld, bldV_nil, g1, g2, g4, g5, g13, g14, g15, g6, g7, g20, g21, g22, g9, g26, g27, g28, hql, hq, hpq, haa, hal, hz, hrep, hwh, List.set_cons_succ, List.set_cons_zero]; rfl) ?_ ?_ <;> intro hcond <;> (try simp only [decide_eq_true_eq, decide_eq_false_iff_not, beq_iff_eq, beq_eq_false_iff_ne, ne_eq, reduceCtorEq, Bool.not_eq_true', Bool.not_eq_false', bne_iff_ne, bne_eq_false_iff_eq] at hcond) <;> (try (exfalso; omega)))
              | refine thenQ_n ?_
              | refine thenQ_e ?_
              | refine thenQ_r ?_
              | refine outQ_n ?_
              | refine outQ_r ?_
              | refine outQ_e ?_
              | refine outQ_d (by decide) ?_
            refine ⟨.inr rfl, _, mapM_two ((hB _ Z).res _ _ 1600 2 hZl.symm (by simp (maxSteps := 1000000) (disch := first | decide | omega | assumption | exact plain_int _ _ | exact plain_ints _ | exact plain_bool _ | exact one_int _ _ | exact plain_des _ | exact plain_rows _) only [AM, initTm, Nat.reduceAdd, Nat.reduceEqDiff, reduceCtorEq, run_aaddr, run_stn, run_bld, bldV_nil, g2])) (rvar_tmp (v := .bool false) (by simp (maxSteps := 1000000) (disch := first | decide | omega | assumption | exact plain_int _ _ | exact plain_ints _ | exact plain_bool _ | exact one_int _ _ | exact plain_des _ | exact plain_rows _) only [AM, initTm, Nat.reduceAdd, Nat.reduceEqDiff, reduceCtorEq, run_aaddr, run_stn, run_bld, bldV_nil]) _ _), Z, false, rfl, hZl, ⟨fun h => (by cases h), fun hu => ?_⟩, fun h => (by cases h)⟩
            exfalso
            obtain ⟨j, a, b, hv, hk⟩ := hT.out (p.toNat * 40 + q.toNat) (by omega) (by omega)
            obtain ⟨ha, hb, _, _⟩ := hT.inn j a b hv
            have ea : a = p := by omega
            have eb : b = q := by omega
            subst ea eb
            rcases hv with (⟨h1, h2, h3, h4⟩ | ⟨h1, h2, h3, h4⟩) | ⟨h1, h2, h3, h4⟩
            · obtain ⟨k, _, _, _, hk⟩ := hu a.toNat b.toNat (by omega) (by omega) (by omega)
              rw [Int.toNat_of_nonneg hp0.1, Int.toNat_of_nonneg hq0.1] at hk
              have e1 := hk j (by omega) h2 h3
              have e2 := hk i (by omega) (by rw [eri]; exact hpm) (by rw [eri]; exact hqm)
              omega
            · exact hpt h2
            · exact hqt h3
          · have hzz : L.getD (p.toNat * 40 + q.toNat) 0 = 0 := by
              apply Classical.byContradiction
              intro hne
              obtain ⟨j, a, b, hv, hk⟩ := hT.out _ (by omega) hne
              obtain ⟨_, _, _, h4⟩ := hT.inn j a b hv
              rw [← hk] at h4
              omega
            repeat' first
              | refine W_seq ?_
              | refine W_skip ?_
              | refine W_exit ?_
              | refine W_ret ?_
              | refine W_block ?_
              | (refine W_ops (by simp (maxSteps := 1000000) (disch := first | decide | omega | assumption | exact plain_int _ _ | exact plain_ints _ | exact plain_bool _ | exact one_int _ _ | exact plain_des _ | exact plain_rows _) only [AM, initTm, Nat.reduceAdd, Nat.reduceEqDiff, reduceCtorEq, run_aaddr, run_stn, run_bld, bldV_nil, g1, g2, g4, g5, g13, g14, g15, g6, g7, g20, g21, g22, g9, g26, g27, g28, hql, hq, hpq, haa, hal, hz, hawr, List.set_cons_succ, List.set_cons_zero]; rfl) ?_)
              | (refine W_cond (by simp (maxSteps := 1000000) (disch := first | decide | omega | assumption | exact plain_int _ _ | exact plain_ints _ | exact plain_bool _ | exact one_int _ _ | exact plain_des _ | exact plain_rows _) only [AM, initTm, Nat.reduceAdd, Nat.reduceEqDiff, reduceCtorEq, run_aaddr, run_stn, run_bld, bldV_nil, g1, g2, g4, g5, g13, g14, g15, g6, g7, g20, g21, g22, g9, g26, g27, g28, hql, hq, hpq, haa, hal, hz, hawr, List.set_cons_succ, List.set_cons_zero]; rfl) ?_ ?_ <;> intro hcond <;> (try simp only [decide_eq_true_eq, decide_eq_false_iff_not, beq_iff_eq, beq_eq_false_iff_ne, ne_eq, reduceCtorEq, Bool.not_eq_true', Bool.not_eq_false', bne_iff_ne, bne_eq_false_iff_eq] at hcond) <;> (try (exfalso; omega)))
              | refine thenQ_n ?_
              | refine thenQ_e ?_
              | refine thenQ_r ?_
              | refine outQ_n ?_
              | refine outQ_r ?_
              | refine outQ_e ?_
              | refine outQ_d (by decide) ?_
            exact ⟨(ro.getD []).length - (jq + 1), by omega, jq + 1, many + 1, L.set (p.toNat * 40 + q.toNat) ((i : Int) + 1), _, rfl, by simp (maxSteps := 1000000) (disch := first | decide | omega | assumption | exact plain_int _ _ | exact plain_ints _ | exact plain_bool _ | exact one_int _ _ | exact plain_des _ | exact plain_rows _) only [AM, initTm, Nat.reduceAdd, Nat.reduceEqDiff, reduceCtorEq, run_aaddr, run_stn, run_bld, bldV_nil, g1], by simp (maxSteps := 1000000) (disch := first | decide | omega | assumption | exact plain_int _ _ | exact plain_ints _ | exact plain_bool _ | exact one_int _ _ | exact plain_des _ | exact plain_rows _) only [AM, initTm, Nat.reduceAdd, Nat.reduceEqDiff, reduceCtorEq, run_aaddr, run_stn, run_bld, bldV_nil, g2], by simp (maxSteps := 1000000) (disch := first | decide | omega | assumption | exact plain_int _ _ | exact plain_ints _ | exact plain_bool _ | exact one_int _ _ | exact plain_des _ | exact plain_rows _) only [AM, initTm, Nat.reduceAdd, Nat.reduceEqDiff, reduceCtorEq, run_aaddr, run_stn, run_bld, bldV_nil, g4], by simp (maxSteps := 1000000) (disch := first | decide | omega | assumption | exact plain_int _ _ | exact plain_ints _ | exact plain_bool _ | exact one_int _ _ | exact plain_des _ | exact plain_rows _) only [AM, initTm, Nat.reduceAdd, Nat.reduceEqDiff, reduceCtorEq, run_aaddr, run_stn, run_bld, bldV_nil, g5]; rfl, by simp (maxSteps := 1000000) (disch := first | decide | omega | assumption | exact plain_int _ _ | exact plain_ints _ | exact plain_bool _ | exact one_int _ _ | exact plain_des _ | exact plain_rows _) only [AM, initTm, Nat.reduceAdd, Nat.reduceEqDiff, reduceCtorEq, run_aaddr, run_stn, run_bld, bldV_nil, g13], by simp (maxSteps := 1000000) (disch := first | decide | omega | assumption | exact plain_int _ _ | exact plain_ints _ | exact plain_bool _ | exact one_int _ _ | exact plain_des _ | exact plain_rows _) only [AM, initTm, Nat.reduceAdd, Nat.reduceEqDiff, reduceCtorEq, run_aaddr, run_stn, run_bld, bldV_nil, g14], by simp (maxSteps := 1000000) (disch := first | decide | omega | assumption | exact plain_int _ _ | exact plain_ints _ | exact plain_bool _ | exact one_int _ _ | exact plain_des _ | exact plain_rows _) only [AM, initTm, Nat.reduceAdd, Nat.reduceEqDiff, reduceCtorEq, run_aaddr, run_stn, run_bld, bldV_nil, g15], by simp (maxSteps := 1000000) (disch := first | decide | omega | assumption | exact plain_int _ _ | exact plain_ints _ | exact plain_bool _ | exact one_int _ _ | exact plain_des _ | exact plain_rows _) only [AM, initTm, Nat.reduceAdd, Nat.reduceEqDiff, reduceCtorEq, run_aaddr, run_stn, run_bld, bldV_nil, g6], by simp (maxSteps := 1000000) (disch := first | decide | omega | assumption | exact plain_int _ _ | exact plain_ints _ | exact plain_bool _ | exact one_int _ _ | exact plain_des _ | exact plain_rows _) only [AM, initTm, Nat.reduceAdd, Nat.reduceEqDiff, reduceCtorEq, run_aaddr, run_stn, run_bld, bldV_nil, g7], by simp (maxSteps := 1000000) (disch := first | decide | omega | assumption | exact plain_int _ _ | exact plain_ints _ | exact plain_bool _ | exact one_int _ _ | exact plain_des _ | exact plain_rows _) only [AM, initTm, Nat.reduceAdd, Nat.reduceEqDiff, reduceCtorEq, run_aaddr, run_stn, run_bld, bldV_nil, g20], by simp (maxSteps := 1000000) (disch := first | decide | omega | assumption | exact plain_int _ _ | exact plain_ints _ | exact plain_bool _ | exact one_int _ _ | exact plain_des _ | exact plain_rows _) only [AM, initTm, Nat.reduceAdd, Nat.reduceEqDiff, reduceCtorEq, run_aaddr, run_stn, run_bld, bldV_nil, g21], by simp (maxSteps := 1000000) (disch := first | decide | omega | assumption | exact plain_int _ _ | exact plain_ints _ | exact plain_bool _ | exact one_int _ _ | exact plain_des _ | exact plain_rows _) only [AM, initTm, Nat.reduceAdd, Nat.reduceEqDiff, reduceCtorEq, run_aaddr, run_stn, run_bld, bldV_nil, g22], by simp (maxSteps := 1000000) (disch := first | decide | omega | assumption | exact plain_int _ _ | exact plain_ints _ | exact plain_bool _ | exact one_int _ _ | exact plain_des _ | exact plain_rows _) only [AM, initTm, Nat.reduceAdd, Nat.reduceEqDiff, reduceCtorEq, run_aaddr, run_stn, run_bld, bldV_nil, g9], by simp (maxSteps := 1000000) (disch := first | decide | omega | assumption | exact plain_int _ _ | exact plain_ints _ | exact plain_bool _ | exact one_int _ _ | exact plain_des _ | exact plain_rows _) only [AM, initTm, Nat.reduceAdd, Nat.reduceEqDiff, reduceCtorEq, run_aaddr, run_stn, run_bld, bldV_nil, g26], by simp (maxSteps := 1000000) (disch := first | decide | omega | assumption | exact plain_int _ _ | exact plain_ints _ | exact plain_bool _ | exact one_int _ _ | exact plain_des _ | exact plain_rows _) only [AM, initTm, Nat.reduceAdd, Nat.reduceEqDiff, reduceCtorEq, run_aaddr, run_stn, run_bld, bldV_nil, g27], by simp (maxSteps := 1000000) (disch := first | decide | omega | assumption | exact plain_int _ _ | exact plain_ints _ | exact plain_bool _ | exact one_int _ _ | exact plain_des _ | exact plain_rows _) only [AM, initTm, Nat.reduceAdd, Nat.reduceEqDiff, reduceCtorEq, run_aaddr, run_stn, run_bld, bldV_nil]; rfl, by omega, rfl, hT.put i p q (by omega) (by omega) hpq hzz fun j a b => by
              rw [hmtq]
              constructor
              · rintro (h | ⟨h1, h2, h3 | h3, h4⟩)
                · exact .inl (.inl h)
                · exact .inl (.inr ⟨h1, h2, h3, h4⟩)
                · exact .inr ⟨h1, h2, h3⟩
              · rintro ((h | ⟨h1, h2, h3, h4⟩) | ⟨h1, h2, h3⟩)
                · exact .inl h
                · exact .inr ⟨h1, h2, .inl h3, h4⟩
                · exact .inr ⟨h1, h2, .inr h3, by rw [h2, h3]; exact hpq⟩⟩
      · repeat' first
          | refine W_seq ?_
          | refine W_skip ?_
          | refine W_exit ?_
          | refine W_ret ?_
          | refine W_block ?_
          | (refine W_ops (by simp (maxSteps := 1000000) (disch := first | decide | omega | assumption | exact plain_int _ _ | exact plain_ints _ | exact plain_bool _ | exact one_int _ _ | exact plain_des _ | exact plain_rows _) only [AM, initTm, Nat.reduceAdd, Nat.reduceEqDiff, reduceCtorEq, run_aaddr, run_stn, run_bld, bldV_nil, g1, g2, g4, g5, g13, g14, g15, g6, g7, g20, g21, g22, g9, g26, g27, g28, hql]; rfl) ?_)
          | (refine W_cond (by simp (maxSteps := 1000000) (disch := first | decide | omega | assumption | exact plain_int _ _ | exact plain_ints _ | exact plain_bool _ | exact one_int _ _ | exact plain_des _ | exact plain_rows _) only [AM, initTm, Nat.reduceAdd, Nat.reduceEqDiff, reduceCtorEq, run_aaddr, run_stn, run_bld, bldV_nil, g1, g2, g4, g5, g13, g14, g15, g6, g7, g20, g21, g22, g9, g26, g27, g28, hql]; rfl) ?_ ?_ <;> intro hcond <;> (try simp only [decide_eq_true_eq, decide_eq_false_iff_not, beq_iff_eq, beq_eq_false_iff_ne, ne_eq, reduceCtorEq, Bool.not_eq_true', Bool.not_eq_false', bne_iff_ne, bne_eq_false_iff_eq] at hcond) <;> (try (exfalso; omega)))
          | refine thenQ_n ?_
          | refine thenQ_e ?_
          | refine thenQ_r ?_
          | refine outQ_n ?_
          | refine outQ_r ?_
          | refine outQ_e ?_
          | refine outQ_d (by decide) ?_
        have ejq : jq = (ro.getD []).length := by omega
        rw [ejq, List.take_of_length_le (Nat.le_refl _)] at hT
        exact ⟨(ro.getD []).length - (jp + 1), by omega, jp + 1, many, L, _, rfl, by simp (maxSteps := 1000000) (disch := first | decide | omega | assumption | exact plain_int _ _ | exact plain_ints _ | exact plain_bool _ | exact one_int _ _ | exact plain_des _ | exact plain_rows _) only [AM, initTm, Nat.reduceAdd, Nat.reduceEqDiff, reduceCtorEq, run_aaddr, run_stn, run_bld, bldV_nil, g1], by simp (maxSteps := 1000000) (disch := first | decide | omega | assumption | exact plain_int _ _ | exact plain_ints _ | exact plain_bool _ | exact one_int _ _ | exact plain_des _ | exact plain_rows _) only [AM, initTm, Nat.reduceAdd, Nat.reduceEqDiff, reduceCtorEq, run_aaddr, run_stn, run_bld, bldV_nil, g2], by simp (maxSteps := 1000000) (disch := first | decide | omega | assumption | exact plain_int _ _ | exact plain_ints _ | exact plain_bool _ | exact one_int _ _ | exact plain_des _ | exact plain_rows _) only [AM, initTm, Nat.reduceAdd, Nat.reduceEqDiff, reduceCtorEq, run_aaddr, run_stn, run_bld, bldV_nil, g4], by simp (maxSteps := 1000000) (disch := first | decide | omega | assumption | exact plain_int _ _ | exact plain_ints _ | exact plain_bool _ | exact one_int _ _ | exact plain_des _ | exact plain_rows _) only [AM, initTm, Nat.reduceAdd, Nat.reduceEqDiff, reduceCtorEq, run_aaddr, run_stn, run_bld, bldV_nil, g5], by simp (maxSteps := 1000000) (disch := first | decide | omega | assumption | exact plain_int _ _ | exact plain_ints _ | exact plain_bool _ | exact one_int _ _ | exact plain_des _ | exact plain_rows _) only [AM, initTm, Nat.reduceAdd, Nat.reduceEqDiff, reduceCtorEq, run_aaddr, run_stn, run_bld, bldV_nil, g13], by simp (maxSteps := 1000000) (disch := first | decide | omega | assumption | exact plain_int _ _ | exact plain_ints _ | exact plain_bool _ | exact one_int _ _ | exact plain_des _ | exact plain_rows _) only [AM, initTm, Nat.reduceAdd, Nat.reduceEqDiff, reduceCtorEq, run_aaddr, run_stn, run_bld, bldV_nil, g14], by simp (maxSteps := 1000000) (disch := first | decide | omega | assumption | exact plain_int _ _ | exact plain_ints _ | exact plain_bool _ | exact one_int _ _ | exact plain_des _ | exact plain_rows _) only [AM, initTm, Nat.reduceAdd, Nat.reduceEqDiff, reduceCtorEq, run_aaddr, run_stn, run_bld, bldV_nil, g15], by simp (maxSteps := 1000000) (disch := first | decide | omega | assumption | exact plain_int _ _ | exact plain_ints _ | exact plain_bool _ | exact one_int _ _ | exact plain_des _ | exact plain_rows _) only [AM, initTm, Nat.reduceAdd, Nat.reduceEqDiff, reduceCtorEq, run_aaddr, run_stn, run_bld, bldV_nil, g6], by simp (maxSteps := 1000000) (disch := first | decide | omega | assumption | exact plain_int _ _ | exact plain_ints _ | exact plain_bool _ | exact one_int _ _ | exact plain_des _ | exact plain_rows _) only [AM, initTm, Nat.reduceAdd, Nat.reduceEqDiff, reduceCtorEq, run_aaddr, run_stn, run_bld, bldV_nil, g7], by simp (maxSteps := 1000000) (disch := first | decide | omega | assumption | exact plain_int _ _ | exact plain_ints _ | exact plain_bool _ | exact one_int _ _ | exact plain_des _ | exact plain_rows _) only [AM, initTm, Nat.reduceAdd, Nat.reduceEqDiff, reduceCtorEq, run_aaddr, run_stn, run_bld, bldV_nil, g20], by simp (maxSteps := 1000000) (disch := first | decide | omega | assumption | exact plain_int _ _ | exact plain_ints _ | exact plain_bool _ | exact one_int _ _ | exact plain_des _ | exact plain_rows _) only [AM, initTm, Nat.reduceAdd, Nat.reduceEqDiff, reduceCtorEq, run_aaddr, run_stn, run_bld, bldV_nil, g21], by simp (maxSteps := 1000000) (disch := first | decide | omega | assumption | exact plain_int _ _ | exact plain_ints _ | exact plain_bool _ | exact one_int _ _ | exact plain_des _ | exact plain_rows _) only [AM, initTm, Nat.reduceAdd, Nat.reduceEqDiff, reduceCtorEq, run_aaddr, run_stn, run_bld, bldV_nil]; rfl, by omega, rfl, hT.congr fun j a b => by
          rw [hmts]
          constructor
          · rintro (h | ⟨h1, h2 | h2, h3, h4⟩)
            · exact .inl (.inl h)
            · exact .inl (.inr ⟨h1, h2, h3, h4⟩)
            · exact .inr ⟨h1, h2, h3, h4⟩
          · rintro ((h | ⟨h1, h2, h3, h4⟩) | ⟨h1, h2, h3, h4⟩)
            · exact .inl h
            · exact .inr ⟨h1, .inl h2, h3, h4⟩
            · exact .inr ⟨h1, .inr h2, h3, h4⟩⟩
    · repeat' first
        | refine W_seq ?_
        | refine W_skip ?_
        | refine W_exit ?_
        | refine W_ret ?_
        | refine W_block ?_
        | (refine W_ops (by simp (maxSteps := 1000000) (disch := first | decide | omega | assumption | exact plain_int _ _ | exact plain_ints _ | exact plain_bool _ | exact one_int _ _ | exact plain_des _ | exact plain_rows _) only [AM, initTm, Nat.reduceAdd, Nat.reduceEqDiff, reduceCtorEq, run_aaddr, run_stn, run_bld, bldV_nil, g1, g2, g4, g5, g13, g14, g15, g6, g7, g20, g21, g22, hpl]; rfl) ?_)
        | (refine W_cond (by simp (maxSteps := 1000000) (disch := first | decide | omega | assumption | exact plain_int _ _ | exact plain_ints _ | exact plain_bool _ | exact one_int _ _ | exact plain_des _ | exact plain_rows _) only [AM, initTm, Nat.reduceAdd, Nat.reduceEqDiff, reduceCtorEq, run_aaddr, run_stn, run_bld, bldV_nil, g1, g2, g4, g5, g13, g14, g15, g6, g7, g20, g21, g22, hpl]; rfl) ?_ ?_ <;> intro hcond <;> (try simp only [decide_eq_true_eq, decide_eq_false_iff_not, beq_iff_eq, beq_eq_false_iff_ne, ne_eq, reduceCtorEq, Bool.not_eq_true', Bool.not_eq_false', bne_iff_ne, bne_eq_false_iff_eq] at hcond) <;> (try (exfalso; omega)))
        | refine thenQ_n ?_
        | refine thenQ_e ?_
        | refine thenQ_r ?_
        | refine outQ_n ?_
        | refine outQ_r ?_
        | refine outQ_e ?_
        | refine outQ_d (by decide) ?_
      have ejp : jp = (ro.getD []).length := by omega
      rw [ejp, List.take_of_length_le (Nat.le_refl _)] at hT
      exact ⟨d.rows.length - (i + 1), by omega, i + 1, many, L, _, rfl, by simp (maxSteps := 1000000) (disch := first | decide | omega | assumption | exact plain_int _ _ | exact plain_ints _ | exact plain_bool _ | exact one_int _ _ | exact plain_des _ | exact plain_rows _) only [AM, initTm, Nat.reduceAdd, Nat.reduceEqDiff, reduceCtorEq, run_aaddr, run_stn, run_bld, bldV_nil, g1], by simp (maxSteps := 1000000) (disch := first | decide | omega | assumption | exact plain_int _ _ | exact plain_ints _ | exact plain_bool _ | exact one_int _ _ | exact plain_des _ | exact plain_rows _) only [AM, initTm, Nat.reduceAdd, Nat.reduceEqDiff, reduceCtorEq, run_aaddr, run_stn, run_bld, bldV_nil, g2], by simp (maxSteps := 1000000) (disch := first | decide | omega | assumption | exact plain_int _ _ | exact plain_ints _ | exact plain_bool _ | exact one_int _ _ | exact plain_des _ | exact plain_rows _) only [AM, initTm, Nat.reduceAdd, Nat.reduceEqDiff, reduceCtorEq, run_aaddr, run_stn, run_bld, bldV_nil, g4], by simp (maxSteps := 1000000) (disch := first | decide | omega | assumption | exact plain_int _ _ | exact plain_ints _ | exact plain_bool _ | exact one_int _ _ | exact plain_des _ | exact plain_rows _) only [AM, initTm, Nat.reduceAdd, Nat.reduceEqDiff, reduceCtorEq, run_aaddr, run_stn, run_bld, bldV_nil, g5], by simp (maxSteps := 1000000) (disch := first | decide | omega | assumption | exact plain_int _ _ | exact plain_ints _ | exact plain_bool _ | exact one_int _ _ | exact plain_des _ | exact plain_rows _) only [AM, initTm, Nat.reduceAdd, Nat.reduceEqDiff, reduceCtorEq, run_aaddr, run_stn, run_bld, bldV_nil, g13], by simp (maxSteps := 1000000) (disch := first | decide | omega | assumption | exact plain_int _ _ | exact plain_ints _ | exact plain_bool _ | exact one_int _ _ | exact plain_des _ | exact plain_rows _) only [AM, initTm, Nat.reduceAdd, Nat.reduceEqDiff, reduceCtorEq, run_aaddr, run_stn, run_bld, bldV_nil, g14], by simp (maxSteps := 1000000) (disch := first | decide | omega | assumption | exact plain_int _ _ | exact plain_ints _ | exact plain_bool _ | exact one_int _ _ | exact plain_des _ | exact plain_rows _) only [AM, initTm, Nat.reduceAdd, Nat.reduceEqDiff, reduceCtorEq, run_aaddr, run_stn, run_bld, bldV_nil]; rfl, by omega, rfl, hT.congr fun j a b => by
        unfold Des.V
        constructor
        · rintro ⟨h1, h2, h3, h4⟩
          by_cases e : j = i
          · subst e; rw [eri] at h2 h3; exact .inr ⟨rfl, h2, h3, h4⟩
          · exact .inl ⟨by omega, h2, h3, h4⟩
        · rintro (⟨h1, h2, h3, h4⟩ | ⟨h1, h2, h3, h4⟩)
          · exact ⟨by omega, h2, h3, h4⟩
          · subst h1; rw [← eri] at h2 h3; exact ⟨by omega, h2, h3, h4⟩⟩
  · have ei : i = d.rows.length := by omega
    have hmul : IntKind.i64.wrap ((n : Int) * ((n : Int) - 1)) = ((n * (n - 1) : Nat) : Int) := by
      have e : (n : Int) * ((n : Int) - 1) = ((n * (n - 1) : Nat) : Int) := by
        obtain ⟨m, rfl⟩ : ∃ m, n = m + 1 := ⟨n - 1, by omega⟩
        simp
      have : n * (n - 1) ≤ 40 * 40 := Nat.mul_le_mul hn4 (by omega)
      rw [e, i64w (by omega) (by omega)]
    have hldn := fun tm rb => (hA ⟨Z.map (.int .i64), 1600, 124, .live⟩ L).has.ldn tm rb 1600 (by rw [List.length_map, hT.len])
    have hwh := fun tm rb => (hB ⟨L.map (.int .i64), 1600, 124, .live⟩ Z).whole tm rb 1600 hZl.symm L hT.len
    repeat' first
      | refine W_seq ?_
      | refine W_skip ?_
      | refine W_exit ?_
      | refine W_ret ?_
      | refine W_block ?_
      | (refine W_ops (by simp (maxSteps := 1000000) (disch := first | decide | omega | assumption | exact plain_int _ _ | exact plain_ints _ | exact plain_bool _ | exact one_int _ _ | exact plain_des _ | exact plain_rows _) only [AM, initTm, Nat.reduceAdd, Nat.reduceEqDiff, reduceCtorEq, run_aaddr, run_stn, run_bld, bldV_nil, g1, g2, g4, g5, g13, g14, g15, hlt]; rfl) ?_)
      | (refine W_cond (by simp (maxSteps := 1000000) (disch := first | decide | omega | assumption | exact plain_int _ _ | exact plain_ints _ | exact plain_bool _ | exact one_int _ _ | exact plain_des _ | exact plain_rows _) only [AM, initTm, Nat.reduceAdd, Nat.reduceEqDiff, reduceCtorEq, run_aaddr, run_stn, run_bld, bldV_nil, g1, g2, g4, g5, g13, g14, g15, hlt]; rfl) ?_ ?_ <;> intro hcond <;> (try simp only [decide_eq_true_eq, decide_eq_false_iff_not, beq_iff_eq, beq_eq_false_iff_ne, ne_eq, reduceCtorEq, Bool.not_eq_true', Bool.not_eq_false', bne_iff_ne, bne_eq_false_iff_eq] at hcond) <;> (try (exfalso; omega)))
      | refine thenQ_n ?_
      | refine thenQ_e ?_
      | refine thenQ_r ?_
      | refine outQ_n ?_
      | refine outQ_r ?_
      | refine outQ_e ?_
      | refine outQ_d (by decide) ?_
    refine W_opsD (by simp (maxSteps := 1000000) (disch := first | decide | omega | assumption | exact plain_int _ _ | exact plain_ints _ | exact plain_bool _ | exact one_int _ _ | exact plain_des _ | exact plain_rows _) only [AM, initTm, Nat.reduceAdd, Nat.reduceEqDiff, reduceCtorEq, run_aaddr, run_stn, run_bld, bldV_nil, execsF_cons, execsF_nil, contF_some, addF_some, List.replicate_zero, List.append_nil, run_ldn, g1, g2, g4, g5, hfa, hld, hldn, hwh, hn, hmul, List.set_cons_succ, List.set_cons_zero]; rfl) (by simp (disch := first | decide | omega) [fpI, St.ev, Tm.gs, g1, g2, g4, idsOf, Fp.apart, hit]) ?_
    refine thenQ_n ?_
    refine W_ret ?_
    refine ⟨.inr rfl, _, mapM_two ((hB _ L).res _ _ 1600 2 hT.len.symm (by simp (maxSteps := 1000000) (disch := first | decide | omega | assumption | exact plain_int _ _ | exact plain_ints _ | exact plain_bool _ | exact one_int _ _ | exact plain_des _ | exact plain_rows _) only [AM, initTm, Nat.reduceAdd, Nat.reduceEqDiff, reduceCtorEq, run_aaddr, run_stn, run_bld, bldV_nil, g2])) (rvar_tmp (v := .bool ((many : Int) == ((n * (n - 1) : Nat) : Int))) (by simp (maxSteps := 1000000) (disch := first | decide | omega | assumption | exact plain_int _ _ | exact plain_ints _ | exact plain_bool _ | exact one_int _ _ | exact plain_des _ | exact plain_rows _) only [AM, initTm, Nat.reduceAdd, Nat.reduceEqDiff, reduceCtorEq, run_aaddr, run_stn, run_bld, bldV_nil]) _ _), L, _, rfl, hT.len, ?_, fun _ => ⟨many, ei ▸ hT⟩⟩
    rw [ei] at hT
    have hall := hT.all hn4 fun j a b hv => ⟨(hin j a hv.2.1).2, (hin j b hv.2.2.1).2⟩
    rw [beq_iff_eq, Int.ofNat_inj, hall]
    constructor
    · intro h a b ha hb hne
      obtain ⟨j, hv⟩ := h a b ha hb hne
      refine ⟨j, hv.1, hv.2.1, hv.2.2.1, fun k hk h1 h2 => ?_⟩
      have e1 := (hT.inn j a b hv).2.2.2
      have e2 := (hT.inn k a b ⟨hk, h1, h2, hv.2.2.2⟩).2.2.2
      rw [e1] at e2
      omega
    · intro h a b ha hb hne
      obtain ⟨j, hj, h1, h2, _⟩ := h a b ha hb hne
      exact ⟨j, hj, h1, h2, by omega⟩
end
end Go.Am
