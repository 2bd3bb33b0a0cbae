/- design.Meets: how many points two blocks have together. -/
import Derived.Test.YtcibofbmennjpaaDoorAmPl9
import Derived.Test.YtcibofbmennjpaaDoorAmSort
set_option linter.unusedVariables false
set_option linter.unusedSimpArgs false
namespace Go.Am

section
variable {G : Nat → List AV} {F : Nat → Option MF} {rec : Rec}

theorem pcall_tup {f : Nat} {mf : MF} (hf : F f = some mf) {args : List AV} {Pp : AV → Prop}
    (h : W G F mf.body ⟨initTm 0 args .e, [], 0⟩ fun e s => (e = .normal ∨ e = .ret) ∧ ∃ rs r, mf.res.mapM (rvar s) = some rs ∧ (∀ id n, tuple rs ≠ .own id n) ∧ reify reifyDepth s.bx (tuple rs) = some r ∧ alias reifyDepth s.bx (tuple rs) = false ∧ Pp r) :
    ∃ r, pcall F (E G F) f args = some (.val r, false) ∧ Pp r := by
  obtain ⟨e, s, h1, he, rs, r, h2, h3, h4, h5, h6⟩ := h
  refine ⟨r, ?_, h6⟩
  have hrun : runBody (E G F) mf ⟨initTm 0 args .e, [], 0⟩ = some (s, rs) := by
    unfold runBody
    rw [h1]
    rcases he with rfl | rfl
    · simp only [h2]; rfl
    · simp only [h2]; rfl
  unfold pcall
  rw [hf]
  simp only [hrun]
  generalize tuple rs = v at *
  cases v with
  | own id n => exact absurd rfl (h3 id n)
  | _ => simp only [h4, h5]; rfl

theorem alias_grownAt (pre : List Box) (k : Nat) (hk : pre.length = k) (e : TypeId) (l : List Int) (f : Nat) : alias (f + 2) (pre ++ (grownAt k e (l.map (.int .i64))).2) (grownAt k e (l.map (.int .i64))).1 = false := by
  subst hk
  cases l with
  | nil => rfl
  | cons a l =>
    have h : ∀ (bx : List Box) (id n : Nat), alias (f + 2) bx (.own id n) = (match bx[id]? with
      | some b => b.cs.any (alias (f + 1) bx)
      | none => true) := fun _ _ _ => rfl
    simp only [grownAt, List.map_cons]
    rw [h, List.getElem?_append_right (Nat.le_refl _), Nat.sub_self]
    simp only [List.getElem?_cons_zero]
    have : ∀ (bx : List Box) (l : List Int), (l.map (AV.int .i64)).any (alias (f + 1) bx) = false := by
      intro bx l
      induction l with
      | nil => rfl
      | cons a l ih => rw [List.map_cons, List.any_cons, ih]; rfl
    exact this _ (a :: l)
theorem reify_grownAt7 (pre : List Box) (k : Nat) (hk : pre.length = k) (e : TypeId) (l : List Int) : reify 7 (pre ++ (grownAt k e (l.map (.int .i64))).2) (grownAt k e (l.map (.int .i64))).1 = some (ints (optL l)) := by
  subst hk
  cases l with
  | nil => rfl
  | cons a l =>
    rw [show (7 : Nat) = 6 + 1 from rfl]
    simp only [grownAt, List.map_cons]
    rw [reify_own, List.getElem?_append_right (Nat.le_refl _), Nat.sub_self]
    simp only [List.getElem?_cons_zero]
    rw [if_pos ⟨by simp, by simp⟩]
    have : ∀ (bx : List Box) (l : List Int), (l.map (AV.int .i64)).mapM (reify 6 bx) = some (l.map (AV.int .i64)) := by
      intro bx l
      induction l with
      | nil => rfl
      | cons a l ih => rw [List.map_cons, List.mapM_cons, ih]; rfl
    have := this (pre ++ [⟨.int .i64 a :: l.map (.int .i64), 1, e, .live⟩]) (a :: l)
    rw [List.map_cons] at this
    rw [this]
    rfl

/-- The sort, at a slice that has grown. -/
theorem doCall_sort {f : Nat} (hF : F f = some mfSort) (pre : List Box) (k : Nat) (hk : pre.length = k) (e : TypeId) (l : List Int) (hl : l.length < 4611686018427387904) (tm : Tm) (rb : Nat) :
    doCall F (E G F) .shared f [(grownAt k e (l.map (.int .i64))).1] ⟨tm, pre ++ (grownAt k e (l.map (.int .i64))).2, rb⟩ = some (.tup [], ⟨tm, pre ++ (grownAt k e ((sorted l).map (.int .i64))).2, rb⟩) := by
  subst hk
  have hE : E G F (.prim sortSt) = fun st => (sortSt st).map (.normal, ·) := by
    funext st
    rw [E_eq]; rfl
  unfold doCall
  rw [if_neg (by simp)]
  simp only [hF, runBody, mfSort]
  rw [hE]
  cases l with
  | nil =>
    have : sorted [] = [] := by simp [sorted]
    rw [this]
    rfl
  | cons a l =>
    have hs : sortSt ⟨initTm 0 [.own pre.length (a :: l).length] .e, pre ++ [⟨(a :: l).map (.int .i64), 1, e, .live⟩], 0⟩ = some ⟨initTm 0 [.own pre.length (a :: l).length] .e, pre ++ [⟨(sorted (a :: l)).map (.int .i64), 1, e, .live⟩], 0⟩ := by
      show (match (pre ++ [(⟨(a :: l).map (.int .i64), 1, e, Status.live⟩ : Box)])[pre.length]? with
        | some b => sortBox ⟨initTm 0 [.own pre.length (a :: l).length] .e, pre ++ [⟨(a :: l).map (.int .i64), 1, e, .live⟩], 0⟩ pre.length (a :: l).length b (toInts b.cs)
        | none => none : Option St) = _
      rw [List.getElem?_append_right (Nat.le_refl _), Nat.sub_self]
      simp only [List.getElem?_cons_zero]
      rw [toInts_map]
      simp only [sortBox]
      rw [if_pos ⟨trivial, trivial, trivial, hl⟩]
      simp
    have e1 : grownAt pre.length e ((a :: l).map (.int .i64)) = (.own pre.length (a :: l).length, [⟨(a :: l).map (.int .i64), 1, e, .live⟩]) := by simp [grownAt]
    have e2 : (grownAt pre.length e ((sorted (a :: l)).map (.int .i64))).2 = [⟨(sorted (a :: l)).map (.int .i64), 1, e, .live⟩] := by
      have := sorted_length (a :: l)
      cases h : sorted (a :: l) with
      | nil => rw [h] at this; simp at this
      | cons b r => rfl
    rw [e1, e2]
    simp only [hs, Option.map_some, List.mapM_nil]
    rfl

/-- Box id holds these ints of kind k; it is alive or frozen. -/
def HasK (bx : List Box) (id : Nat) (k : IntKind) (e : TypeId) (l : List Int) (s : Status) : Prop := bx[id]? = some ⟨l.map (.int k), 1, e, s⟩ ∧ s ≠ .fresh
section
variable {bx : List Box} {id : Nat} {k : IntKind} {e : TypeId} {l : List Int} {s : Status}
theorem HasK.len (h : HasK bx id k e l s) (tm : Tm) (rb n : Nat) (hn : n = l.length) : lenV ⟨tm, bx, rb⟩ (.own id n) = some (n : Int) := by
  subst hn
  simp only [lenV]
  rw [h.1]
  simp [h.2]
theorem HasK.iaddr (h : HasK bx id k e l s) (tm : Tm) (rb n : Nat) (hn : n = l.length) (k' : IntKind) (i : Int) (hi : 0 ≤ i ∧ i < n) : iaddrV ⟨tm, bx, rb⟩ 1 (.own id n) (.int k' i) = some (.ptr id n i.toNat) := by
  subst hn
  simp only [iaddrV]
  rw [h.1]
  simp [hi, h.2]
theorem HasK.ld (h : HasK bx id k e l s) (tm : Tm) (rb n : Nat) (hn : n = l.length) (off : Nat) (ho : off < n) : ld1V ⟨tm, bx, rb⟩ (.ptr id n off) = some (.int k (l.getD off 0)) := by
  subst hn
  simp only [ld1V, St.at_]
  rw [h.1]
  simp only [List.length_map, ne_eq, h.2, not_false_eq_true, and_self, if_true]
  rw [← List.map_drop, List.drop_eq_getElem_cons ho, List.map_cons, List.getD_eq_getElem?_getD, List.getElem?_eq_getElem ho]
  rfl
end
/-- A slice's first places. -/
def slcF (st : St) (sz : Nat) (x h : AV) : Option (AV × St) := exI (fun _ => []) (.slc sz (.c x) none (some (.c h))) st
theorem run_slcF (sz : Nat) (x y : R) (st : St) : runI G F rec (.slc sz x none (some y)) st = slcF st sz (st.ev G x) (st.ev G y) := rfl
theorem HasK.slc {bx : List Box} {id : Nat} {k : IntKind} {e : TypeId} {l : List Int} {s : Status} (h : HasK bx id k e l s) (tm : Tm) (rb n : Nat) (hn : n = l.length) (k' : IntKind) (i : Nat) (hi : i ≤ n) :
    slcF ⟨tm, bx, rb⟩ 1 (.own id n) (.int k' (i : Int)) = some (.lst i ((l.take i).map (.int k)), ⟨tm, bx.set id ⟨l.map (.int k), 1, e, .frozen⟩, rb⟩) := by
  subst hn
  have hc : AV.closedL (l.map (AV.int k)) = true := by
    clear h hi
    induction l with
    | nil => rfl
    | cons a l ih => simp [AV.closedL, AV.closed, ih]
  simp only [slcF, exI, bound, St.ev]
  rw [if_pos (by omega), h.1]
  simp [hi, h.2, hc, List.map_take]
theorem lenV_lst (st : St) (n : Nat) (cs : List AV) : lenV st (.lst n cs) = some (n : Int) := rfl
theorem iaddrV_lst (st : St) (n : Nat) (k' : IntKind) (i : Int) (cs : List AV) (hc : cs.length = n) (hi : 0 ≤ i ∧ i < n) : iaddrV st 1 (.lst n cs) (.int k' i) = some (.rptr (cs.drop i.toNat)) := by
  subst hc
  simp [iaddrV, hi]
theorem head_drop_k (k : IntKind) (l : List Int) (i : Nat) (h : i < l.length) : ((l.map (AV.int k)).drop i).head? = some (.int k (l.getD i 0)) := by
  rw [List.head?_drop, List.getElem?_map, List.getElem?_eq_getElem h, List.getD_eq_getElem?_getD, List.getElem?_eq_getElem h]; rfl

/-- The blocks as bits. -/
def Des.ml (d : Des) : List Int := d.bl.map fun b => ((mask b : Nat) : Int)
theorem Des.ml_length (d : Des) : d.ml.length = d.rows.length := by simp [Des.ml, Des.bl]
theorem Des.ml_getD (d : Des) (i : Nat) (h : i < d.rows.length) : d.ml.getD i 0 = ((mask (d.rw i) : Nat) : Int) := by
  rw [List.getD_eq_getElem?_getD, List.getElem?_eq_getElem (by rw [d.ml_length]; exact h)]
  simp only [Des.ml, Des.bl, Des.rw, List.getElem_map, Option.getD_some]
  rw [List.getD_eq_getElem?_getD, List.getElem?_eq_getElem h]
  rfl
theorem Des.ml_take (d : Des) (i j : Nat) (h : j < i) (hi : i ≤ d.rows.length) : (d.ml.take i).getD j 0 = ((mask (d.rw j) : Nat) : Int) := by
  rw [← d.ml_getD j (by omega), List.getD_eq_getElem?_getD, List.getElem?_take, if_pos h, List.getD_eq_getElem?_getD]

/-- What the pairs ahead of (i, j) have together. -/
structure Got (d : Des) (i j : Nat) (out : List Int) : Prop where
  nodup : out.Nodup
  mem : ∀ x, x ∈ out ↔ ∃ a b, b < a ∧ (a < i ∨ a = i ∧ b < j) ∧ x = (together (d.rw a) (d.rw b) : Int)

set_option maxHeartbeats 4000000 in
theorem Meets_spec (hF : F 23 = some mf23) (hC : F 50 = some mf50) (h1 : F 108 = some mf108) (hCF : F 72 = some mf72) (hI : F 86 = some mf86)
    (hS : F 53 = some mf53) (hO : F 74 = some mf74) (hCo : F 75 = some mf75) (hIx : F 117 = some mf117) (hSo : F 65 = some mfSort)
    (d : Des) (hd : d.Ok) (hf : Fault d 0) (hm : d.rows.length ≤ 200) (hb : ∀ i, Bits (d.rw i)) (hnd : ∀ i, (d.rw i).Nodup) :
    ∃ v, pcall F (E G F) 23 [d.av] = some (.val v, false) ∧ ∃ out, v = .tup [ints (optL (sorted out)), .int .i64 0] ∧ Got d d.rows.length 0 out := by
  obtain ⟨v0, hc0, e0, rfl, hf0⟩ := pcall_Check (G := G) hC h1 hCF hI d hd
  obtain rfl := hf0.one hf
  have hsets := sets_spec (G := G) hS d hd hm hb
  have hH : ∀ x, Has (⟨d.cells, 2, 39, .live⟩ :: x) 0 d.cells := fun x => ⟨_, rfl, rfl, by simp⟩
  have hldn := fun x tm rb => (hH x).ldn tm rb 2 rfl
  have hda : AV.agg d.cells = d.av := rfl
  refine pcall_tup hF ?_
  unfold mf23
  simp only
  have hml : (d.bl.map fun b => ((mask b : Nat) : Int)) = d.ml := rfl
  rw [hml] at hsets
  have hmll := d.ml_length
  cases hem : d.ml with
  | nil =>
    rw [hem] at hsets hmll
    simp only [resOf] at hsets
    have hsn : ∀ tm rb, doCall F (E G F) .shared 65 [.nil] ⟨tm, [⟨d.cells, 2, 39, .live⟩], rb⟩ = some (.tup [], ⟨tm, [⟨d.cells, 2, 39, .live⟩], rb⟩) := fun tm rb => by
      have := doCall_sort (G := G) hSo [⟨d.cells, 2, 39, .live⟩] 1 rfl 3 [] (by decide) tm rb
      have e : sorted [] = [] := by simp [sorted]
      rw [e] at this
      exact this
    have hln : ∀ st, lenV st .nil = some 0 := fun _ => rfl
    repeat' first
      | refine W_seq ?_
      | refine W_skip ?_
      | refine W_exit ?_
      | refine W_ret ?_
      | refine W_block ?_
      | (refine W_ops (by simp (maxSteps := 1000000) (disch := first | decide | omega | assumption | exact plain_int _ _ | exact plain_ints _ | exact plain_bool _ | exact one_int _ _ | exact plain_des _ | exact plain_rows _) only [AM, initTm, Nat.reduceAdd, Nat.reduceEqDiff, reduceCtorEq, run_aaddr, run_stn, run_bld, bldV_nil, hldn, hda, hc0, hsets, hln, bne_self_eq_false]; rfl) ?_)
      | (refine W_cond (by simp (maxSteps := 1000000) (disch := first | decide | omega | assumption | exact plain_int _ _ | exact plain_ints _ | exact plain_bool _ | exact one_int _ _ | exact plain_des _ | exact plain_rows _) only [AM, initTm, Nat.reduceAdd, Nat.reduceEqDiff, reduceCtorEq, run_aaddr, run_stn, run_bld, bldV_nil, hldn, hda, hc0, hsets, hln, bne_self_eq_false]; rfl) ?_ ?_ <;> intro hcond <;> (try simp only [decide_eq_true_eq, decide_eq_false_iff_not, beq_iff_eq, beq_eq_false_iff_ne, ne_eq, reduceCtorEq, Bool.not_eq_true', Bool.not_eq_false', bne_iff_ne, bne_eq_false_iff_eq] at hcond) <;> (try (exfalso; omega)))
      | refine thenQ_n ?_
      | refine thenQ_e ?_
      | refine thenQ_r ?_
      | refine outQ_n ?_
      | refine outQ_r ?_
      | refine outQ_e ?_
      | refine outQ_d (by decide) ?_
    refine W_loop (k := 0) (fun k s => ∃ (tm : Tm), s = ⟨tm, [⟨d.cells, 2, 39, .live⟩], 0⟩ ∧ tm.get 5 = .nil ∧ tm.get 20 = .int .i64 0 ∧ tm.get 21 = .int .i64 0) ⟨_, rfl, by simp (maxSteps := 1000000) (disch := first | decide | omega | assumption | exact plain_int _ _ | exact plain_ints _ | exact plain_bool _ | exact one_int _ _ | exact plain_des _ | exact plain_rows _) only [AM, initTm, Nat.reduceAdd, Nat.reduceEqDiff, reduceCtorEq, run_aaddr, run_stn, run_bld, bldV_nil], by simp (maxSteps := 1000000) (disch := first | decide | omega | assumption | exact plain_int _ _ | exact plain_ints _ | exact plain_bool _ | exact one_int _ _ | exact plain_des _ | exact plain_rows _) only [AM, initTm, Nat.reduceAdd, Nat.reduceEqDiff, reduceCtorEq, run_aaddr, run_stn, run_bld, bldV_nil], by simp (maxSteps := 1000000) (disch := first | decide | omega | assumption | exact plain_int _ _ | exact plain_ints _ | exact plain_bool _ | exact one_int _ _ | exact plain_des _ | exact plain_rows _) only [AM, initTm, Nat.reduceAdd, Nat.reduceEqDiff, reduceCtorEq, run_aaddr, run_stn, run_bld, bldV_nil]⟩ ?_
    rintro k s ⟨tm, rfl, g5, g20, g21⟩
    repeat' first
      | refine W_seq ?_
      | refine W_skip ?_
      | refine W_exit ?_
      | refine W_ret ?_
      | refine W_block ?_
      | (refine W_ops (by simp (maxSteps := 1000000) (disch := first | decide | omega | assumption | exact plain_int _ _ | exact plain_ints _ | exact plain_bool _ | exact one_int _ _ | exact plain_des _ | exact plain_rows _) only [AM, initTm, Nat.reduceAdd, Nat.reduceEqDiff, reduceCtorEq, run_aaddr, run_stn, run_bld, bldV_nil, g5, g20, g21, hsn]; rfl) ?_)
      | (refine W_cond (by simp (maxSteps := 1000000) (disch := first | decide | omega | assumption | exact plain_int _ _ | exact plain_ints _ | exact plain_bool _ | exact one_int _ _ | exact plain_des _ | exact plain_rows _) only [AM, initTm, Nat.reduceAdd, Nat.reduceEqDiff, reduceCtorEq, run_aaddr, run_stn, run_bld, bldV_nil, g5, g20, g21, hsn]; rfl) ?_ ?_ <;> intro hcond <;> (try simp only [decide_eq_true_eq, decide_eq_false_iff_not, beq_iff_eq, beq_eq_false_iff_ne, ne_eq, reduceCtorEq, Bool.not_eq_true', Bool.not_eq_false', bne_iff_ne, bne_eq_false_iff_eq] at hcond) <;> (try (exfalso; omega)))
      | refine thenQ_n ?_
      | refine thenQ_e ?_
      | refine thenQ_r ?_
      | refine outQ_n ?_
      | refine outQ_r ?_
      | refine outQ_e ?_
      | refine outQ_d (by decide) ?_
    refine ⟨.inr rfl, [.nil, .int .i64 0], .tup [.nil, .int .i64 0], mapM_two (rvar_tmp (by simp (maxSteps := 1000000) (disch := first | decide | omega | assumption | exact plain_int _ _ | exact plain_ints _ | exact plain_bool _ | exact one_int _ _ | exact plain_des _ | exact plain_rows _) only [AM, initTm, Nat.reduceAdd, Nat.reduceEqDiff, reduceCtorEq, run_aaddr, run_stn, run_bld, bldV_nil, g5]) _ _) (rvar_tmp (by simp (maxSteps := 1000000) (disch := first | decide | omega | assumption | exact plain_int _ _ | exact plain_ints _ | exact plain_bool _ | exact one_int _ _ | exact plain_des _ | exact plain_rows _) only [AM, initTm, Nat.reduceAdd, Nat.reduceEqDiff, reduceCtorEq, run_aaddr, run_stn, run_bld, bldV_nil]) _ _), fun _ _ h => (by cases h), rfl, rfl, [], ?_, ?_⟩
    · have e : sorted [] = [] := by simp [sorted]
      rw [e]; rfl
    · rw [show d.rows.length = 0 by rw [← hmll]; rfl]
      exact ⟨List.nodup_nil, fun x => ⟨fun h => (by cases h), fun ⟨a, b, h, h2, _⟩ => (by omega)⟩⟩
  | cons m0 mr =>
    have hres : resOf 94 .u64 d.ml = .own d.rows.length (d.ml.map (.int .u64)) 1 94 := by
      rw [← hmll, hem]; rfl
    rw [hres] at hsets
    have hm0 : 0 < d.rows.length := by rw [← hmll, hem]; simp
    clear hem hres m0 mr
    obtain ⟨m, hmm⟩ : ∃ m, m = d.rows.length := ⟨_, rfl⟩
    have hK : ∀ s x, s ≠ Status.fresh → HasK (⟨d.cells, 2, 39, .live⟩ :: ⟨d.ml.map (.int .u64), 1, 94, s⟩ :: x) 1 .u64 94 d.ml s := fun s x hs => ⟨rfl, hs⟩
    have hlen0 := fun x tm rb => (hK .live x (by decide)).len tm rb d.rows.length hmll.symm
    repeat' first
      | refine W_seq ?_
      | refine W_skip ?_
      | refine W_exit ?_
      | refine W_ret ?_
      | refine W_block ?_
      | (refine W_ops (by simp (maxSteps := 1000000) (disch := first | decide | omega | assumption | exact plain_int _ _ | exact plain_ints _ | exact plain_bool _ | exact one_int _ _ | exact plain_des _ | exact plain_rows _) only [AM, initTm, Nat.reduceAdd, Nat.reduceEqDiff, reduceCtorEq, run_aaddr, run_stn, run_bld, bldV_nil, hldn, hda, hc0, hsets, List.length_cons, List.length_nil, hlen0, bne_self_eq_false]; rfl) ?_)
      | (refine W_cond (by simp (maxSteps := 1000000) (disch := first | decide | omega | assumption | exact plain_int _ _ | exact plain_ints _ | exact plain_bool _ | exact one_int _ _ | exact plain_des _ | exact plain_rows _) only [AM, initTm, Nat.reduceAdd, Nat.reduceEqDiff, reduceCtorEq, run_aaddr, run_stn, run_bld, bldV_nil, hldn, hda, hc0, hsets, List.length_cons, List.length_nil, hlen0, bne_self_eq_false]; rfl) ?_ ?_ <;> intro hcond <;> (try simp only [decide_eq_true_eq, decide_eq_false_iff_not, beq_iff_eq, beq_eq_false_iff_ne, ne_eq, reduceCtorEq, Bool.not_eq_true', Bool.not_eq_false', bne_iff_ne, bne_eq_false_iff_eq] at hcond) <;> (try (exfalso; omega)))
      | refine thenQ_n ?_
      | refine thenQ_e ?_
      | refine thenQ_r ?_
      | refine outQ_n ?_
      | refine outQ_r ?_
      | refine outQ_e ?_
      | refine outQ_d (by decide) ?_
    refine W_loop (k := d.rows.length) (fun k s => ∃ (i : Nat) (out : List Int) (stt : Status) (tm : Tm), s = ⟨tm, [⟨d.cells, 2, 39, .live⟩, ⟨d.ml.map (.int .u64), 1, 94, stt⟩] ++ (grownAt 2 3 (out.map (.int .i64))).2, 0⟩ ∧ tm.get 5 = (grownAt 2 3 (out.map (.int .i64))).1 ∧ tm.get 6 = .own 1 d.rows.length ∧ tm.get 19 = .own 1 d.rows.length ∧ tm.get 20 = .int .i64 d.rows.length ∧ tm.get 21 = .int .i64 i ∧ i ≤ d.rows.length ∧ k = d.rows.length - i ∧ stt ≠ .fresh ∧ Got d i 0 out ∧ out.length ≤ 200 * i)
      ⟨0, [], .live, _, rfl, by simp (maxSteps := 1000000) (disch := first | decide | omega | assumption | exact plain_int _ _ | exact plain_ints _ | exact plain_bool _ | exact one_int _ _ | exact plain_des _ | exact plain_rows _) only [AM, initTm, Nat.reduceAdd, Nat.reduceEqDiff, reduceCtorEq, run_aaddr, run_stn, run_bld, bldV_nil]; rfl, by simp (maxSteps := 1000000) (disch := first | decide | omega | assumption | exact plain_int _ _ | exact plain_ints _ | exact plain_bool _ | exact one_int _ _ | exact plain_des _ | exact plain_rows _) only [AM, initTm, Nat.reduceAdd, Nat.reduceEqDiff, reduceCtorEq, run_aaddr, run_stn, run_bld, bldV_nil], by simp (maxSteps := 1000000) (disch := first | decide | omega | assumption | exact plain_int _ _ | exact plain_ints _ | exact plain_bool _ | exact one_int _ _ | exact plain_des _ | exact plain_rows _) only [AM, initTm, Nat.reduceAdd, Nat.reduceEqDiff, reduceCtorEq, run_aaddr, run_stn, run_bld, bldV_nil], by simp (maxSteps := 1000000) (disch := first | decide | omega | assumption | exact plain_int _ _ | exact plain_ints _ | exact plain_bool _ | exact one_int _ _ | exact plain_des _ | exact plain_rows _) only [AM, initTm, Nat.reduceAdd, Nat.reduceEqDiff, reduceCtorEq, run_aaddr, run_stn, run_bld, bldV_nil], by simp (maxSteps := 1000000) (disch := first | decide | omega | assumption | exact plain_int _ _ | exact plain_ints _ | exact plain_bool _ | exact one_int _ _ | exact plain_des _ | exact plain_rows _) only [AM, initTm, Nat.reduceAdd, Nat.reduceEqDiff, reduceCtorEq, run_aaddr, run_stn, run_bld, bldV_nil]; rfl, Nat.zero_le _, rfl, by decide, ⟨List.nodup_nil, fun x => ⟨fun h => (by cases h), fun ⟨a, b, h, h2, _⟩ => (by omega)⟩⟩, Nat.zero_le _⟩ ?_
    rintro k s ⟨i, out, stt, tm, rfl, g5, g6, g19, g20, g21, hi, rfl, hst, hG, hol⟩
    have hlenK := fun s x hs tm rb => (hK s x hs).len tm rb d.rows.length hmll.symm
    have hia := fun tm rb => (hK stt (grownAt 2 3 (out.map (.int .i64))).2 hst).iaddr tm rb d.rows.length hmll.symm
    have hldk := fun tm rb => (hK stt (grownAt 2 3 (out.map (.int .i64))).2 hst).ld tm rb d.rows.length hmll.symm
    by_cases hlt : (i : Int) < (d.rows.length : Int)
    · have hmi := d.ml_getD i (by omega)
      have hsl : ∀ tm rb, slcF ⟨tm, ⟨d.cells, 2, 39, .live⟩ :: ⟨d.ml.map (.int .u64), 1, 94, stt⟩ :: (grownAt 2 3 (out.map (.int .i64))).2, rb⟩ 1 (.own 1 d.rows.length) (.int .i64 (i : Int)) = some (.lst i ((d.ml.take i).map (.int .u64)), ⟨tm, ⟨d.cells, 2, 39, .live⟩ :: ⟨d.ml.map (.int .u64), 1, 94, .frozen⟩ :: (grownAt 2 3 (out.map (.int .i64))).2, rb⟩) := fun tm rb => (hK stt _ hst).slc tm rb d.rows.length hmll.symm .i64 i hi
      repeat' first
        | refine W_seq ?_
        | refine W_skip ?_
        | refine W_exit ?_
        | refine W_ret ?_
        | refine W_block ?_
        | (refine W_ops (by simp (maxSteps := 1000000) (disch := first | decide | omega | assumption | exact plain_int _ _ | exact plain_ints _ | exact plain_bool _ | exact one_int _ _ | exact plain_des _ | exact plain_rows _) only [AM, initTm, Nat.reduceAdd, Nat.reduceEqDiff, reduceCtorEq, run_aaddr, run_stn, run_bld, bldV_nil, g5, g6, g19, g20, g21, hlt, hia, hldk, hmi, run_slcF, hsl, lenV_lst]; rfl) ?_)
        | (refine W_cond (by simp (maxSteps := 1000000) (disch := first | decide | omega | assumption | exact plain_int _ _ | exact plain_ints _ | exact plain_bool _ | exact one_int _ _ | exact plain_des _ | exact plain_rows _) only [AM, initTm, Nat.reduceAdd, Nat.reduceEqDiff, reduceCtorEq, run_aaddr, run_stn, run_bld, bldV_nil, g5, g6, g19, g20, g21, hlt, hia, hldk, hmi, run_slcF, hsl, lenV_lst]; rfl) ?_ ?_ <;> intro hcond <;> (try simp only [decide_eq_true_eq, decide_eq_false_iff_not, beq_iff_eq, beq_eq_false_iff_ne, ne_eq, reduceCtorEq, Bool.not_eq_true', Bool.not_eq_false', bne_iff_ne, bne_eq_false_iff_eq] at hcond) <;> (try (exfalso; omega)))
        | refine thenQ_n ?_
        | refine thenQ_e ?_
        | refine thenQ_r ?_
        | refine outQ_n ?_
        | refine outQ_r ?_
        | refine outQ_e ?_
        | refine outQ_d (by decide) ?_
      refine W_loop (k := i) (fun k s => ∃ (j : Nat) (out : List Int) (tm : Tm), s = ⟨tm, [⟨d.cells, 2, 39, .live⟩, ⟨d.ml.map (.int .u64), 1, 94, .frozen⟩] ++ (grownAt 2 3 (out.map (.int .i64))).2, 0⟩ ∧ tm.get 5 = (grownAt 2 3 (out.map (.int .i64))).1 ∧ tm.get 6 = .own 1 d.rows.length ∧ tm.get 19 = .own 1 d.rows.length ∧ tm.get 20 = .int .i64 d.rows.length ∧ tm.get 21 = .int .i64 i ∧ tm.get 8 = .int .u64 ((mask (d.rw i) : Nat) : Int) ∧ tm.get 28 = .lst i ((d.ml.take i).map (.int .u64)) ∧ tm.get 29 = .int .i64 i ∧ tm.get 30 = .int .i64 j ∧ j ≤ i ∧ k = i - j ∧ Got d i j out ∧ out.length ≤ 200 * i + j)
        ⟨0, out, _, rfl, by simp (maxSteps := 1000000) (disch := first | decide | omega | assumption | exact plain_int _ _ | exact plain_ints _ | exact plain_bool _ | exact one_int _ _ | exact plain_des _ | exact plain_rows _) only [AM, initTm, Nat.reduceAdd, Nat.reduceEqDiff, reduceCtorEq, run_aaddr, run_stn, run_bld, bldV_nil, g5], by simp (maxSteps := 1000000) (disch := first | decide | omega | assumption | exact plain_int _ _ | exact plain_ints _ | exact plain_bool _ | exact one_int _ _ | exact plain_des _ | exact plain_rows _) only [AM, initTm, Nat.reduceAdd, Nat.reduceEqDiff, reduceCtorEq, run_aaddr, run_stn, run_bld, bldV_nil, g6], by simp (maxSteps := 1000000) (disch := first | decide | omega | assumption | exact plain_int _ _ | exact plain_ints _ | exact plain_bool _ | exact one_int _ _ | exact plain_des _ | exact plain_rows _) only [AM, initTm, Nat.reduceAdd, Nat.reduceEqDiff, reduceCtorEq, run_aaddr, run_stn, run_bld, bldV_nil, g19], by simp (maxSteps := 1000000) (disch := first | decide | omega | assumption | exact plain_int _ _ | exact plain_ints _ | exact plain_bool _ | exact one_int _ _ | exact plain_des _ | exact plain_rows _) only [AM, initTm, Nat.reduceAdd, Nat.reduceEqDiff, reduceCtorEq, run_aaddr, run_stn, run_bld, bldV_nil, g20], by simp (maxSteps := 1000000) (disch := first | decide | omega | assumption | exact plain_int _ _ | exact plain_ints _ | exact plain_bool _ | exact one_int _ _ | exact plain_des _ | exact plain_rows _) only [AM, initTm, Nat.reduceAdd, Nat.reduceEqDiff, reduceCtorEq, run_aaddr, run_stn, run_bld, bldV_nil, g21], by simp (maxSteps := 1000000) (disch := first | decide | omega | assumption | exact plain_int _ _ | exact plain_ints _ | exact plain_bool _ | exact one_int _ _ | exact plain_des _ | exact plain_rows _) only [AM, initTm, Nat.reduceAdd, Nat.reduceEqDiff, reduceCtorEq, run_aaddr, run_stn, run_bld, bldV_nil], by simp (maxSteps := 1000000) (disch := first | decide | omega | assumption | exact plain_int _ _ | exact plain_ints _ | exact plain_bool _ | exact one_int _ _ | exact plain_des _ | exact plain_rows _) only [AM, initTm, Nat.reduceAdd, Nat.reduceEqDiff, reduceCtorEq, run_aaddr, run_stn, run_bld, bldV_nil], by simp (maxSteps := 1000000) (disch := first | decide | omega | assumption | exact plain_int _ _ | exact plain_ints _ | exact plain_bool _ | exact one_int _ _ | exact plain_des _ | exact plain_rows _) only [AM, initTm, Nat.reduceAdd, Nat.reduceEqDiff, reduceCtorEq, run_aaddr, run_stn, run_bld, bldV_nil], by simp (maxSteps := 1000000) (disch := first | decide | omega | assumption | exact plain_int _ _ | exact plain_ints _ | exact plain_bool _ | exact one_int _ _ | exact plain_des _ | exact plain_rows _) only [AM, initTm, Nat.reduceAdd, Nat.reduceEqDiff, reduceCtorEq, run_aaddr, run_stn, run_bld, bldV_nil]; rfl, Nat.zero_le _, rfl, hG, by omega⟩ ?_
      clear g5 g6 g19 g20 g21 hG hol hsl hia hldk tm out
      rintro k s ⟨j, out, tm, rfl, g5, g6, g19, g20, g21, g8, g28, g29, g30, hj, rfl, hG, hol⟩
      by_cases hjl : (j : Int) < (i : Int)
      · have hbi := hb i
        have hbj := hb j
        have hand := abin_and_u (mask (d.rw i)) (mask (d.rw j)) (mask_lt _ hbi) (mask_lt _ hbj)
        have honc := OnesCount_spec (G := G) hO (mask (d.rw i) &&& mask (d.rw j)) (Nat.lt_of_le_of_lt Nat.and_le_left (mask_lt _ hbi))
        have hpm : pop 64 (mask (d.rw i) &&& mask (d.rw j)) = together (d.rw i) (d.rw j) := pop_mask _ _ hbi hbj (hnd i)
        rw [hpm] at honc
        have hil := iaddrV_lst
        have hlist : ((d.ml.take i).map (AV.int .u64)).length = i := by rw [List.length_map, List.length_take, hmll]; omega
        have hdrop : (((d.ml.take i).map (AV.int .u64)).drop j).head? = some (.int .u64 ((mask (d.rw j) : Nat) : Int)) := by
          rw [head_drop_k _ _ _ (by rw [List.length_take, hmll]; omega), d.ml_take i j (by omega) hi]
        obtain ⟨x, hx⟩ : ∃ x : Int, x = (together (d.rw i) (d.rw j) : Int) := ⟨_, rfl⟩
        rw [← hx] at honc
        have hcont : ∀ tm rb, doCall F (E G F) .pureV 75 [(grownAt 2 3 (out.map (.int .i64))).1, .int .i64 x] ⟨tm, ⟨d.cells, 2, 39, .live⟩ :: ⟨d.ml.map (.int .u64), 1, 94, .frozen⟩ :: (grownAt 2 3 (out.map (.int .i64))).2, rb⟩ = some (.bool (decide (x ∈ out)), ⟨tm, ⟨d.cells, 2, 39, .live⟩ :: ⟨d.ml.map (.int .u64), 1, 94, .frozen⟩ :: (grownAt 2 3 (out.map (.int .i64))).2, rb⟩) := fun tm rb => by
          have hp := Contains_spec (G := G) hCo hIx (optL out) x (by rw [optL_getD]; omega)
          rw [optL_getD] at hp
          refine doCall_reifyV (by simp) ?_ hp
          have hr := reify_grownAt [⟨d.cells, 2, 39, .live⟩, ⟨d.ml.map (.int .u64), 1, 94, .frozen⟩] 2 rfl 3 out _ rfl
          rw [List.mapM_cons, List.mapM_cons]
          show (reify reifyDepth ([⟨d.cells, 2, 39, .live⟩, ⟨d.ml.map (.int .u64), 1, 94, .frozen⟩] ++ (grownAt 2 3 (out.map (.int .i64))).2) (grownAt 2 3 (out.map (.int .i64))).1 >>= _) = _
          rw [hr]; rfl
        have happ : ∀ tm rb, appV ⟨tm, ⟨d.cells, 2, 39, .live⟩ :: ⟨d.ml.map (.int .u64), 1, 94, .frozen⟩ :: (grownAt 2 3 (out.map (.int .i64))).2, rb⟩ none 3 1 8 (grownAt 2 3 (out.map (.int .i64))).1 (.lst 1 [.int .i64 x]) = some ((grownAt 2 3 ((out ++ [x]).map (.int .i64))).1, ⟨tm, ⟨d.cells, 2, 39, .live⟩ :: ⟨d.ml.map (.int .u64), 1, 94, .frozen⟩ :: (grownAt 2 3 ((out ++ [x]).map (.int .i64))).2, rb⟩) := fun tm rb => by
          have := appV_grownAt [⟨d.cells, 2, 39, .live⟩, ⟨d.ml.map (.int .u64), 1, 94, .frozen⟩] 2 rfl tm rb 3 8 (.int .i64 x) (out.map (.int .i64)) rfl (by rw [List.length_map]; omega) (by rw [List.length_map]; omega)
          rw [List.map_append]
          exact this
        have hmem : ∀ y, (∃ a b, b < a ∧ (a < i ∨ a = i ∧ b < j + 1) ∧ y = (together (d.rw a) (d.rw b) : Int)) ↔ y ∈ out ∨ y = x := by
          intro y
          rw [hG.mem]
          constructor
          · rintro ⟨a, b, h1, h2, h3⟩
            by_cases e : a = i ∧ b = j
            · obtain ⟨rfl, rfl⟩ := e
              exact .inr (h3.trans hx.symm)
            · exact .inl ⟨a, b, h1, by omega, h3⟩
          · rintro (⟨a, b, h1, h2, h3⟩ | h)
            · exact ⟨a, b, h1, by omega, h3⟩
            · exact ⟨i, j, by omega, by omega, h.trans hx⟩
        repeat' first
          | refine W_seq ?_
          | refine W_skip ?_
          | refine W_exit ?_
          | refine W_ret ?_
          | refine W_block ?_
          | (refine W_ops (by simp (maxSteps := 1000000) (disch := first | decide | omega | assumption | exact plain_int _ _ | exact plain_ints _ | exact plain_bool _ | exact one_int _ _ | exact plain_des _ | exact plain_rows _) only [AM, initTm, Nat.reduceAdd, Nat.reduceEqDiff, reduceCtorEq, run_aaddr, run_stn, run_bld, bldV_nil, g5, g6, g19, g20, g21, g8, g28, g29, g30, hjl, hil, hlist, hdrop, hand, honc, hcont, happ]; rfl) ?_)
          | (refine W_cond (by simp (maxSteps := 1000000) (disch := first | decide | omega | assumption | exact plain_int _ _ | exact plain_ints _ | exact plain_bool _ | exact one_int _ _ | exact plain_des _ | exact plain_rows _) only [AM, initTm, Nat.reduceAdd, Nat.reduceEqDiff, reduceCtorEq, run_aaddr, run_stn, run_bld, bldV_nil, g5, g6, g19, g20, g21, g8, g28, g29, g30, hjl, hil, hlist, hdrop, hand, honc, hcont, happ]; rfl) ?_ ?_ <;> intro hcond <;> (try simp only [decide_eq_true_eq, decide_eq_false_iff_not, beq_iff_eq, beq_eq_false_iff_ne, ne_eq, reduceCtorEq, Bool.not_eq_true', Bool.not_eq_false', bne_iff_ne, bne_eq_false_iff_eq] at hcond) <;> (try (exfalso; omega)))
          | refine thenQ_n ?_
          | refine thenQ_e ?_
          | refine thenQ_r ?_
          | refine outQ_n ?_
          | refine outQ_r ?_
          | refine outQ_e ?_
          | refine outQ_d (by decide) ?_
        · exact ⟨i - (j + 1), by omega, j + 1, out ++ [x], _, rfl, by simp (maxSteps := 1000000) (disch := first | decide | omega | assumption | exact plain_int _ _ | exact plain_ints _ | exact plain_bool _ | exact one_int _ _ | exact plain_des _ | exact plain_rows _) only [AM, initTm, Nat.reduceAdd, Nat.reduceEqDiff, reduceCtorEq, run_aaddr, run_stn, run_bld, bldV_nil], by simp (maxSteps := 1000000) (disch := first | decide | omega | assumption | exact plain_int _ _ | exact plain_ints _ | exact plain_bool _ | exact one_int _ _ | exact plain_des _ | exact plain_rows _) only [AM, initTm, Nat.reduceAdd, Nat.reduceEqDiff, reduceCtorEq, run_aaddr, run_stn, run_bld, bldV_nil, g6], by simp (maxSteps := 1000000) (disch := first | decide | omega | assumption | exact plain_int _ _ | exact plain_ints _ | exact plain_bool _ | exact one_int _ _ | exact plain_des _ | exact plain_rows _) only [AM, initTm, Nat.reduceAdd, Nat.reduceEqDiff, reduceCtorEq, run_aaddr, run_stn, run_bld, bldV_nil, g19], by simp (maxSteps := 1000000) (disch := first | decide | omega | assumption | exact plain_int _ _ | exact plain_ints _ | exact plain_bool _ | exact one_int _ _ | exact plain_des _ | exact plain_rows _) only [AM, initTm, Nat.reduceAdd, Nat.reduceEqDiff, reduceCtorEq, run_aaddr, run_stn, run_bld, bldV_nil, g20], by simp (maxSteps := 1000000) (disch := first | decide | omega | assumption | exact plain_int _ _ | exact plain_ints _ | exact plain_bool _ | exact one_int _ _ | exact plain_des _ | exact plain_rows _) only [AM, initTm, Nat.reduceAdd, Nat.reduceEqDiff, reduceCtorEq, run_aaddr, run_stn, run_bld, bldV_nil, g21], by simp (maxSteps := 1000000) (disch := first | decide | omega | assumption | exact plain_int _ _ | exact plain_ints _ | exact plain_bool _ | exact one_int _ _ | exact plain_des _ | exact plain_rows _) only [AM, initTm, Nat.reduceAdd, Nat.reduceEqDiff, reduceCtorEq, run_aaddr, run_stn, run_bld, bldV_nil, g8], by simp (maxSteps := 1000000) (disch := first | decide | omega | assumption | exact plain_int _ _ | exact plain_ints _ | exact plain_bool _ | exact one_int _ _ | exact plain_des _ | exact plain_rows _) only [AM, initTm, Nat.reduceAdd, Nat.reduceEqDiff, reduceCtorEq, run_aaddr, run_stn, run_bld, bldV_nil, g28], by simp (maxSteps := 1000000) (disch := first | decide | omega | assumption | exact plain_int _ _ | exact plain_ints _ | exact plain_bool _ | exact one_int _ _ | exact plain_des _ | exact plain_rows _) only [AM, initTm, Nat.reduceAdd, Nat.reduceEqDiff, reduceCtorEq, run_aaddr, run_stn, run_bld, bldV_nil, g29], by simp (maxSteps := 1000000) (disch := first | decide | omega | assumption | exact plain_int _ _ | exact plain_ints _ | exact plain_bool _ | exact one_int _ _ | exact plain_des _ | exact plain_rows _) only [AM, initTm, Nat.reduceAdd, Nat.reduceEqDiff, reduceCtorEq, run_aaddr, run_stn, run_bld, bldV_nil]; rfl, by omega, rfl, ⟨by
            rw [List.nodup_append]
            exact ⟨hG.nodup, by simp, fun a ha b hb => by rw [List.mem_singleton] at hb; subst hb; intro e; subst e; exact hcond ha⟩, fun y => by rw [hmem, List.mem_append, List.mem_singleton]⟩, by rw [List.length_append]; simp; omega⟩
        · exact ⟨i - (j + 1), by omega, j + 1, out, _, rfl, by simp (maxSteps := 1000000) (disch := first | decide | omega | assumption | exact plain_int _ _ | exact plain_ints _ | exact plain_bool _ | exact one_int _ _ | exact plain_des _ | exact plain_rows _) only [AM, initTm, Nat.reduceAdd, Nat.reduceEqDiff, reduceCtorEq, run_aaddr, run_stn, run_bld, bldV_nil, g5], by simp (maxSteps := 1000000) (disch := first | decide | omega | assumption | exact plain_int _ _ | exact plain_ints _ | exact plain_bool _ | exact one_int _ _ | exact plain_des _ | exact plain_rows _) only [AM, initTm, Nat.reduceAdd, Nat.reduceEqDiff, reduceCtorEq, run_aaddr, run_stn, run_bld, bldV_nil, g6], by simp (maxSteps := 1000000) (disch := first | decide | omega | assumption | exact plain_int _ _ | exact plain_ints _ | exact plain_bool _ | exact one_int _ _ | exact plain_des _ | exact plain_rows _) only [AM, initTm, Nat.reduceAdd, Nat.reduceEqDiff, reduceCtorEq, run_aaddr, run_stn, run_bld, bldV_nil, g19], by simp (maxSteps := 1000000) (disch := first | decide | omega | assumption | exact plain_int _ _ | exact plain_ints _ | exact plain_bool _ | exact one_int _ _ | exact plain_des _ | exact plain_rows _) only [AM, initTm, Nat.reduceAdd, Nat.reduceEqDiff, reduceCtorEq, run_aaddr, run_stn, run_bld, bldV_nil, g20], by simp (maxSteps := 1000000) (disch := first | decide | omega | assumption | exact plain_int _ _ | exact plain_ints _ | exact plain_bool _ | exact one_int _ _ | exact plain_des _ | exact plain_rows _) only [AM, initTm, Nat.reduceAdd, Nat.reduceEqDiff, reduceCtorEq, run_aaddr, run_stn, run_bld, bldV_nil, g21], by simp (maxSteps := 1000000) (disch := first | decide | omega | assumption | exact plain_int _ _ | exact plain_ints _ | exact plain_bool _ | exact one_int _ _ | exact plain_des _ | exact plain_rows _) only [AM, initTm, Nat.reduceAdd, Nat.reduceEqDiff, reduceCtorEq, run_aaddr, run_stn, run_bld, bldV_nil, g8], by simp (maxSteps := 1000000) (disch := first | decide | omega | assumption | exact plain_int _ _ | exact plain_ints _ | exact plain_bool _ | exact one_int _ _ | exact plain_des _ | exact plain_rows _) only [AM, initTm, Nat.reduceAdd, Nat.reduceEqDiff, reduceCtorEq, run_aaddr, run_stn, run_bld, bldV_nil, g28], by simp (maxSteps := 1000000) (disch := first | decide | omega | assumption | exact plain_int _ _ | exact plain_ints _ | exact plain_bool _ | exact one_int _ _ | exact plain_des _ | exact plain_rows _) only [AM, initTm, Nat.reduceAdd, Nat.reduceEqDiff, reduceCtorEq, run_aaddr, run_stn, run_bld, bldV_nil, g29], by simp (maxSteps := 1000000) (disch := first | decide | omega | assumption | exact plain_int _ _ | exact plain_ints _ | exact plain_bool _ | exact one_int _ _ | exact plain_des _ | exact plain_rows _) only [AM, initTm, Nat.reduceAdd, Nat.reduceEqDiff, reduceCtorEq, run_aaddr, run_stn, run_bld, bldV_nil]; rfl, by omega, rfl, ⟨hG.nodup, fun y => by
            rw [hmem]
            exact ⟨.inl, fun h => h.elim id fun e => by rw [e]; exact hcond⟩⟩, by omega⟩
      · repeat' first
          | refine W_seq ?_
          | refine W_skip ?_
          | refine W_exit ?_
          | refine W_ret ?_
          | refine W_block ?_
          | (refine W_ops (by simp (maxSteps := 1000000) (disch := first | decide | omega | assumption | exact plain_int _ _ | exact plain_ints _ | exact plain_bool _ | exact one_int _ _ | exact plain_des _ | exact plain_rows _) only [AM, initTm, Nat.reduceAdd, Nat.reduceEqDiff, reduceCtorEq, run_aaddr, run_stn, run_bld, bldV_nil, g5, g6, g19, g20, g21, g8, g28, g29, g30, hjl]; rfl) ?_)
          | (refine W_cond (by simp (maxSteps := 1000000) (disch := first | decide | omega | assumption | exact plain_int _ _ | exact plain_ints _ | exact plain_bool _ | exact one_int _ _ | exact plain_des _ | exact plain_rows _) only [AM, initTm, Nat.reduceAdd, Nat.reduceEqDiff, reduceCtorEq, run_aaddr, run_stn, run_bld, bldV_nil, g5, g6, g19, g20, g21, g8, g28, g29, g30, hjl]; rfl) ?_ ?_ <;> intro hcond <;> (try simp only [decide_eq_true_eq, decide_eq_false_iff_not, beq_iff_eq, beq_eq_false_iff_ne, ne_eq, reduceCtorEq, Bool.not_eq_true', Bool.not_eq_false', bne_iff_ne, bne_eq_false_iff_eq] at hcond) <;> (try (exfalso; omega)))
          | refine thenQ_n ?_
          | refine thenQ_e ?_
          | refine thenQ_r ?_
          | refine outQ_n ?_
          | refine outQ_r ?_
          | refine outQ_e ?_
          | refine outQ_d (by decide) ?_
        have ej : j = i := by omega
        subst ej
        exact ⟨d.rows.length - (j + 1), by omega, j + 1, out, .frozen, _, rfl, by simp (maxSteps := 1000000) (disch := first | decide | omega | assumption | exact plain_int _ _ | exact plain_ints _ | exact plain_bool _ | exact one_int _ _ | exact plain_des _ | exact plain_rows _) only [AM, initTm, Nat.reduceAdd, Nat.reduceEqDiff, reduceCtorEq, run_aaddr, run_stn, run_bld, bldV_nil, g5], by simp (maxSteps := 1000000) (disch := first | decide | omega | assumption | exact plain_int _ _ | exact plain_ints _ | exact plain_bool _ | exact one_int _ _ | exact plain_des _ | exact plain_rows _) only [AM, initTm, Nat.reduceAdd, Nat.reduceEqDiff, reduceCtorEq, run_aaddr, run_stn, run_bld, bldV_nil, g6], by simp (maxSteps := 1000000) (disch := first | decide | omega | assumption | exact plain_int _ _ | exact plain_ints _ | exact plain_bool _ | exact one_int _ _ | exact plain_des _ | exact plain_rows _) only [AM, initTm, Nat.reduceAdd, Nat.reduceEqDiff, reduceCtorEq, run_aaddr, run_stn, run_bld, bldV_nil, g19], by simp (maxSteps := 1000000) (disch := first | decide | omega | assumption | exact plain_int _ _ | exact plain_ints _ | exact plain_bool _ | exact one_int _ _ | exact plain_des _ | exact plain_rows _) only [AM, initTm, Nat.reduceAdd, Nat.reduceEqDiff, reduceCtorEq, run_aaddr, run_stn, run_bld, bldV_nil, g20], by simp (maxSteps := 1000000) (disch := first | decide | omega | assumption | exact plain_int _ _ | exact plain_ints _ | exact plain_bool _ | exact one_int _ _ | exact plain_des _ | exact plain_rows _) only [AM, initTm, Nat.reduceAdd, Nat.reduceEqDiff, reduceCtorEq, run_aaddr, run_stn, run_bld, bldV_nil]; rfl, by omega, rfl, by decide, ⟨hG.nodup, fun y => by
          rw [hG.mem]
          exact ⟨fun ⟨a, b, h1, h2, h3⟩ => ⟨a, b, h1, by omega, h3⟩, fun ⟨a, b, h1, h2, h3⟩ => ⟨a, b, h1, by omega, h3⟩⟩⟩, by omega⟩
    · have ei : i = d.rows.length := by omega
      have hsn : ∀ tm rb, doCall F (E G F) .shared 65 [(grownAt 2 3 (out.map (.int .i64))).1] ⟨tm, ⟨d.cells, 2, 39, .live⟩ :: ⟨d.ml.map (.int .u64), 1, 94, stt⟩ :: (grownAt 2 3 (out.map (.int .i64))).2, rb⟩ = some (.tup [], ⟨tm, ⟨d.cells, 2, 39, .live⟩ :: ⟨d.ml.map (.int .u64), 1, 94, stt⟩ :: (grownAt 2 3 ((sorted out).map (.int .i64))).2, rb⟩) := fun tm rb =>
        doCall_sort (G := G) hSo [⟨d.cells, 2, 39, .live⟩, ⟨d.ml.map (.int .u64), 1, 94, stt⟩] 2 rfl 3 out (by omega) tm rb
      have hv1 : (grownAt 2 3 (out.map (.int .i64))).1 = (grownAt 2 3 ((sorted out).map (.int .i64))).1 := by
        have := sorted_length out
        cases h1 : out with
        | nil => rw [show sorted [] = [] by simp [sorted]]
        | cons a l =>
          rw [h1] at this
          cases h2 : sorted (a :: l) with
          | nil => rw [h2] at this; simp at this
          | cons b r => rw [h2] at this; simp only [grownAt, List.map_cons, List.length_cons, List.length_map]; simp at this; rw [this]
      repeat' first
        | refine W_seq ?_
        | refine W_skip ?_
        | refine W_exit ?_
        | refine W_ret ?_
        | refine W_block ?_
        | (refine W_ops (by simp (maxSteps := 1000000) (disch := first | decide | omega | assumption | exact plain_int _ _ | exact plain_ints _ | exact plain_bool _ | exact one_int _ _ | exact plain_des _ | exact plain_rows _) only [AM, initTm, Nat.reduceAdd, Nat.reduceEqDiff, reduceCtorEq, run_aaddr, run_stn, run_bld, bldV_nil, g5, g6, g19, g20, g21, hlt, hsn]; rfl) ?_)
        | (refine W_cond (by simp (maxSteps := 1000000) (disch := first | decide | omega | assumption | exact plain_int _ _ | exact plain_ints _ | exact plain_bool _ | exact one_int _ _ | exact plain_des _ | exact plain_rows _) only [AM, initTm, Nat.reduceAdd, Nat.reduceEqDiff, reduceCtorEq, run_aaddr, run_stn, run_bld, bldV_nil, g5, g6, g19, g20, g21, hlt, hsn]; rfl) ?_ ?_ <;> intro hcond <;> (try simp only [decide_eq_true_eq, decide_eq_false_iff_not, beq_iff_eq, beq_eq_false_iff_ne, ne_eq, reduceCtorEq, Bool.not_eq_true', Bool.not_eq_false', bne_iff_ne, bne_eq_false_iff_eq] at hcond) <;> (try (exfalso; omega)))
        | refine thenQ_n ?_
        | refine thenQ_e ?_
        | refine thenQ_r ?_
        | refine outQ_n ?_
        | refine outQ_r ?_
        | refine outQ_e ?_
        | refine outQ_d (by decide) ?_
      refine ⟨.inr rfl, [(grownAt 2 3 ((sorted out).map (.int .i64))).1, .int .i64 0], .tup [ints (optL (sorted out)), .int .i64 0], mapM_two (rvar_tmp (by simp (maxSteps := 1000000) (disch := first | decide | omega | assumption | exact plain_int _ _ | exact plain_ints _ | exact plain_bool _ | exact one_int _ _ | exact plain_des _ | exact plain_rows _) only [AM, initTm, Nat.reduceAdd, Nat.reduceEqDiff, reduceCtorEq, run_aaddr, run_stn, run_bld, bldV_nil, g5, hv1]) _ _) (rvar_tmp (by simp (maxSteps := 1000000) (disch := first | decide | omega | assumption | exact plain_int _ _ | exact plain_ints _ | exact plain_bool _ | exact one_int _ _ | exact plain_des _ | exact plain_rows _) only [AM, initTm, Nat.reduceAdd, Nat.reduceEqDiff, reduceCtorEq, run_aaddr, run_stn, run_bld, bldV_nil]) _ _), fun _ _ h => (by cases h), ?_, ?_, out, rfl, ei ▸ hG⟩
      · have hr := reify_grownAt7 [⟨d.cells, 2, 39, .live⟩, ⟨d.ml.map (.int .u64), 1, 94, stt⟩] 2 rfl 3 (sorted out)
        show ([(grownAt 2 3 ((sorted out).map (.int .i64))).1, AV.int .i64 0].mapM (reify 7 ([⟨d.cells, 2, 39, .live⟩, ⟨d.ml.map (.int .u64), 1, 94, stt⟩] ++ (grownAt 2 3 ((sorted out).map (.int .i64))).2))).map AV.tup = _
        rw [List.mapM_cons, hr]; rfl
      · have hal := alias_grownAt [⟨d.cells, 2, 39, .live⟩, ⟨d.ml.map (.int .u64), 1, 94, stt⟩] 2 rfl 3 (sorted out) 5
        show (alias 7 ([⟨d.cells, 2, 39, .live⟩, ⟨d.ml.map (.int .u64), 1, 94, stt⟩] ++ (grownAt 2 3 ((sorted out).map (.int .i64))).2) (grownAt 2 3 ((sorted out).map (.int .i64))).1 || ([AV.int .i64 0].any (alias 7 ([⟨d.cells, 2, 39, .live⟩, ⟨d.ml.map (.int .u64), 1, 94, stt⟩] ++ (grownAt 2 3 ((sorted out).map (.int .i64))).2)))) = false
        rw [hal]; rfl
end
end Go.Am
