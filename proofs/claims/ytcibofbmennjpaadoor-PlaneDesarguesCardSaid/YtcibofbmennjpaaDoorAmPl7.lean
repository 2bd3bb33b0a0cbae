/- Sets of points as bits: OnesCount64, sets; slices of one's own at any place. -/
import Derived.Test.YtcibofbmennjpaaDoorAmPl6
import Derived.Test.YtcibofbmennjpaaDoorAmSort
set_option linter.unusedVariables false
set_option linter.unusedSimpArgs false
namespace Go.Am

theorem u64w {n : Int} (h1 : 0 ≤ n) (h2 : n < 18446744073709551616) : IntKind.u64.wrap n = n := by
  rw [IntKind.wrap_u64]; omega
theorem bvn (n : Nat) (h : n < 18446744073709551616) : (BitVec.ofInt IntKind.u64.bits (n : Int)).toNat = n := by
  rw [BitVec.ofInt_natCast, BitVec.toNat_ofNat]
  exact Nat.mod_eq_of_lt h
theorem abin_and_u (a b : Nat) (ha : a < 18446744073709551616) (hb : b < 18446744073709551616) : abin .and (.int .u64 (a : Int)) (.int .u64 (b : Int)) = some (.int .u64 ((a &&& b : Nat) : Int)) := by
  simp only [abin, if_true, BitVec.toNat_and, bvn a ha, bvn b hb]
  have : a &&& b < 18446744073709551616 := Nat.lt_of_le_of_lt Nat.and_le_left ha
  rw [u64w (by omega) (by omega)]
theorem abin_or_u (a b : Nat) (ha : a < 18446744073709551616) (hb : b < 18446744073709551616) : abin .or (.int .u64 (a : Int)) (.int .u64 (b : Int)) = some (.int .u64 ((a ||| b : Nat) : Int)) := by
  simp only [abin, if_true, BitVec.toNat_or, bvn a ha, bvn b hb]
  have : a ||| b < 2 ^ 64 := Nat.or_lt_two_pow ha hb
  rw [u64w (by omega) (by omega)]
theorem abin_shr_u (a k : Nat) (h : k ≤ 64) : abin .shr (.int .u64 (a : Int)) (.int .u64 (k : Int)) = some (.int .u64 ((a / 2 ^ k : Nat) : Int)) := by
  simp only [abin]
  rw [if_neg (by omega), Int.toNat_natCast, show min k IntKind.u64.bits = k from Nat.min_eq_left h, Int.fdiv_eq_ediv_of_nonneg _ (by exact Int.pow_nonneg (by decide))]
  simp
theorem abin_shl_1 (k : Int) (h : 0 ≤ k ∧ k < 64) : abin .shl (.int .u64 1) (.int .i64 k) = some (.int .u64 ((2 ^ k.toNat : Nat) : Int)) := by
  simp only [abin]
  have h2 : 2 ^ k.toNat < 2 ^ 64 := Nat.pow_lt_pow_right (by decide) (by omega)
  rw [if_neg (by omega), show min k.toNat IntKind.u64.bits = k.toNat from Nat.min_eq_left (by show _ ≤ 64; omega)]
  have e : (1 : Int) * 2 ^ k.toNat = ((2 ^ k.toNat : Nat) : Int) := by simp
  rw [e]
  generalize 2 ^ k.toNat = y at *
  rw [u64w (by omega) (by omega)]

section
variable {G : Nat → List AV} {F : Nat → Option MF} {rec : Rec}

theorem OnesCount_spec (hF : F 74 = some mf74) (x : Nat) (hx : x < 18446744073709551616) :
    pcall F (E G F) 74 [.int .u64 x] = some (.val (.int .i64 (pop 64 x)), false) := by
  obtain ⟨f1, f2, f3⟩ := fold8 x
  rw [← steps x] at f1 f2
  have b1 : stA (rep8 85 8) 1 x < 256 ^ 8 := by rw [tA_spec]; exact byt_lt _ tA_lt 8 x
  have b2 : stA (rep8 51 8) 2 (stA (rep8 85 8) 1 x) ≤ rep8 68 8 := by rw [tA_spec, tB_spec, byt_comp _ _ tA_lt]; exact byt_le _ 68 (fun q hq => by have := tBA q hq; omega) 8 x
  have e85 : rep8 85 8 = 6148914691236517205 := by decide +kernel
  have e51 : rep8 51 8 = 3689348814741910323 := by decide +kernel
  have e15 : rep8 15 8 = 1085102592571150095 := by decide +kernel
  have e68 : rep8 68 8 = 4919131752989213764 := by decide +kernel
  rw [e85, e51, e15] at f1 f2
  rw [e85] at b1
  rw [e85, e51, e68] at b2
  have hw : ∀ (a b c : Nat), a + b = c → c < 18446744073709551616 → IntKind.u64.wrap ((a : Int) + (b : Int)) = (c : Int) := fun a b c h1 h2 => by rw [u64w (by omega) (by omega)]; omega
  generalize hy1 : stA 6148914691236517205 1 x = y1 at *
  generalize hy2 : stA 3689348814741910323 2 y1 = y2 at *
  generalize hy3 : stC 1085102592571150095 y2 = y3 at *
  have s1 : abin .shr (.int .u64 (x : Int)) (.int .u64 1) = some (.int .u64 ((x / 2 : Nat) : Int)) := abin_shr_u x 1 (by decide)
  have a1 : abin .and (.int .u64 ((x / 2 : Nat) : Int)) (.int .u64 6148914691236517205) = some (.int .u64 ((x / 2 &&& 6148914691236517205 : Nat) : Int)) := abin_and_u (x / 2) 6148914691236517205 (by omega) (by decide)
  have a2 : abin .and (.int .u64 (x : Int)) (.int .u64 6148914691236517205) = some (.int .u64 ((x &&& 6148914691236517205 : Nat) : Int)) := abin_and_u x 6148914691236517205 hx (by decide)
  have w1 : IntKind.u64.wrap (((x / 2 &&& 6148914691236517205 : Nat) : Int) + ((x &&& 6148914691236517205 : Nat) : Int)) = (y1 : Int) := hw _ _ _ hy1 (by omega)
  have s3 : abin .shr (.int .u64 (y1 : Int)) (.int .u64 2) = some (.int .u64 ((y1 / 4 : Nat) : Int)) := abin_shr_u y1 2 (by decide)
  have a3 : abin .and (.int .u64 ((y1 / 4 : Nat) : Int)) (.int .u64 3689348814741910323) = some (.int .u64 ((y1 / 4 &&& 3689348814741910323 : Nat) : Int)) := abin_and_u (y1 / 4) 3689348814741910323 (by omega) (by decide)
  have a4 : abin .and (.int .u64 (y1 : Int)) (.int .u64 3689348814741910323) = some (.int .u64 ((y1 &&& 3689348814741910323 : Nat) : Int)) := abin_and_u y1 3689348814741910323 (by omega) (by decide)
  have w2 : IntKind.u64.wrap (((y1 / 4 &&& 3689348814741910323 : Nat) : Int) + ((y1 &&& 3689348814741910323 : Nat) : Int)) = (y2 : Int) := hw _ _ _ hy2 (by omega)
  have s5 : abin .shr (.int .u64 (y2 : Int)) (.int .u64 4) = some (.int .u64 ((y2 / 16 : Nat) : Int)) := abin_shr_u y2 4 (by decide)
  have w3 : IntKind.u64.wrap (((y2 / 16 : Nat) : Int) + (y2 : Int)) = ((y2 / 16 + y2 : Nat) : Int) := hw _ _ _ rfl (by omega)
  have a5 : abin .and (.int .u64 ((y2 / 16 + y2 : Nat) : Int)) (.int .u64 1085102592571150095) = some (.int .u64 (y3 : Int)) := by rw [← hy3]; exact abin_and_u (y2 / 16 + y2) 1085102592571150095 (by omega) (by decide)
  have s6 : abin .shr (.int .u64 (y3 : Int)) (.int .u64 8) = some (.int .u64 ((y3 / 256 : Nat) : Int)) := abin_shr_u y3 8 (by decide)
  have w4 : IntKind.u64.wrap ((y3 : Int) + ((y3 / 256 : Nat) : Int)) = ((y3 + y3 / 256 : Nat) : Int) := hw _ _ _ rfl (by omega)
  generalize hy4 : y3 + y3 / 256 = y4 at *
  have s7 : abin .shr (.int .u64 (y4 : Int)) (.int .u64 16) = some (.int .u64 ((y4 / 65536 : Nat) : Int)) := abin_shr_u y4 16 (by decide)
  have w5 : IntKind.u64.wrap ((y4 : Int) + ((y4 / 65536 : Nat) : Int)) = ((y4 + y4 / 65536 : Nat) : Int) := hw _ _ _ rfl (by omega)
  generalize hy5 : y4 + y4 / 65536 = y5 at *
  have s8 : abin .shr (.int .u64 (y5 : Int)) (.int .u64 32) = some (.int .u64 ((y5 / 4294967296 : Nat) : Int)) := abin_shr_u y5 32 (by decide)
  have w6 : IntKind.u64.wrap ((y5 : Int) + ((y5 / 4294967296 : Nat) : Int)) = ((y5 + y5 / 4294967296 : Nat) : Int) := hw _ _ _ rfl (by omega)
  generalize hy6 : y5 + y5 / 4294967296 = y6 at *
  have h6 : y6 < 9223372036854775808 := by omega
  have a7 : abin .and (.int .i64 (y6 : Int)) (.int .i64 127) = some (.int .i64 (pop 64 x)) := by
    have e1 : (BitVec.ofInt IntKind.i64.bits (y6 : Int)).toNat = y6 := by
      rw [BitVec.ofInt_natCast, BitVec.toNat_ofNat]
      exact Nat.mod_eq_of_lt (show y6 < 2 ^ 64 by omega)
    have e2 : (BitVec.ofInt IntKind.i64.bits 127).toNat = 2 ^ 7 - 1 := by decide
    simp only [abin, if_true, BitVec.toNat_and, e1, e2]
    rw [Nat.and_two_pow_sub_one_eq_mod, show (2 : Nat) ^ 7 = 128 from rfl, f1, i64w (by omega) (by omega)]
  have w7 : IntKind.i64.wrap (y6 : Int) = (y6 : Int) := i64w (by omega) (by omega)
  refine pcall_val hF (v := .int .i64 (pop 64 x)) (fun _ _ h => by cases h) ?_ (fun _ => rfl) (fun _ => rfl)
  unfold mf74
  simp only
  repeat' first
    | refine W_seq ?_
    | refine W_skip ?_
    | refine W_exit ?_
    | refine W_ret ?_
    | refine W_block ?_
    | (refine W_ops (by simp (disch := first | decide | omega | assumption | exact plain_int _ _ | exact plain_ints _ | exact plain_bool _ | exact one_int _ _ | exact plain_des _ | exact plain_rows _) only [AM, initTm, Nat.reduceAdd, Nat.reduceEqDiff, reduceCtorEq, s1, a1, a2, w1, s3, a3, a4, w2, s5, w3, a5, s6, w4, s7, w5, s8, w6, w7, a7]; rfl) ?_)
    | (refine W_cond (by simp (disch := first | decide | omega | assumption | exact plain_int _ _ | exact plain_ints _ | exact plain_bool _ | exact one_int _ _ | exact plain_des _ | exact plain_rows _) only [AM, initTm, Nat.reduceAdd, Nat.reduceEqDiff, reduceCtorEq, s1, a1, a2, w1, s3, a3, a4, w2, s5, w3, a5, s6, w4, s7, w5, s8, w6, w7, a7]; rfl) ?_ ?_ <;> intro hcond <;> (try simp only [decide_eq_true_eq, decide_eq_false_iff_not, beq_iff_eq, beq_eq_false_iff_ne, ne_eq, reduceCtorEq, Bool.not_eq_true', Bool.not_eq_false', bne_iff_ne, bne_eq_false_iff_eq] at hcond) <;> (try (exfalso; omega)))
    | refine thenQ_n ?_
    | refine thenQ_e ?_
    | refine thenQ_r ?_
    | refine outQ_n ?_
    | refine outQ_r ?_
    | refine outQ_e ?_
    | refine outQ_d (by decide) ?_
  refine ⟨.inr rfl, [_], rfl, ?_⟩
  rw [tuple_one]
  simp (disch := first | decide | omega | assumption | exact plain_int _ _ | exact plain_ints _ | exact plain_bool _ | exact one_int _ _ | exact plain_des _ | exact plain_rows _) only [AM, initTm, Nat.reduceAdd, Nat.reduceEqDiff, reduceCtorEq]

/-- A slice that grows, at place k of the boxes. -/
def grownAt (k : Nat) (e : TypeId) (cs : List AV) : AV × List Box := match cs with
  | [] => (.nil, [])
  | _ => (.own k cs.length, [⟨cs, 1, e, .live⟩])
theorem appV_grownAt (pre : List Box) (k : Nat) (hk : pre.length = k) (tm : Tm) (rb : Nat) (e : TypeId) (bytes : Nat) (c : AV) (cs : List AV) (hc : c.one = true) (hb : (cs.length + 1) * bytes ≤ 140737488355328) (hm : cs.length + 1 ≤ 9223372036854775807) :
    appV ⟨tm, pre ++ (grownAt k e cs).2, rb⟩ none e 1 bytes (grownAt k e cs).1 (.lst 1 [c]) = some ((grownAt k e (cs ++ [c])).1, ⟨tm, pre ++ (grownAt k e (cs ++ [c])).2, rb⟩) := by
  subst hk
  cases cs with
  | nil =>
    have := appV_nil1 tm pre rb e bytes c hc (by simpa using hb)
    simpa [grownAt] using this
  | cons a cs =>
    have := appV_own1 tm (pre ++ [⟨a :: cs, 1, e, .live⟩]) rb e bytes c pre.length (a :: cs).length (a :: cs) (by simp) rfl hc hb hm
    rw [show (grownAt pre.length e (a :: cs)).2 = [⟨a :: cs, 1, e, .live⟩] from rfl, show (grownAt pre.length e (a :: cs)).1 = .own pre.length (a :: cs).length from rfl, this]
    simp [grownAt]

/-- A slice of ints that is nil, if empty. -/
def optL (l : List Int) : Option (List Int) := match l with
  | [] => none
  | _ => some l
theorem optL_getD (l : List Int) : (optL l).getD [] = l := by cases l <;> rfl
theorem reify_own (f : Nat) (bx : List Box) (id n : Nat) : reify (f + 1) bx (.own id n) = (match bx[id]? with
    | some b => if b.status ≠ Status.fresh ∧ b.cs.length = n * b.sz then (b.cs.mapM (reify f bx)).map (AV.lst n ·) else none
    | none => none : Option AV) := rfl
theorem reify_grownAt (pre : List Box) (k : Nat) (hk : pre.length = k) (e : TypeId) (l : List Int) (st : List Box) (hst : st = pre ++ (grownAt k e (l.map (.int .i64))).2) : reify reifyDepth st (grownAt k e (l.map (.int .i64))).1 = some (ints (optL l)) := by
  subst hst hk
  cases l with
  | nil => rfl
  | cons a l =>
    rw [show reifyDepth = 7 + 1 from rfl]
    simp only [grownAt, List.map_cons]
    rw [reify_own]
    rw [List.getElem?_append_right (Nat.le_refl _), Nat.sub_self]
    simp only [List.getElem?_cons_zero]
    rw [if_pos ⟨by simp, by simp⟩]
    have : (AV.int .i64 a :: l.map (AV.int .i64)).mapM (reify 7 (pre ++ [⟨.int .i64 a :: l.map (.int .i64), 1, e, .live⟩])) = some (AV.int .i64 a :: l.map (AV.int .i64)) := by
      have : ∀ (bx : List Box) (l : List Int), (l.map (AV.int .i64)).mapM (reify 7 bx) = some (l.map (AV.int .i64)) := by
        intro bx l
        induction l with
        | nil => rfl
        | cons a l ih => rw [List.map_cons, List.mapM_cons, ih]; rfl
      exact this _ (a :: l)
    rw [this]
    rfl
theorem doCall_reifyV {f : Nat} {args xs : List AV} {st : St} {v : AV} (hl : args.length < 65535) (hm : args.mapM (reify reifyDepth st.bx) = some xs) (hp : pcall F rec f xs = some (.val v, false)) : doCall F rec .pureV f args st = some (v, st) := by
  unfold doCall
  rw [if_neg (by omega)]
  simp only [hm, hp]
  simp

/-- A function that hands back a slice of ints of its own, behind other boxes. -/
theorem pcall_grownAt {f : Nat} {mf : MF} (hf : F f = some mf) {args : List AV} {k : IntKind} {l : List Int} {e : TypeId} (m : Nat) (pre : List Box) (hm : pre.length = m)
    (h : W G F mf.body ⟨initTm 0 args .e, [], 0⟩ fun ex s => (ex = .normal ∨ ex = .ret) ∧ ∃ rs, mf.res.mapM (rvar s) = some rs ∧ tuple rs = (grownAt m e (l.map (.int k))).1 ∧ s.bx = pre ++ (grownAt m e (l.map (.int k))).2) :
    pcall F (E G F) f args = some (resOf e k l, false) := by
  subst hm
  obtain ⟨s, rs, h1, h2, h3⟩ := runBody_W h
  unfold pcall
  rw [hf]
  simp only [h1, h2]
  cases l with
  | nil => rfl
  | cons a l =>
    simp only [grownAt, List.map_cons, h3]
    rw [List.getElem?_append_right (Nat.le_refl _), Nat.sub_self]
    simp only [List.getElem?_cons_zero]
    rw [if_pos ⟨trivial, by simp⟩]
    have m := mapM_reify_ints (((pre ++ [⟨.int k a :: l.map (.int k), 1, e, .live⟩] : List Box)).set pre.length freshBox) k (a :: l)
    have al := alias_ints (((pre ++ [⟨.int k a :: l.map (.int k), 1, e, .live⟩] : List Box)).set pre.length freshBox) k (a :: l)
    rw [List.map_cons] at m al
    rw [m, al]
    simp [resOf]

/-- Every point of a block stands in the bits. -/
def Bits (b : List Int) : Prop := ∀ p ∈ b, 0 ≤ p ∧ p < 64

theorem mask_zero : ((0 : Nat) : Int) = 0 := rfl

/-- The first i blocks as bits. -/
def Des.masks (d : Des) : Nat → List AV
  | 0 => []
  | i + 1 => d.masks i ++ [.int .u64 ((mask ((d.rows.getD i none).getD []) : Nat) : Int)]
theorem Des.masks_eq (d : Des) (i : Nat) (h : i ≤ d.rows.length) : d.masks i = ((d.bl.take i).map fun b => ((mask b : Nat) : Int)).map (AV.int .u64) := by
  have hbl : d.bl.length = d.rows.length := by simp [Des.bl]
  induction i with
  | zero => rw [List.take_zero]; rfl
  | succ i ih =>
    rw [Des.masks, ih (by omega), List.take_succ_eq_append_getElem (by omega), List.map_append, List.map_append]
    congr 1
    simp only [List.map_cons, List.map_nil, Des.bl, List.getElem_map]
    rw [List.getD_eq_getElem?_getD, List.getElem?_eq_getElem (by omega)]
    rfl
theorem Des.masks_len (d : Des) (i : Nat) : (d.masks i).length = i := by
  induction i with
  | zero => rfl
  | succ i ih => simp [Des.masks, ih]

theorem sets_spec (hF : F 53 = some mf53) (d : Des) (hd : d.Ok) (hm : d.rows.length ≤ 200) (hb : ∀ i, Bits ((d.rows.getD i none).getD [])) :
    pcall F (E G F) 53 [d.av] = some (resOf 94 .u64 (d.bl.map fun b => ((mask b : Nat) : Int)), false) := by
  have hH : Has [⟨d.cells, 2, 39, .live⟩] 0 d.cells := Has.new _ _ _
  have hfa := fun tm rb o off => hH.faddr tm rb 2 o off rfl
  have hld := fun tm rb off => hH.ld1 tm rb 2 off rfl
  have hdn := hd.n
  refine pcall_grownAt hF 1 [⟨d.cells, 2, 39, .live⟩] rfl ?_
  unfold mf53
  simp only
  repeat' first
    | refine W_seq ?_
    | refine W_skip ?_
    | refine W_exit ?_
    | refine W_ret ?_
    | refine W_block ?_
    | (refine W_ops (by simp (disch := first | decide | omega | assumption | exact plain_int _ _ | exact plain_ints _ | exact plain_bool _ | exact one_int _ _ | exact plain_des _ | exact plain_rows _) only [AM, initTm, Nat.reduceAdd, Nat.reduceEqDiff, reduceCtorEq, hfa, hld]; rfl) ?_)
    | (refine W_cond (by simp (disch := first | decide | omega | assumption | exact plain_int _ _ | exact plain_ints _ | exact plain_bool _ | exact one_int _ _ | exact plain_des _ | exact plain_rows _) only [AM, initTm, Nat.reduceAdd, Nat.reduceEqDiff, reduceCtorEq, hfa, hld]; rfl) ?_ ?_ <;> intro hcond <;> (try simp only [decide_eq_true_eq, decide_eq_false_iff_not, beq_iff_eq, beq_eq_false_iff_ne, ne_eq, reduceCtorEq, Bool.not_eq_true', Bool.not_eq_false', bne_iff_ne, bne_eq_false_iff_eq] at hcond) <;> (try (exfalso; omega)))
    | refine thenQ_n ?_
    | refine thenQ_e ?_
    | refine thenQ_r ?_
    | refine outQ_n ?_
    | refine outQ_r ?_
    | refine outQ_e ?_
    | refine outQ_d (by decide) ?_
  refine W_loop (k := d.rows.length) (fun k s => ∃ (i : Nat) (tm : Tm), s = ⟨tm, [⟨d.cells, 2, 39, .live⟩] ++ (grownAt 1 94 (d.masks i)).2, 0⟩ ∧ tm.get 3 = (grownAt 1 94 (d.masks i)).1 ∧ tm.get 10 = rowsV d.blocks ∧ tm.get 11 = .int .i64 d.rows.length ∧ tm.get 12 = .int .i64 i ∧ i ≤ d.rows.length ∧ k = d.rows.length - i) ⟨0, _, rfl, by simp (disch := first | decide | omega | assumption | exact plain_int _ _ | exact plain_ints _ | exact plain_bool _ | exact one_int _ _ | exact plain_des _ | exact plain_rows _) only [AM, initTm, Nat.reduceAdd, Nat.reduceEqDiff, reduceCtorEq]; rfl, by simp (disch := first | decide | omega | assumption | exact plain_int _ _ | exact plain_ints _ | exact plain_bool _ | exact one_int _ _ | exact plain_des _ | exact plain_rows _) only [AM, initTm, Nat.reduceAdd, Nat.reduceEqDiff, reduceCtorEq], by simp (disch := first | decide | omega | assumption | exact plain_int _ _ | exact plain_ints _ | exact plain_bool _ | exact one_int _ _ | exact plain_des _ | exact plain_rows _) only [AM, initTm, Nat.reduceAdd, Nat.reduceEqDiff, reduceCtorEq], by simp (disch := first | decide | omega | assumption | exact plain_int _ _ | exact plain_ints _ | exact plain_bool _ | exact one_int _ _ | exact plain_des _ | exact plain_rows _) only [AM, initTm, Nat.reduceAdd, Nat.reduceEqDiff, reduceCtorEq]; rfl, Nat.zero_le _, rfl⟩ ?_
  rintro k s ⟨i, tm, rfl, g3, g10, g11, g12, hi, rfl⟩
  have hbl : d.bl.length = d.rows.length := by simp [Des.bl]
  have hcl := d.masks_len i
  have hsucc : d.masks (i + 1) = d.masks i ++ [.int .u64 ((mask ((d.rows.getD i none).getD []) : Nat) : Int)] := rfl
  have hmi := d.masks_eq i hi
  generalize hcs : d.masks i = cs at *
  generalize hbx : [(⟨d.cells, 2, 39, .live⟩ : Box)] ++ (grownAt 1 94 cs).2 = bx
  by_cases hlt : (i : Int) < (d.rows.length : Int)
  · have hri := hd.r i
    have hin : i < d.rows.length := by omega
    have hbi := hb i
    generalize hro : d.rows.getD i none = ro at *
    repeat' first
      | refine W_seq ?_
      | refine W_skip ?_
      | refine W_exit ?_
      | refine W_ret ?_
      | refine W_block ?_
      | (refine W_ops (by simp (disch := first | decide | omega | assumption | exact plain_int _ _ | exact plain_ints _ | exact plain_bool _ | exact one_int _ _ | exact plain_des _ | exact plain_rows _) only [AM, initTm, Nat.reduceAdd, Nat.reduceEqDiff, reduceCtorEq, g3, g10, g11, g12, hlt, hro]; rfl) ?_)
      | (refine W_cond (by simp (disch := first | decide | omega | assumption | exact plain_int _ _ | exact plain_ints _ | exact plain_bool _ | exact one_int _ _ | exact plain_des _ | exact plain_rows _) only [AM, initTm, Nat.reduceAdd, Nat.reduceEqDiff, reduceCtorEq, g3, g10, g11, g12, hlt, hro]; rfl) ?_ ?_ <;> intro hcond <;> (try simp only [decide_eq_true_eq, decide_eq_false_iff_not, beq_iff_eq, beq_eq_false_iff_ne, ne_eq, reduceCtorEq, Bool.not_eq_true', Bool.not_eq_false', bne_iff_ne, bne_eq_false_iff_eq] at hcond) <;> (try (exfalso; omega)))
      | refine thenQ_n ?_
      | refine thenQ_e ?_
      | refine thenQ_r ?_
      | refine outQ_n ?_
      | refine outQ_r ?_
      | refine outQ_e ?_
      | refine outQ_d (by decide) ?_
    refine W_loop (k := (ro.getD []).length) (fun k s => ∃ (j : Nat) (tm : Tm), s = ⟨tm, bx, 0⟩ ∧ tm.get 3 = (grownAt 1 94 cs).1 ∧ tm.get 10 = rowsV d.blocks ∧ tm.get 11 = .int .i64 d.rows.length ∧ tm.get 12 = .int .i64 i ∧ tm.get 6 = .int .u64 ((mask ((ro.getD []).take j) : Nat) : Int) ∧ tm.get 16 = ints ro ∧ tm.get 17 = .int .i64 (ro.getD []).length ∧ tm.get 18 = .int .i64 j ∧ j ≤ (ro.getD []).length ∧ k = (ro.getD []).length - j) ⟨0, _, rfl, by simp (disch := first | decide | omega | assumption | exact plain_int _ _ | exact plain_ints _ | exact plain_bool _ | exact one_int _ _ | exact plain_des _ | exact plain_rows _) only [AM, initTm, Nat.reduceAdd, Nat.reduceEqDiff, reduceCtorEq, g3], by simp (disch := first | decide | omega | assumption | exact plain_int _ _ | exact plain_ints _ | exact plain_bool _ | exact one_int _ _ | exact plain_des _ | exact plain_rows _) only [AM, initTm, Nat.reduceAdd, Nat.reduceEqDiff, reduceCtorEq, g10], by simp (disch := first | decide | omega | assumption | exact plain_int _ _ | exact plain_ints _ | exact plain_bool _ | exact one_int _ _ | exact plain_des _ | exact plain_rows _) only [AM, initTm, Nat.reduceAdd, Nat.reduceEqDiff, reduceCtorEq, g11], by simp (disch := first | decide | omega | assumption | exact plain_int _ _ | exact plain_ints _ | exact plain_bool _ | exact one_int _ _ | exact plain_des _ | exact plain_rows _) only [AM, initTm, Nat.reduceAdd, Nat.reduceEqDiff, reduceCtorEq, g12], by simp (disch := first | decide | omega | assumption | exact plain_int _ _ | exact plain_ints _ | exact plain_bool _ | exact one_int _ _ | exact plain_des _ | exact plain_rows _) only [AM, initTm, Nat.reduceAdd, Nat.reduceEqDiff, reduceCtorEq]; rfl, by simp (disch := first | decide | omega | assumption | exact plain_int _ _ | exact plain_ints _ | exact plain_bool _ | exact one_int _ _ | exact plain_des _ | exact plain_rows _) only [AM, initTm, Nat.reduceAdd, Nat.reduceEqDiff, reduceCtorEq], by simp (disch := first | decide | omega | assumption | exact plain_int _ _ | exact plain_ints _ | exact plain_bool _ | exact one_int _ _ | exact plain_des _ | exact plain_rows _) only [AM, initTm, Nat.reduceAdd, Nat.reduceEqDiff, reduceCtorEq], by simp (disch := first | decide | omega | assumption | exact plain_int _ _ | exact plain_ints _ | exact plain_bool _ | exact one_int _ _ | exact plain_des _ | exact plain_rows _) only [AM, initTm, Nat.reduceAdd, Nat.reduceEqDiff, reduceCtorEq]; rfl, Nat.zero_le _, rfl⟩ ?_
    rintro k s ⟨j, tm', rfl, q3, q10, q11, q12, q6, q16, q17, q18, hj, rfl⟩
    by_cases hjl : (j : Int) < ((ro.getD []).length : Int)
    · have hp := hbi ((ro.getD []).getD j 0) (getD_mem (by omega))
      have h1 := abin_shl_1 ((ro.getD []).getD j 0) hp
      have h2 := abin_or_u (mask ((ro.getD []).take j)) (2 ^ ((ro.getD []).getD j 0).toNat) (mask_lt _ fun p hp => hbi p (List.mem_of_mem_take hp)) (Nat.pow_lt_pow_right (by decide) (by omega) : _ < 2 ^ 64)
      rw [← mask_take _ _ (by omega)] at h2
      repeat' first
        | refine W_seq ?_
        | refine W_skip ?_
        | refine W_exit ?_
        | refine W_ret ?_
        | refine W_block ?_
        | (refine W_ops (by simp (disch := first | decide | omega | assumption | exact plain_int _ _ | exact plain_ints _ | exact plain_bool _ | exact one_int _ _ | exact plain_des _ | exact plain_rows _) only [AM, initTm, Nat.reduceAdd, Nat.reduceEqDiff, reduceCtorEq, q3, q10, q11, q12, q6, q16, q17, q18, hjl, h1, h2]; rfl) ?_)
        | (refine W_cond (by simp (disch := first | decide | omega | assumption | exact plain_int _ _ | exact plain_ints _ | exact plain_bool _ | exact one_int _ _ | exact plain_des _ | exact plain_rows _) only [AM, initTm, Nat.reduceAdd, Nat.reduceEqDiff, reduceCtorEq, q3, q10, q11, q12, q6, q16, q17, q18, hjl, h1, h2]; rfl) ?_ ?_ <;> intro hcond <;> (try simp only [decide_eq_true_eq, decide_eq_false_iff_not, beq_iff_eq, beq_eq_false_iff_ne, ne_eq, reduceCtorEq, Bool.not_eq_true', Bool.not_eq_false', bne_iff_ne, bne_eq_false_iff_eq] at hcond) <;> (try (exfalso; omega)))
        | refine thenQ_n ?_
        | refine thenQ_e ?_
        | refine thenQ_r ?_
        | refine outQ_n ?_
        | refine outQ_r ?_
        | refine outQ_e ?_
        | refine outQ_d (by decide) ?_
      exact ⟨(ro.getD []).length - (j + 1), by omega, j + 1, _, rfl, by simp (disch := first | decide | omega | assumption | exact plain_int _ _ | exact plain_ints _ | exact plain_bool _ | exact one_int _ _ | exact plain_des _ | exact plain_rows _) only [AM, initTm, Nat.reduceAdd, Nat.reduceEqDiff, reduceCtorEq, q3], by simp (disch := first | decide | omega | assumption | exact plain_int _ _ | exact plain_ints _ | exact plain_bool _ | exact one_int _ _ | exact plain_des _ | exact plain_rows _) only [AM, initTm, Nat.reduceAdd, Nat.reduceEqDiff, reduceCtorEq, q10], by simp (disch := first | decide | omega | assumption | exact plain_int _ _ | exact plain_ints _ | exact plain_bool _ | exact one_int _ _ | exact plain_des _ | exact plain_rows _) only [AM, initTm, Nat.reduceAdd, Nat.reduceEqDiff, reduceCtorEq, q11], by simp (disch := first | decide | omega | assumption | exact plain_int _ _ | exact plain_ints _ | exact plain_bool _ | exact one_int _ _ | exact plain_des _ | exact plain_rows _) only [AM, initTm, Nat.reduceAdd, Nat.reduceEqDiff, reduceCtorEq, q12], by simp (disch := first | decide | omega | assumption | exact plain_int _ _ | exact plain_ints _ | exact plain_bool _ | exact one_int _ _ | exact plain_des _ | exact plain_rows _) only [AM, initTm, Nat.reduceAdd, Nat.reduceEqDiff, reduceCtorEq], by simp (disch := first | decide | omega | assumption | exact plain_int _ _ | exact plain_ints _ | exact plain_bool _ | exact one_int _ _ | exact plain_des _ | exact plain_rows _) only [AM, initTm, Nat.reduceAdd, Nat.reduceEqDiff, reduceCtorEq, q16], by simp (disch := first | decide | omega | assumption | exact plain_int _ _ | exact plain_ints _ | exact plain_bool _ | exact one_int _ _ | exact plain_des _ | exact plain_rows _) only [AM, initTm, Nat.reduceAdd, Nat.reduceEqDiff, reduceCtorEq, q17], by simp (disch := first | decide | omega | assumption | exact plain_int _ _ | exact plain_ints _ | exact plain_bool _ | exact one_int _ _ | exact plain_des _ | exact plain_rows _) only [AM, initTm, Nat.reduceAdd, Nat.reduceEqDiff, reduceCtorEq]; rfl, by omega, rfl⟩
    · have ej : j = (ro.getD []).length := by omega
      subst ej
      rw [List.take_of_length_le (Nat.le_refl _)] at q6
      have happ := fun tm => appV_grownAt [(⟨d.cells, 2, 39, .live⟩ : Box)] 1 rfl tm 0 94 8 (AV.int .u64 ((mask (ro.getD []) : Nat) : Int)) cs rfl (by rw [hcl]; omega) (by rw [hcl]; omega)
      rw [hbx, ← hsucc] at happ
      repeat' first
        | refine W_seq ?_
        | refine W_skip ?_
        | refine W_exit ?_
        | refine W_ret ?_
        | refine W_block ?_
        | (refine W_ops (by simp (disch := first | decide | omega | assumption | exact plain_int _ _ | exact plain_ints _ | exact plain_bool _ | exact one_int _ _ | exact plain_des _ | exact plain_rows _) only [AM, initTm, Nat.reduceAdd, Nat.reduceEqDiff, reduceCtorEq, q3, q10, q11, q12, q6, q16, q17, q18, hjl, happ]; rfl) ?_)
        | (refine W_cond (by simp (disch := first | decide | omega | assumption | exact plain_int _ _ | exact plain_ints _ | exact plain_bool _ | exact one_int _ _ | exact plain_des _ | exact plain_rows _) only [AM, initTm, Nat.reduceAdd, Nat.reduceEqDiff, reduceCtorEq, q3, q10, q11, q12, q6, q16, q17, q18, hjl, happ]; rfl) ?_ ?_ <;> intro hcond <;> (try simp only [decide_eq_true_eq, decide_eq_false_iff_not, beq_iff_eq, beq_eq_false_iff_ne, ne_eq, reduceCtorEq, Bool.not_eq_true', Bool.not_eq_false', bne_iff_ne, bne_eq_false_iff_eq] at hcond) <;> (try (exfalso; omega)))
        | refine thenQ_n ?_
        | refine thenQ_e ?_
        | refine thenQ_r ?_
        | refine outQ_n ?_
        | refine outQ_r ?_
        | refine outQ_e ?_
        | refine outQ_d (by decide) ?_
      exact ⟨d.rows.length - (i + 1), by omega, i + 1, _, rfl, by simp (disch := first | decide | omega | assumption | exact plain_int _ _ | exact plain_ints _ | exact plain_bool _ | exact one_int _ _ | exact plain_des _ | exact plain_rows _) only [AM, initTm, Nat.reduceAdd, Nat.reduceEqDiff, reduceCtorEq], by simp (disch := first | decide | omega | assumption | exact plain_int _ _ | exact plain_ints _ | exact plain_bool _ | exact one_int _ _ | exact plain_des _ | exact plain_rows _) only [AM, initTm, Nat.reduceAdd, Nat.reduceEqDiff, reduceCtorEq, q10], by simp (disch := first | decide | omega | assumption | exact plain_int _ _ | exact plain_ints _ | exact plain_bool _ | exact one_int _ _ | exact plain_des _ | exact plain_rows _) only [AM, initTm, Nat.reduceAdd, Nat.reduceEqDiff, reduceCtorEq, q11], by simp (disch := first | decide | omega | assumption | exact plain_int _ _ | exact plain_ints _ | exact plain_bool _ | exact one_int _ _ | exact plain_des _ | exact plain_rows _) only [AM, initTm, Nat.reduceAdd, Nat.reduceEqDiff, reduceCtorEq]; rfl, by omega, rfl⟩
  · repeat' first
      | refine W_seq ?_
      | refine W_skip ?_
      | refine W_exit ?_
      | refine W_ret ?_
      | refine W_block ?_
      | (refine W_ops (by simp (disch := first | decide | omega | assumption | exact plain_int _ _ | exact plain_ints _ | exact plain_bool _ | exact one_int _ _ | exact plain_des _ | exact plain_rows _) only [AM, initTm, Nat.reduceAdd, Nat.reduceEqDiff, reduceCtorEq, g3, g10, g11, g12, hlt]; rfl) ?_)
      | (refine W_cond (by simp (disch := first | decide | omega | assumption | exact plain_int _ _ | exact plain_ints _ | exact plain_bool _ | exact one_int _ _ | exact plain_des _ | exact plain_rows _) only [AM, initTm, Nat.reduceAdd, Nat.reduceEqDiff, reduceCtorEq, g3, g10, g11, g12, hlt]; rfl) ?_ ?_ <;> intro hcond <;> (try simp only [decide_eq_true_eq, decide_eq_false_iff_not, beq_iff_eq, beq_eq_false_iff_ne, ne_eq, reduceCtorEq, Bool.not_eq_true', Bool.not_eq_false', bne_iff_ne, bne_eq_false_iff_eq] at hcond) <;> (try (exfalso; omega)))
      | refine thenQ_n ?_
      | refine thenQ_e ?_
      | refine thenQ_r ?_
      | refine outQ_n ?_
      | refine outQ_r ?_
      | refine outQ_e ?_
      | refine outQ_d (by decide) ?_
    have ei : i = d.bl.length := by omega
    subst ei
    rw [List.take_of_length_le (Nat.le_refl _)] at hmi
    refine ⟨.inr rfl, [_], rfl, ?_, ?_⟩
    · rw [tuple_one]
      simp (disch := first | decide | omega | assumption | exact plain_int _ _ | exact plain_ints _ | exact plain_bool _ | exact one_int _ _ | exact plain_des _ | exact plain_rows _) only [AM, initTm, Nat.reduceAdd, Nat.reduceEqDiff, reduceCtorEq, hmi]
    · rw [← hmi, ← hbx]
end
end Go.Am
