/- More steps as equations: literals, append, slices of one's own, calls in the other ways. -/
import Derived.Test.YtcibofbmennjpaaDoorAmView
set_option linter.unusedVariables false
set_option linter.unusedSimpArgs false
namespace Go.Am

section
variable {G : Nat → List AV} {F : Nat → Option MF} {rec : Rec}

def bldF (ps : List (Nat × Nat × AV)) (z : List AV) (n : Nat) : Option (List AV) := match fill ps z with
  | some cs => if cs.length = n ∧ AV.closedL cs = true then some cs else none
  | none => none
theorem run_bldsF (j : Option Nat) (e : TypeId) (sz len : Nat) (z : List AV) (ps : List (Nat × Nat × R)) (st : St) :
    runI G F rec (.blds j false e sz len z ps) st = bnd (bldF (ps.map fun p => (p.1, p.2.1, st.ev G p.2.2)) z (len * sz)) fun cs => some (.lst len cs, st) := by
  simp only [runI, exI, bldF]
  cases hf : fill (ps.map fun p => (p.1, p.2.1, st.ev G p.2.2)) z with
  | none => simp only [hf]; rfl
  | some cs =>
    simp only [hf]
    by_cases h1 : cs.length = len * sz
    · by_cases h2 : AV.closedL cs = true
      · simp [h1, h2, bnd_some]
      · simp [h1, h2, bnd_none]
    · simp [h1, bnd_none]
theorem bldF_1 (k : IntKind) (a : Int) (z : AV) (n : Nat) (hn : n = 1) : bldF [(0, 1, .int k a)] [z] n = some [.int k a] := by subst hn; rfl
theorem bldF_2 (k k' : IntKind) (a b : Int) (z z' : AV) (n : Nat) (hn : n = 2) : bldF [(0, 1, .int k a), (1, 1, .int k' b)] [z, z'] n = some [.int k a, .int k' b] := by subst hn; rfl

def appV (st : St) (j : Option Nat) (e : TypeId) (sz bytes : Nat) (s x : AV) : Option (AV × St) :=
    match st.slice sz x with
    | none => none
    | some (m, news) =>
      match s with
      | .nil =>
        if m = 0 then some (.nil, st)
        else if m * bytes ≤ 140737488355328 ∧ m ≤ 9223372036854775807 ∧ news.all AV.one then (st.newBox j ⟨news, sz, e, .live⟩).map fun (id, st) => (.own id m, st) else none
      | .own id n =>
        match st.bx[id]? with
        | some b =>
          if b.status = .live ∧ b.cs.length = n * b.sz ∧ b.sz = sz ∧ b.e = e ∧ (n + m) * bytes ≤ 140737488355328 ∧ n + m ≤ 9223372036854775807 ∧ news.all AV.one
          then some (.own id (n + m), { st with bx := st.bx.set id { b with cs := b.cs ++ news } })
          else none
        | none => none
      | _ => none
theorem run_app (j : Option Nat) (e : TypeId) (sz bytes : Nat) (s x : R) (st : St) : runI G F rec (.app j e sz bytes s x) st = appV st j e sz bytes (st.ev G s) (st.ev G x) := rfl
/-- One more, to nil. -/
theorem appV_nil1 (tm : Tm) (bx : List Box) (rb : Nat) (e : TypeId) (bytes : Nat) (c : AV) (hc : c.one = true) (hb : bytes ≤ 140737488355328) :
    appV ⟨tm, bx, rb⟩ none e 1 bytes .nil (.lst 1 [c]) = some (.own bx.length 1, ⟨tm, bx ++ [⟨[c], 1, e, .live⟩], rb⟩) := by
  simp [appV, St.slice, St.newBox, hc, hb]
/-- One more, to a slice of one's own. -/
theorem appV_own1 (tm : Tm) (bx : List Box) (rb : Nat) (e : TypeId) (bytes : Nat) (c : AV) (id n : Nat) (cs : List AV) (hbx : bx[id]? = some ⟨cs, 1, e, .live⟩) (hn : cs.length = n) (hc : c.one = true) (hb : (n + 1) * bytes ≤ 140737488355328) (hm : n + 1 ≤ 9223372036854775807) :
    appV ⟨tm, bx, rb⟩ none e 1 bytes (.own id n) (.lst 1 [c]) = some (.own id (n + 1), ⟨tm, bx.set id ⟨cs ++ [c], 1, e, .live⟩, rb⟩) := by
  simp [appV, St.slice, hbx, hn, hc, hb, hm]

/-- A slice that grows by one: nil first, then a box of its own, the first of the frame's. -/
def grown (e : TypeId) (cs : List AV) : AV × List Box := match cs with
  | [] => (.nil, [])
  | _ => (.own 0 cs.length, [⟨cs, 1, e, .live⟩])
theorem appV_grown (tm : Tm) (rb : Nat) (e : TypeId) (bytes : Nat) (c : AV) (cs : List AV) (hc : c.one = true) (hb : (cs.length + 1) * bytes ≤ 140737488355328) (hm : cs.length + 1 ≤ 9223372036854775807) :
    appV ⟨tm, (grown e cs).2, rb⟩ none e 1 bytes (grown e cs).1 (.lst 1 [c]) = some ((grown e (cs ++ [c])).1, ⟨tm, (grown e (cs ++ [c])).2, rb⟩) := by
  cases cs with
  | nil => exact appV_nil1 tm [] rb e bytes c hc (by simpa using hb)
  | cons a cs =>
    have := appV_own1 tm [⟨a :: cs, 1, e, .live⟩] rb e bytes c 0 (a :: cs).length (a :: cs) rfl rfl hc hb hm
    rw [show (grown e (a :: cs)).2 = [⟨a :: cs, 1, e, .live⟩] from rfl, show (grown e (a :: cs)).1 = .own 0 (a :: cs).length from rfl, this]
    simp [grown]

theorem one_int (k : IntKind) (n : Int) : (AV.int k n).one = true := rfl

theorem mapM_reify_ints (bx : List Box) (k : IntKind) (l : List Int) : (l.map (AV.int k)).mapM (reify reifyDepth bx) = some (l.map (AV.int k)) := by
  induction l with
  | nil => rfl
  | cons a l ih => rw [List.map_cons, List.mapM_cons, ih]; rfl
theorem alias_ints (bx : List Box) (k : IntKind) (l : List Int) : (l.map (AV.int k)).any (alias reifyDepth bx) = false := by
  induction l with
  | nil => rfl
  | cons a l ih => rw [List.map_cons, List.any_cons, ih]; rfl

/-- Ints, handed back. -/
def resOf (e : TypeId) (k : IntKind) (l : List Int) : Res := match l with
  | [] => .val .nil
  | a :: r => .own (a :: r).length ((a :: r).map (.int k)) 1 e
/-- A function that hands back a slice of ints of its own. -/
theorem pcall_grown {f : Nat} {mf : MF} (hf : F f = some mf) {args : List AV} {k : IntKind} {l : List Int} {e : TypeId}
    (h : W G F mf.body ⟨initTm 0 args .e, [], 0⟩ fun ex s => (ex = .normal ∨ ex = .ret) ∧ ∃ rs, mf.res.mapM (rvar s) = some rs ∧ tuple rs = (grown e (l.map (.int k))).1 ∧ s.bx = (grown e (l.map (.int k))).2) :
    pcall F (E G F) f args = some (resOf e k l, false) := by
  obtain ⟨s, rs, h1, h2, h3⟩ := runBody_W h
  unfold pcall
  rw [hf]
  simp only [h1, h2]
  cases l with
  | nil => rfl
  | cons a l =>
    simp only [grown, List.map_cons, h3, List.getElem?_cons_zero]
    rw [if_pos ⟨trivial, by simp⟩]
    have m := mapM_reify_ints (([⟨.int k a :: l.map (.int k), 1, e, .live⟩] : List Box).set 0 freshBox) k (a :: l)
    have al := alias_ints (([⟨.int k a :: l.map (.int k), 1, e, .live⟩] : List Box).set 0 freshBox) k (a :: l)
    rw [List.map_cons] at m al
    rw [m, al]
    simp [resOf]

/-- What a call hands on that may hand back a slice of its own. -/
def callP (x : Option (Res × Bool)) (st : St) : Option (AV × St) := match x with
  | some (.val v, _) => some (v, st)
  | some (.own n cs sz e, _) => (st.newBox none ⟨cs, sz, e, .live⟩).map fun p => (.own p.1 n, p.2)
  | none => none
theorem callP_val (v : AV) (al : Bool) (st : St) : callP (some (.val v, al)) st = some (v, st) := rfl
theorem callP_own (n : Nat) (cs : List AV) (sz : Nat) (e : TypeId) (al : Bool) (tm : Tm) (bx : List Box) (rb : Nat) : callP (some (.own n cs sz e, al)) ⟨tm, bx, rb⟩ = some (.own bx.length n, ⟨tm, bx ++ [⟨cs, sz, e, .live⟩], rb⟩) := rfl
theorem doCall_pureP {f : Nat} {args : List AV} {st : St} (hl : args.length < 65535) (hp : ∀ v ∈ args, Plain v) : doCall F rec .pure f args st = callP (pcall F rec f args) st := by
  have hm : args.mapM (reify reifyDepth st.bx) = some args := by
    clear hl
    induction args with
    | nil => rfl
    | cons a l ih => rw [List.mapM_cons, (hp a (by simp)).2 st.bx, ih fun v hv => hp v (by simp [hv])]; rfl
  have hc : AV.closedL args = true := by
    clear hl hm
    induction args with
    | nil => rfl
    | cons a l ih => simp [AV.closedL, (hp a (by simp)).1, ih fun v hv => hp v (by simp [hv])]
  unfold doCall
  rw [if_neg (by omega)]
  simp only [hm, hc]
  cases pcall F rec f args with
  | none => rfl
  | some p =>
    obtain ⟨r, al⟩ := p
    cases r with
    | val v => simp [callP]
    | own n cs sz e => simp only [callP, Bool.not_true, Bool.and_false, Bool.false_eq_true, if_false]
theorem doCall_pureP1 {f : Nat} {a : AV} {st : St} (h1 : Plain a) : doCall F rec .pure f [a] st = callP (pcall F rec f [a]) st := doCall_pureP (by simp) (by simp [h1])

/-- A call that works on the caller's boxes. -/
theorem doCall_shared_of {f : Nat} {mf : MF} (hf : F f = some mf) {args : List AV} {st : St} {v : AV} {bx' : List Box} (hl : args.length < 65535)
    (h : W G F mf.body ⟨initTm 0 args .e, st.bx, 0⟩ fun ex s => (ex = .normal ∨ ex = .ret) ∧ ∃ rs, mf.res.mapM (rvar s) = some rs ∧ tuple rs = v ∧ s.bx = bx') :
    doCall F (E G F) .shared f args st = some (v, { st with bx := bx' }) := by
  obtain ⟨s, rs, h1, h2, h3⟩ := runBody_W h
  unfold doCall
  rw [if_neg (by omega)]
  simp only [hf, h1, h2, h3]

/-- A call that only reads the caller's boxes. -/
theorem doCall_quiet_of {f : Nat} {mf : MF} (hf : F f = some mf) {args : List AV} {st : St} {v : AV} (hl : args.length < 65535) (hv : v.scalar = true)
    (h : W G F mf.body ⟨initTm 0 args .e, st.bx.map Box.freeze, 0⟩ fun ex s => (ex = .normal ∨ ex = .ret) ∧ ∃ rs, mf.res.mapM (rvar s) = some rs ∧ tuple rs = v) :
    doCall F (E G F) .quiet f args st = some (v, st) := by
  obtain ⟨s, rs, h1, h2⟩ := runBody_W h
  unfold doCall
  rw [if_neg (by omega)]
  simp only [hf, h1, h2, hv, if_true]
end

end Go.Am

/- Slices of one's own, read and written. -/
set_option linter.unusedVariables false
set_option linter.unusedSimpArgs false
namespace Go.Am

/-- Box id holds these ints. -/
def HasInts (bx : List Box) (id : Nat) (k : IntKind) (e : TypeId) (l : List Int) : Prop := bx[id]? = some ⟨l.map (.int k), 1, e, .live⟩

section
variable {G : Nat → List AV} {F : Nat → Option MF} {rec : Rec} {bx : List Box} {id : Nat} {k : IntKind} {e : TypeId} {l : List Int}

theorem HasInts.len (h : HasInts bx id k e l) (tm : Tm) (rb n : Nat) (hn : n = l.length) : lenV ⟨tm, bx, rb⟩ (.own id n) = some (n : Int) := by
  subst hn
  simp only [lenV]
  rw [h]
  simp

theorem HasInts.iaddr (h : HasInts bx id k e l) (tm : Tm) (rb n : Nat) (hn : n = l.length) (k' : IntKind) (i : Int) (hi : 0 ≤ i ∧ i < n) : iaddrV ⟨tm, bx, rb⟩ 1 (.own id n) (.int k' i) = some (.ptr id n i.toNat) := by
  subst hn
  simp only [iaddrV]
  rw [h]
  simp [hi]

theorem HasInts.ld (h : HasInts bx id k e l) (tm : Tm) (rb n : Nat) (hn : n = l.length) (off : Nat) (ho : off < n) : ld1V ⟨tm, bx, rb⟩ (.ptr id n off) = some (.int k (l.getD off 0)) := by
  subst hn
  simp only [ld1V, St.at_]
  rw [h]
  simp only [List.length_map, ne_eq, reduceCtorEq, not_false_eq_true, and_self, if_true]
  rw [← List.map_drop, List.drop_eq_getElem_cons ho, List.map_cons, List.getD_eq_getElem?_getD, List.getElem?_eq_getElem ho]
  rfl

theorem HasInts.write (h : HasInts bx id k e l) (tm : Tm) (rb n : Nat) (hn : n = l.length) (off : Nat) (ho : off < n) (a : Int) : St.write ⟨tm, bx, rb⟩ (.ptr id n off) [.int k a] = some ⟨tm, bx.set id ⟨(l.set off a).map (.int k), 1, e, .live⟩, rb⟩ := by
  subst hn
  simp only [St.write]
  rw [h]
  have hp : putAt (l.map (AV.int k)) off [.int k a] = (l.set off a).map (.int k) := by
    apply List.ext_getElem?
    intro j
    rw [getElem?_putAt _ _ _ (by simp; omega), List.getElem?_map, List.getElem?_map, List.getElem?_set]
    by_cases h1 : j < off
    · rw [if_pos h1, if_neg (by omega)]
    · by_cases h2 : j < off + [AV.int k a].length
      · have : off = j := by simp at h2; omega
        rw [if_neg h1, if_pos h2, if_pos this, if_pos (by omega)]
        simp [this]
      · have : off ≠ j := by simp at h2; omega
        rw [if_neg h1, if_neg h2, if_neg this]
  simp only [List.length_map, List.length_singleton, true_and]
  rw [if_pos ⟨by omega, by simp [AV.one]⟩, hp]

theorem HasInts.set (h : HasInts bx id k e l) (l' : List Int) : HasInts (bx.set id ⟨l'.map (.int k), 1, e, .live⟩) id k e l' := by
  unfold HasInts at *
  have := (List.getElem?_eq_some_iff.1 h).1
  rw [List.getElem?_set_self this]

theorem doCall_shared_ex {f : Nat} {mf : MF} (hf : F f = some mf) {args : List AV} {st : St} {P : AV → List Box → Prop} (hl : args.length < 65535)
    (h : W G F mf.body ⟨initTm 0 args .e, st.bx, 0⟩ fun ex s => (ex = .normal ∨ ex = .ret) ∧ ∃ rs, mf.res.mapM (rvar s) = some rs ∧ P (tuple rs) s.bx) :
    ∃ v bx', doCall F (E G F) .shared f args st = some (v, { st with bx := bx' }) ∧ P v bx' := by
  obtain ⟨s, rs, h1, h2⟩ := runBody_W h
  refine ⟨_, _, ?_, h2⟩
  unfold doCall
  rw [if_neg (by omega)]
  simp only [hf, h1]
end

end Go.Am

/- Boxes that are only read: structs that the frame has boxed; rows of ints. -/
set_option linter.unusedVariables false
set_option linter.unusedSimpArgs false
namespace Go.Am

/-- Box id holds these cells, to be read. -/
def Has (bx : List Box) (id : Nat) (cs : List AV) : Prop := ∃ b, bx[id]? = some b ∧ b.cs = cs ∧ b.status ≠ .fresh

section
variable {G : Nat → List AV} {F : Nat → Option MF} {rec : Rec} {bx : List Box} {id : Nat} {cs : List AV}

theorem newBox_n (tm : Tm) (bx : List Box) (rb : Nat) (b : Box) : St.newBox ⟨tm, bx, rb⟩ none b = some (bx.length, ⟨tm, bx ++ [b], rb⟩) := rfl
theorem Has.faddr (h : Has bx id cs) (tm : Tm) (rb n o off : Nat) (hn : n = cs.length) : faddrV ⟨tm, bx, rb⟩ off (.ptr id n o) = some (.ptr id n (o + off)) := by
  obtain ⟨b, h1, h2, h3⟩ := h
  subst hn
  have hv : St.valid ⟨tm, bx, rb⟩ id cs.length = true := by
    simp only [St.valid]; rw [h1]; simp [h2, h3]
  simp [faddrV, hv]
theorem Has.ld1 (h : Has bx id cs) (tm : Tm) (rb n off : Nat) (hn : n = cs.length) : ld1V ⟨tm, bx, rb⟩ (.ptr id n off) = cs[off]? := by
  obtain ⟨b, h1, h2, h3⟩ := h
  subst hn
  simp only [ld1V, St.at_]
  rw [h1]
  simp only [h2, ne_eq, h3, not_false_eq_true, and_self, if_true]
  rw [← List.head?_drop]
  cases cs.drop off <;> rfl
theorem Has.ldn (h : Has bx id cs) (tm : Tm) (rb n : Nat) (hn : n = cs.length) : ldnV ⟨tm, bx, rb⟩ n (.ptr id n 0) = some (.agg cs) := by
  obtain ⟨b, h1, h2, h3⟩ := h
  subst hn
  simp only [ldnV, St.at_]
  rw [h1]
  simp [h2, h3]
theorem Has.freeze (h : Has bx id cs) : Has (bx.map Box.freeze) id cs := by
  obtain ⟨b, h1, h2, h3⟩ := h
  refine ⟨b.freeze, by rw [List.getElem?_map, h1]; rfl, ?_, ?_⟩
  · unfold Box.freeze; split <;> exact h2
  · unfold Box.freeze; split
    · simp
    · exact h3
theorem Has.new (cs : List AV) (sz : Nat) (e : TypeId) : Has [⟨cs, sz, e, .live⟩] 0 cs := ⟨_, rfl, rfl, by simp⟩

/-- A design: points, blocks. -/
structure Des where
  points : Int
  blocks : Option (List (Option (List Int)))
def Des.rows (d : Des) : List (Option (List Int)) := d.blocks.getD []
/-- The blocks as lists. -/
def Des.bl (d : Des) : List (List Int) := d.rows.map fun r => r.getD []
def rowsV (o : Option (List (Option (List Int)))) : AV := sl (o.map fun l => l.map ints)
def Des.cells (d : Des) : List AV := [.int .i64 d.points, rowsV d.blocks]
def Des.av (d : Des) : AV := .agg d.cells
theorem rows_getD (o : Option (List (Option (List Int)))) : (o.map fun l => l.map ints).getD [] = (o.getD []).map ints := by cases o <;> rfl
theorem lenV_rows (st : St) (o : Option (List (Option (List Int)))) : lenV st (rowsV o) = some ((o.getD []).length : Int) := by unfold rowsV; rw [lenV_sl, rows_getD]; simp
theorem iaddrV_rows (st : St) (o : Option (List (Option (List Int)))) (k : IntKind) (i : Int) (h : 0 ≤ i ∧ i < ((o.getD []).length : Int)) : iaddrV st 1 (rowsV o) (.int k i) = some (.rptr (((o.getD []).drop i.toNat).map ints)) := by
  unfold rowsV; rw [iaddrV_sl, rows_getD, if_pos (by simpa using h)]; simp
theorem head_drop_rows (l : List (Option (List Int))) (i : Nat) (h : i < l.length) : ((l.drop i).map ints).head? = some (ints (l.getD i none)) := by
  rw [List.head?_map, List.head?_drop, List.getElem?_eq_getElem h, List.getD_eq_getElem?_getD, List.getElem?_eq_getElem h]; rfl
theorem closedL_rows (l : List (Option (List Int))) : AV.closedL (l.map ints) = true := by
  induction l with
  | nil => rfl
  | cons a l ih => simp [AV.closedL, (plain_ints a).1, ih]
theorem plain_rows (o : Option (List (Option (List Int)))) : Plain (rowsV o) := plain_sl (by rw [rows_getD]; exact closedL_rows _)
theorem plain_des (d : Des) : Plain d.av := by
  refine ⟨by show AV.closedL [.int .i64 d.points, rowsV d.blocks] = true; simp [AV.closedL, AV.closed, (plain_rows d.blocks).1], fun bx => ?_⟩
  have h : reify 7 bx (rowsV d.blocks) = some (rowsV d.blocks) := by
    unfold rowsV
    cases hb : d.blocks with
    | none => rfl
    | some l =>
      have hc : (AV.lst (l.map ints).length (l.map ints)).closed = true := closedL_rows l
      show (if (AV.lst (l.map ints).length (l.map ints)).closed then some (AV.lst (l.map ints).length (l.map ints)) else none) = _
      rw [hc]; rfl
  show ([AV.int .i64 d.points, rowsV d.blocks].mapM (reify 7 bx)).map AV.agg = _
  rw [List.mapM_cons, List.mapM_cons, h]
  rfl
theorem Des.cells_one (d : Des) : d.cells.all AV.one = true := by
  unfold Des.cells rowsV
  cases d.blocks <;> rfl
theorem Des.av_cells (d : Des) : d.av.cells = d.cells := rfl
theorem Des.cells_len (d : Des) : d.cells.length = 2 := rfl
theorem Des.cells0 (d : Des) : d.cells[0]? = some (.int .i64 d.points) := rfl
theorem Des.cells1 (d : Des) : d.cells[1]? = some (rowsV d.blocks) := rfl
theorem lenV_des (st : St) (d : Des) : lenV st (rowsV d.blocks) = some (d.rows.length : Int) := lenV_rows st d.blocks
theorem iaddrV_des (st : St) (d : Des) (k : IntKind) (i : Int) (h : 0 ≤ i ∧ i < (d.rows.length : Int)) : iaddrV st 1 (rowsV d.blocks) (.int k i) = some (.rptr ((d.rows.drop i.toNat).map ints)) := iaddrV_rows st d.blocks k i h

/-- A call of a function value. -/
def cloV (F : Nat → Option MF) (rec : Rec) (v : AV) (m : Mode) (args : List AV) (st : St) : Option (AV × St) := match v with
  | .clo f cap => doCall F rec m f (args ++ cap) st
  | _ => none
theorem cloV_clo (f : Nat) (cap : List AV) (m : Mode) (args : List AV) (st : St) : cloV F rec (.clo f cap) m args st = doCall F rec m f (args ++ cap) st := rfl
theorem run_callv (x : R) (l : List R) (m : Mode) (st : St) : runI G F rec (.callv x l m) st = cloV F rec (st.ev G x) m (l.map (st.ev G)) st := by
  simp only [runI, cloV]
  cases st.ev G x <;> rfl
theorem freeze_freeze (bx : List Box) : (bx.map Box.freeze).map Box.freeze = bx.map Box.freeze := by
  rw [List.map_map]
  apply List.map_congr_left
  intro b _
  simp only [Function.comp_apply]
  obtain ⟨cs, sz, e, s⟩ := b
  cases s <;> rfl
end

end Go.Am

