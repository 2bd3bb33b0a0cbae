/- Boxes that are only read: structs that the frame has boxed; rows of ints. -/
import Derived.Test.YtcibofbmennjpaaAmView3
set_option linter.unusedVariables false
set_option linter.unusedSimpArgs false
namespace Go.Am

/-- Box id holds these cells, to be read. -/
def Has (bx : List Box) (id : Nat) (cs : List AV) : Prop := ∃ b, bx[id]? = some b ∧ b.cs = cs ∧ b.status ≠ .fresh

section
variable {G : Nat → List AV} {F : Nat → Option MF} {rec : Rec} {bx : List Box} {id : Nat} {cs : List AV}

theorem newBox_n (tm : Tm) (bx : List Box) (rb : Nat) (b : Box) : St.newBox ⟨tm, bx, rb⟩ none b = some (bx.length, ⟨tm, bx ++ [b], rb⟩) := rfl
theorem Has.faddr (h : Has bx id cs) (tm : Tm) (rb n o off : Nat) (hn : n = cs.length) : faddrV ⟨tm, bx, rb⟩ off (.ptr id n o) = some (.ptr id n (o + off)) := by
  obtain ⟨b, h1, h2, h3⟩ := h
  subst hn
  have hv : St.valid ⟨tm, bx, rb⟩ id cs.length = true := by
    simp only [St.valid]; rw [h1]; simp [h2, h3]
  simp [faddrV, hv]
theorem Has.ld1 (h : Has bx id cs) (tm : Tm) (rb n off : Nat) (hn : n = cs.length) : ld1V ⟨tm, bx, rb⟩ (.ptr id n off) = cs[off]? := by
  obtain ⟨b, h1, h2, h3⟩ := h
  subst hn
  simp only [ld1V, St.at_]
  rw [h1]
  simp only [h2, ne_eq, h3, not_false_eq_true, and_self, if_true]
  rw [← List.head?_drop]
  cases cs.drop off <;> rfl
theorem Has.ldn (h : Has bx id cs) (tm : Tm) (rb n : Nat) (hn : n = cs.length) : ldnV ⟨tm, bx, rb⟩ n (.ptr id n 0) = some (.agg cs) := by
  obtain ⟨b, h1, h2, h3⟩ := h
  subst hn
  simp only [ldnV, St.at_]
  rw [h1]
  simp [h2, h3]
theorem Has.freeze (h : Has bx id cs) : Has (bx.map Box.freeze) id cs := by
  obtain ⟨b, h1, h2, h3⟩ := h
  refine ⟨b.freeze, by rw [List.getElem?_map, h1]; rfl, ?_, ?_⟩
  · unfold Box.freeze; split <;> exact h2
  · unfold Box.freeze; split
    · simp
    · exact h3
theorem Has.new (cs : List AV) (sz : Nat) (e : TypeId) : Has [⟨cs, sz, e, .live⟩] 0 cs := ⟨_, rfl, rfl, by simp⟩

/-- A design: points, blocks. -/
structure Des where
  points : Int
  blocks : Option (List (Option (List Int)))
def Des.rows (d : Des) : List (Option (List Int)) := d.blocks.getD []
/-- The blocks as lists. -/
def Des.bl (d : Des) : List (List Int) := d.rows.map fun r => r.getD []
def rowsV (o : Option (List (Option (List Int)))) : AV := sl (o.map fun l => l.map ints)
def Des.cells (d : Des) : List AV := [.int .i64 d.points, rowsV d.blocks]
def Des.av (d : Des) : AV := .agg d.cells
theorem rows_getD (o : Option (List (Option (List Int)))) : (o.map fun l => l.map ints).getD [] = (o.getD []).map ints := by cases o <;> rfl
theorem lenV_rows (st : St) (o : Option (List (Option (List Int)))) : lenV st (rowsV o) = some ((o.getD []).length : Int) := by unfold rowsV; rw [lenV_sl, rows_getD]; simp
theorem iaddrV_rows (st : St) (o : Option (List (Option (List Int)))) (k : IntKind) (i : Int) (h : 0 ≤ i ∧ i < ((o.getD []).length : Int)) : iaddrV st 1 (rowsV o) (.int k i) = some (.rptr (((o.getD []).drop i.toNat).map ints)) := by
  unfold rowsV; rw [iaddrV_sl, rows_getD, if_pos (by simpa using h)]; simp
theorem head_drop_rows (l : List (Option (List Int))) (i : Nat) (h : i < l.length) : ((l.drop i).map ints).head? = some (ints (l.getD i none)) := by
  rw [List.head?_map, List.head?_drop, List.getElem?_eq_getElem h, List.getD_eq_getElem?_getD, List.getElem?_eq_getElem h]; rfl
theorem closedL_rows (l : List (Option (List Int))) : AV.closedL (l.map ints) = true := by
  induction l with
  | nil => rfl
  | cons a l ih => simp [AV.closedL, (plain_ints a).1, ih]
theorem plain_rows (o : Option (List (Option (List Int)))) : Plain (rowsV o) := plain_sl (by rw [rows_getD]; exact closedL_rows _)
theorem plain_des (d : Des) : Plain d.av := by
  refine ⟨by show AV.closedL [.int .i64 d.points, rowsV d.blocks] = true; simp [AV.closedL, AV.closed, (plain_rows d.blocks).1], fun bx => ?_⟩
  have h : reify 7 bx (rowsV d.blocks) = some (rowsV d.blocks) := by
    unfold rowsV
    cases hb : d.blocks with
    | none => rfl
    | some l =>
      have hc : (AV.lst (l.map ints).length (l.map ints)).closed = true := closedL_rows l
      show (if (AV.lst (l.map ints).length (l.map ints)).closed then some (AV.lst (l.map ints).length (l.map ints)) else none) = _
      rw [hc]; rfl
  show ([AV.int .i64 d.points, rowsV d.blocks].mapM (reify 7 bx)).map AV.agg = _
  rw [List.mapM_cons, List.mapM_cons, h]
  rfl
theorem Des.cells_one (d : Des) : d.cells.all AV.one = true := by
  unfold Des.cells rowsV
  cases d.blocks <;> rfl
theorem Des.av_cells (d : Des) : d.av.cells = d.cells := rfl
theorem Des.cells_len (d : Des) : d.cells.length = 2 := rfl
theorem Des.cells0 (d : Des) : d.cells[0]? = some (.int .i64 d.points) := rfl
theorem Des.cells1 (d : Des) : d.cells[1]? = some (rowsV d.blocks) := rfl
theorem lenV_des (st : St) (d : Des) : lenV st (rowsV d.blocks) = some (d.rows.length : Int) := lenV_rows st d.blocks
theorem iaddrV_des (st : St) (d : Des) (k : IntKind) (i : Int) (h : 0 ≤ i ∧ i < (d.rows.length : Int)) : iaddrV st 1 (rowsV d.blocks) (.int k i) = some (.rptr ((d.rows.drop i.toNat).map ints)) := iaddrV_rows st d.blocks k i h

/-- A call of a function value. -/
def cloV (F : Nat → Option MF) (rec : Rec) (v : AV) (m : Mode) (args : List AV) (st : St) : Option (AV × St) := match v with
  | .clo f cap => doCall F rec m f (args ++ cap) st
  | _ => none
theorem cloV_clo (f : Nat) (cap : List AV) (m : Mode) (args : List AV) (st : St) : cloV F rec (.clo f cap) m args st = doCall F rec m f (args ++ cap) st := rfl
theorem run_callv (x : R) (l : List R) (m : Mode) (st : St) : runI G F rec (.callv x l m) st = cloV F rec (st.ev G x) m (l.map (st.ev G)) st := by
  simp only [runI, cloV]
  cases st.ev G x <;> rfl
theorem freeze_freeze (bx : List Box) : (bx.map Box.freeze).map Box.freeze = bx.map Box.freeze := by
  rw [List.map_map]
  apply List.map_congr_left
  intro b _
  simp only [Function.comp_apply]
  obtain ⟨cs, sz, e, s⟩ := b
  cases s <;> rfl
end
end Go.Am
