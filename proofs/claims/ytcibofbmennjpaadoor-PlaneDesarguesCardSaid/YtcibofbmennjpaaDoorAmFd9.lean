/- plane.Make: the plane of a field. -/
import Derived.Test.YtcibofbmennjpaaDoorAmFd7
set_option linter.unusedVariables false
set_option linter.unusedSimpArgs false
namespace Go.Am

/-- A row of points, at a box: nil, if empty. -/
def RowAt (bx : List Box) (lo hi : Nat) (c : AV) (r : List Int) : Prop :=
  (r = [] ∧ c = .nil) ∨ ∃ k, lo ≤ k ∧ k < hi ∧ c = .own k r.length ∧ bx[k]? = some ⟨r.map (.int .i64), 1, 3, .live⟩ ∧ r ≠ []
/-- Rows, in boxes from 4 to N. -/
def Rows (bx : List Box) (N : Nat) (V : AV) (rows : List (List Int)) : Prop :=
  (rows = [] ∧ V = .nil) ∨ ∃ id cells, rows ≠ [] ∧ 4 ≤ id ∧ id < N ∧ V = .own id rows.length ∧ bx[id]? = some ⟨cells, 1, 22, .live⟩ ∧ cells.length = rows.length ∧ ∀ j, j < rows.length → ∃ c, cells[j]? = some c ∧ RowAt bx 4 N c (rows.getD j [])

theorem RowAt.mono {bx bx' : List Box} {lo hi hi' : Nat} {c : AV} {r : List Int} (h : RowAt bx lo hi c r) (hb : ∀ k, lo ≤ k → k < hi → bx'[k]? = bx[k]?) (hh : hi ≤ hi') : RowAt bx' lo hi' c r := by
  rcases h with h | ⟨k, h1, h2, h3, h4, h5⟩
  · exact .inl h
  · exact .inr ⟨k, h1, by omega, h3, by rw [hb k h1 h2]; exact h4, h5⟩
theorem RowAt.lower {bx : List Box} {lo lo' hi : Nat} {c : AV} {r : List Int} (h : RowAt bx lo hi c r) (hl : lo' ≤ lo) : RowAt bx lo' hi c r := by
  rcases h with h | ⟨k, h1, h2⟩
  · exact .inl h
  · exact .inr ⟨k, by omega, h2⟩
theorem RowAt.one {bx : List Box} {lo hi : Nat} {c : AV} {r : List Int} (h : RowAt bx lo hi c r) : c.one = true := by
  rcases h with ⟨_, rfl⟩ | ⟨k, _, _, rfl, _⟩ <;> rfl
theorem Rows.mono {bx bx' : List Box} {N N' : Nat} {V : AV} {rows : List (List Int)} (h : Rows bx N V rows) (hb : ∀ k, 4 ≤ k → k < N → bx'[k]? = bx[k]?) (hh : N ≤ N') : Rows bx' N' V rows := by
  rcases h with h | ⟨id, cells, h0, h1, h2, h3, h4, h5, h6⟩
  · exact .inl h
  · exact .inr ⟨id, cells, h0, h1, by omega, h3, by rw [hb id h1 h2]; exact h4, h5, fun j hj => let ⟨c, hc, hr⟩ := h6 j hj; ⟨c, hc, hr.mono hb hh⟩⟩

/-- One row more: as a box of its own, or at the end of the one that is there. -/
theorem Rows.add {bx : List Box} {N : Nat} {V : AV} {rows : List (List Int)} (h : Rows bx N V rows) (hN : N ≤ bx.length) {c : AV} {r : List Int} (hr : RowAt bx N bx.length c r) (h4 : 4 ≤ N) :
    ∃ V' bx', (∀ tm rb x, (∀ st : St, st.bx = bx → st.slice 1 x = some (1, [c])) → rows.length < 1000 → appV ⟨tm, bx, rb⟩ none 22 1 24 V x = some (V', ⟨tm, bx', rb⟩)) ∧ Rows bx' bx'.length V' (rows ++ [r]) ∧ bx.length ≤ bx'.length ∧ ∀ k, k < 4 → bx'[k]? = bx[k]? := by
  have hone := hr.one
  rcases h with ⟨rfl, rfl⟩ | ⟨id, cells, _, g1, g2, rfl, g4, g5, g6⟩
  · refine ⟨.own bx.length 1, bx ++ [(⟨[c], 1, 22, .live⟩ : Box)], fun tm rb x hx _ => ?_, ?_, by simp, fun k hk => List.getElem?_append_left (by omega)⟩
    · unfold appV
      rw [hx _ rfl]
      simp [St.newBox, hone]
    · refine .inr ⟨bx.length, [c], by simp, by omega, by simp, rfl, by simp, rfl, fun j hj => ?_⟩
      have : j = 0 := by simpa using hj
      subst this
      exact ⟨c, rfl, ((hr.mono (bx' := bx ++ [(⟨[c], 1, 22, .live⟩ : Box)]) (hi' := (bx ++ [(⟨[c], 1, 22, .live⟩ : Box)]).length) (fun k _ hk => List.getElem?_append_left hk) (by simp)).lower h4)⟩
  · have hidl : id < bx.length := by omega
    refine ⟨.own id (rows.length + 1), bx.set id ⟨cells ++ [c], 1, 22, .live⟩, fun tm rb x hx hl => ?_, ?_, by simp, fun k hk => List.getElem?_set_ne (by omega)⟩
    · unfold appV
      rw [hx _ rfl]
      simp only [g4]
      rw [if_pos ⟨trivial, by rw [g5, Nat.mul_one], trivial, trivial, by omega, by omega, by simp [hone]⟩]
    · refine .inr ⟨id, cells ++ [c], by simp, g1, by rw [List.length_set]; omega, by simp, List.getElem?_set_self hidl, by simp [g5], fun j hj => ?_⟩
      rw [List.length_append, List.length_singleton] at hj
      have keep : ∀ (c' : AV) (r' : List Int) (lo hi : Nat), RowAt bx lo hi c' r' → hi ≤ bx.length → 4 ≤ lo → (∀ k, c' = .own k r'.length → k ≠ id) → RowAt (bx.set id ⟨cells ++ [c], 1, 22, .live⟩) 4 (bx.set id ⟨cells ++ [c], 1, 22, .live⟩).length c' r' := by
        intro c' r' lo hi h1 h2 h3 h4
        rcases h1 with h1 | ⟨k, a, b, e, d, d2⟩
        · exact .inl h1
        · exact .inr ⟨k, by omega, by rw [List.length_set]; omega, e, by rw [List.getElem?_set_ne (fun e' => h4 k e e'.symm)]; exact d, d2⟩
      by_cases hj' : j < rows.length
      · obtain ⟨c', hc', hr'⟩ := g6 j hj'
        refine ⟨c', by rw [List.getElem?_append_left (by omega)]; exact hc', ?_⟩
        have e : (rows ++ [r]).getD j [] = rows.getD j [] := by
          rw [List.getD_eq_getElem?_getD, List.getElem?_append_left hj', List.getD_eq_getElem?_getD]
        rw [e]
        refine keep c' _ 4 N hr' hN (Nat.le_refl _) fun k e1 e2 => ?_
        rcases hr' with ⟨_, h0⟩ | ⟨k', _, _, h0, h1, _⟩
        · rw [h0] at e1; cases e1
        · rw [h0] at e1
          cases e1
          subst e2
          rw [g4] at h1
          cases h1
      · have ej : j = rows.length := by omega
        subst ej
        refine ⟨c, by rw [List.getElem?_append_right (by omega), g5, Nat.sub_self]; rfl, ?_⟩
        have e : (rows ++ [r]).getD rows.length [] = r := by
          rw [List.getD_eq_getElem?_getD, List.getElem?_append_right (Nat.le_refl _), Nat.sub_self]; rfl
        rw [e]
        refine keep c r N bx.length hr (Nat.le_refl _) h4 fun k e1 e2 => ?_
        rcases hr with ⟨_, h0⟩ | ⟨k', ha, _, h0, _, _⟩
        · rw [h0] at e1; cases e1
        · rw [h0] at e1
          cases e1
          omega

/-- Rows, as the machine hands them back. -/
def rowsO (rows : List (List Int)) : Option (List (Option (List Int))) := match rows with
  | [] => none
  | _ => some (rows.map optL)
theorem mapM_reify_f (f : Nat) (bx : List Box) (l : List Int) : (l.map (AV.int .i64)).mapM (reify (f + 1) bx) = some (l.map (AV.int .i64)) := by
  induction l with
  | nil => rfl
  | cons a l ih => rw [List.map_cons, List.mapM_cons, ih]; rfl
theorem RowAt.reify {bx : List Box} {lo hi : Nat} {c : AV} {r : List Int} (h : RowAt bx lo hi c r) (f : Nat) : reify (f + 2) bx c = some (ints (optL r)) := by
  rcases h with ⟨rfl, rfl⟩ | ⟨k, _, _, rfl, h4, h5⟩
  · rfl
  · rw [reify_own, h4]
    simp only
    rw [if_pos ⟨by simp, by simp⟩, mapM_reify_f]
    cases r with
    | nil => exact absurd rfl h5
    | cons a l => simp [optL, ints, sl]
theorem mapM_of_get {α β : Type} (f : α → Option β) : ∀ (l : List α) (m : List β), l.length = m.length → (∀ (j : Nat) (x : α), l[j]? = some x → ∃ y, m[j]? = some y ∧ f x = some y) → l.mapM f = some m
  | [], [], _, _ => rfl
  | [], _ :: _, h, _ => by simp at h
  | _ :: _, [], h, _ => by simp at h
  | a :: l, b :: m, h, hg => by
    obtain ⟨y, hy, hf⟩ := hg 0 a rfl
    cases hy
    rw [List.mapM_cons, hf, mapM_of_get f l m (by simpa using h) fun j x hj => hg (j + 1) x hj]
    rfl
theorem Rows.reify {bx : List Box} {N : Nat} {V : AV} {rows : List (List Int)} (h : Rows bx N V rows) (f : Nat) : reify (f + 3) bx V = some (rowsV (rowsO rows)) := by
  rcases h with ⟨rfl, rfl⟩ | ⟨id, cells, h0, _, _, rfl, h4, h5, h6⟩
  · rfl
  · rw [reify_own, h4]
    simp only
    rw [if_pos ⟨by simp, by simp [h5]⟩]
    have hm : cells.mapM (Go.Am.reify (f + 2) bx) = some (rows.map fun r => ints (optL r)) := by
      refine mapM_of_get _ _ _ (by simp [h5]) fun j c hj => ?_
      have hjl : j < rows.length := by rw [← h5]; exact (List.getElem?_eq_some_iff.1 hj).1
      obtain ⟨c', hc', hr⟩ := h6 j hjl
      rw [hj] at hc'
      cases hc'
      refine ⟨ints (optL (rows.getD j [])), ?_, hr.reify f⟩
      rw [List.getElem?_map, List.getElem?_eq_getElem hjl, List.getD_eq_getElem?_getD, List.getElem?_eq_getElem hjl]
      rfl
    rw [hm]
    cases rows with
    | nil => exact absurd rfl h0
    | cons r rs => simp [rowsO, rowsV, sl, Function.comp_def]

theorem Rows.one {bx : List Box} {N : Nat} {V : AV} {rows : List (List Int)} (h : Rows bx N V rows) : V.one = true := by
  rcases h with ⟨_, rfl⟩ | ⟨id, cells, _, _, _, rfl, _⟩ <;> rfl

/-- A number more. -/
theorem RowAt.add {bx : List Box} {lo hi : Nat} {c : AV} {r : List Int} (h : RowAt bx lo hi c r) (hh : hi ≤ bx.length) (hl : lo ≤ bx.length) (x : Int) (hr : r.length < 1000) :
    ∃ c' bx', (∀ tm rb, appV ⟨tm, bx, rb⟩ none 3 1 8 c (.lst 1 [.int .i64 x]) = some (c', ⟨tm, bx', rb⟩)) ∧ RowAt bx' lo bx'.length c' (r ++ [x]) ∧ bx.length ≤ bx'.length ∧ ∀ k, k < lo → bx'[k]? = bx[k]? := by
  rcases h with ⟨rfl, rfl⟩ | ⟨k, h1, h2, rfl, h4, h5⟩
  · refine ⟨.own bx.length 1, bx ++ [(⟨[.int .i64 x], 1, 3, .live⟩ : Box)], fun tm rb => appV_nil1 tm bx rb 3 8 (.int .i64 x) rfl (by decide), .inr ⟨bx.length, hl, by simp, rfl, by simp, by simp⟩, by simp, fun k hk => List.getElem?_append_left (by omega)⟩
  · refine ⟨.own k (r.length + 1), bx.set k ⟨(r ++ [x]).map (.int .i64), 1, 3, .live⟩, fun tm rb => ?_, .inr ⟨k, h1, by rw [List.length_set]; omega, by simp, List.getElem?_set_self (by omega), by simp⟩, by simp, fun j hj => List.getElem?_set_ne (by omega)⟩
    have := appV_own1 tm bx rb 3 8 (.int .i64 x) k r.length (r.map (.int .i64)) h4 (by simp) rfl (by omega) (by omega)
    rw [this, List.map_append]
    rfl

section
variable {G : Nat → List AV} {F : Nat → Option MF} {rec : Rec}
/-- A literal of one, in a box of its own. -/
def blds1V (st : St) (e : TypeId) (v : AV) : Option (AV × St) := exI (fun _ => []) (.blds none true e 1 1 [.nil] [(0, (1, .c v))]) st
theorem run_blds1 (e : TypeId) (r : R) (st : St) : runI G F rec (.blds none true e 1 1 [.nil] [(0, (1, r))]) st = blds1V st e (st.ev G r) := rfl
theorem blds1V_one (tm : Tm) (bx : List Box) (rb : Nat) (e : TypeId) (v : AV) (h : v.one = true) : blds1V ⟨tm, bx, rb⟩ e v = some (.own bx.length 1, ⟨tm, bx ++ [⟨[v], 1, e, .live⟩], rb⟩) := by
  have hc : v.cells = [v] := by cases v <;> first | rfl | cases h
  unfold blds1V
  simp [exI, fill, St.ev, hc, h, putAt, St.newBox]
end

/-- An own slice of arrays. -/
theorem own3_len {bx : List Box} {id n : Nat} {e : TypeId} {L : List Int} {s : Status} (h : bx[id]? = some ⟨L.map (.int .i64), 3, e, s⟩) (hs : s ≠ .fresh) (hl : L.length = n * 3) (tm : Tm) (rb : Nat) : lenV ⟨tm, bx, rb⟩ (.own id n) = some (n : Int) := by
  simp only [lenV, h, List.length_map, hl]
  simp [hs]
theorem own3_iaddr {bx : List Box} {id n : Nat} {e : TypeId} {L : List Int} {s : Status} (h : bx[id]? = some ⟨L.map (.int .i64), 3, e, s⟩) (hs : s ≠ .fresh) (hl : L.length = n * 3) (tm : Tm) (rb : Nat) (k : IntKind) (i : Int) (hi : 0 ≤ i ∧ i < n) : iaddrV ⟨tm, bx, rb⟩ 3 (.own id n) (.int k i) = some (.ptr id (n * 3) (i.toNat * 3)) := by
  simp only [iaddrV, h, List.length_map, hl]
  simp [hs, hi]
theorem own3_ldn {bx : List Box} {id n : Nat} {e : TypeId} {L : List Int} {s : Status} (h : bx[id]? = some ⟨L.map (.int .i64), 3, e, s⟩) (hs : s ≠ .fresh) (hl : L.length = n * 3) (tm : Tm) (rb : Nat) (i : Nat) (hi : i < n) : ldnV ⟨tm, bx, rb⟩ 3 (.ptr id (n * 3) (i * 3)) = some (.agg (((L.drop (i * 3)).take 3).map (.int .i64))) := by
  simp only [ldnV, St.at_, h, List.length_map, hl]
  simp only [ne_eq, hs, not_false_eq_true, and_self, if_true, List.length_drop, List.length_map, hl]
  rw [if_pos (by omega), List.map_take, List.map_drop]

end Go.Am

/- plane.Make answers the plane of the field. -/
set_option linter.unusedVariables false
set_option linter.unusedSimpArgs false
namespace Go.Am

/-- The points of line b: by their numbers. -/
def rowUpto (q : Nat) (tr : List (List Int)) (i : Nat) : Nat → List Int
  | 0 => []
  | j + 1 => if prodT q (tr.getD i []) (tr.getD j []) = 0 then rowUpto q tr i j ++ [(j : Int)] else rowUpto q tr i j
def rowsUpto (q : Nat) (tr : List (List Int)) (n : Nat) : Nat → List (List Int)
  | 0 => []
  | i + 1 => rowsUpto q tr n i ++ [rowUpto q tr i n]
theorem rowUpto_len (q : Nat) (tr : List (List Int)) (i j : Nat) : (rowUpto q tr i j).length ≤ j := by
  induction j with
  | zero => exact Nat.le_refl _
  | succ j ih =>
    unfold rowUpto
    split
    · rw [List.length_append, List.length_singleton]; omega
    · omega
theorem rowsUpto_len (q : Nat) (tr : List (List Int)) (n i : Nat) : (rowsUpto q tr n i).length = i := by
  induction i with
  | zero => rfl
  | succ i ih => simp [rowsUpto, ih]

/-- The triples, as a list of numbers. -/
structure TripL (q n : Nat) (tr : List (List Int)) (L : List Int) : Prop where
  len : L.length = n * 3
  at_ : ∀ i, i < n → (L.drop (i * 3)).take 3 = tr.getD i [] ∧ Tri q (tr.getD i [])
  n5 : n ≤ 31

theorem RowAt.alias {bx : List Box} {lo hi : Nat} {c : AV} {r : List Int} (h : RowAt bx lo hi c r) (f : Nat) : alias (f + 2) bx c = false := by
  have hints : ∀ l : List Int, (l.map (AV.int .i64)).any (Go.Am.alias (f + 1) bx) = false := by
    intro l
    induction l with
    | nil => rfl
    | cons a l ih => rw [List.map_cons, List.any_cons, ih]; rfl
  rcases h with ⟨_, rfl⟩ | ⟨k, _, _, rfl, h4, _⟩
  · rfl
  · show (match bx[k]? with
      | some b => b.cs.any (Go.Am.alias (f + 1) bx)
      | none => true : Bool) = false
    rw [h4]
    exact hints r
theorem Rows.alias {bx : List Box} {N : Nat} {V : AV} {rows : List (List Int)} (h : Rows bx N V rows) (f : Nat) : alias (f + 3) bx V = false := by
  rcases h with ⟨_, rfl⟩ | ⟨id, cells, _, _, _, rfl, h4, h5, h6⟩
  · rfl
  · show (match bx[id]? with
      | some b => b.cs.any (Go.Am.alias (f + 2) bx)
      | none => true : Bool) = false
    rw [h4]
    simp only
    rw [List.any_eq_false]
    intro c hc
    obtain ⟨j, hj, rfl⟩ := List.mem_iff_getElem.1 hc
    obtain ⟨c', hc', hr⟩ := h6 j (by omega)
    rw [List.getElem?_eq_getElem hj] at hc'
    cases hc'
    rw [hr.alias f]; decide
/-- A store into the second cell. -/
theorem write_at1 {bx : List Box} {id sz : Nat} {e : TypeId} {a b : AV} (h : bx[id]? = some ⟨[a, b], sz, e, .live⟩) (tm : Tm) (rb : Nat) (v : AV) (hv : v.one = true) : St.write ⟨tm, bx, rb⟩ (.ptr id 2 1) [v] = some ⟨tm, bx.set id ⟨[a, v], sz, e, .live⟩, rb⟩ := by
  simp only [St.write]
  rw [h]
  simp [hv, putAt]

/-- The plane. -/
def planeD (q n : Nat) (tr : List (List Int)) : Des := ⟨n, rowsO (rowsUpto q tr n n)⟩

section
variable {G : Nat → List AV} {F : Nat → Option MF} {rec : Rec}

set_option maxHeartbeats 4000000 in
theorem Make_spec (hF : F 27 = some mf27) (hPr : F 80 = some mf80) (f : Fld) (q n : Nat) (tr : List (List Int)) (L : List Int) (A : Arith G F f q) (hT : TripL q n tr L)
    (hopen : pcall F (E G F) 78 [f.av] = some (.val (.tup [.int .i64 q, .int .i64 0]), false)) (htr : pcall F (E G F) 79 [.int .i64 q] = some (.own n (L.map (.int .i64)) 3 120, false)) :
    pcall F (E G F) 27 [f.av] = some (.val (.tup [(planeD q n tr).av, .int .i64 0]), false) := by
  have hfc : f.av.cells = f.cells := rfl
  have hf1 := f.cells_one
  have hf3 : f.cells.length = 3 := rfl
  have hfa' : AV.agg f.cells = f.av := rfl
  have hlen := hT.len
  have hn5 := hT.n5
  have hH0 : ∀ x, Has (⟨f.cells, 3, 24, .live⟩ :: x) 0 f.cells := fun x => ⟨_, rfl, rfl, by simp⟩
  have hldn0 := fun x tm rb => (hH0 x).ldn tm rb 3 rfl
  have x0 : ∀ (a b : AV), [a, b][0]? = some a := fun _ _ => rfl
  have x1 : ∀ (a b : AV), [a, b][1]? = some b := fun _ _ => rfl
  have hco : ∀ st, doCall F (E G F) .pureV 78 [f.av] st = some (.tup [.int .i64 q, .int .i64 0], st) := fun st => by
    rw [doCall_plain1 (plain_fld f), hopen]; rfl
  have hct : ∀ tm bx rb, doCall F (E G F) .pure 79 [.int .i64 q] ⟨tm, bx, rb⟩ = some (.own bx.length n, ⟨tm, bx ++ [⟨L.map (.int .i64), 3, 120, .live⟩], rb⟩) := fun tm bx rb => by
    rw [doCall_pureP1 (plain_int _ _), htr, callP_own]
  have hl3 : lenV ⟨Tm.e, [⟨f.cells, 3, 24, .live⟩, ⟨[.int .i64 0, .nil], 2, 39, .live⟩, ⟨L.map (.int .i64), 3, 120, .live⟩], 0⟩ (.own 2 n) = some (n : Int) := own3_len rfl (by decide) hlen _ _
  have hlen3 : ∀ tm rb x, lenV ⟨tm, ⟨f.cells, 3, 24, .live⟩ :: ⟨[.int .i64 0, .nil], 2, 39, .live⟩ :: ⟨L.map (.int .i64), 3, 120, .live⟩ :: x, rb⟩ (.own 2 n) = some (n : Int) := fun tm rb x => own3_len (s := .live) rfl (by decide) hlen _ _
  have hbd : bldV [(0, 1, .int .i64 (n : Int))] [.int .i64 0, .nil] = some (.agg [.int .i64 n, .nil]) := rfl
  have hwd := fun x tm rb => write_whole (bx := ⟨f.cells, 3, 24, .live⟩ :: ⟨[.int .i64 0, .nil], 2, 39, .live⟩ :: ⟨L.map (.int .i64), 3, 120, .live⟩ :: ⟨[.int .i64 0, .nil], 2, 39, .live⟩ :: x) (id := 3) (sz := 2) (e := 39) rfl tm rb 2 rfl (new := [.int .i64 n, .nil]) rfl rfl
  obtain ⟨v, hv, hvv⟩ := pcall_tup (G := G) (Pp := fun v => v = .tup [(planeD q n tr).av, .int .i64 0]) hF (args := [f.av]) (by
    unfold mf27
    simp only
    repeat' first
      | refine W_seq ?_
      | refine W_skip ?_
      | refine W_exit ?_
      | refine W_ret ?_
      | refine W_block ?_
      | (refine W_ops (by simp (maxSteps := 1000000) (disch := first | decide | omega | assumption | exact plain_int _ _ | exact plain_ints _ | exact plain_bool _ | exact one_int _ _ | exact plain_des _ | exact plain_rows _) only [AM, initTm, Nat.reduceAdd, Nat.reduceEqDiff, reduceCtorEq, run_aaddr, run_stn, run_bld, bldV_nil, hfc, hf1, hf3, run_ldn, hldn0, hfa', hco, hct, x0, x1, bne_self_eq_false, hlen3, run_bld, hbd, hwd, List.length_cons, List.length_nil, List.set_cons_succ, List.set_cons_zero]; rfl) ?_)
      | (refine W_cond (by simp (maxSteps := 1000000) (disch := first | decide | omega | assumption | exact plain_int _ _ | exact plain_ints _ | exact plain_bool _ | exact one_int _ _ | exact plain_des _ | exact plain_rows _) only [AM, initTm, Nat.reduceAdd, Nat.reduceEqDiff, reduceCtorEq, run_aaddr, run_stn, run_bld, bldV_nil, hfc, hf1, hf3, run_ldn, hldn0, hfa', hco, hct, x0, x1, bne_self_eq_false, hlen3, run_bld, hbd, hwd, List.length_cons, List.length_nil, List.set_cons_succ, List.set_cons_zero]; rfl) ?_ ?_ <;> intro hcond <;> (try simp only [decide_eq_true_eq, decide_eq_false_iff_not, beq_iff_eq, beq_eq_false_iff_ne, ne_eq, reduceCtorEq, Bool.not_eq_true', Bool.not_eq_false', bne_iff_ne, bne_eq_false_iff_eq] at hcond) <;> (try (exfalso; omega)))
      | refine thenQ_n ?_
      | refine thenQ_e ?_
      | refine thenQ_r ?_
      | refine outQ_n ?_
      | refine outQ_r ?_
      | refine outQ_e ?_
      | refine outQ_d (by decide) ?_
    refine W_loop (k := n) (fun m s => ∃ (i : Nat) (bx : List Box) (V : AV) (tm : Tm), s = ⟨tm, bx, 0⟩ ∧ tm.get 1 = .ptr 0 3 0 ∧ tm.get 2 = .ptr 1 2 0 ∧ tm.get 6 = .own 2 n ∧ tm.get 7 = .ptr 3 2 0 ∧ tm.get 27 = .own 2 n ∧ tm.get 28 = .int .i64 n ∧ tm.get 29 = .int .i64 i ∧ i ≤ n ∧ m = n - i ∧
      bx[0]? = some ⟨f.cells, 3, 24, .live⟩ ∧ bx[1]? = some ⟨[.int .i64 0, .nil], 2, 39, .live⟩ ∧ bx[2]? = some ⟨L.map (.int .i64), 3, 120, .live⟩ ∧ bx[3]? = some ⟨[.int .i64 n, V], 2, 39, .live⟩ ∧ 4 ≤ bx.length ∧ Rows bx bx.length V (rowsUpto q tr n i)) ⟨0, _, .nil, _, rfl, by simp (maxSteps := 1000000) (disch := first | decide | omega | assumption | exact plain_int _ _ | exact plain_ints _ | exact plain_bool _ | exact one_int _ _ | exact plain_des _ | exact plain_rows _) only [AM, initTm, Nat.reduceAdd, Nat.reduceEqDiff, reduceCtorEq, run_aaddr, run_stn, run_bld, bldV_nil], by simp (maxSteps := 1000000) (disch := first | decide | omega | assumption | exact plain_int _ _ | exact plain_ints _ | exact plain_bool _ | exact one_int _ _ | exact plain_des _ | exact plain_rows _) only [AM, initTm, Nat.reduceAdd, Nat.reduceEqDiff, reduceCtorEq, run_aaddr, run_stn, run_bld, bldV_nil], by simp (maxSteps := 1000000) (disch := first | decide | omega | assumption | exact plain_int _ _ | exact plain_ints _ | exact plain_bool _ | exact one_int _ _ | exact plain_des _ | exact plain_rows _) only [AM, initTm, Nat.reduceAdd, Nat.reduceEqDiff, reduceCtorEq, run_aaddr, run_stn, run_bld, bldV_nil], by simp (maxSteps := 1000000) (disch := first | decide | omega | assumption | exact plain_int _ _ | exact plain_ints _ | exact plain_bool _ | exact one_int _ _ | exact plain_des _ | exact plain_rows _) only [AM, initTm, Nat.reduceAdd, Nat.reduceEqDiff, reduceCtorEq, run_aaddr, run_stn, run_bld, bldV_nil], by simp (maxSteps := 1000000) (disch := first | decide | omega | assumption | exact plain_int _ _ | exact plain_ints _ | exact plain_bool _ | exact one_int _ _ | exact plain_des _ | exact plain_rows _) only [AM, initTm, Nat.reduceAdd, Nat.reduceEqDiff, reduceCtorEq, run_aaddr, run_stn, run_bld, bldV_nil], by simp (maxSteps := 1000000) (disch := first | decide | omega | assumption | exact plain_int _ _ | exact plain_ints _ | exact plain_bool _ | exact one_int _ _ | exact plain_des _ | exact plain_rows _) only [AM, initTm, Nat.reduceAdd, Nat.reduceEqDiff, reduceCtorEq, run_aaddr, run_stn, run_bld, bldV_nil], by simp (maxSteps := 1000000) (disch := first | decide | omega | assumption | exact plain_int _ _ | exact plain_ints _ | exact plain_bool _ | exact one_int _ _ | exact plain_des _ | exact plain_rows _) only [AM, initTm, Nat.reduceAdd, Nat.reduceEqDiff, reduceCtorEq, run_aaddr, run_stn, run_bld, bldV_nil]; rfl, by omega, rfl, rfl, rfl, rfl, rfl, by simp, .inl ⟨rfl, rfl⟩⟩ ?_
    rintro m s ⟨i, bx, V, tm, rfl, g1, g2, g6, g7, g27, g28, g29, hi, rfl, b0, b1, b2, b3, h4, hR⟩
    by_cases hil : (i : Int) < (n : Int)
    · obtain ⟨hti, hTi⟩ := hT.at_ i (by omega)
      have hia := fun tm rb => own3_iaddr b2 (by decide) hlen tm rb
      have hld3 := fun tm rb => own3_ldn b2 (by decide) hlen tm rb i (by omega)
      rw [hti] at hld3
      generalize hb : tr.getD i [] = b at *
      obtain ⟨Z3, hZ3⟩ : ∃ Z : List Int, Z = [0, 0, 0] := ⟨_, rfl⟩
      have hz3 : [AV.int .i64 0, .int .i64 0, .int .i64 0] = Z3.map (.int .i64) := by rw [hZ3]; rfl
      have hZl : Z3.length = 3 := by rw [hZ3]; rfl
      have hN : HasArr (bx ++ [⟨Z3.map (.int .i64), 3, 120, .live⟩]) bx.length 3 120 Z3 := by simp [HasArr]
      have hwN := fun tm rb => hN.whole tm rb 3 hZl.symm b hTi.1
      obtain ⟨N, hNl⟩ : ∃ N, N = bx.length := ⟨_, rfl⟩
      have b2N : ∀ y : Box, (bx ++ [y])[2]? = some ⟨L.map (.int .i64), 3, 120, .live⟩ := fun y => by rw [List.getElem?_append_left (by omega)]; exact b2
      have hlenN : ∀ (y : Box) tm rb, lenV ⟨tm, bx ++ [y], rb⟩ (.own 2 n) = some (n : Int) := fun y tm rb => own3_len (b2N y) (by decide) hlen tm rb
      repeat' first
        | refine W_seq ?_
        | refine W_skip ?_
        | refine W_exit ?_
        | refine W_ret ?_
        | refine W_block ?_
        | (refine W_ops (by simp (maxSteps := 1000000) (disch := first | decide | omega | assumption | exact plain_int _ _ | exact plain_ints _ | exact plain_bool _ | exact one_int _ _ | exact plain_des _ | exact plain_rows _) only [AM, initTm, Nat.reduceAdd, Nat.reduceEqDiff, reduceCtorEq, run_aaddr, run_stn, run_bld, bldV_nil, g1, g2, g6, g7, g27, g28, g29, hil, hia, run_ldn, hld3, hz3, hZl, hwN, hlenN, List.length_map, set_last]; rfl) ?_)
        | (refine W_cond (by simp (maxSteps := 1000000) (disch := first | decide | omega | assumption | exact plain_int _ _ | exact plain_ints _ | exact plain_bool _ | exact one_int _ _ | exact plain_des _ | exact plain_rows _) only [AM, initTm, Nat.reduceAdd, Nat.reduceEqDiff, reduceCtorEq, run_aaddr, run_stn, run_bld, bldV_nil, g1, g2, g6, g7, g27, g28, g29, hil, hia, run_ldn, hld3, hz3, hZl, hwN, hlenN, List.length_map, set_last]; rfl) ?_ ?_ <;> intro hcond <;> (try simp only [decide_eq_true_eq, decide_eq_false_iff_not, beq_iff_eq, beq_eq_false_iff_ne, ne_eq, reduceCtorEq, Bool.not_eq_true', Bool.not_eq_false', bne_iff_ne, bne_eq_false_iff_eq] at hcond) <;> (try (exfalso; omega)))
        | refine thenQ_n ?_
        | refine thenQ_e ?_
        | refine thenQ_r ?_
        | refine outQ_n ?_
        | refine outQ_r ?_
        | refine outQ_e ?_
        | refine outQ_d (by decide) ?_
      rw [← hNl]
      refine W_loop (k := n) (fun m s => ∃ (j : Nat) (bxj : List Box) (c : AV) (tm : Tm), s = ⟨tm, bxj, 0⟩ ∧ tm.get 1 = .ptr 0 3 0 ∧ tm.get 2 = .ptr 1 2 0 ∧ tm.get 6 = .own 2 n ∧ tm.get 7 = .ptr 3 2 0 ∧ tm.get 27 = .own 2 n ∧ tm.get 28 = .int .i64 n ∧ tm.get 29 = .int .i64 i ∧ tm.get 9 = .ptr N 3 0 ∧ tm.get 10 = c ∧ tm.get 33 = .own 2 n ∧ tm.get 34 = .int .i64 n ∧ tm.get 35 = .int .i64 j ∧ j ≤ n ∧ m = n - j ∧
        N + 1 ≤ bxj.length ∧ (∀ k, k < N → bxj[k]? = bx[k]?) ∧ bxj[N]? = some ⟨b.map (.int .i64), 3, 120, .live⟩ ∧ RowAt bxj (N + 1) bxj.length c (rowUpto q tr i j)) ⟨0, bx ++ [⟨b.map (.int .i64), 3, 120, .live⟩], .nil, _, rfl, by simp (maxSteps := 1000000) (disch := first | decide | omega | assumption | exact plain_int _ _ | exact plain_ints _ | exact plain_bool _ | exact one_int _ _ | exact plain_des _ | exact plain_rows _) only [AM, initTm, Nat.reduceAdd, Nat.reduceEqDiff, reduceCtorEq, run_aaddr, run_stn, run_bld, bldV_nil, g1], by simp (maxSteps := 1000000) (disch := first | decide | omega | assumption | exact plain_int _ _ | exact plain_ints _ | exact plain_bool _ | exact one_int _ _ | exact plain_des _ | exact plain_rows _) only [AM, initTm, Nat.reduceAdd, Nat.reduceEqDiff, reduceCtorEq, run_aaddr, run_stn, run_bld, bldV_nil, g2], by simp (maxSteps := 1000000) (disch := first | decide | omega | assumption | exact plain_int _ _ | exact plain_ints _ | exact plain_bool _ | exact one_int _ _ | exact plain_des _ | exact plain_rows _) only [AM, initTm, Nat.reduceAdd, Nat.reduceEqDiff, reduceCtorEq, run_aaddr, run_stn, run_bld, bldV_nil, g6], by simp (maxSteps := 1000000) (disch := first | decide | omega | assumption | exact plain_int _ _ | exact plain_ints _ | exact plain_bool _ | exact one_int _ _ | exact plain_des _ | exact plain_rows _) only [AM, initTm, Nat.reduceAdd, Nat.reduceEqDiff, reduceCtorEq, run_aaddr, run_stn, run_bld, bldV_nil, g7], by simp (maxSteps := 1000000) (disch := first | decide | omega | assumption | exact plain_int _ _ | exact plain_ints _ | exact plain_bool _ | exact one_int _ _ | exact plain_des _ | exact plain_rows _) only [AM, initTm, Nat.reduceAdd, Nat.reduceEqDiff, reduceCtorEq, run_aaddr, run_stn, run_bld, bldV_nil, g27], by simp (maxSteps := 1000000) (disch := first | decide | omega | assumption | exact plain_int _ _ | exact plain_ints _ | exact plain_bool _ | exact one_int _ _ | exact plain_des _ | exact plain_rows _) only [AM, initTm, Nat.reduceAdd, Nat.reduceEqDiff, reduceCtorEq, run_aaddr, run_stn, run_bld, bldV_nil, g28], by simp (maxSteps := 1000000) (disch := first | decide | omega | assumption | exact plain_int _ _ | exact plain_ints _ | exact plain_bool _ | exact one_int _ _ | exact plain_des _ | exact plain_rows _) only [AM, initTm, Nat.reduceAdd, Nat.reduceEqDiff, reduceCtorEq, run_aaddr, run_stn, run_bld, bldV_nil, g29], by simp (maxSteps := 1000000) (disch := first | decide | omega | assumption | exact plain_int _ _ | exact plain_ints _ | exact plain_bool _ | exact one_int _ _ | exact plain_des _ | exact plain_rows _) only [AM, initTm, Nat.reduceAdd, Nat.reduceEqDiff, reduceCtorEq, run_aaddr, run_stn, run_bld, bldV_nil, hNl], by simp (maxSteps := 1000000) (disch := first | decide | omega | assumption | exact plain_int _ _ | exact plain_ints _ | exact plain_bool _ | exact one_int _ _ | exact plain_des _ | exact plain_rows _) only [AM, initTm, Nat.reduceAdd, Nat.reduceEqDiff, reduceCtorEq, run_aaddr, run_stn, run_bld, bldV_nil], by simp (maxSteps := 1000000) (disch := first | decide | omega | assumption | exact plain_int _ _ | exact plain_ints _ | exact plain_bool _ | exact one_int _ _ | exact plain_des _ | exact plain_rows _) only [AM, initTm, Nat.reduceAdd, Nat.reduceEqDiff, reduceCtorEq, run_aaddr, run_stn, run_bld, bldV_nil, g6], by simp (maxSteps := 1000000) (disch := first | decide | omega | assumption | exact plain_int _ _ | exact plain_ints _ | exact plain_bool _ | exact one_int _ _ | exact plain_des _ | exact plain_rows _) only [AM, initTm, Nat.reduceAdd, Nat.reduceEqDiff, reduceCtorEq, run_aaddr, run_stn, run_bld, bldV_nil], by simp (maxSteps := 1000000) (disch := first | decide | omega | assumption | exact plain_int _ _ | exact plain_ints _ | exact plain_bool _ | exact one_int _ _ | exact plain_des _ | exact plain_rows _) only [AM, initTm, Nat.reduceAdd, Nat.reduceEqDiff, reduceCtorEq, run_aaddr, run_stn, run_bld, bldV_nil]; rfl, by omega, rfl, by simp [hNl], fun k hk => List.getElem?_append_left (by omega), by rw [hNl]; simp, .inl ⟨rfl, rfl⟩⟩ ?_
      clear g1 g2 g6 g7 g27 g28 g29 tm
      rintro m s ⟨j, bxj, c, tm, rfl, g1, g2, g6, g7, g27, g28, g29, g9, g10, g33, g34, g35, hj, rfl, hNb, hkeep, bN, hrow⟩
      have c0 : bxj[0]? = some ⟨f.cells, 3, 24, .live⟩ := by rw [hkeep 0 (by omega)]; exact b0
      have c2 : bxj[2]? = some ⟨L.map (.int .i64), 3, 120, .live⟩ := by rw [hkeep 2 (by omega)]; exact b2
      by_cases hjl : (j : Int) < (n : Int)
      · obtain ⟨htj, hTj⟩ := hT.at_ j (by omega)
        have hiaj := fun tm rb => own3_iaddr c2 (by decide) hlen tm rb
        have hldj := fun tm rb => own3_ldn c2 (by decide) hlen tm rb j (by omega)
        rw [htj] at hldj
        have hsucc : rowUpto q tr i (j + 1) = if prodT q (tr.getD i []) (tr.getD j []) = 0 then rowUpto q tr i j ++ [(j : Int)] else rowUpto q tr i j := rfl
        rw [hb] at hsucc
        generalize ht : tr.getD j [] = t at *
        have hM : HasArr (bxj ++ [⟨Z3.map (.int .i64), 3, 120, .live⟩]) bxj.length 3 120 Z3 := by simp [HasArr]
        have hwM := fun tm rb => hM.whole tm rb 3 hZl.symm t hTj.1
        obtain ⟨bx1, hbx1⟩ : ∃ bx1 : List Box, bx1 = bxj ++ [⟨t.map (.int .i64), 3, 120, .live⟩] := ⟨_, rfl⟩
        have hb1len : bx1.length = bxj.length + 1 := by rw [hbx1]; simp
        have hold : ∀ k, k < bxj.length → bx1[k]? = bxj[k]? := fun k hk => by rw [hbx1]; exact List.getElem?_append_left hk
        have hF0 : Has bx1 0 f.cells := ⟨_, by rw [hold 0 (by omega)]; exact c0, rfl, by simp⟩
        have hFl := fun tm rb => hF0.ldn tm rb 3 rfl
        have hBa : HasArr bx1 N 3 120 b := by unfold HasArr; rw [hold N (by omega)]; exact bN
        have hBl := fun tm rb => hBa.has.ldn tm rb 3 (by rw [List.length_map, hTi.1])
        have hTa : HasArr bx1 bxj.length 3 120 t := by unfold HasArr; rw [hbx1]; simp
        have hTl := fun tm rb => hTa.has.ldn tm rb 3 (by rw [List.length_map, hTj.1])
        have hprod := product_spec (G := G) hPr f q A b t hTi hTj
        have hcp : ∀ st, doCall F (E G F) .pureV 80 [f.av, .agg (b.map (.int .i64)), .agg (t.map (.int .i64))] st = some (.int .i64 (prodT q b t : Nat), st) := fun st => by
          rw [doCall_plain3 (plain_fld f) (plain_arr _) (plain_arr _), hprod]; rfl
        have hrow1 : RowAt bx1 (N + 1) bx1.length c (rowUpto q tr i j) := hrow.mono (fun k _ hk => hold k hk) (by omega)
        have hrl := rowUpto_len q tr i j
        by_cases hp0 : prodT q b t = 0
        · have he : (((prodT q b t : Nat) : Int) == 0) = true := by rw [hp0]; rfl
          rw [if_pos hp0] at hsucc
          obtain ⟨c', bx2, happ, hrow2, hle2, hkeep2⟩ := hrow1.add (Nat.le_refl _) (by omega) (j : Int) (by omega)
          repeat' first
            | refine W_seq ?_
            | refine W_skip ?_
            | refine W_exit ?_
            | refine W_ret ?_
            | refine W_block ?_
            | (refine W_ops (by simp (maxSteps := 1000000) (disch := first | decide | omega | assumption | exact plain_int _ _ | exact plain_ints _ | exact plain_bool _ | exact one_int _ _ | exact plain_des _ | exact plain_rows _) only [AM, initTm, Nat.reduceAdd, Nat.reduceEqDiff, reduceCtorEq, run_aaddr, run_stn, run_bld, bldV_nil, g1, g2, g6, g7, g27, g28, g29, g9, g10, g33, g34, g35, hjl, hiaj, run_ldn, hldj, hz3, hZl, hwM, List.length_map, set_last, ← hbx1, hFl, hfa', hBl, hTl, hcp, he, happ]; rfl) ?_)
            | (refine W_cond (by simp (maxSteps := 1000000) (disch := first | decide | omega | assumption | exact plain_int _ _ | exact plain_ints _ | exact plain_bool _ | exact one_int _ _ | exact plain_des _ | exact plain_rows _) only [AM, initTm, Nat.reduceAdd, Nat.reduceEqDiff, reduceCtorEq, run_aaddr, run_stn, run_bld, bldV_nil, g1, g2, g6, g7, g27, g28, g29, g9, g10, g33, g34, g35, hjl, hiaj, run_ldn, hldj, hz3, hZl, hwM, List.length_map, set_last, ← hbx1, hFl, hfa', hBl, hTl, hcp, he, happ]; rfl) ?_ ?_ <;> intro hcond <;> (try simp only [decide_eq_true_eq, decide_eq_false_iff_not, beq_iff_eq, beq_eq_false_iff_ne, ne_eq, reduceCtorEq, Bool.not_eq_true', Bool.not_eq_false', bne_iff_ne, bne_eq_false_iff_eq] at hcond) <;> (try (exfalso; omega)))
            | refine thenQ_n ?_
            | refine thenQ_e ?_
            | refine thenQ_r ?_
            | refine outQ_n ?_
            | refine outQ_r ?_
            | refine outQ_e ?_
            | refine outQ_d (by decide) ?_
          refine ⟨n - (j + 1), by omega, j + 1, bx2, c', _, rfl, by simp (maxSteps := 1000000) (disch := first | decide | omega | assumption | exact plain_int _ _ | exact plain_ints _ | exact plain_bool _ | exact one_int _ _ | exact plain_des _ | exact plain_rows _) only [AM, initTm, Nat.reduceAdd, Nat.reduceEqDiff, reduceCtorEq, run_aaddr, run_stn, run_bld, bldV_nil, g1], by simp (maxSteps := 1000000) (disch := first | decide | omega | assumption | exact plain_int _ _ | exact plain_ints _ | exact plain_bool _ | exact one_int _ _ | exact plain_des _ | exact plain_rows _) only [AM, initTm, Nat.reduceAdd, Nat.reduceEqDiff, reduceCtorEq, run_aaddr, run_stn, run_bld, bldV_nil, g2], by simp (maxSteps := 1000000) (disch := first | decide | omega | assumption | exact plain_int _ _ | exact plain_ints _ | exact plain_bool _ | exact one_int _ _ | exact plain_des _ | exact plain_rows _) only [AM, initTm, Nat.reduceAdd, Nat.reduceEqDiff, reduceCtorEq, run_aaddr, run_stn, run_bld, bldV_nil, g6], by simp (maxSteps := 1000000) (disch := first | decide | omega | assumption | exact plain_int _ _ | exact plain_ints _ | exact plain_bool _ | exact one_int _ _ | exact plain_des _ | exact plain_rows _) only [AM, initTm, Nat.reduceAdd, Nat.reduceEqDiff, reduceCtorEq, run_aaddr, run_stn, run_bld, bldV_nil, g7], by simp (maxSteps := 1000000) (disch := first | decide | omega | assumption | exact plain_int _ _ | exact plain_ints _ | exact plain_bool _ | exact one_int _ _ | exact plain_des _ | exact plain_rows _) only [AM, initTm, Nat.reduceAdd, Nat.reduceEqDiff, reduceCtorEq, run_aaddr, run_stn, run_bld, bldV_nil, g27], by simp (maxSteps := 1000000) (disch := first | decide | omega | assumption | exact plain_int _ _ | exact plain_ints _ | exact plain_bool _ | exact one_int _ _ | exact plain_des _ | exact plain_rows _) only [AM, initTm, Nat.reduceAdd, Nat.reduceEqDiff, reduceCtorEq, run_aaddr, run_stn, run_bld, bldV_nil, g28], by simp (maxSteps := 1000000) (disch := first | decide | omega | assumption | exact plain_int _ _ | exact plain_ints _ | exact plain_bool _ | exact one_int _ _ | exact plain_des _ | exact plain_rows _) only [AM, initTm, Nat.reduceAdd, Nat.reduceEqDiff, reduceCtorEq, run_aaddr, run_stn, run_bld, bldV_nil, g29], by simp (maxSteps := 1000000) (disch := first | decide | omega | assumption | exact plain_int _ _ | exact plain_ints _ | exact plain_bool _ | exact one_int _ _ | exact plain_des _ | exact plain_rows _) only [AM, initTm, Nat.reduceAdd, Nat.reduceEqDiff, reduceCtorEq, run_aaddr, run_stn, run_bld, bldV_nil, g9], by simp (maxSteps := 1000000) (disch := first | decide | omega | assumption | exact plain_int _ _ | exact plain_ints _ | exact plain_bool _ | exact one_int _ _ | exact plain_des _ | exact plain_rows _) only [AM, initTm, Nat.reduceAdd, Nat.reduceEqDiff, reduceCtorEq, run_aaddr, run_stn, run_bld, bldV_nil], by simp (maxSteps := 1000000) (disch := first | decide | omega | assumption | exact plain_int _ _ | exact plain_ints _ | exact plain_bool _ | exact one_int _ _ | exact plain_des _ | exact plain_rows _) only [AM, initTm, Nat.reduceAdd, Nat.reduceEqDiff, reduceCtorEq, run_aaddr, run_stn, run_bld, bldV_nil, g33], by simp (maxSteps := 1000000) (disch := first | decide | omega | assumption | exact plain_int _ _ | exact plain_ints _ | exact plain_bool _ | exact one_int _ _ | exact plain_des _ | exact plain_rows _) only [AM, initTm, Nat.reduceAdd, Nat.reduceEqDiff, reduceCtorEq, run_aaddr, run_stn, run_bld, bldV_nil, g34], by simp (maxSteps := 1000000) (disch := first | decide | omega | assumption | exact plain_int _ _ | exact plain_ints _ | exact plain_bool _ | exact one_int _ _ | exact plain_des _ | exact plain_rows _) only [AM, initTm, Nat.reduceAdd, Nat.reduceEqDiff, reduceCtorEq, run_aaddr, run_stn, run_bld, bldV_nil]; rfl, by omega, rfl, by omega, fun k hk => ?_, ?_, by rw [hsucc]; exact hrow2⟩
          · rw [hkeep2 k (by omega), hold k (by omega), hkeep k hk]
          · rw [hkeep2 N (by omega), hold N (by omega)]; exact bN
        · have he : (((prodT q b t : Nat) : Int) == 0) = false := by rw [beq_eq_false_iff_ne]; omega
          rw [if_neg hp0] at hsucc
          repeat' first
            | refine W_seq ?_
            | refine W_skip ?_
            | refine W_exit ?_
            | refine W_ret ?_
            | refine W_block ?_
            | (refine W_ops (by simp (maxSteps := 1000000) (disch := first | decide | omega | assumption | exact plain_int _ _ | exact plain_ints _ | exact plain_bool _ | exact one_int _ _ | exact plain_des _ | exact plain_rows _) only [AM, initTm, Nat.reduceAdd, Nat.reduceEqDiff, reduceCtorEq, run_aaddr, run_stn, run_bld, bldV_nil, g1, g2, g6, g7, g27, g28, g29, g9, g10, g33, g34, g35, hjl, hiaj, run_ldn, hldj, hz3, hZl, hwM, List.length_map, set_last, ← hbx1, hFl, hfa', hBl, hTl, hcp, he]; rfl) ?_)
            | (refine W_cond (by simp (maxSteps := 1000000) (disch := first | decide | omega | assumption | exact plain_int _ _ | exact plain_ints _ | exact plain_bool _ | exact one_int _ _ | exact plain_des _ | exact plain_rows _) only [AM, initTm, Nat.reduceAdd, Nat.reduceEqDiff, reduceCtorEq, run_aaddr, run_stn, run_bld, bldV_nil, g1, g2, g6, g7, g27, g28, g29, g9, g10, g33, g34, g35, hjl, hiaj, run_ldn, hldj, hz3, hZl, hwM, List.length_map, set_last, ← hbx1, hFl, hfa', hBl, hTl, hcp, he]; rfl) ?_ ?_ <;> intro hcond <;> (try simp only [decide_eq_true_eq, decide_eq_false_iff_not, beq_iff_eq, beq_eq_false_iff_ne, ne_eq, reduceCtorEq, Bool.not_eq_true', Bool.not_eq_false', bne_iff_ne, bne_eq_false_iff_eq] at hcond) <;> (try (exfalso; omega)))
            | refine thenQ_n ?_
            | refine thenQ_e ?_
            | refine thenQ_r ?_
            | refine outQ_n ?_
            | refine outQ_r ?_
            | refine outQ_e ?_
            | refine outQ_d (by decide) ?_
          refine ⟨n - (j + 1), by omega, j + 1, bx1, c, _, rfl, by simp (maxSteps := 1000000) (disch := first | decide | omega | assumption | exact plain_int _ _ | exact plain_ints _ | exact plain_bool _ | exact one_int _ _ | exact plain_des _ | exact plain_rows _) only [AM, initTm, Nat.reduceAdd, Nat.reduceEqDiff, reduceCtorEq, run_aaddr, run_stn, run_bld, bldV_nil, g1], by simp (maxSteps := 1000000) (disch := first | decide | omega | assumption | exact plain_int _ _ | exact plain_ints _ | exact plain_bool _ | exact one_int _ _ | exact plain_des _ | exact plain_rows _) only [AM, initTm, Nat.reduceAdd, Nat.reduceEqDiff, reduceCtorEq, run_aaddr, run_stn, run_bld, bldV_nil, g2], by simp (maxSteps := 1000000) (disch := first | decide | omega | assumption | exact plain_int _ _ | exact plain_ints _ | exact plain_bool _ | exact one_int _ _ | exact plain_des _ | exact plain_rows _) only [AM, initTm, Nat.reduceAdd, Nat.reduceEqDiff, reduceCtorEq, run_aaddr, run_stn, run_bld, bldV_nil, g6], by simp (maxSteps := 1000000) (disch := first | decide | omega | assumption | exact plain_int _ _ | exact plain_ints _ | exact plain_bool _ | exact one_int _ _ | exact plain_des _ | exact plain_rows _) only [AM, initTm, Nat.reduceAdd, Nat.reduceEqDiff, reduceCtorEq, run_aaddr, run_stn, run_bld, bldV_nil, g7], by simp (maxSteps := 1000000) (disch := first | decide | omega | assumption | exact plain_int _ _ | exact plain_ints _ | exact plain_bool _ | exact one_int _ _ | exact plain_des _ | exact plain_rows _) only [AM, initTm, Nat.reduceAdd, Nat.reduceEqDiff, reduceCtorEq, run_aaddr, run_stn, run_bld, bldV_nil, g27], by simp (maxSteps := 1000000) (disch := first | decide | omega | assumption | exact plain_int _ _ | exact plain_ints _ | exact plain_bool _ | exact one_int _ _ | exact plain_des _ | exact plain_rows _) only [AM, initTm, Nat.reduceAdd, Nat.reduceEqDiff, reduceCtorEq, run_aaddr, run_stn, run_bld, bldV_nil, g28], by simp (maxSteps := 1000000) (disch := first | decide | omega | assumption | exact plain_int _ _ | exact plain_ints _ | exact plain_bool _ | exact one_int _ _ | exact plain_des _ | exact plain_rows _) only [AM, initTm, Nat.reduceAdd, Nat.reduceEqDiff, reduceCtorEq, run_aaddr, run_stn, run_bld, bldV_nil, g29], by simp (maxSteps := 1000000) (disch := first | decide | omega | assumption | exact plain_int _ _ | exact plain_ints _ | exact plain_bool _ | exact one_int _ _ | exact plain_des _ | exact plain_rows _) only [AM, initTm, Nat.reduceAdd, Nat.reduceEqDiff, reduceCtorEq, run_aaddr, run_stn, run_bld, bldV_nil, g9], by simp (maxSteps := 1000000) (disch := first | decide | omega | assumption | exact plain_int _ _ | exact plain_ints _ | exact plain_bool _ | exact one_int _ _ | exact plain_des _ | exact plain_rows _) only [AM, initTm, Nat.reduceAdd, Nat.reduceEqDiff, reduceCtorEq, run_aaddr, run_stn, run_bld, bldV_nil, g10], by simp (maxSteps := 1000000) (disch := first | decide | omega | assumption | exact plain_int _ _ | exact plain_ints _ | exact plain_bool _ | exact one_int _ _ | exact plain_des _ | exact plain_rows _) only [AM, initTm, Nat.reduceAdd, Nat.reduceEqDiff, reduceCtorEq, run_aaddr, run_stn, run_bld, bldV_nil, g33], by simp (maxSteps := 1000000) (disch := first | decide | omega | assumption | exact plain_int _ _ | exact plain_ints _ | exact plain_bool _ | exact one_int _ _ | exact plain_des _ | exact plain_rows _) only [AM, initTm, Nat.reduceAdd, Nat.reduceEqDiff, reduceCtorEq, run_aaddr, run_stn, run_bld, bldV_nil, g34], by simp (maxSteps := 1000000) (disch := first | decide | omega | assumption | exact plain_int _ _ | exact plain_ints _ | exact plain_bool _ | exact one_int _ _ | exact plain_des _ | exact plain_rows _) only [AM, initTm, Nat.reduceAdd, Nat.reduceEqDiff, reduceCtorEq, run_aaddr, run_stn, run_bld, bldV_nil]; rfl, by omega, rfl, by omega, fun k hk => ?_, ?_, by rw [hsucc]; exact hrow1⟩
          · rw [hold k (by omega), hkeep k hk]
          · rw [hold N (by omega)]; exact bN
      · have ej : j = n := by omega
        subst ej
        have c3 : bxj[3]? = some ⟨[.int .i64 (j : Nat), V], 2, 39, .live⟩ := by rw [hkeep 3 (by omega)]; exact b3
        have hco := hrow.one
        obtain ⟨bx1, hbx1⟩ : ∃ bx1 : List Box, bx1 = bxj ++ [⟨[c], 1, 22, .live⟩] := ⟨_, rfl⟩
        have hb1len : bx1.length = bxj.length + 1 := by rw [hbx1]; simp
        have hold : ∀ k, k < bxj.length → bx1[k]? = bxj[k]? := fun k hk => by rw [hbx1]; exact List.getElem?_append_left hk
        have hR1 : Rows bx1 N V (rowsUpto q tr j i) := hR.mono (fun k _ hk => by rw [hold k (by omega), hkeep k (by omega)]) (by omega)
        have hrow1 : RowAt bx1 N bx1.length c (rowUpto q tr i j) := (hrow.mono (fun k _ hk => hold k hk) (by omega)).lower (by omega)
        obtain ⟨V', bx2, happ, hR2, hle2, hkeep2⟩ := hR1.add (by omega) hrow1 (by omega)
        have happ' : ∀ tm rb, appV ⟨tm, bx1, rb⟩ none 22 1 24 V (.own bxj.length 1) = some (V', ⟨tm, bx2, rb⟩) := fun tm rb => happ tm rb (.own bxj.length 1) (fun st hst => by
          have : st.bx[bxj.length]? = some ⟨[c], 1, 22, .live⟩ := by rw [hst, hbx1]; simp
          simp [St.slice, this]) (by rw [rowsUpto_len]; omega)
        have d3 : bx2[3]? = some ⟨[.int .i64 (j : Nat), V], 2, 39, .live⟩ := by rw [hkeep2 3 (by omega), hold 3 (by omega)]; exact c3
        have hH3 : Has bxj 3 [.int .i64 (j : Nat), V] := ⟨_, c3, rfl, by simp⟩
        have hfa3 := fun tm rb o off => hH3.faddr tm rb 2 o off rfl
        have hld3 : ∀ tm rb, ld1V ⟨tm, bxj, rb⟩ (.ptr 3 2 1) = some V := fun tm rb => hH3.ld1 tm rb 2 1 rfl
        have hG3 : Has bx2 3 [.int .i64 (j : Nat), V] := ⟨_, d3, rfl, by simp⟩
        have hfb3 := fun tm rb o off => hG3.faddr tm rb 2 o off rfl
        have hV1 := hR2.one
        have hwr := fun tm rb => write_at1 d3 tm rb V' hV1
        have hbl := fun tm rb => blds1V_one tm bxj rb 22 c hco
        repeat' first
          | refine W_seq ?_
          | refine W_skip ?_
          | refine W_exit ?_
          | refine W_ret ?_
          | refine W_block ?_
          | (refine W_ops (by simp (maxSteps := 1000000) (disch := first | decide | omega | assumption | exact plain_int _ _ | exact plain_ints _ | exact plain_bool _ | exact one_int _ _ | exact plain_des _ | exact plain_rows _) only [AM, initTm, Nat.reduceAdd, Nat.reduceEqDiff, reduceCtorEq, run_aaddr, run_stn, run_bld, bldV_nil, g1, g2, g6, g7, g27, g28, g29, g9, g10, g33, g34, g35, hjl, hfa3, hld3, run_blds1, hbl, ← hbx1, happ', hfb3, hV1, hwr]; rfl) ?_)
          | (refine W_cond (by simp (maxSteps := 1000000) (disch := first | decide | omega | assumption | exact plain_int _ _ | exact plain_ints _ | exact plain_bool _ | exact one_int _ _ | exact plain_des _ | exact plain_rows _) only [AM, initTm, Nat.reduceAdd, Nat.reduceEqDiff, reduceCtorEq, run_aaddr, run_stn, run_bld, bldV_nil, g1, g2, g6, g7, g27, g28, g29, g9, g10, g33, g34, g35, hjl, hfa3, hld3, run_blds1, hbl, ← hbx1, happ', hfb3, hV1, hwr]; rfl) ?_ ?_ <;> intro hcond <;> (try simp only [decide_eq_true_eq, decide_eq_false_iff_not, beq_iff_eq, beq_eq_false_iff_ne, ne_eq, reduceCtorEq, Bool.not_eq_true', Bool.not_eq_false', bne_iff_ne, bne_eq_false_iff_eq] at hcond) <;> (try (exfalso; omega)))
          | refine thenQ_n ?_
          | refine thenQ_e ?_
          | refine thenQ_r ?_
          | refine outQ_n ?_
          | refine outQ_r ?_
          | refine outQ_e ?_
          | refine outQ_d (by decide) ?_
        have e2 : 4 ≤ bx2.length := by omega
        refine ⟨j - (i + 1), by omega, i + 1, bx2.set 3 ⟨[.int .i64 (j : Nat), V'], 2, 39, .live⟩, V', _, rfl, by simp (maxSteps := 1000000) (disch := first | decide | omega | assumption | exact plain_int _ _ | exact plain_ints _ | exact plain_bool _ | exact one_int _ _ | exact plain_des _ | exact plain_rows _) only [AM, initTm, Nat.reduceAdd, Nat.reduceEqDiff, reduceCtorEq, run_aaddr, run_stn, run_bld, bldV_nil, g1], by simp (maxSteps := 1000000) (disch := first | decide | omega | assumption | exact plain_int _ _ | exact plain_ints _ | exact plain_bool _ | exact one_int _ _ | exact plain_des _ | exact plain_rows _) only [AM, initTm, Nat.reduceAdd, Nat.reduceEqDiff, reduceCtorEq, run_aaddr, run_stn, run_bld, bldV_nil, g2], by simp (maxSteps := 1000000) (disch := first | decide | omega | assumption | exact plain_int _ _ | exact plain_ints _ | exact plain_bool _ | exact one_int _ _ | exact plain_des _ | exact plain_rows _) only [AM, initTm, Nat.reduceAdd, Nat.reduceEqDiff, reduceCtorEq, run_aaddr, run_stn, run_bld, bldV_nil, g6], by simp (maxSteps := 1000000) (disch := first | decide | omega | assumption | exact plain_int _ _ | exact plain_ints _ | exact plain_bool _ | exact one_int _ _ | exact plain_des _ | exact plain_rows _) only [AM, initTm, Nat.reduceAdd, Nat.reduceEqDiff, reduceCtorEq, run_aaddr, run_stn, run_bld, bldV_nil, g7], by simp (maxSteps := 1000000) (disch := first | decide | omega | assumption | exact plain_int _ _ | exact plain_ints _ | exact plain_bool _ | exact one_int _ _ | exact plain_des _ | exact plain_rows _) only [AM, initTm, Nat.reduceAdd, Nat.reduceEqDiff, reduceCtorEq, run_aaddr, run_stn, run_bld, bldV_nil, g27], by simp (maxSteps := 1000000) (disch := first | decide | omega | assumption | exact plain_int _ _ | exact plain_ints _ | exact plain_bool _ | exact one_int _ _ | exact plain_des _ | exact plain_rows _) only [AM, initTm, Nat.reduceAdd, Nat.reduceEqDiff, reduceCtorEq, run_aaddr, run_stn, run_bld, bldV_nil, g28], by simp (maxSteps := 1000000) (disch := first | decide | omega | assumption | exact plain_int _ _ | exact plain_ints _ | exact plain_bool _ | exact one_int _ _ | exact plain_des _ | exact plain_rows _) only [AM, initTm, Nat.reduceAdd, Nat.reduceEqDiff, reduceCtorEq, run_aaddr, run_stn, run_bld, bldV_nil]; rfl, by omega, rfl, ?_, ?_, ?_, List.getElem?_set_self (by omega), by rw [List.length_set]; exact e2, ?_⟩
        · rw [List.getElem?_set_ne (by decide), hkeep2 0 (by omega), hold 0 (by omega)]; exact c0
        · rw [List.getElem?_set_ne (by decide), hkeep2 1 (by omega), hold 1 (by omega), hkeep 1 (by omega)]; exact b1
        · rw [List.getElem?_set_ne (by decide), hkeep2 2 (by omega), hold 2 (by omega)]; exact c2
        · rw [List.length_set]
          exact hR2.mono (fun k h _ => List.getElem?_set_ne (by omega)) (Nat.le_refl _)
    · have ei : i = n := by omega
      subst ei
      have hH3 : Has bx 3 [.int .i64 (i : Nat), V] := ⟨_, b3, rfl, by simp⟩
      have hld3 := fun tm rb => hH3.ldn tm rb 2 rfl
      have hw1 := fun tm rb => write_whole b1 tm rb 2 rfl (new := [.int .i64 (i : Nat), V]) rfl (by rw [List.all_cons, List.all_cons, hR.one]; rfl)
      repeat' first
        | refine W_seq ?_
        | refine W_skip ?_
        | refine W_exit ?_
        | refine W_ret ?_
        | refine W_block ?_
        | (refine W_ops (by simp (maxSteps := 1000000) (disch := first | decide | omega | assumption | exact plain_int _ _ | exact plain_ints _ | exact plain_bool _ | exact one_int _ _ | exact plain_des _ | exact plain_rows _) only [AM, initTm, Nat.reduceAdd, Nat.reduceEqDiff, reduceCtorEq, run_aaddr, run_stn, run_bld, bldV_nil, g1, g2, g6, g7, g27, g28, g29, hil, run_ldn, hld3, hw1]; rfl) ?_)
        | (refine W_cond (by simp (maxSteps := 1000000) (disch := first | decide | omega | assumption | exact plain_int _ _ | exact plain_ints _ | exact plain_bool _ | exact one_int _ _ | exact plain_des _ | exact plain_rows _) only [AM, initTm, Nat.reduceAdd, Nat.reduceEqDiff, reduceCtorEq, run_aaddr, run_stn, run_bld, bldV_nil, g1, g2, g6, g7, g27, g28, g29, hil, run_ldn, hld3, hw1]; rfl) ?_ ?_ <;> intro hcond <;> (try simp only [decide_eq_true_eq, decide_eq_false_iff_not, beq_iff_eq, beq_eq_false_iff_ne, ne_eq, reduceCtorEq, Bool.not_eq_true', Bool.not_eq_false', bne_iff_ne, bne_eq_false_iff_eq] at hcond) <;> (try (exfalso; omega)))
        | refine thenQ_n ?_
        | refine thenQ_e ?_
        | refine thenQ_r ?_
        | refine outQ_n ?_
        | refine outQ_r ?_
        | refine outQ_e ?_
        | refine outQ_d (by decide) ?_
      have hb1 : (bx.set 1 ⟨[.int .i64 (i : Nat), V], 2, 39, .live⟩)[1]? = some ⟨[.int .i64 (i : Nat), V], 2, 39, .live⟩ := List.getElem?_set_self (by omega)
      have hR' : Rows (bx.set 1 ⟨[.int .i64 (i : Nat), V], 2, 39, .live⟩) bx.length V (rowsUpto q tr i i) := hR.mono (fun k h _ => List.getElem?_set_ne (by omega)) (Nat.le_refl _)
      refine ⟨.inr rfl, [.agg [.int .i64 (i : Nat), V], .int .i64 0], .tup [(planeD q i tr).av, .int .i64 0], mapM_two (res_whole hb1 (by decide) _ 0 2 2 rfl (by simp (maxSteps := 1000000) (disch := first | decide | omega | assumption | exact plain_int _ _ | exact plain_ints _ | exact plain_bool _ | exact one_int _ _ | exact plain_des _ | exact plain_rows _) only [AM, initTm, Nat.reduceAdd, Nat.reduceEqDiff, reduceCtorEq, run_aaddr, run_stn, run_bld, bldV_nil, g2])) (rvar_tmp (by simp (maxSteps := 1000000) (disch := first | decide | omega | assumption | exact plain_int _ _ | exact plain_ints _ | exact plain_bool _ | exact one_int _ _ | exact plain_des _ | exact plain_rows _) only [AM, initTm, Nat.reduceAdd, Nat.reduceEqDiff, reduceCtorEq, run_aaddr, run_stn, run_bld, bldV_nil]) _ _), fun _ _ h => (by cases h), ?_, ?_, rfl⟩
      · show ([AV.agg [.int .i64 (i : Nat), V], .int .i64 0].mapM (reify 7 (bx.set 1 ⟨[.int .i64 (i : Nat), V], 2, 39, .live⟩))).map AV.tup = _
        have h1 : reify 7 (bx.set 1 ⟨[.int .i64 (i : Nat), V], 2, 39, .live⟩) (.agg [.int .i64 (i : Nat), V]) = some (planeD q i tr).av := by
          show ([AV.int .i64 (i : Nat), V].mapM (reify 6 (bx.set 1 ⟨[.int .i64 (i : Nat), V], 2, 39, .live⟩))).map AV.agg = _
          rw [List.mapM_cons, List.mapM_cons, hR'.reify 3]; rfl
        rw [List.mapM_cons, h1]; rfl
      · show ((([AV.int .i64 (i : Nat), V].any (alias 6 (bx.set 1 ⟨[.int .i64 (i : Nat), V], 2, 39, .live⟩)))) || ([AV.int .i64 0].any (alias 7 (bx.set 1 ⟨[.int .i64 (i : Nat), V], 2, 39, .live⟩)))) = false
        have h2 := hR'.alias 3
        simp only [List.any_cons, List.any_nil, h2]
        rfl)
  rw [hv, hvv]
end

end Go.Am

