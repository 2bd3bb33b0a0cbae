/- What an instruction reads and writes of the boxes; nothing else counts, nothing else changes. -/
import Derived.Test.YtcibofbmennjpaaAmDraw2
set_option linter.unusedVariables false
namespace Go.Am

section
variable {G : Nat → List AV} {F : Nat → Option MF} {rec : MC → St → Option (Ex × St)}

def In (s : Option (List Nat)) (k : Nat) : Prop := match s with
  | none => True
  | some l => k ∈ l

theorem hit_spec {a b : Option (List Nat)} (h : hit a b = false) (k : Nat) : ¬ (In a k ∧ In b k) := by
  rintro ⟨ha, hb⟩
  cases a with
  | none =>
    cases b with
    | none => simp [hit] at h
    | some b => cases b <;> simp [hit, In] at h hb
  | some a =>
    cases a with
    | nil => simp [In] at ha
    | cons x a =>
      cases b with
      | none => simp [hit] at h
      | some b =>
        cases b with
        | nil => simp [In] at hb
        | cons y b =>
          simp only [hit, List.any_eq_false] at h
          have := h k ha
          simp [In] at hb
          simp [hb] at this

/-- The frame of an instruction. -/
structure Frame (f : St → Option (AV × List Box)) (fp : Fp) (st : St) (v : AV) (bx : List Box) : Prop where
  out : ∀ k, ¬ In fp.w k → bx[k]? = st.bx[k]?
  len : (∃ l, fp.w = some l) → bx.length = st.bx.length
  same : ∀ bx2, bx2.length = st.bx.length → (∀ k, In fp.r k ∨ In fp.w k → bx2[k]? = st.bx[k]?) → ∃ bx2', f { st with bx := bx2 } = some (v, bx2') ∧ (∀ k, In fp.w k → bx2'[k]? = bx[k]?) ∧ ∀ k, ¬ In fp.w k → bx2'[k]? = bx2[k]?

def exIv (G : Nat → List AV) (mi : MI) (st : St) : Option (AV × List Box) := (exI G mi st).map fun p => (p.1, p.2.bx)
def runIv (G : Nat → List AV) (F : Nat → Option MF) (rec : MC → St → Option (Ex × St)) (mi : MI) (st : St) : Option (AV × List Box) := (runI G F rec mi st).map fun p => (p.1, p.2.bx)

/-- All is read, or all is written: nothing to show but for what stays. -/
theorem Frame.whole {f : St → Option (AV × List Box)} {fp : Fp} {st : St} {v : AV} {bx : List Box} (h : f st = some (v, bx)) (hw : fp.w = none ∨ (fp.r = none ∧ bx = st.bx)) : Frame f fp st v bx := by
  refine ⟨fun k hk => ?_, fun ⟨l, hl⟩ => ?_, fun bx2 hlen hag => ?_⟩
  · rcases hw with hw | ⟨_, rfl⟩
    · rw [hw] at hk; exact absurd trivial hk
    · rfl
  · rcases hw with hw | ⟨_, rfl⟩
    · rw [hw] at hl; cases hl
    · rfl
  · have e : bx2 = st.bx := List.ext_getElem? fun k => hag k (by
      rcases hw with hw | ⟨hw, _⟩
      · right; rw [hw]; trivial
      · left; rw [hw]; trivial)
    subst e
    refine ⟨bx, h, fun k _ => rfl, fun k hk => ?_⟩
    rcases hw with hw | ⟨_, rfl⟩
    · rw [hw] at hk; exact absurd trivial hk
    · rfl

/-- It reads some boxes, writes none. -/
theorem Frame.reader {f : St → Option (AV × List Box)} {ids : List Nat} {st : St} {v : AV} {bx : List Box} (hbx : bx = st.bx)
    (h : ∀ bx2, bx2.length = st.bx.length → (∀ k ∈ ids, bx2[k]? = st.bx[k]?) → f { st with bx := bx2 } = some (v, bx2)) : Frame f ⟨some ids, some []⟩ st v bx := by
  subst hbx
  exact ⟨fun _ _ => rfl, fun _ => rfl, fun bx2 hl ha => ⟨bx2, h bx2 hl fun k hk => ha k (.inl hk), (by intro k hk; cases hk), fun _ _ => rfl⟩⟩

/-- It writes one box, looks at some others. -/
theorem Frame.writer {f : St → Option (AV × List Box)} {ids : List Nat} {id : Nat} {b : Box} {st : St} {v : AV} {bx : List Box} (hid : id < st.bx.length) (hbx : bx = st.bx.set id b)
    (h : ∀ bx2, bx2.length = st.bx.length → (∀ k ∈ ids, bx2[k]? = st.bx[k]?) → bx2[id]? = st.bx[id]? → f { st with bx := bx2 } = some (v, bx2.set id b)) : Frame f ⟨some ids, some [id]⟩ st v bx := by
  subst hbx
  refine ⟨fun k hk => ?_, fun _ => by simp, fun bx2 hl ha => ⟨_, h bx2 hl (fun k hk => ha k (.inl hk)) (ha id (.inr (by simp [In]))), fun k hk => ?_, fun k hk => ?_⟩⟩
  · have : id ≠ k := fun e => hk (by simp [In, e])
    rw [List.getElem?_set_ne this]
  · have : k = id := by simpa [In] using hk
    subst this
    rw [List.getElem?_set_self (by omega), List.getElem?_set_self hid]
  · have : id ≠ k := fun e => hk (by simp [In, e])
    rw [List.getElem?_set_ne this]

/-- A new box at a reserved place. -/
theorem newBox_inv {st : St} {j : Nat} {b : Box} {id : Nat} {st' : St} (h : st.newBox (some j) b = some (id, st')) : id = st.rb + j ∧ st' = { st with bx := st.bx.set (st.rb + j) b } ∧ ∃ b', st.bx[st.rb + j]? = some b' ∧ b'.status = .fresh := by
  unfold St.newBox at h
  simp only at h
  split at h
  · rename_i b' hb'
    split at h
    · rename_i hf
      obtain ⟨rfl, rfl⟩ := Prod.mk.inj (Option.some.inj h)
      exact ⟨rfl, rfl, b', hb', hf⟩
    · cases h
  · cases h

theorem newBox_at {st : St} {j : Nat} {b b' : Box} (h1 : st.bx[st.rb + j]? = some b') (h2 : b'.status = .fresh) : st.newBox (some j) b = some (st.rb + j, { st with bx := st.bx.set (st.rb + j) b }) := by
  unfold St.newBox
  simp only [h1, h2, if_true]

/-- Something that ends in a new box. -/
theorem Frame.maker {mi : MI} {ids : List Nat} {st : St} {j : Option Nat} {b : Box} {av : AV} {val : Nat → AV} {st' : St} (hn : ((st.newBox j b).map fun p => (val p.1, p.2)) = some (av, st'))
    (h : ∀ bx2, bx2.length = st.bx.length → (∀ k ∈ ids, bx2[k]? = st.bx[k]?) → exI G mi { st with bx := bx2 } = ((({ st with bx := bx2 } : St).newBox j b).map fun p => (val p.1, p.2)))
    (h0 : exI G mi st = some (av, st')) : Frame (exIv G mi) ⟨some ids, jw st j⟩ st av st'.bx := by
  cases j with
  | none => exact Frame.whole (by simp [exIv, h0]) (.inl rfl)
  | some j =>
    obtain ⟨⟨id, st1⟩, hb, he⟩ := Option.map_eq_some_iff.1 hn
    obtain ⟨rfl, rfl⟩ := Prod.mk.inj he
    obtain ⟨rfl, rfl, b', h1, h2⟩ := newBox_inv hb
    refine Frame.writer (List.getElem?_eq_some_iff.1 h1).1 rfl fun bx2 hl ha hat => ?_
    unfold exIv
    rw [h bx2 hl ha, newBox_at (st := { st with bx := bx2 }) (b' := b') (by simp only; rw [hat]; exact h1) h2]
    rfl

theorem ev_bx (st : St) (bx : List Box) (r : R) : St.ev G { st with bx := bx } r = st.ev G r := by cases r <;> rfl
theorem bound_bx (st : St) (bx : List Box) (d : Nat) (o : Option R) : bound G { st with bx := bx } d o = bound G st d o := by
  cases o with
  | none => rfl
  | some r => unfold bound; simp only [ev_bx]
theorem parts_bx (st : St) (bx : List Box) (ps : List (Nat × Nat × R)) : (ps.map fun (o, n, r) => (o, n, St.ev G { st with bx := bx } r)) = ps.map fun (o, n, r) => (o, n, st.ev G r) :=
  List.map_congr_left fun p _ => by
    obtain ⟨o, n, r⟩ := p
    simp only [ev_bx]

theorem at_bx {st : St} {bx : List Box} {v : AV} (h : ∀ k ∈ idsOf v, bx[k]? = st.bx[k]?) : St.at_ { st with bx := bx } v = st.at_ v := by
  cases v with
  | ptr id len off => simp only [St.at_]; rw [h id (by simp [idsOf])]
  | _ => rfl
theorem valid_bx {st : St} {bx : List Box} {id len : Nat} (h : bx[id]? = st.bx[id]?) : St.valid { st with bx := bx } id len = st.valid id len := by
  simp only [St.valid]; rw [h]
theorem slice_bx {st : St} {bx : List Box} {sz : Nat} {v : AV} (h : ∀ k ∈ idsOf v, bx[k]? = st.bx[k]?) : St.slice { st with bx := bx } sz v = st.slice sz v := by
  cases v with
  | own id n => simp only [St.slice]; rw [h id (by simp [idsOf])]
  | _ => rfl

theorem write_inv {st : St} {p : AV} {vs : List AV} {st' : St} (h : st.write p vs = some st') : ∃ id len off b, p = .ptr id len off ∧ st.bx[id]? = some b ∧ st' = { st with bx := st.bx.set id { b with cs := putAt b.cs off vs } } ∧
    ∀ bx2, bx2[id]? = st.bx[id]? → St.write { st with bx := bx2 } p vs = some { st with bx := bx2.set id { b with cs := putAt b.cs off vs } } := by
  unfold St.write at h
  split at h
  · rename_i id len off
    split at h
    · rename_i b hb
      split at h
      · rename_i hc
        obtain rfl := Option.some.inj h
        refine ⟨id, len, off, b, rfl, hb, rfl, fun bx2 h2 => ?_⟩
        unfold St.write
        simp only [h2, hb]
        rw [if_pos hc]
      · cases h
    · cases h
  · cases h
end
end Go.Am
