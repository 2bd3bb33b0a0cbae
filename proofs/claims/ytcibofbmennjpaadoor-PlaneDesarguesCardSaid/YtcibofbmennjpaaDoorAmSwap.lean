/- What an instruction reads and writes of the boxes; nothing else counts, nothing else changes. -/
import Derived.Test.YtcibofbmennjpaaDoorAmDraw2
set_option linter.unusedVariables false
namespace Go.Am

section
variable {G : Nat → List AV} {F : Nat → Option MF} {rec : MC → St → Option (Ex × St)}

def In (s : Option (List Nat)) (k : Nat) : Prop := match s with
  | none => True
  | some l => k ∈ l

theorem hit_spec {a b : Option (List Nat)} (h : hit a b = false) (k : Nat) : ¬ (In a k ∧ In b k) := by
  rintro ⟨ha, hb⟩
  cases a with
  | none =>
    cases b with
    | none => simp [hit] at h
    | some b => cases b <;> simp [hit, In] at h hb
  | some a =>
    cases a with
    | nil => simp [In] at ha
    | cons x a =>
      cases b with
      | none => simp [hit] at h
      | some b =>
        cases b with
        | nil => simp [In] at hb
        | cons y b =>
          simp only [hit, List.any_eq_false] at h
          have := h k ha
          simp [In] at hb
          simp [hb] at this

/-- The frame of an instruction. -/
structure Frame (f : St → Option (AV × List Box)) (fp : Fp) (st : St) (v : AV) (bx : List Box) : Prop where
  out : ∀ k, ¬ In fp.w k → bx[k]? = st.bx[k]?
  len : (∃ l, fp.w = some l) → bx.length = st.bx.length
  same : ∀ bx2, bx2.length = st.bx.length → (∀ k, In fp.r k ∨ In fp.w k → bx2[k]? = st.bx[k]?) → ∃ bx2', f { st with bx := bx2 } = some (v, bx2') ∧ (∀ k, In fp.w k → bx2'[k]? = bx[k]?) ∧ ∀ k, ¬ In fp.w k → bx2'[k]? = bx2[k]?

def exIv (G : Nat → List AV) (mi : MI) (st : St) : Option (AV × List Box) := (exI G mi st).map fun p => (p.1, p.2.bx)
def runIv (G : Nat → List AV) (F : Nat → Option MF) (rec : MC → St → Option (Ex × St)) (mi : MI) (st : St) : Option (AV × List Box) := (runI G F rec mi st).map fun p => (p.1, p.2.bx)

/-- All is read, or all is written: nothing to show but for what stays. -/
theorem Frame.whole {f : St → Option (AV × List Box)} {fp : Fp} {st : St} {v : AV} {bx : List Box} (h : f st = some (v, bx)) (hw : fp.w = none ∨ (fp.r = none ∧ bx = st.bx)) : Frame f fp st v bx := by
  refine ⟨fun k hk => ?_, fun ⟨l, hl⟩ => ?_, fun bx2 hlen hag => ?_⟩
  · rcases hw with hw | ⟨_, rfl⟩
    · rw [hw] at hk; exact absurd trivial hk
    · rfl
  · rcases hw with hw | ⟨_, rfl⟩
    · rw [hw] at hl; cases hl
    · rfl
  · have e : bx2 = st.bx := List.ext_getElem? fun k => hag k (by
      rcases hw with hw | ⟨hw, _⟩
      · right; rw [hw]; trivial
      · left; rw [hw]; trivial)
    subst e
    refine ⟨bx, h, fun k _ => rfl, fun k hk => ?_⟩
    rcases hw with hw | ⟨_, rfl⟩
    · rw [hw] at hk; exact absurd trivial hk
    · rfl

/-- It reads some boxes, writes none. -/
theorem Frame.reader {f : St → Option (AV × List Box)} {ids : List Nat} {st : St} {v : AV} {bx : List Box} (hbx : bx = st.bx)
    (h : ∀ bx2, bx2.length = st.bx.length → (∀ k ∈ ids, bx2[k]? = st.bx[k]?) → f { st with bx := bx2 } = some (v, bx2)) : Frame f ⟨some ids, some []⟩ st v bx := by
  subst hbx
  exact ⟨fun _ _ => rfl, fun _ => rfl, fun bx2 hl ha => ⟨bx2, h bx2 hl fun k hk => ha k (.inl hk), (by intro k hk; cases hk), fun _ _ => rfl⟩⟩

/-- It writes one box, looks at some others. -/
theorem Frame.writer {f : St → Option (AV × List Box)} {ids : List Nat} {id : Nat} {b : Box} {st : St} {v : AV} {bx : List Box} (hid : id < st.bx.length) (hbx : bx = st.bx.set id b)
    (h : ∀ bx2, bx2.length = st.bx.length → (∀ k ∈ ids, bx2[k]? = st.bx[k]?) → bx2[id]? = st.bx[id]? → f { st with bx := bx2 } = some (v, bx2.set id b)) : Frame f ⟨some ids, some [id]⟩ st v bx := by
  subst hbx
  refine ⟨fun k hk => ?_, fun _ => by simp, fun bx2 hl ha => ⟨_, h bx2 hl (fun k hk => ha k (.inl hk)) (ha id (.inr (by simp [In]))), fun k hk => ?_, fun k hk => ?_⟩⟩
  · have : id ≠ k := fun e => hk (by simp [In, e])
    rw [List.getElem?_set_ne this]
  · have : k = id := by simpa [In] using hk
    subst this
    rw [List.getElem?_set_self (by omega), List.getElem?_set_self hid]
  · have : id ≠ k := fun e => hk (by simp [In, e])
    rw [List.getElem?_set_ne this]

/-- A new box at a reserved place. -/
theorem newBox_inv {st : St} {j : Nat} {b : Box} {id : Nat} {st' : St} (h : st.newBox (some j) b = some (id, st')) : id = st.rb + j ∧ st' = { st with bx := st.bx.set (st.rb + j) b } ∧ ∃ b', st.bx[st.rb + j]? = some b' ∧ b'.status = .fresh := by
  unfold St.newBox at h
  simp only at h
  split at h
  · rename_i b' hb'
    split at h
    · rename_i hf
      obtain ⟨rfl, rfl⟩ := Prod.mk.inj (Option.some.inj h)
      exact ⟨rfl, rfl, b', hb', hf⟩
    · cases h
  · cases h

theorem newBox_at {st : St} {j : Nat} {b b' : Box} (h1 : st.bx[st.rb + j]? = some b') (h2 : b'.status = .fresh) : st.newBox (some j) b = some (st.rb + j, { st with bx := st.bx.set (st.rb + j) b }) := by
  unfold St.newBox
  simp only [h1, h2, if_true]

/-- Something that ends in a new box. -/
theorem Frame.maker {mi : MI} {ids : List Nat} {st : St} {j : Option Nat} {b : Box} {av : AV} {val : Nat → AV} {st' : St} (hn : ((st.newBox j b).map fun p => (val p.1, p.2)) = some (av, st'))
    (h : ∀ bx2, bx2.length = st.bx.length → (∀ k ∈ ids, bx2[k]? = st.bx[k]?) → exI G mi { st with bx := bx2 } = ((({ st with bx := bx2 } : St).newBox j b).map fun p => (val p.1, p.2)))
    (h0 : exI G mi st = some (av, st')) : Frame (exIv G mi) ⟨some ids, jw st j⟩ st av st'.bx := by
  cases j with
  | none => exact Frame.whole (by simp [exIv, h0]) (.inl rfl)
  | some j =>
    obtain ⟨⟨id, st1⟩, hb, he⟩ := Option.map_eq_some_iff.1 hn
    obtain ⟨rfl, rfl⟩ := Prod.mk.inj he
    obtain ⟨rfl, rfl, b', h1, h2⟩ := newBox_inv hb
    refine Frame.writer (List.getElem?_eq_some_iff.1 h1).1 rfl fun bx2 hl ha hat => ?_
    unfold exIv
    rw [h bx2 hl ha, newBox_at (st := { st with bx := bx2 }) (b' := b') (by simp only; rw [hat]; exact h1) h2]
    rfl

theorem ev_bx (st : St) (bx : List Box) (r : R) : St.ev G { st with bx := bx } r = st.ev G r := by cases r <;> rfl
theorem bound_bx (st : St) (bx : List Box) (d : Nat) (o : Option R) : bound G { st with bx := bx } d o = bound G st d o := by
  cases o with
  | none => rfl
  | some r => unfold bound; simp only [ev_bx]
theorem parts_bx (st : St) (bx : List Box) (ps : List (Nat × Nat × R)) : (ps.map fun (o, n, r) => (o, n, St.ev G { st with bx := bx } r)) = ps.map fun (o, n, r) => (o, n, st.ev G r) :=
  List.map_congr_left fun p _ => by
    obtain ⟨o, n, r⟩ := p
    simp only [ev_bx]

theorem at_bx {st : St} {bx : List Box} {v : AV} (h : ∀ k ∈ idsOf v, bx[k]? = st.bx[k]?) : St.at_ { st with bx := bx } v = st.at_ v := by
  cases v with
  | ptr id len off => simp only [St.at_]; rw [h id (by simp [idsOf])]
  | _ => rfl
theorem valid_bx {st : St} {bx : List Box} {id len : Nat} (h : bx[id]? = st.bx[id]?) : St.valid { st with bx := bx } id len = st.valid id len := by
  simp only [St.valid]; rw [h]
theorem slice_bx {st : St} {bx : List Box} {sz : Nat} {v : AV} (h : ∀ k ∈ idsOf v, bx[k]? = st.bx[k]?) : St.slice { st with bx := bx } sz v = st.slice sz v := by
  cases v with
  | own id n => simp only [St.slice]; rw [h id (by simp [idsOf])]
  | _ => rfl

theorem write_inv {st : St} {p : AV} {vs : List AV} {st' : St} (h : st.write p vs = some st') : ∃ id len off b, p = .ptr id len off ∧ st.bx[id]? = some b ∧ st' = { st with bx := st.bx.set id { b with cs := putAt b.cs off vs } } ∧
    ∀ bx2, bx2[id]? = st.bx[id]? → St.write { st with bx := bx2 } p vs = some { st with bx := bx2.set id { b with cs := putAt b.cs off vs } } := by
  unfold St.write at h
  split at h
  · rename_i id len off
    split at h
    · rename_i b hb
      split at h
      · rename_i hc
        obtain rfl := Option.some.inj h
        refine ⟨id, len, off, b, rfl, hb, rfl, fun bx2 h2 => ?_⟩
        unfold St.write
        simp only [h2, hb]
        rw [if_pos hc]
      · cases h
    · cases h
  · cases h
end

end Go.Am

/- Every instruction keeps to what it reads and writes. -/
set_option linter.unusedVariables false
namespace Go.Am

section
variable {G : Nat → List AV} {F : Nat → Option MF} {rec : MC → St → Option (Ex × St)}

theorem frame_none {mi : MI} {st : St} {v : AV} {st' : St} (hc : mi.cls = .none) (h : exI G mi st = some (v, st')) : Frame (exIv G mi) ⟨some [], some []⟩ st v st'.bx := by
  obtain ⟨rfl, hb⟩ := exI_none hc h
  exact Frame.reader rfl fun bx2 _ _ => by unfold exIv; rw [hb bx2]; rfl

theorem exI_frame {mi : MI} {st : St} {v : AV} {st' : St} (h : exI G mi st = some (v, st')) : Frame (exIv G mi) (fpI G mi st) st v st'.bx := by
  cases mi with
  | call f args m => cases h
  | callv f args m => cases h
  | ld1 x =>
    simp only [exI] at h
    split at h
    · rename_i c cs hat
      obtain ⟨rfl, rfl⟩ := Prod.mk.inj (Option.some.inj h)
      exact Frame.reader rfl fun bx2 _ ha => by simp only [exIv, exI, ev_bx, at_bx ha, hat]; rfl
    · cases h
  | ldn n x =>
    simp only [exI] at h
    split at h
    · rename_i cs hat
      split at h
      · rename_i hn
        obtain ⟨rfl, rfl⟩ := Prod.mk.inj (Option.some.inj h)
        exact Frame.reader rfl fun bx2 _ ha => by simp only [exIv, exI, ev_bx, at_bx ha, hat]; rw [if_pos hn]; rfl
      · cases h
    · cases h
  | nilc x =>
    simp only [exI] at h
    split at h
    · rename_i a b c hx
      split at h
      · rename_i hv
        obtain ⟨rfl, rfl⟩ := Prod.mk.inj (Option.some.inj h)
        exact Frame.reader rfl fun bx2 _ ha => by
          have hid := ha a (by rw [hx]; simp [idsOf])
          simp only [exIv, exI, ev_bx, hx, valid_bx hid]
          rw [if_pos hv]; rfl
      · cases h
    · rename_i cs hx
      obtain ⟨rfl, rfl⟩ := Prod.mk.inj (Option.some.inj h)
      exact Frame.reader rfl fun bx2 _ ha => by simp only [exIv, exI, ev_bx, hx]; rfl
    · rename_i f cs hx
      obtain ⟨rfl, rfl⟩ := Prod.mk.inj (Option.some.inj h)
      exact Frame.reader rfl fun bx2 _ ha => by simp only [exIv, exI, ev_bx, hx]; rfl
    · cases h
  | faddr off x =>
    simp only [exI] at h
    split at h
    · rename_i a b c hx
      split at h
      · rename_i hv
        obtain ⟨rfl, rfl⟩ := Prod.mk.inj (Option.some.inj h)
        exact Frame.reader rfl fun bx2 _ ha => by
          have hid := ha a (by rw [hx]; simp [idsOf])
          simp only [exIv, exI, ev_bx, hx, valid_bx hid]
          rw [if_pos hv]; rfl
      · cases h
    · rename_i cs hx
      obtain ⟨rfl, rfl⟩ := Prod.mk.inj (Option.some.inj h)
      exact Frame.reader rfl fun bx2 _ ha => by simp only [exIv, exI, ev_bx, hx]; rfl
    · cases h
  | iaddr sz x i =>
    simp only [exI] at h
    split at h
    · rename_i n cs k' k hx hi
      split at h
      · rename_i hv
        obtain ⟨rfl, rfl⟩ := Prod.mk.inj (Option.some.inj h)
        exact Frame.reader rfl fun bx2 _ ha => by simp only [exIv, exI, ev_bx, hx, hi]; rw [if_pos hv]; rfl
      · cases h
    · rename_i id n k' k hx hi
      split at h
      · rename_i b hb
        split at h
        · rename_i hv
          obtain ⟨rfl, rfl⟩ := Prod.mk.inj (Option.some.inj h)
          exact Frame.reader rfl fun bx2 _ ha => by
            have hid := ha id (by rw [hx]; simp [idsOf])
            simp only [exIv, exI, ev_bx, hx, hi, hid, hb]; rw [if_pos hv]; rfl
        · cases h
      · cases h
    · cases h
  | aaddr len sz x i =>
    simp only [exI] at h
    split at h
    · rename_i cs k' k hx hi
      split at h
      · rename_i hv
        obtain ⟨rfl, rfl⟩ := Prod.mk.inj (Option.some.inj h)
        exact Frame.reader rfl fun bx2 _ ha => by simp only [exIv, exI, ev_bx, hx, hi]; rw [if_pos hv]; rfl
      · cases h
    · rename_i id l o k' k hx hi
      split at h
      · rename_i hv
        obtain ⟨rfl, rfl⟩ := Prod.mk.inj (Option.some.inj h)
        exact Frame.reader rfl fun bx2 _ ha => by
          have hid := ha id (by rw [hx]; simp [idsOf])
          simp only [exIv, exI, ev_bx, hx, hi, valid_bx hid]; rw [if_pos hv]; rfl
      · cases h
    · cases h
  | len x =>
    simp only [exI] at h
    split at h
    · rename_i hx
      obtain ⟨rfl, rfl⟩ := Prod.mk.inj (Option.some.inj h)
      exact Frame.reader rfl fun bx2 _ ha => by simp only [exIv, exI, ev_bx, hx]; rfl
    · rename_i n cs hx
      obtain ⟨rfl, rfl⟩ := Prod.mk.inj (Option.some.inj h)
      exact Frame.reader rfl fun bx2 _ ha => by simp only [exIv, exI, ev_bx, hx]; rfl
    · rename_i id n hx
      split at h
      · rename_i b hb
        split at h
        · rename_i hv
          obtain ⟨rfl, rfl⟩ := Prod.mk.inj (Option.some.inj h)
          exact Frame.reader rfl fun bx2 _ ha => by
            have hid := ha id (by rw [hx]; simp [idsOf])
            simp only [exIv, exI, ev_bx, hx, hid, hb]; rw [if_pos hv]; rfl
        · cases h
      · cases h
    · cases h
  | st1 x w =>
    simp only [exI] at h
    split at h
    · rename_i hone
      obtain ⟨st1, hw, he⟩ := Option.map_eq_some_iff.1 h
      obtain ⟨rfl, rfl⟩ := Prod.mk.inj he
      obtain ⟨id, len, off, b, hx, hb, rfl, hany⟩ := write_inv hw
      have hfp : fpI G (.st1 x w) st = ⟨some [], some [id]⟩ := by simp only [fpI, hx, idsOf]
      rw [hfp]
      refine Frame.writer (List.getElem?_eq_some_iff.1 hb).1 rfl fun bx2 _ _ hid => ?_
      simp only [exIv, exI, ev_bx]
      rw [if_pos hone, hany bx2 hid]
      rfl
    · cases h
  | stn n x w =>
    simp only [exI] at h
    split at h
    · rename_i cs hc
      split at h
      · rename_i hone
        obtain ⟨st1, hw, he⟩ := Option.map_eq_some_iff.1 h
        obtain ⟨rfl, rfl⟩ := Prod.mk.inj he
        obtain ⟨id, len, off, b, hx, hb, rfl, hany⟩ := write_inv hw
        have hfp : fpI G (.stn n x w) st = ⟨some [], some [id]⟩ := by simp only [fpI, hx, idsOf]
        rw [hfp]
        refine Frame.writer (List.getElem?_eq_some_iff.1 hb).1 rfl fun bx2 _ _ hid => ?_
        simp only [exIv, exI, ev_bx, hc]
        rw [if_pos hone, hany bx2 hid]
        rfl
      · cases h
    · cases h
  | new j e cs =>
    exact Frame.maker (ids := []) (val := fun id => .ptr id cs.length 0) h (fun bx2 _ _ => rfl) h
  | box j e sz x =>
    have h0 := h
    simp only [exI] at h
    split at h
    · rename_i hc
      refine Frame.maker (ids := []) (val := fun id => .ptr id sz 0) h (fun bx2 _ _ => ?_) h0
      simp only [exI, ev_bx]
      rw [if_pos hc]
    · cases h
  | mk j e sz bytes zero l c =>
    have h0 := h
    simp only [exI] at h
    split at h
    · rename_i a b ha hb
      split at h
      · rename_i hc
        refine Frame.maker (ids := []) (val := fun id => .own id a.toNat) h (fun bx2 _ _ => ?_) h0
        simp only [exI, ev_bx, ha, hb]
        rw [if_pos hc]
      · cases h
    · cases h
  | blds j own e sz len z ps =>
    cases own with
    | false => exact frame_none (by cases j <;> rfl) h
    | true =>
      have h0 := h
      simp only [exI] at h
      split at h
      · rename_i cs hf
        split at h
        · rename_i hc
          simp only [if_true] at h
          refine Frame.maker (ids := []) (val := fun id => .own id len) h (fun bx2 _ _ => ?_) h0
          simp only [exI, parts_bx, hf]
          rw [if_pos hc]
          simp only [if_true]
        · cases h
      · cases h
  | app j e sz bytes s x =>
    have h0 := h
    simp only [exI] at h
    split at h
    · cases h
    · rename_i m news hsl
      split at h
      · rename_i hs
        split at h
        · rename_i hm
          obtain ⟨rfl, rfl⟩ := Prod.mk.inj (Option.some.inj h)
          have hfp : fpI G (.app j e sz bytes s x) st = ⟨some (idsOf (st.ev G x)), jw st j⟩ := by simp only [fpI, hs]
          rw [hfp]
          have key : ∀ bx2 : List Box, bx2.length = st.bx.length → (∀ k ∈ idsOf (st.ev G x), bx2[k]? = st.bx[k]?) → exIv G (.app j e sz bytes s x) { st with bx := bx2 } = some (.nil, bx2) := fun bx2 _ ha => by
            simp only [exIv, exI, ev_bx, slice_bx ha, hsl, hs]; rw [if_pos hm]; rfl
          refine ⟨fun _ _ => rfl, fun _ => rfl, fun bx2 hl ha => ⟨bx2, key bx2 hl fun k hk => ha k (.inl hk), fun k hk => ha k (.inr hk), fun _ _ => rfl⟩⟩
        · rename_i hm
          split at h
          · rename_i hc
            have hfp : fpI G (.app j e sz bytes s x) st = ⟨some (idsOf (st.ev G x)), jw st j⟩ := by simp only [fpI, hs]
            rw [hfp]
            refine Frame.maker (val := fun id => .own id m) h (fun bx2 _ ha => ?_) h0
            simp only [exI, ev_bx, slice_bx ha, hsl, hs]
            rw [if_neg hm, if_pos hc]
          · cases h
      · rename_i id n hs
        split at h
        · rename_i b hb
          split at h
          · rename_i hc
            obtain ⟨rfl, rfl⟩ := Prod.mk.inj (Option.some.inj h)
            have hfp : fpI G (.app j e sz bytes s x) st = ⟨some (idsOf (st.ev G x)), some [id]⟩ := by simp only [fpI, hs]
            rw [hfp]
            refine Frame.writer (List.getElem?_eq_some_iff.1 hb).1 rfl fun bx2 _ ha hid => ?_
            simp only [exIv, exI, ev_bx, slice_bx ha, hsl, hs, hid, hb]
            rw [if_pos hc]
            rfl
          · cases h
        · cases h
      · cases h
  | slc sz x lo hi =>
    simp only [exI] at h
    split at h
    · cases h
    · rename_i l hl
      split at h
      · rename_i hx
        split at h
        · rename_i hc
          obtain ⟨rfl, rfl⟩ := Prod.mk.inj (Option.some.inj h)
          have hfp : fpI G (.slc sz x lo hi) st = ⟨some [], some []⟩ := by simp only [fpI, hx, idsOf]
          rw [hfp]
          exact Frame.reader rfl fun bx2 _ _ => by simp only [exIv, exI, ev_bx, bound_bx, hl, hx]; rw [if_pos hc]; rfl
        · cases h
      · rename_i n cs hx
        have hfp : fpI G (.slc sz x lo hi) st = ⟨some [], some []⟩ := by simp only [fpI, hx, idsOf]
        rw [hfp]
        split at h
        · rename_i hh hbd
          split at h
          · rename_i hc
            obtain ⟨rfl, rfl⟩ := Prod.mk.inj (Option.some.inj h)
            exact Frame.reader rfl fun bx2 _ _ => by simp only [exIv, exI, ev_bx, bound_bx, hl, hx, hbd]; rw [if_pos hc]; rfl
          · cases h
        · cases h
      · rename_i id n hx
        have hfp : fpI G (.slc sz x lo hi) st = ⟨some [], some [id]⟩ := by simp only [fpI, hx, idsOf]
        rw [hfp]
        split at h
        · rename_i hh b hbd hb
          split at h
          · rename_i hc
            obtain ⟨rfl, rfl⟩ := Prod.mk.inj (Option.some.inj h)
            refine Frame.writer (List.getElem?_eq_some_iff.1 hb).1 rfl fun bx2 _ _ hid => ?_
            simp only [exIv, exI, ev_bx, bound_bx, hl, hx, hbd, hid, hb]; rw [if_pos hc]; rfl
          · cases h
        · cases h
      · cases h
  | slca n sz x lo hi =>
    simp only [exI] at h
    split at h
    · rename_i l hh hl hbd
      split at h
      · rename_i id len off hx
        have hfp : fpI G (.slca n sz x lo hi) st = ⟨some [], some [id]⟩ := by simp only [fpI, hx, idsOf]
        rw [hfp]
        split at h
        · rename_i b hb
          split at h
          · rename_i hc
            obtain ⟨rfl, rfl⟩ := Prod.mk.inj (Option.some.inj h)
            refine Frame.writer (List.getElem?_eq_some_iff.1 hb).1 rfl fun bx2 _ _ hid => ?_
            simp only [exIv, exI, ev_bx, bound_bx, hl, hx, hbd, hid, hb]; rw [if_pos hc]; rfl
          · cases h
        · cases h
      · cases h
    · cases h
  | _ => exact frame_none rfl h
end

end Go.Am

/- Instructions that keep out of one another's way change places. -/
set_option linter.unusedVariables false
namespace Go.Am

section
variable {G : Nat → List AV} {F : Nat → Option MF} {rec : MC → St → Option (Ex × St)}

theorem runI_cases (G : Nat → List AV) (F : Nat → Option MF) (rec : MC → St → Option (Ex × St)) (mi : MI) : (∃ f a m, mi = .call f a m) ∨ (∃ x a m, mi = .callv x a m) ∨ runI G F rec mi = exI G mi := by
  cases mi with
  | call f a m => exact .inl ⟨f, a, m, rfl⟩
  | callv x a m => exact .inr (.inl ⟨x, a, m, rfl⟩)
  | _ => exact .inr (.inr rfl)

theorem reify_closed_bx : ∀ (f : Nat) (v : AV), v.closed = true → ∀ bx bx' : List Box, reify f bx v = reify f bx' v := by
  intro f
  induction f with
  | zero => intro v _ bx bx'; rfl
  | succ f ih =>
    intro v h bx bx'
    have lists : ∀ cs : List AV, AV.closedL cs = true → cs.mapM (reify f bx) = cs.mapM (reify f bx') := by
      intro cs
      induction cs with
      | nil => intro _; rfl
      | cons c cs ihc =>
        intro hc
        simp only [AV.closedL, Bool.and_eq_true] at hc
        rw [List.mapM_cons, List.mapM_cons, ih c hc.1 bx bx', ihc hc.2]
    cases v with
    | own id n => simp [AV.closed] at h
    | agg cs => simp only [reify, lists cs (by simpa [AV.closed] using h)]
    | tup cs => simp only [reify, lists cs (by simpa [AV.closed] using h)]
    | clo g cs => simp only [reify, lists cs (by simpa [AV.closed] using h)]
    | _ => rfl
theorem reifyL_closed_bx (f : Nat) (cs : List AV) (h : AV.closedL cs = true) (bx bx' : List Box) : cs.mapM (reify f bx) = cs.mapM (reify f bx') := by
  induction cs with
  | nil => rfl
  | cons c cs ih =>
    simp only [AV.closedL, Bool.and_eq_true] at h
    rw [List.mapM_cons, List.mapM_cons, reify_closed_bx f c h.1 bx bx', ih h.2]
/-- A call of closed arguments looks at no box. -/
theorem doCall_closed {f : Nat} {args : List AV} {st : St} {v : AV} {st' : St} (hc : AV.closedL args = true) (h : doCall F rec .pureV f args st = some (v, st')) (bx : List Box) : doCall F rec .pureV f args { st with bx := bx } = some (v, { st with bx := bx }) := by
  have hm := reifyL_closed_bx reifyDepth args hc bx st.bx
  unfold doCall at h ⊢
  generalize reifyDepth = D at *
  by_cases hl : 65535 ≤ args.length
  · rw [if_pos hl] at h; cases h
  · rw [if_neg hl] at h ⊢
    simp only at h
    show (match args.mapM (reify D bx) with
      | none => none
      | some ys => match pcall F rec f ys with
        | some (.val v, al) => if al && !AV.closedL args then none else some (v, { st with bx := bx })
        | _ => none : Option (AV × St)) = _
    rw [hm]
    cases hx : args.mapM (reify D st.bx) with
    | none => rw [hx] at h; cases h
    | some ys =>
      rw [hx] at h
      simp only at h ⊢
      cases hp : pcall F rec f ys with
      | none => rw [hp] at h; cases h
      | some r =>
        rw [hp] at h
        obtain ⟨r, al⟩ := r
        cases r with
        | val u =>
          simp only at h ⊢
          split at h
          · cases h
          · rename_i hal
            obtain ⟨rfl, rfl⟩ := Prod.mk.inj (Option.some.inj h)
            rw [if_neg hal]
        | own n cs sz e => cases h

theorem runI_frame {mi : MI} {st : St} {v : AV} {st' : St} (h : runI G F rec mi st = some (v, st')) : Frame (runIv G F rec mi) (fpI G mi st) st v st'.bx := by
  have hv : runIv G F rec mi st = some (v, st'.bx) := by unfold runIv; rw [h]; rfl
  rcases runI_cases G F rec mi with ⟨f, args, m, rfl⟩ | ⟨x, args, m, rfl⟩ | e
  · cases m with
    | pure => exact Frame.whole hv (.inl rfl)
    | shared => exact Frame.whole hv (.inl rfl)
    | pureV =>
      have hbx := congrArg St.bx (runI_reads (by rfl) h)
      cases hcl : AV.closedL (args.map (st.ev G)) with
      | false => exact Frame.whole hv (.inr ⟨by simp only [fpI, hcl, cond_false], hbx⟩)
      | true =>
        have e : fpI G (.call f args .pureV) st = ⟨some [], some []⟩ := by simp only [fpI, hcl, cond_true]
        rw [e]
        refine Frame.reader hbx fun bx2 _ _ => ?_
        have hev : args.map (St.ev G { st with bx := bx2 }) = args.map (st.ev G) := List.map_congr_left fun r _ => ev_bx st bx2 r
        have := doCall_closed hcl h bx2
        unfold runIv
        simp only [runI, hev, this]
        rfl
    | quiet => exact Frame.whole hv (.inr ⟨rfl, congrArg St.bx (runI_reads (by rfl) h)⟩)
  · refine Frame.whole hv ?_
    cases m with
    | pure => exact .inl rfl
    | shared => exact .inl rfl
    | pureV => exact .inr ⟨rfl, congrArg St.bx (runI_reads (by rfl) h)⟩
    | quiet => exact .inr ⟨rfl, congrArg St.bx (runI_reads (by rfl) h)⟩
  · have ef : runIv G F rec mi = exIv G mi := by funext s; unfold runIv exIv; rw [e]
    rw [e] at h
    rw [ef]
    exact exI_frame h

theorem Frame.still {f : St → Option (AV × List Box)} {fp : Fp} {st : St} {v : AV} (h : ∀ bx2, bx2.length = st.bx.length → (∀ k, In fp.r k ∨ In fp.w k → bx2[k]? = st.bx[k]?) → f { st with bx := bx2 } = some (v, bx2)) : Frame f fp st v st.bx :=
  ⟨fun _ _ => rfl, fun _ => rfl, fun bx2 hl ha => ⟨bx2, h bx2 hl ha, fun k hk => ha k (.inr hk), fun _ _ => rfl⟩⟩

theorem exec1v_frame {i : I} {st : St} {v : AV} {bx : List Box} (h : exec1v G F rec i st = some (v, bx)) : Frame (exec1v G F rec i) (fpI G i.i st) st v bx := by
  have hrun : ∀ {v : AV} {bx : List Box}, ((runI G F rec i.i st).map fun p => (p.1, p.2.bx)) = some (v, bx) → Frame (runIv G F rec i.i) (fpI G i.i st) st v bx := by
    intro v bx h
    obtain ⟨⟨u, st'⟩, hr, he⟩ := Option.map_eq_some_iff.1 h
    obtain ⟨rfl, rfl⟩ := Prod.mk.inj he
    exact runI_frame hr
  cases hg : i.g with
  | none =>
    have e : exec1v G F rec i = runIv G F rec i.i := by funext s; unfold exec1v runIv; rw [hg]
    rw [e] at h ⊢
    exact hrun h
  | some g =>
    obtain ⟨t, want⟩ := g
    have e : ∀ bx2, exec1v G F rec i { st with bx := bx2 } = match st.tm.get t with
        | .bool b => bif b == want then runIv G F rec i.i { st with bx := bx2 } else some (.undef, bx2)
        | .undef => some (.undef, bx2)
        | _ => none := fun bx2 => by
      unfold exec1v runIv; rw [hg]; simp only; cases st.tm.get t <;> rfl
    have e0 := e st.bx
    have hst : ({ st with bx := st.bx } : St) = st := rfl
    rw [hst, h] at e0
    split at e0
    · rename_i b hb
      cases hw : (b == want) with
      | true =>
        rw [hw] at e0
        have hf := hrun (v := v) (bx := bx) (by rw [cond_true] at e0; exact e0.symm)
        refine ⟨hf.out, hf.len, fun bx2 hl ha => ?_⟩
        obtain ⟨bx2', h1, h2, h3⟩ := hf.same bx2 hl ha
        exact ⟨bx2', by rw [e bx2, hb]; simp only [hw, cond_true]; exact h1, h2, h3⟩
      | false =>
        rw [hw, cond_false] at e0
        obtain ⟨rfl, rfl⟩ := Prod.mk.inj (Option.some.inj e0)
        exact Frame.still fun bx2 _ _ => by rw [e bx2, hb]; simp only [hw, cond_false]
    · rename_i hb
      obtain ⟨rfl, rfl⟩ := Prod.mk.inj (Option.some.inj e0)
      exact Frame.still fun bx2 _ _ => by rw [e bx2, hb]
    · cases e0

theorem fpI_congr {mi : MI} {st st2 : St} (hr : st.rb = st2.rb) (he : ∀ r ∈ mi.reads, st.ev G r = st2.ev G r) : fpI G mi st = fpI G mi st2 := by
  have hj : ∀ j, jw st j = jw st2 j := fun j => by unfold jw; rw [hr]
  cases mi with
  | app j e sz b s x => simp only [MI.reads, List.mem_cons, List.not_mem_nil, or_false, forall_eq_or_imp, forall_eq] at he; simp only [fpI, he.1, he.2, hj]
  | slc sz x lo hi => simp only [fpI, he x (by simp [MI.reads])]
  | slca n sz x lo hi => simp only [fpI, he x (by simp [MI.reads])]
  | call f args m =>
    cases m with
    | pureV =>
      have e : args.map (st.ev G) = args.map (st2.ev G) := List.map_congr_left fun r hr => he r (by simpa [MI.reads] using hr)
      simp only [fpI, e]
    | _ => rfl
  | callv x args m => cases m <;> rfl
  | blds j own e sz len z ps => simp only [fpI, hj]
  | new j e cs => simp only [fpI, hj]
  | box j e sz x => simp only [fpI, hj]
  | mk j e sz b z l c => simp only [fpI, hj]
  | ld1 x => simp only [fpI, he x (by simp [MI.reads])]
  | ldn n x => simp only [fpI, he x (by simp [MI.reads])]
  | nilc x => simp only [fpI, he x (by simp [MI.reads])]
  | faddr n x => simp only [fpI, he x (by simp [MI.reads])]
  | iaddr n x i => simp only [fpI, he x (by simp [MI.reads])]
  | aaddr n s x i => simp only [fpI, he x (by simp [MI.reads])]
  | len x => simp only [fpI, he x (by simp [MI.reads])]
  | st1 x v => simp only [fpI, he x (by simp [MI.reads])]
  | stn n x v => simp only [fpI, he x (by simp [MI.reads])]
  | _ => rfl

/-- Boxes: two frames that keep apart change places. -/
theorem frames_swap {f g : St → Option (AV × List Box)} {x y : Fp} (hap : x.apart y = true) {st : St} {vx vy : AV} {bx1 bx2 : List Box} (hx : Frame f x st vx bx1) (hy : Frame g y { st with bx := bx1 } vy bx2)
    (hy0 : g { st with bx := bx1 } = some (vy, bx2)) (hx0 : f st = some (vx, bx1)) :
    ∃ bxy, g st = some (vy, bxy) ∧ f { st with bx := bxy } = some (vx, bx2) := by
  unfold Fp.apart at hap
  simp only [Bool.and_eq_true, Bool.not_eq_true'] at hap
  obtain ⟨⟨⟨⟨hxs, hys⟩, h1⟩, h2⟩, h3⟩ := hap
  have a1 := hit_spec h1
  have a2 := hit_spec h2
  have a3 := hit_spec h3
  have hl1 := hx.len (Option.isSome_iff_exists.1 hxs)
  -- y where x has not been
  obtain ⟨bxy, g1, g2, g3⟩ := hy.same st.bx hl1.symm (fun k hk => (hx.out k (by
    rcases hk with hk | hk
    · exact fun hw => a1 k ⟨hw, hk⟩
    · exact fun hw => a2 k ⟨hw, hk⟩)).symm)
  have g1' : g st = some (vy, bxy) := g1
  have hly : bxy.length = st.bx.length := by
    obtain ⟨l, hl⟩ := Option.isSome_iff_exists.1 hys
    exact (List.ext_getElem? (l₁ := bxy.map fun _ => ()) (l₂ := st.bx.map fun _ => ()) fun k => by
      rw [List.getElem?_map, List.getElem?_map]
      by_cases hk : In y.w k
      · have hy2 := hy.len ⟨l, hl⟩
        rw [g2 k hk]
        by_cases hlt : k < st.bx.length
        · rw [List.getElem?_eq_getElem (show k < bx2.length by rw [hy2]; simp only; omega), List.getElem?_eq_getElem hlt]; rfl
        · rw [List.getElem?_eq_none (show bx2.length ≤ k by rw [hy2]; simp only; omega), List.getElem?_eq_none (by omega)]
      · rw [g3 k hk]) |> fun e => by simpa using congrArg List.length e
  obtain ⟨bx', f1, f2, f3⟩ := hx.same bxy hly (fun k hk => g3 k (by
    rcases hk with hk | hk
    · exact fun hw => a3 k ⟨hk, hw⟩
    · exact fun hw => a2 k ⟨hk, hw⟩))
  refine ⟨bxy, g1', ?_⟩
  have : bx' = bx2 := List.ext_getElem? fun k => by
    by_cases hk : In x.w k
    · rw [f2 k hk]
      exact (hy.out k (fun hw => a2 k ⟨hk, hw⟩)).symm
    · rw [f3 k hk]
      by_cases hk2 : In y.w k
      · exact g2 k hk2
      · rw [g3 k hk2, hy.out k hk2]
        exact (hx.out k hk).symm
  rw [← this]
  exact f1

/-- TWO INSTRUCTIONS CHANGE PLACES. -/
theorem swap {x y : I} {st st1 st2 : St} (hx : ∀ k, x.d = some k → k < 65535) (hy : ∀ k, y.d = some k → k < 65535) (hf : slotFree x y = true) (hc : clsFree x y = true ∨ (fpI G x.i st).apart (fpI G y.i st1) = true)
    (h1 : exec1 G F rec x st = some st1) (h2 : exec1 G F rec y st1 = some st2) :
    ∃ st1', exec1 G F rec y st = some st1' ∧ exec1 G F rec x st1' = some st2 ∧ fpI G y.i st = fpI G y.i st1 ∧ fpI G x.i st1' = fpI G x.i st := by
  unfold slotFree at hf
  simp only [Bool.and_eq_true] at hf
  obtain ⟨hxy, hyx⟩ := hf
  have nx : ∀ s ∈ y.slots, ∀ k, x.d = some k → k ≠ s := by
    intro s hs k hk e
    subst e
    rw [hk] at hxy
    simp [hs] at hxy
  have nd : ∀ k, x.d = some k → y.d ≠ some k := by
    intro k hk e
    rw [hk] at hxy
    simp [e] at hxy
  have ny : ∀ s ∈ x.slots, ∀ k, y.d = some k → k ≠ s := by
    intro s hs k hk e
    subst e
    rw [hk] at hyx
    simp [hs] at hyx
  rw [exec1_eq] at h1
  obtain ⟨⟨vx, bx1⟩, ex, rfl⟩ := Option.map_eq_some_iff.1 h1
  rw [exec1_eq] at h2
  obtain ⟨⟨vy, bx2⟩, ey, rfl⟩ := Option.map_eq_some_iff.1 h2
  simp only at ey hc ⊢
  have put_bx : ∀ (s : St) (d : Option Nat) (v : AV), (s.put d v).bx = s.bx := fun s d v => by cases d <;> rfl
  have put_rb : ∀ (s : St) (d : Option Nat) (v : AV), (s.put d v).rb = s.rb := fun s d v => by cases d <;> rfl
  have inslots : ∀ (i : I) (r : R), r ∈ i.i.reads → ∀ s ∈ r.slots, s ∈ i.slots := fun i r hr s hs => by
    unfold I.slots
    exact List.mem_append_left _ (List.mem_flatMap.2 ⟨r, hr, hs⟩)
  have evy : ∀ r ∈ y.i.reads, St.ev G (({ st with bx := bx1 } : St).put x.d vx) r = st.ev G r := fun r hr =>
    (ev_congr (st := ({ st with bx := bx1 } : St).put x.d vx) (st2 := st) fun s hs => St.put_tm { st with bx := bx1 } x.d vx hx s (nx s (inslots y r hr s hs)))
  have fpy : fpI G y.i (({ st with bx := bx1 } : St).put x.d vx) = fpI G y.i st := fpI_congr (put_rb _ _ _) evy
  have ey' : exec1v G F rec y { st with bx := bx1 } = some (vy, bx2) := by
    rw [← ey]
    exact exec1v_congr (put_bx _ _ _).symm (put_rb _ _ _).symm fun s hs => (St.put_tm { st with bx := bx1 } x.d vx hx s (nx s hs)).symm
  -- the boxes
  have main : ∃ bxy, exec1v G F rec y st = some (vy, bxy) ∧ exec1v G F rec x { st with bx := bxy } = some (vx, bx2) := by
    rcases hc with hc | hc
    · unfold clsFree at hc
      split at hc
      · rename_i hn
        have e := exec1v_reads (.inr hn) ex
        subst e
        exact ⟨bx2, ey', exec1v_none hn ex bx2⟩
      · rename_i hn _
        have e := exec1v_reads (.inr hn) ey'
        subst e
        exact ⟨st.bx, exec1v_none hn ey' st.bx, ex⟩
      · rename_i hr1 hr2
        have e := exec1v_reads (.inl hr1) ex
        subst e
        have e2 := exec1v_reads (.inl hr2) ey'
        subst e2
        exact ⟨st.bx, ey', ex⟩
      · cases hc
    · rw [fpy] at hc
      have hfy := exec1v_frame ey'
      have : fpI G y.i { st with bx := bx1 } = fpI G y.i st := fpI_congr rfl fun r _ => ev_bx st bx1 r
      rw [this] at hfy
      exact frames_swap hc (exec1v_frame ex) hfy ey' ex
  obtain ⟨bxy, my, mx⟩ := main
  have evx : ∀ r ∈ x.i.reads, St.ev G (({ st with bx := bxy } : St).put y.d vy) r = st.ev G r := fun r hr =>
    (ev_congr (st := ({ st with bx := bxy } : St).put y.d vy) (st2 := st) fun s hs => St.put_tm { st with bx := bxy } y.d vy hy s (ny s (inslots x r hr s hs)))
  refine ⟨({ st with bx := bxy } : St).put y.d vy, by rw [exec1_eq, my]; rfl, ?_, fpy.symm, fpI_congr (put_rb _ _ _) evx⟩
  rw [exec1_eq]
  have : exec1v G F rec x (({ st with bx := bxy } : St).put y.d vy) = some (vx, bx2) := by
    rw [← mx]
    exact exec1v_congr (put_bx _ _ _) (put_rb _ _ _) fun s hs => St.put_tm { st with bx := bxy } y.d vy hy s (ny s hs)
  rw [this]
  simp only [Option.map_some, Option.some.injEq]
  cases hxd : x.d with
  | none => cases y.d <;> rfl
  | some a =>
    cases hyd : y.d with
    | none => rfl
    | some b =>
      have hab : a ≠ b := fun e => nd a hxd (e ▸ hyd)
      simp only [St.put]
      rw [Tm.set_comm st.tm a b vx vy hab]

/-- Instructions by their places; what each reads and writes is 'T'. -/
inductive Run (G : Nat → List AV) (F : Nat → Option MF) (rec : MC → St → Option (Ex × St)) (l : List I) (T : Nat → Fp) : List Nat → St → St → Prop where
  | nil (st : St) : Run G F rec l T [] st st
  | cons (k : Nat) (ks : List Nat) (i : I) (st st1 st' : St) (hi : l[k]? = some i) (h : exec1 G F rec i st = some st1) (hf : fpI G i.i st = T k) (hr : Run G F rec l T ks st1 st') : Run G F rec l T (k :: ks) st st'

/-- ONE OF THEM COMES FIRST. -/
theorem Run.front {l : List I} {T : Nat → Fp} (hd : ∀ (k : Nat) (i : I), l[k]? = some i → ∀ d, i.d = some d → d < 65535) {i : Nat} {q : List Nat} : ∀ (p : List Nat) (st st' : St),
    (∀ j ∈ p, ∃ x y, l[j]? = some x ∧ l[i]? = some y ∧ slotFree x y = true ∧ (clsFree x y = true ∨ (T j).apart (T i) = true)) → Run G F rec l T (p ++ i :: q) st st' → Run G F rec l T (i :: (p ++ q)) st st' := by
  intro p
  induction p with
  | nil => intro st st' _ h; exact h
  | cons j p ih =>
    intro st st' hp h
    obtain ⟨x, y, hx, hy, hf, hc⟩ := hp j (by simp)
    cases h with
    | cons _ _ x' _ st1 _ hx' h1 hfx hr =>
      rw [hx] at hx'
      obtain rfl := Option.some.inj hx'
      have h2 := ih st1 st' (fun k hk => hp k (by simp [hk])) hr
      cases h2 with
      | cons _ _ y' _ st2 _ hy' h3 hfy hr2 =>
        rw [hy] at hy'
        obtain rfl := Option.some.inj hy'
        obtain ⟨st1', e1, e2, e3, e4⟩ := swap (hd j x hx) (hd i y hy) hf (by rw [hfx, hfy]; exact hc) h1 h3
        exact .cons _ _ y _ st1' _ hy e1 (e3.trans hfy) (.cons _ _ x _ st2 _ hx e2 (e4.trans hfx) hr2)
end

end Go.Am

