/- Every instruction keeps to what it reads and writes. -/
import Derived.Test.YtcibofbmennjpaaAmFoot
set_option linter.unusedVariables false
namespace Go.Am

section
variable {G : Nat → List AV} {F : Nat → Option MF} {rec : MC → St → Option (Ex × St)}

theorem frame_none {mi : MI} {st : St} {v : AV} {st' : St} (hc : mi.cls = .none) (h : exI G mi st = some (v, st')) : Frame (exIv G mi) ⟨some [], some []⟩ st v st'.bx := by
  obtain ⟨rfl, hb⟩ := exI_none hc h
  exact Frame.reader rfl fun bx2 _ _ => by unfold exIv; rw [hb bx2]; rfl

theorem exI_frame {mi : MI} {st : St} {v : AV} {st' : St} (h : exI G mi st = some (v, st')) : Frame (exIv G mi) (fpI G mi st) st v st'.bx := by
  cases mi with
  | call f args m => cases h
  | callv f args m => cases h
  | ld1 x =>
    simp only [exI] at h
    split at h
    · rename_i c cs hat
      obtain ⟨rfl, rfl⟩ := Prod.mk.inj (Option.some.inj h)
      exact Frame.reader rfl fun bx2 _ ha => by simp only [exIv, exI, ev_bx, at_bx ha, hat]; rfl
    · cases h
  | ldn n x =>
    simp only [exI] at h
    split at h
    · rename_i cs hat
      split at h
      · rename_i hn
        obtain ⟨rfl, rfl⟩ := Prod.mk.inj (Option.some.inj h)
        exact Frame.reader rfl fun bx2 _ ha => by simp only [exIv, exI, ev_bx, at_bx ha, hat]; rw [if_pos hn]; rfl
      · cases h
    · cases h
  | nilc x =>
    simp only [exI] at h
    split at h
    · rename_i a b c hx
      split at h
      · rename_i hv
        obtain ⟨rfl, rfl⟩ := Prod.mk.inj (Option.some.inj h)
        exact Frame.reader rfl fun bx2 _ ha => by
          have hid := ha a (by rw [hx]; simp [idsOf])
          simp only [exIv, exI, ev_bx, hx, valid_bx hid]
          rw [if_pos hv]; rfl
      · cases h
    · rename_i cs hx
      obtain ⟨rfl, rfl⟩ := Prod.mk.inj (Option.some.inj h)
      exact Frame.reader rfl fun bx2 _ ha => by simp only [exIv, exI, ev_bx, hx]; rfl
    · rename_i f cs hx
      obtain ⟨rfl, rfl⟩ := Prod.mk.inj (Option.some.inj h)
      exact Frame.reader rfl fun bx2 _ ha => by simp only [exIv, exI, ev_bx, hx]; rfl
    · cases h
  | faddr off x =>
    simp only [exI] at h
    split at h
    · rename_i a b c hx
      split at h
      · rename_i hv
        obtain ⟨rfl, rfl⟩ := Prod.mk.inj (Option.some.inj h)
        exact Frame.reader rfl fun bx2 _ ha => by
          have hid := ha a (by rw [hx]; simp [idsOf])
          simp only [exIv, exI, ev_bx, hx, valid_bx hid]
          rw [if_pos hv]; rfl
      · cases h
    · rename_i cs hx
      obtain ⟨rfl, rfl⟩ := Prod.mk.inj (Option.some.inj h)
      exact Frame.reader rfl fun bx2 _ ha => by simp only [exIv, exI, ev_bx, hx]; rfl
    · cases h
  | iaddr sz x i =>
    simp only [exI] at h
    split at h
    · rename_i n cs k' k hx hi
      split at h
      · rename_i hv
        obtain ⟨rfl, rfl⟩ := Prod.mk.inj (Option.some.inj h)
        exact Frame.reader rfl fun bx2 _ ha => by simp only [exIv, exI, ev_bx, hx, hi]; rw [if_pos hv]; rfl
      · cases h
    · rename_i id n k' k hx hi
      split at h
      · rename_i b hb
        split at h
        · rename_i hv
          obtain ⟨rfl, rfl⟩ := Prod.mk.inj (Option.some.inj h)
          exact Frame.reader rfl fun bx2 _ ha => by
            have hid := ha id (by rw [hx]; simp [idsOf])
            simp only [exIv, exI, ev_bx, hx, hi, hid, hb]; rw [if_pos hv]; rfl
        · cases h
      · cases h
    · cases h
  | aaddr len sz x i =>
    simp only [exI] at h
    split at h
    · rename_i cs k' k hx hi
      split at h
      · rename_i hv
        obtain ⟨rfl, rfl⟩ := Prod.mk.inj (Option.some.inj h)
        exact Frame.reader rfl fun bx2 _ ha => by simp only [exIv, exI, ev_bx, hx, hi]; rw [if_pos hv]; rfl
      · cases h
    · rename_i id l o k' k hx hi
      split at h
      · rename_i hv
        obtain ⟨rfl, rfl⟩ := Prod.mk.inj (Option.some.inj h)
        exact Frame.reader rfl fun bx2 _ ha => by
          have hid := ha id (by rw [hx]; simp [idsOf])
          simp only [exIv, exI, ev_bx, hx, hi, valid_bx hid]; rw [if_pos hv]; rfl
      · cases h
    · cases h
  | len x =>
    simp only [exI] at h
    split at h
    · rename_i hx
      obtain ⟨rfl, rfl⟩ := Prod.mk.inj (Option.some.inj h)
      exact Frame.reader rfl fun bx2 _ ha => by simp only [exIv, exI, ev_bx, hx]; rfl
    · rename_i n cs hx
      obtain ⟨rfl, rfl⟩ := Prod.mk.inj (Option.some.inj h)
      exact Frame.reader rfl fun bx2 _ ha => by simp only [exIv, exI, ev_bx, hx]; rfl
    · rename_i id n hx
      split at h
      · rename_i b hb
        split at h
        · rename_i hv
          obtain ⟨rfl, rfl⟩ := Prod.mk.inj (Option.some.inj h)
          exact Frame.reader rfl fun bx2 _ ha => by
            have hid := ha id (by rw [hx]; simp [idsOf])
            simp only [exIv, exI, ev_bx, hx, hid, hb]; rw [if_pos hv]; rfl
        · cases h
      · cases h
    · cases h
  | st1 x w =>
    simp only [exI] at h
    split at h
    · rename_i hone
      obtain ⟨st1, hw, he⟩ := Option.map_eq_some_iff.1 h
      obtain ⟨rfl, rfl⟩ := Prod.mk.inj he
      obtain ⟨id, len, off, b, hx, hb, rfl, hany⟩ := write_inv hw
      have hfp : fpI G (.st1 x w) st = ⟨some [], some [id]⟩ := by simp only [fpI, hx, idsOf]
      rw [hfp]
      refine Frame.writer (List.getElem?_eq_some_iff.1 hb).1 rfl fun bx2 _ _ hid => ?_
      simp only [exIv, exI, ev_bx]
      rw [if_pos hone, hany bx2 hid]
      rfl
    · cases h
  | stn n x w =>
    simp only [exI] at h
    split at h
    · rename_i cs hc
      split at h
      · rename_i hone
        obtain ⟨st1, hw, he⟩ := Option.map_eq_some_iff.1 h
        obtain ⟨rfl, rfl⟩ := Prod.mk.inj he
        obtain ⟨id, len, off, b, hx, hb, rfl, hany⟩ := write_inv hw
        have hfp : fpI G (.stn n x w) st = ⟨some [], some [id]⟩ := by simp only [fpI, hx, idsOf]
        rw [hfp]
        refine Frame.writer (List.getElem?_eq_some_iff.1 hb).1 rfl fun bx2 _ _ hid => ?_
        simp only [exIv, exI, ev_bx, hc]
        rw [if_pos hone, hany bx2 hid]
        rfl
      · cases h
    · cases h
  | new j e cs =>
    exact Frame.maker (ids := []) (val := fun id => .ptr id cs.length 0) h (fun bx2 _ _ => rfl) h
  | box j e sz x =>
    have h0 := h
    simp only [exI] at h
    split at h
    · rename_i hc
      refine Frame.maker (ids := []) (val := fun id => .ptr id sz 0) h (fun bx2 _ _ => ?_) h0
      simp only [exI, ev_bx]
      rw [if_pos hc]
    · cases h
  | mk j e sz bytes zero l c =>
    have h0 := h
    simp only [exI] at h
    split at h
    · rename_i a b ha hb
      split at h
      · rename_i hc
        refine Frame.maker (ids := []) (val := fun id => .own id a.toNat) h (fun bx2 _ _ => ?_) h0
        simp only [exI, ev_bx, ha, hb]
        rw [if_pos hc]
      · cases h
    · cases h
  | blds j own e sz len z ps =>
    cases own with
    | false => exact frame_none (by cases j <;> rfl) h
    | true =>
      have h0 := h
      simp only [exI] at h
      split at h
      · rename_i cs hf
        split at h
        · rename_i hc
          simp only [if_true] at h
          refine Frame.maker (ids := []) (val := fun id => .own id len) h (fun bx2 _ _ => ?_) h0
          simp only [exI, parts_bx, hf]
          rw [if_pos hc]
          simp only [if_true]
        · cases h
      · cases h
  | app j e sz bytes s x =>
    have h0 := h
    simp only [exI] at h
    split at h
    · cases h
    · rename_i m news hsl
      split at h
      · rename_i hs
        split at h
        · rename_i hm
          obtain ⟨rfl, rfl⟩ := Prod.mk.inj (Option.some.inj h)
          have hfp : fpI G (.app j e sz bytes s x) st = ⟨some (idsOf (st.ev G x)), jw st j⟩ := by simp only [fpI, hs]
          rw [hfp]
          have key : ∀ bx2 : List Box, bx2.length = st.bx.length → (∀ k ∈ idsOf (st.ev G x), bx2[k]? = st.bx[k]?) → exIv G (.app j e sz bytes s x) { st with bx := bx2 } = some (.nil, bx2) := fun bx2 _ ha => by
            simp only [exIv, exI, ev_bx, slice_bx ha, hsl, hs]; rw [if_pos hm]; rfl
          refine ⟨fun _ _ => rfl, fun _ => rfl, fun bx2 hl ha => ⟨bx2, key bx2 hl fun k hk => ha k (.inl hk), fun k hk => ha k (.inr hk), fun _ _ => rfl⟩⟩
        · rename_i hm
          split at h
          · rename_i hc
            have hfp : fpI G (.app j e sz bytes s x) st = ⟨some (idsOf (st.ev G x)), jw st j⟩ := by simp only [fpI, hs]
            rw [hfp]
            refine Frame.maker (val := fun id => .own id m) h (fun bx2 _ ha => ?_) h0
            simp only [exI, ev_bx, slice_bx ha, hsl, hs]
            rw [if_neg hm, if_pos hc]
          · cases h
      · rename_i id n hs
        split at h
        · rename_i b hb
          split at h
          · rename_i hc
            obtain ⟨rfl, rfl⟩ := Prod.mk.inj (Option.some.inj h)
            have hfp : fpI G (.app j e sz bytes s x) st = ⟨some (idsOf (st.ev G x)), some [id]⟩ := by simp only [fpI, hs]
            rw [hfp]
            refine Frame.writer (List.getElem?_eq_some_iff.1 hb).1 rfl fun bx2 _ ha hid => ?_
            simp only [exIv, exI, ev_bx, slice_bx ha, hsl, hs, hid, hb]
            rw [if_pos hc]
            rfl
          · cases h
        · cases h
      · cases h
  | slc sz x lo hi =>
    simp only [exI] at h
    split at h
    · cases h
    · rename_i l hl
      split at h
      · rename_i hx
        split at h
        · rename_i hc
          obtain ⟨rfl, rfl⟩ := Prod.mk.inj (Option.some.inj h)
          have hfp : fpI G (.slc sz x lo hi) st = ⟨some [], some []⟩ := by simp only [fpI, hx, idsOf]
          rw [hfp]
          exact Frame.reader rfl fun bx2 _ _ => by simp only [exIv, exI, ev_bx, bound_bx, hl, hx]; rw [if_pos hc]; rfl
        · cases h
      · rename_i n cs hx
        have hfp : fpI G (.slc sz x lo hi) st = ⟨some [], some []⟩ := by simp only [fpI, hx, idsOf]
        rw [hfp]
        split at h
        · rename_i hh hbd
          split at h
          · rename_i hc
            obtain ⟨rfl, rfl⟩ := Prod.mk.inj (Option.some.inj h)
            exact Frame.reader rfl fun bx2 _ _ => by simp only [exIv, exI, ev_bx, bound_bx, hl, hx, hbd]; rw [if_pos hc]; rfl
          · cases h
        · cases h
      · rename_i id n hx
        have hfp : fpI G (.slc sz x lo hi) st = ⟨some [], some [id]⟩ := by simp only [fpI, hx, idsOf]
        rw [hfp]
        split at h
        · rename_i hh b hbd hb
          split at h
          · rename_i hc
            obtain ⟨rfl, rfl⟩ := Prod.mk.inj (Option.some.inj h)
            refine Frame.writer (List.getElem?_eq_some_iff.1 hb).1 rfl fun bx2 _ _ hid => ?_
            simp only [exIv, exI, ev_bx, bound_bx, hl, hx, hbd, hid, hb]; rw [if_pos hc]; rfl
          · cases h
        · cases h
      · cases h
  | slca n sz x lo hi =>
    simp only [exI] at h
    split at h
    · rename_i l hh hl hbd
      split at h
      · rename_i id len off hx
        have hfp : fpI G (.slca n sz x lo hi) st = ⟨some [], some [id]⟩ := by simp only [fpI, hx, idsOf]
        rw [hfp]
        split at h
        · rename_i b hb
          split at h
          · rename_i hc
            obtain ⟨rfl, rfl⟩ := Prod.mk.inj (Option.some.inj h)
            refine Frame.writer (List.getElem?_eq_some_iff.1 hb).1 rfl fun bx2 _ _ hid => ?_
            simp only [exIv, exI, ev_bx, bound_bx, hl, hx, hbd, hid, hb]; rw [if_pos hc]; rfl
          · cases h
        · cases h
      · cases h
    · cases h
  | _ => exact frame_none rfl h
end
end Go.Am
