/- Instructions that do not touch one another change places. -/
import Derived.Test.YtcibofbmennjpaaAmDraw
set_option linter.unusedVariables false
namespace Go.Am

section
variable {G : Nat → List AV} {F : Nat → Option MF} {rec : MC → St → Option (Ex × St)}

theorem doCall_congr (m : Mode) (f : Nat) (args : List AV) (tm tm2 : Tm) (bx : List Box) (rb rb2 : Nat) :
    (doCall F rec m f args ⟨tm, bx, rb⟩).map (fun p => (p.1, p.2.bx)) = (doCall F rec m f args ⟨tm2, bx, rb2⟩).map fun p => (p.1, p.2.bx) := by
  unfold doCall
  split
  · rfl
  · cases m <;> simp only
    · split
      · rfl
      · split
        · rfl
        · split <;> rfl
        · split
          · rfl
          · rfl
    · split
      · rfl
      · split
        · split <;> rfl
        · rfl
    · split
      · rfl
      · split
        · rfl
        · split <;> rfl
    · split
      · rfl
      · split <;> rfl

theorem runI_congr {mi : MI} {st st2 : St} (h : Alike G mi st st2) : (runI G F rec mi st).map (fun p => (p.1, p.2.bx)) = (runI G F rec mi st2).map fun p => (p.1, p.2.bx) := by
  have key : ∀ (m : Mode) (f : Nat) (as : List AV), (doCall F rec m f as st).map (fun p => (p.1, p.2.bx)) = (doCall F rec m f as st2).map fun p => (p.1, p.2.bx) := by
    intro m f as
    obtain ⟨hb, hr, _⟩ := h
    obtain ⟨tm, bx, rb⟩ := st
    obtain ⟨tm2, bx2, rb2⟩ := st2
    simp only at hb hr
    subst hb
    exact doCall_congr m f as tm tm2 bx rb rb2
  cases mi with
  | call f args m =>
    simp only [runI]
    rw [List.map_congr_left (l := args) h.ev]
    exact key _ _ _
  | callv x args m =>
    simp only [runI]
    rw [List.map_congr_left (l := args) fun r hr => h.ev r (List.mem_cons_of_mem _ hr), h.ev x (by simp [MI.reads])]
    split
    · exact key _ _ _
    · rfl
  | _ => exact exI_congr h

/-- An instruction asks of the state the slots that it names, the boxes, the first reserved box. -/
theorem exec1v_congr {i : I} {st st2 : St} (hb : st.bx = st2.bx) (hr : st.rb = st2.rb) (hs : ∀ s ∈ i.slots, st.tm.get s = st2.tm.get s) : exec1v G F rec i st = exec1v G F rec i st2 := by
  have hA : Alike G i.i st st2 := ⟨hb, hr, fun r hr => ev_congr fun s hs' => hs s (by
    unfold I.slots
    exact List.mem_append_left _ (List.mem_flatMap.2 ⟨r, hr, hs'⟩))⟩
  have hrun := runI_congr (F := F) (rec := rec) hA
  unfold exec1v
  cases hg : i.g with
  | none => exact hrun
  | some g =>
    obtain ⟨t, want⟩ := g
    simp only
    rw [hs t (by unfold I.slots; rw [hg]; simp), hrun, hb]

/-- An instruction of the class 'none': no box has a part in it. -/
theorem exI_none {mi : MI} {st : St} {v : AV} {st' : St} (hc : mi.cls = .none) (h : exI G mi st = some (v, st')) : st' = st ∧ ∀ bx, exI G mi { st with bx := bx } = some (v, { st with bx := bx }) := by
  have hev : ∀ bx r, St.ev G { st with bx := bx } r = st.ev G r := fun bx r => by cases r <;> rfl
  have hparts : ∀ bx (ps : List (Nat × Nat × R)), (ps.map fun (o, n, r) => (o, n, St.ev G { st with bx := bx } r)) = ps.map fun (o, n, r) => (o, n, st.ev G r) := fun bx ps => List.map_congr_left fun p _ => by
    obtain ⟨o, n, r⟩ := p
    simp only [hev]
  cases mi with
  | blds j own e sz len z ps =>
    cases own with
    | true => cases j <;> cases hc
    | false =>
      simp only [exI, hparts] at h ⊢
      split at h
      · rename_i cs hf
        split at h
        · rename_i hl
          simp only [Bool.false_eq_true, if_false] at h
          split at h
          · rename_i hcl
            simp only [Option.some.injEq, Prod.mk.injEq] at h
            obtain ⟨rfl, rfl⟩ := h
            exact ⟨rfl, fun bx => by simp [hl, hcl]⟩
          · cases h
        · cases h
      · cases h
  | new j e cs => cases j <;> cases hc
  | box j e sz x => cases j <;> cases hc
  | mk j e sz b z l c => cases j <;> cases hc
  | call f args m => cases h
  | callv f args m => cases h
  | bld z ps =>
    simp only [exI, hparts, Option.map_eq_some_iff, Prod.mk.injEq] at h ⊢
    obtain ⟨cs, hf, rfl, rfl⟩ := h
    exact ⟨rfl, fun bx => ⟨cs, hf, rfl, trivial⟩⟩
  | fn f cap =>
    simp only [exI, Option.some.injEq, Prod.mk.injEq] at h ⊢
    obtain ⟨rfl, rfl⟩ := h
    exact ⟨rfl, fun bx => ⟨by rw [List.map_congr_left (l := cap) fun r _ => hev bx r], trivial⟩⟩
  | alen n => obtain ⟨rfl, rfl⟩ := Prod.mk.inj (Option.some.inj h); exact ⟨rfl, fun _ => rfl⟩
  | mov x => obtain ⟨rfl, rfl⟩ := Prod.mk.inj (Option.some.inj h); exact ⟨rfl, fun bx => by simp only [exI, hev]⟩
  | eqa neg x y =>
    simp only [exI, hev] at h ⊢
    split at h
    · obtain ⟨rfl, rfl⟩ := Prod.mk.inj (Option.some.inj h)
      exact ⟨rfl, fun _ => rfl⟩
    · cases h
  | min2 x y =>
    simp only [exI, hev] at h ⊢
    split at h
    · obtain ⟨rfl, rfl⟩ := Prod.mk.inj (Option.some.inj h)
      exact ⟨rfl, fun _ => rfl⟩
    · cases h
  | max2 x y =>
    simp only [exI, hev] at h ⊢
    split at h
    · obtain ⟨rfl, rfl⟩ := Prod.mk.inj (Option.some.inj h)
      exact ⟨rfl, fun _ => rfl⟩
    · cases h
  | _ =>
    first
      | (cases hc; done)
      | (simp only [exI, hev] at h ⊢
         first
           | (simp only [Option.map_eq_some_iff, Prod.mk.injEq] at h ⊢
              obtain ⟨cs, hf, rfl, rfl⟩ := h
              exact ⟨rfl, fun bx => ⟨cs, hf, rfl, trivial⟩⟩)
           | (repeat' split at h
              all_goals first
                | (cases h; done)
                | (simp only [Option.some.injEq, Prod.mk.injEq] at h
                   obtain ⟨rfl, rfl⟩ := h
                   refine ⟨rfl, fun bx => ?_⟩
                   first
                     | rfl
                     | (simp_all; done))
                | (simp only [Option.map_eq_some_iff, Prod.mk.injEq] at h
                   obtain ⟨cs, hf, rfl, rfl⟩ := h
                   refine ⟨rfl, fun bx => ?_⟩
                   simp [*]; done)))

/-- An instruction that only reads leaves all as it was. -/
theorem exI_reads {mi : MI} {st : St} {v : AV} {st' : St} (hc : mi.cls = .reads) (h : exI G mi st = some (v, st')) : st' = st := by
  cases mi with
  | blds j own e sz len z ps => cases own <;> cases j <;> cases hc
  | new j e cs => cases j <;> cases hc
  | box j e sz x => cases j <;> cases hc
  | mk j e sz b z l c => cases j <;> cases hc
  | call f args m => cases h
  | callv f args m => cases h
  | _ =>
    first
      | (cases hc; done)
      | (simp only [exI] at h
         repeat' split at h
         all_goals first
           | (cases h; done)
           | exact (Prod.mk.inj (Option.some.inj h)).2.symm)

theorem doCall_reads {m : Mode} (hm : m = .pureV ∨ m = .quiet) {f : Nat} {args : List AV} {st : St} {v : AV} {st' : St} (h : doCall F rec m f args st = some (v, st')) : st' = st := by
  unfold doCall at h
  split at h
  · cases h
  · rcases hm with rfl | rfl <;> simp only at h <;> (repeat' split at h) <;> first
      | (cases h; done)
      | exact (Prod.mk.inj (Option.some.inj h)).2.symm

theorem runI_reads {mi : MI} {st : St} {v : AV} {st' : St} (hc : mi.cls = .reads) (h : runI G F rec mi st = some (v, st')) : st' = st := by
  cases mi with
  | call f args m => exact doCall_reads (by cases m <;> first | exact .inl rfl | exact .inr rfl | cases hc) h
  | callv x args m =>
    simp only [runI] at h
    split at h
    · exact doCall_reads (by cases m <;> first | exact .inl rfl | exact .inr rfl | cases hc) h
    · cases h
  | _ => exact exI_reads (G := G) hc h

theorem runI_none {mi : MI} {st : St} {v : AV} {st' : St} (hc : mi.cls = .none) (h : runI G F rec mi st = some (v, st')) : st' = st ∧ ∀ bx, runI G F rec mi { st with bx := bx } = some (v, { st with bx := bx }) := by
  cases mi with
  | call f args m => cases m <;> cases hc
  | callv x args m => cases m <;> cases hc
  | _ => exact exI_none (G := G) hc h

theorem exec1v_reads {i : I} {st : St} {v : AV} {bx : List Box} (hc : i.i.cls = .reads ∨ i.i.cls = .none) (h : exec1v G F rec i st = some (v, bx)) : bx = st.bx := by
  have hrun : ∀ {v : AV} {bx : List Box}, ((runI G F rec i.i st).map fun p => (p.1, p.2.bx)) = some (v, bx) → bx = st.bx := by
    intro v bx h
    obtain ⟨⟨u, st'⟩, hr, he⟩ := Option.map_eq_some_iff.1 h
    obtain ⟨_, rfl⟩ := Prod.mk.inj he
    rcases hc with hc | hc
    · exact congrArg St.bx (runI_reads hc hr)
    · exact congrArg St.bx (runI_none hc hr).1
  unfold exec1v at h
  split at h
  · exact hrun h
  · split at h
    · rename_i b _
      revert h
      cases (b == _)
      · intro h; exact (Prod.mk.inj (Option.some.inj h)).2.symm
      · intro h; exact hrun h
    · exact (Prod.mk.inj (Option.some.inj h)).2.symm
    · cases h

theorem exec1v_none {i : I} {st : St} {v : AV} {bx : List Box} (hc : i.i.cls = .none) (h : exec1v G F rec i st = some (v, bx)) (bx2 : List Box) : exec1v G F rec i { st with bx := bx2 } = some (v, bx2) := by
  have hrun : ∀ {v : AV} {bx : List Box}, ((runI G F rec i.i st).map fun p => (p.1, p.2.bx)) = some (v, bx) → ((runI G F rec i.i { st with bx := bx2 }).map fun p => (p.1, p.2.bx)) = some (v, bx2) := by
    intro v bx h
    obtain ⟨⟨u, st'⟩, hr, he⟩ := Option.map_eq_some_iff.1 h
    obtain ⟨rfl, _⟩ := Prod.mk.inj he
    rw [(runI_none hc hr).2 bx2]
    rfl
  unfold exec1v at h ⊢
  split at h
  · exact hrun h
  · simp only
    split at h
    · rename_i b eb
      revert h
      cases (b == _)
      · intro h; rw [(Prod.mk.inj (Option.some.inj h)).1]; rfl
      · intro h; exact hrun h
    · rw [← (Prod.mk.inj (Option.some.inj h)).1]
    · cases h

theorem St.put_tm (st : St) (d : Option Nat) (v : AV) (h : ∀ k, d = some k → k < 65535) (s : Nat) (hs : ∀ k, d = some k → k ≠ s) : (st.put d v).tm.get s = st.tm.get s := by
  cases d with
  | none => rfl
  | some k => exact (Tm.get_set st.tm k v s (h k rfl)).trans (if_neg (hs k rfl))
end
end Go.Am
