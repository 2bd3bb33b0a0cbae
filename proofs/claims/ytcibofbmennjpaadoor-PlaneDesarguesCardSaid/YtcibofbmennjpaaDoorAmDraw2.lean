/- A region whose order is drawn: instructions that do not touch one another may change places. -/
import Derived.Test.YtcibofbmennjpaaDoorAmSound2
set_option linter.unusedVariables false
namespace Go.Am

section
variable {G : Nat → List AV} {F : Nat → Option MF} {rec : MC → St → Option (Ex × St)}

theorem Tm.setF_e (f : Nat) (k : Nat) (v : AV) : Tm.setF (f + 1) .e k v = Tm.setF (f + 1) (.n .undef .e .e) k v := by
  unfold Tm.setF
  cases Nat.beq k 0 <;> cases Nat.beq (k % 2) 1 <;> rfl

theorem Tm.setF_comm (f : Nat) : ∀ (t : Tm) (a b : Nat) (u v : AV), a ≠ b → Tm.setF f (Tm.setF f t a u) b v = Tm.setF f (Tm.setF f t b v) a u := by
  induction f with
  | zero => intro t a b u v h; rfl
  | succ f ih =>
    have key : ∀ (x : AV) (l r : Tm) (a b : Nat) (u v : AV), a ≠ b → Tm.setF (f + 1) (Tm.setF (f + 1) (.n x l r) a u) b v = Tm.setF (f + 1) (Tm.setF (f + 1) (.n x l r) b v) a u := by
      intro x l r a b u v h
      by_cases a0 : a = 0
      · subst a0
        have b0 : Nat.beq b 0 = false := beqf (by omega)
        cases hb : Nat.beq (b % 2) 1 <;> simp [Tm.setF, b0, hb]
      · have ea0 : Nat.beq a 0 = false := beqf a0
        by_cases b0 : b = 0
        · subst b0
          cases ha : Nat.beq (a % 2) 1 <;> simp [Tm.setF, ea0, ha]
        · have eb0 : Nat.beq b 0 = false := beqf b0
          by_cases a1 : a % 2 = 1
          · have ea1 : Nat.beq (a % 2) 1 = true := beqt a1
            by_cases b1 : b % 2 = 1
            · have eb1 : Nat.beq (b % 2) 1 = true := beqt b1
              simp only [Tm.setF, ea0, eb0, ea1, eb1, cond_true, cond_false]
              rw [ih l (a / 2) (b / 2) u v (by omega)]
            · have eb1 : Nat.beq (b % 2) 1 = false := beqf b1
              simp only [Tm.setF, ea0, eb0, ea1, eb1, cond_true, cond_false]
          · have ea1 : Nat.beq (a % 2) 1 = false := beqf a1
            by_cases b1 : b % 2 = 1
            · have eb1 : Nat.beq (b % 2) 1 = true := beqt b1
              simp only [Tm.setF, ea0, eb0, ea1, eb1, cond_true, cond_false]
            · have eb1 : Nat.beq (b % 2) 1 = false := beqf b1
              simp only [Tm.setF, ea0, eb0, ea1, eb1, cond_false]
              rw [ih r (a / 2 - 1) (b / 2 - 1) u v (by omega)]
    intro t a b u v h
    cases t with
    | n x l r => exact key x l r a b u v h
    | e => rw [Tm.setF_e, Tm.setF_e f b v]; exact key .undef .e .e a b u v h

theorem Tm.set_comm (t : Tm) (a b : Nat) (u v : AV) (h : a ≠ b) : (t.set a u).set b v = (t.set b v).set a u := Tm.setF_comm 16 t a b u v h

/-- What an instruction comes to: its value, the boxes behind it. -/
def exec1v (G : Nat → List AV) (F : Nat → Option MF) (rec : MC → St → Option (Ex × St)) (i : I) (st : St) : Option (AV × List Box) :=
  match i.g with
  | none => (runI G F rec i.i st).map fun p => (p.1, p.2.bx)
  | some (t, want) =>
    match st.tm.get t with
    | .bool b => bif b == want then (runI G F rec i.i st).map fun p => (p.1, p.2.bx) else some (.undef, st.bx)
    | .undef => some (.undef, st.bx)
    | _ => none

theorem newBox_st {st : St} {j : Option Nat} {b : Box} {id : Nat} {st' : St} (h : st.newBox j b = some (id, st')) : st' = { st with bx := st'.bx } := by
  unfold St.newBox at h
  split at h
  · simp only [Option.some.injEq, Prod.mk.injEq] at h
    obtain ⟨_, rfl⟩ := h
    rfl
  · split at h
    · split at h
      · simp only [Option.some.injEq, Prod.mk.injEq] at h
        obtain ⟨_, rfl⟩ := h
        rfl
      · cases h
    · cases h

theorem write_st {st : St} {p : AV} {vs : List AV} {st' : St} (h : st.write p vs = some st') : st' = { st with bx := st'.bx } := by
  unfold St.write at h
  split at h
  · split at h
    · split at h
      · obtain rfl := Option.some.inj h; rfl
      · cases h
    · cases h
  · cases h

theorem exI_st {mi : MI} {st : St} {av : AV} {st' : St} (h : exI G mi st = some (av, st')) : st' = { st with bx := st'.bx } := by
  have same : ∀ {x : AV}, (x, st) = (av, st') → st' = { st with bx := st'.bx } := by
    intro x hx
    obtain ⟨_, rfl⟩ := Prod.mk.inj hx
    rfl
  cases mi <;> simp only [exI] at h <;> (repeat' split at h) <;> first
    | exact same (Option.some.inj h)
    | (cases h; done)
    | (simp only [Option.map_eq_some_iff, Prod.mk.injEq] at h
       obtain ⟨_, _, _, rfl⟩ := h
       rfl)
    | (simp only [Option.map_eq_some_iff, Prod.mk.injEq] at h
       obtain ⟨⟨id, st1⟩, hn, _, rfl⟩ := h
       exact newBox_st hn)
    | (simp only [Option.map_eq_some_iff, Prod.mk.injEq] at h
       obtain ⟨st1, hn, _, rfl⟩ := h
       exact write_st hn)
    | (simp only [Option.some.injEq, Prod.mk.injEq] at h
       obtain ⟨_, rfl⟩ := h
       rfl)

theorem doCall_st {m : Mode} {f : Nat} {args : List AV} {st : St} {av : AV} {st' : St} (h : doCall F rec m f args st = some (av, st')) : st' = { st with bx := st'.bx } := by
  unfold doCall at h
  split at h
  · cases h
  · cases m <;> simp only at h <;> (repeat' split at h) <;> first
      | (cases h; done)
      | (simp only [Option.some.injEq, Prod.mk.injEq] at h
         obtain ⟨_, rfl⟩ := h
         rfl)
      | (simp only [Option.map_eq_some_iff, Prod.mk.injEq] at h
         obtain ⟨⟨id, st1⟩, hn, _, rfl⟩ := h
         exact newBox_st hn)

theorem runI_st {mi : MI} {st : St} {av : AV} {st' : St} (h : runI G F rec mi st = some (av, st')) : st' = { st with bx := st'.bx } := by
  unfold runI at h
  split at h
  · exact doCall_st h
  · split at h
    · exact doCall_st h
    · cases h
  · exact exI_st h

theorem exec1_eq (i : I) (st : St) : exec1 G F rec i st = (exec1v G F rec i st).map fun p => ({ st with bx := p.2 } : St).put i.d p.1 := by
  have hrun : ((runI G F rec i.i st).map fun p => p.2.put i.d p.1) = ((runI G F rec i.i st).map fun p => (p.1, p.2.bx)).map fun p => ({ st with bx := p.2 } : St).put i.d p.1 := by
    cases h : runI G F rec i.i st with
    | none => rfl
    | some p =>
      obtain ⟨v, st'⟩ := p
      exact congrArg some (congrArg (fun s => St.put s i.d v) (runI_st h))
  unfold exec1 exec1v
  cases i.g with
  | none => exact hrun
  | some g =>
    obtain ⟨t, want⟩ := g
    simp only
    cases st.tm.get t <;> first
      | rfl
      | (rename_i b
         simp only
         cases (b == want)
         · rfl
         · simp only [cond_true]; exact hrun)

theorem ev_congr {st st2 : St} {r : R} (h : ∀ s ∈ r.slots, st.tm.get s = st2.tm.get s) : st.ev G r = st2.ev G r := by
  cases r with
  | t n => exact h n (by simp [R.slots])
  | c v => rfl
  | g n => rfl

/-- Two states that look alike to an instruction. -/
structure Alike (G : Nat → List AV) (mi : MI) (st st2 : St) : Prop where
  bx : st.bx = st2.bx
  rb : st.rb = st2.rb
  ev : ∀ r ∈ mi.reads, st.ev G r = st2.ev G r

theorem newBox_congr {st st2 : St} (hb : st.bx = st2.bx) (hr : st.rb = st2.rb) (j : Option Nat) (b : Box) : (st.newBox j b).map (fun p => (p.1, p.2.bx)) = (st2.newBox j b).map fun p => (p.1, p.2.bx) := by
  unfold St.newBox
  rw [hb, hr]
  cases j with
  | none => rfl
  | some j =>
    simp only
    split
    · split <;> rfl
    · rfl

theorem exI_congr {mi : MI} {st st2 : St} (h : Alike G mi st st2) : (exI G mi st).map (fun p => (p.1, p.2.bx)) = (exI G mi st2).map fun p => (p.1, p.2.bx) := by
  obtain ⟨hb, hr, he⟩ := h
  obtain ⟨tm, bx, rb⟩ := st
  obtain ⟨tm2, bx2, rb2⟩ := st2
  simp only at hb hr
  subst hb
  subst hr
  have parts : ∀ (ps : List (Nat × Nat × R)), (∀ r ∈ ps.map (fun (_, _, r) => r), St.ev G ⟨tm, bx, rb⟩ r = St.ev G ⟨tm2, bx, rb⟩ r) → ps.map (fun (o, n, r) => (o, n, St.ev G ⟨tm, bx, rb⟩ r)) = ps.map fun (o, n, r) => (o, n, St.ev G ⟨tm2, bx, rb⟩ r) := by
    intro ps hps
    apply List.map_congr_left
    intro p hp
    obtain ⟨o, n, r⟩ := p
    simp only
    rw [hps r (List.mem_map.2 ⟨(o, n, r), hp, rfl⟩)]
  have nb : ∀ (j : Option Nat) (b : Box) (f : Nat → AV), ((St.newBox ⟨tm, bx, rb⟩ j b).map fun x => (f x.1, x.2)).map (fun p => (p.1, p.2.bx)) = ((St.newBox ⟨tm2, bx, rb⟩ j b).map fun x => (f x.1, x.2)).map (fun p => (p.1, p.2.bx)) := by
    intro j b f
    unfold St.newBox
    cases j with
    | none => rfl
    | some j => simp only; split <;> (try split) <;> rfl
  have bd : ∀ (d : Nat) (o : Option R), (∀ r ∈ o.toList, St.ev G ⟨tm, bx, rb⟩ r = St.ev G ⟨tm2, bx, rb⟩ r) → bound G ⟨tm, bx, rb⟩ d o = bound G ⟨tm2, bx, rb⟩ d o := by
    intro d o ho
    cases o with
    | none => rfl
    | some r => unfold bound; simp only; rw [ho r (by simp)]
  cases mi
  case new => simp only [exI]; exact nb _ _ (fun id => .ptr id _ 0)
  case alen => rfl
  case call => rfl
  case callv => rfl
  case bld z ps => simp only [exI]; rw [parts ps he]; cases fill _ z <;> rfl
  case blds j own e sz len z ps =>
    simp only [exI]
    rw [parts ps he]
    cases fill _ z with
    | none => rfl
    | some cs =>
      simp only
      split
      · split
        · exact nb _ _ (fun id => .own id _)
        · split <;> rfl
      · rfl
  case fn f cap =>
    simp only [exI, Option.map_some]
    rw [List.map_congr_left (l := cap) he]
  case slc sz x lo hi =>
    simp only [MI.reads, List.mem_cons, List.mem_append, forall_eq_or_imp] at he
    have hlo := fun d => bd d lo fun r hr => he.2 r (Or.inl hr)
    have hhi := fun d => bd d hi fun r hr => he.2 r (Or.inr hr)
    simp only [exI, he.1, hlo, hhi]
    repeat' split
    all_goals first
      | rfl
      | (simp_all; done)
  case slca n sz x lo hi =>
    simp only [MI.reads, List.mem_cons, List.mem_append, forall_eq_or_imp] at he
    have hlo := fun d => bd d lo fun r hr => he.2 r (Or.inl hr)
    have hhi := fun d => bd d hi fun r hr => he.2 r (Or.inr hr)
    simp only [exI, he.1, hlo, hhi]
    repeat' split
    all_goals first
      | rfl
      | (simp_all; done)
  case app j e sz bytes s x =>
    simp only [MI.reads, List.mem_cons, List.not_mem_nil, or_false, forall_eq_or_imp, forall_eq] at he
    have hs : ∀ v, St.slice ⟨tm, bx, rb⟩ sz v = St.slice ⟨tm2, bx, rb⟩ sz v := by intro v; cases v <;> rfl
    simp only [exI, he.1, he.2, hs]
    cases St.slice ⟨tm2, bx, rb⟩ sz (St.ev G ⟨tm2, bx, rb⟩ x) with
    | none => rfl
    | some p =>
      obtain ⟨m, news⟩ := p
      simp only
      cases St.ev G ⟨tm2, bx, rb⟩ s <;> simp only
      · split
        · rfl
        · split
          · exact nb _ _ (fun id => .own id _)
          · rfl
      · repeat' split
        all_goals first
          | rfl
          | (simp_all; done)
  case bin op x y =>
    simp only [MI.reads, List.mem_cons, List.not_mem_nil, or_false, forall_eq_or_imp, forall_eq] at he
    simp only [exI, he]
    cases abin op _ _ <;> rfl
  case fldn off n x =>
    simp only [MI.reads, List.mem_cons, List.not_mem_nil, or_false, forall_eq] at he
    simp only [exI, he]
    split
    · cases seg _ off n <;> rfl
    · rfl
  case idxn len sz x i =>
    simp only [MI.reads, List.mem_cons, List.not_mem_nil, or_false, forall_eq_or_imp, forall_eq] at he
    simp only [exI, he]
    split
    · split
      · cases seg _ _ sz <;> rfl
      · rfl
    · rfl
  case box j e sz x =>
    simp only [MI.reads, List.mem_cons, List.not_mem_nil, or_false, forall_eq] at he
    simp only [exI, he]
    split
    · exact nb _ _ (fun id => .ptr id _ 0)
    · rfl
  case mk j e sz bytes zero l c =>
    simp only [MI.reads, List.mem_cons, List.not_mem_nil, or_false, forall_eq_or_imp, forall_eq] at he
    simp only [exI, he]
    split
    · split
      · exact nb _ _ (fun id => .own id _)
      · rfl
    · rfl
  all_goals
    simp only [MI.reads, List.mem_cons, List.not_mem_nil, or_false, forall_eq_or_imp, forall_eq] at he
    simp only [exI, he, St.at_, St.valid, St.write]
    first
      | rfl
      | (repeat' split
         all_goals first
           | rfl
           | (simp_all; done))
end

end Go.Am

/- Instructions that do not touch one another change places. -/
set_option linter.unusedVariables false
namespace Go.Am

section
variable {G : Nat → List AV} {F : Nat → Option MF} {rec : MC → St → Option (Ex × St)}

theorem doCall_congr (m : Mode) (f : Nat) (args : List AV) (tm tm2 : Tm) (bx : List Box) (rb rb2 : Nat) :
    (doCall F rec m f args ⟨tm, bx, rb⟩).map (fun p => (p.1, p.2.bx)) = (doCall F rec m f args ⟨tm2, bx, rb2⟩).map fun p => (p.1, p.2.bx) := by
  unfold doCall
  split
  · rfl
  · cases m <;> simp only
    · split
      · rfl
      · split
        · rfl
        · split <;> rfl
        · split
          · rfl
          · rfl
    · split
      · rfl
      · split
        · split <;> rfl
        · rfl
    · split
      · rfl
      · split
        · rfl
        · split <;> rfl
    · split
      · rfl
      · split <;> rfl

theorem runI_congr {mi : MI} {st st2 : St} (h : Alike G mi st st2) : (runI G F rec mi st).map (fun p => (p.1, p.2.bx)) = (runI G F rec mi st2).map fun p => (p.1, p.2.bx) := by
  have key : ∀ (m : Mode) (f : Nat) (as : List AV), (doCall F rec m f as st).map (fun p => (p.1, p.2.bx)) = (doCall F rec m f as st2).map fun p => (p.1, p.2.bx) := by
    intro m f as
    obtain ⟨hb, hr, _⟩ := h
    obtain ⟨tm, bx, rb⟩ := st
    obtain ⟨tm2, bx2, rb2⟩ := st2
    simp only at hb hr
    subst hb
    exact doCall_congr m f as tm tm2 bx rb rb2
  cases mi with
  | call f args m =>
    simp only [runI]
    rw [List.map_congr_left (l := args) h.ev]
    exact key _ _ _
  | callv x args m =>
    simp only [runI]
    rw [List.map_congr_left (l := args) fun r hr => h.ev r (List.mem_cons_of_mem _ hr), h.ev x (by simp [MI.reads])]
    split
    · exact key _ _ _
    · rfl
  | _ => exact exI_congr h

/-- An instruction asks of the state the slots that it names, the boxes, the first reserved box. -/
theorem exec1v_congr {i : I} {st st2 : St} (hb : st.bx = st2.bx) (hr : st.rb = st2.rb) (hs : ∀ s ∈ i.slots, st.tm.get s = st2.tm.get s) : exec1v G F rec i st = exec1v G F rec i st2 := by
  have hA : Alike G i.i st st2 := ⟨hb, hr, fun r hr => ev_congr fun s hs' => hs s (by
    unfold I.slots
    exact List.mem_append_left _ (List.mem_flatMap.2 ⟨r, hr, hs'⟩))⟩
  have hrun := runI_congr (F := F) (rec := rec) hA
  unfold exec1v
  cases hg : i.g with
  | none => exact hrun
  | some g =>
    obtain ⟨t, want⟩ := g
    simp only
    rw [hs t (by unfold I.slots; rw [hg]; simp), hrun, hb]

/-- An instruction of the class 'none': no box has a part in it. -/
theorem exI_none {mi : MI} {st : St} {v : AV} {st' : St} (hc : mi.cls = .none) (h : exI G mi st = some (v, st')) : st' = st ∧ ∀ bx, exI G mi { st with bx := bx } = some (v, { st with bx := bx }) := by
  have hev : ∀ bx r, St.ev G { st with bx := bx } r = st.ev G r := fun bx r => by cases r <;> rfl
  have hparts : ∀ bx (ps : List (Nat × Nat × R)), (ps.map fun (o, n, r) => (o, n, St.ev G { st with bx := bx } r)) = ps.map fun (o, n, r) => (o, n, st.ev G r) := fun bx ps => List.map_congr_left fun p _ => by
    obtain ⟨o, n, r⟩ := p
    simp only [hev]
  cases mi with
  | blds j own e sz len z ps =>
    cases own with
    | true => cases j <;> cases hc
    | false =>
      simp only [exI, hparts] at h ⊢
      split at h
      · rename_i cs hf
        split at h
        · rename_i hl
          simp only [Bool.false_eq_true, if_false] at h
          split at h
          · rename_i hcl
            simp only [Option.some.injEq, Prod.mk.injEq] at h
            obtain ⟨rfl, rfl⟩ := h
            exact ⟨rfl, fun bx => by simp [hl, hcl]⟩
          · cases h
        · cases h
      · cases h
  | new j e cs => cases j <;> cases hc
  | box j e sz x => cases j <;> cases hc
  | mk j e sz b z l c => cases j <;> cases hc
  | call f args m => cases h
  | callv f args m => cases h
  | bld z ps =>
    simp only [exI, hparts, Option.map_eq_some_iff, Prod.mk.injEq] at h ⊢
    obtain ⟨cs, hf, rfl, rfl⟩ := h
    exact ⟨rfl, fun bx => ⟨cs, hf, rfl, trivial⟩⟩
  | fn f cap =>
    simp only [exI, Option.some.injEq, Prod.mk.injEq] at h ⊢
    obtain ⟨rfl, rfl⟩ := h
    exact ⟨rfl, fun bx => ⟨by rw [List.map_congr_left (l := cap) fun r _ => hev bx r], trivial⟩⟩
  | alen n => obtain ⟨rfl, rfl⟩ := Prod.mk.inj (Option.some.inj h); exact ⟨rfl, fun _ => rfl⟩
  | mov x => obtain ⟨rfl, rfl⟩ := Prod.mk.inj (Option.some.inj h); exact ⟨rfl, fun bx => by simp only [exI, hev]⟩
  | eqa neg x y =>
    simp only [exI, hev] at h ⊢
    split at h
    · obtain ⟨rfl, rfl⟩ := Prod.mk.inj (Option.some.inj h)
      exact ⟨rfl, fun _ => rfl⟩
    · cases h
  | eqarr n k neg x y =>
    simp only [exI, hev] at h ⊢
    split at h
    · split at h
      · split at h
        · rename_i hq
          obtain ⟨rfl, rfl⟩ := Prod.mk.inj (Option.some.inj h)
          exact ⟨rfl, fun _ => by rw [if_pos hq]⟩
        · cases h
      · cases h
    · cases h
  | min2 x y =>
    simp only [exI, hev] at h ⊢
    split at h
    · obtain ⟨rfl, rfl⟩ := Prod.mk.inj (Option.some.inj h)
      exact ⟨rfl, fun _ => rfl⟩
    · cases h
  | max2 x y =>
    simp only [exI, hev] at h ⊢
    split at h
    · obtain ⟨rfl, rfl⟩ := Prod.mk.inj (Option.some.inj h)
      exact ⟨rfl, fun _ => rfl⟩
    · cases h
  | _ =>
    first
      | (cases hc; done)
      | (simp only [exI, hev] at h ⊢
         first
           | (simp only [Option.map_eq_some_iff, Prod.mk.injEq] at h ⊢
              obtain ⟨cs, hf, rfl, rfl⟩ := h
              exact ⟨rfl, fun bx => ⟨cs, hf, rfl, trivial⟩⟩)
           | (repeat' split at h
              all_goals first
                | (cases h; done)
                | (simp only [Option.some.injEq, Prod.mk.injEq] at h
                   obtain ⟨rfl, rfl⟩ := h
                   refine ⟨rfl, fun bx => ?_⟩
                   first
                     | rfl
                     | (simp_all; done))
                | (simp only [Option.map_eq_some_iff, Prod.mk.injEq] at h
                   obtain ⟨cs, hf, rfl, rfl⟩ := h
                   refine ⟨rfl, fun bx => ?_⟩
                   simp [*]; done)))

/-- An instruction that only reads leaves all as it was. -/
theorem exI_reads {mi : MI} {st : St} {v : AV} {st' : St} (hc : mi.cls = .reads) (h : exI G mi st = some (v, st')) : st' = st := by
  cases mi with
  | blds j own e sz len z ps => cases own <;> cases j <;> cases hc
  | new j e cs => cases j <;> cases hc
  | box j e sz x => cases j <;> cases hc
  | mk j e sz b z l c => cases j <;> cases hc
  | call f args m => cases h
  | callv f args m => cases h
  | _ =>
    first
      | (cases hc; done)
      | (simp only [exI] at h
         repeat' split at h
         all_goals first
           | (cases h; done)
           | exact (Prod.mk.inj (Option.some.inj h)).2.symm)

theorem doCall_reads {m : Mode} (hm : m = .pureV ∨ m = .quiet) {f : Nat} {args : List AV} {st : St} {v : AV} {st' : St} (h : doCall F rec m f args st = some (v, st')) : st' = st := by
  unfold doCall at h
  split at h
  · cases h
  · rcases hm with rfl | rfl <;> simp only at h <;> (repeat' split at h) <;> first
      | (cases h; done)
      | exact (Prod.mk.inj (Option.some.inj h)).2.symm

theorem runI_reads {mi : MI} {st : St} {v : AV} {st' : St} (hc : mi.cls = .reads) (h : runI G F rec mi st = some (v, st')) : st' = st := by
  cases mi with
  | call f args m => exact doCall_reads (by cases m <;> first | exact .inl rfl | exact .inr rfl | cases hc) h
  | callv x args m =>
    simp only [runI] at h
    split at h
    · exact doCall_reads (by cases m <;> first | exact .inl rfl | exact .inr rfl | cases hc) h
    · cases h
  | _ => exact exI_reads (G := G) hc h

theorem runI_none {mi : MI} {st : St} {v : AV} {st' : St} (hc : mi.cls = .none) (h : runI G F rec mi st = some (v, st')) : st' = st ∧ ∀ bx, runI G F rec mi { st with bx := bx } = some (v, { st with bx := bx }) := by
  cases mi with
  | call f args m => cases m <;> cases hc
  | callv x args m => cases m <;> cases hc
  | _ => exact exI_none (G := G) hc h

theorem exec1v_reads {i : I} {st : St} {v : AV} {bx : List Box} (hc : i.i.cls = .reads ∨ i.i.cls = .none) (h : exec1v G F rec i st = some (v, bx)) : bx = st.bx := by
  have hrun : ∀ {v : AV} {bx : List Box}, ((runI G F rec i.i st).map fun p => (p.1, p.2.bx)) = some (v, bx) → bx = st.bx := by
    intro v bx h
    obtain ⟨⟨u, st'⟩, hr, he⟩ := Option.map_eq_some_iff.1 h
    obtain ⟨_, rfl⟩ := Prod.mk.inj he
    rcases hc with hc | hc
    · exact congrArg St.bx (runI_reads hc hr)
    · exact congrArg St.bx (runI_none hc hr).1
  unfold exec1v at h
  split at h
  · exact hrun h
  · split at h
    · rename_i b _
      revert h
      cases (b == _)
      · intro h; exact (Prod.mk.inj (Option.some.inj h)).2.symm
      · intro h; exact hrun h
    · exact (Prod.mk.inj (Option.some.inj h)).2.symm
    · cases h

theorem exec1v_none {i : I} {st : St} {v : AV} {bx : List Box} (hc : i.i.cls = .none) (h : exec1v G F rec i st = some (v, bx)) (bx2 : List Box) : exec1v G F rec i { st with bx := bx2 } = some (v, bx2) := by
  have hrun : ∀ {v : AV} {bx : List Box}, ((runI G F rec i.i st).map fun p => (p.1, p.2.bx)) = some (v, bx) → ((runI G F rec i.i { st with bx := bx2 }).map fun p => (p.1, p.2.bx)) = some (v, bx2) := by
    intro v bx h
    obtain ⟨⟨u, st'⟩, hr, he⟩ := Option.map_eq_some_iff.1 h
    obtain ⟨rfl, _⟩ := Prod.mk.inj he
    rw [(runI_none hc hr).2 bx2]
    rfl
  unfold exec1v at h ⊢
  split at h
  · exact hrun h
  · simp only
    split at h
    · rename_i b eb
      revert h
      cases (b == _)
      · intro h; rw [(Prod.mk.inj (Option.some.inj h)).1]; rfl
      · intro h; exact hrun h
    · rw [← (Prod.mk.inj (Option.some.inj h)).1]
    · cases h

theorem St.put_tm (st : St) (d : Option Nat) (v : AV) (h : ∀ k, d = some k → k < 65535) (s : Nat) (hs : ∀ k, d = some k → k ≠ s) : (st.put d v).tm.get s = st.tm.get s := by
  cases d with
  | none => rfl
  | some k => exact (Tm.get_set st.tm k v s (h k rfl)).trans (if_neg (hs k rfl))
end

end Go.Am

