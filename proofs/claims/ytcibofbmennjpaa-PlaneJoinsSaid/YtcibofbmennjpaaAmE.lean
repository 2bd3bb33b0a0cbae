/- The machine without fuel: 'E' gives what some fuel gives. -/
import Derived.Test.YtcibofbmennjpaaAmLaw
set_option linter.unusedVariables false
namespace Go.Am

abbrev Rec := MC → St → Option (Ex × St)

/-- 'In the end': closed under 'and', upwards. -/
structure Ends {ι : Type} (ev : (ι → Prop) → Prop) : Prop where
  all : ev fun _ => True
  and : ∀ {p q : ι → Prop}, ev p → ev q → ev fun i => p i ∧ q i
  up : ∀ {p q : ι → Prop}, (∀ i, p i → q i) → ev p → ev q

section
variable {G : Nat → List AV} {F : Nat → Option MF} {ι : Type} {ev : (ι → Prop) → Prop} {r0 : Rec} {r : ι → Rec}

theorem runBody_ev (hE : Ends ev) (h : ∀ c st x, r0 c st = some x → ev fun i => r i c st = some x) {fn : MF} {st : St} {x : St × List AV} (hx : runBody r0 fn st = some x) : ev fun i => runBody (r i) fn st = some x := by
  unfold runBody at hx
  cases hb : r0 fn.body st with
  | none => rw [hb] at hx; cases hx
  | some y =>
    refine hE.up (fun i hi => ?_) (h _ _ _ hb)
    unfold runBody
    rw [hi, ← hb]
    exact hx

theorem pcall_ev (hE : Ends ev) (h : ∀ c st x, r0 c st = some x → ev fun i => r i c st = some x) {f : Nat} {args : List AV} {x : Res × Bool} (hx : pcall F r0 f args = some x) : ev fun i => pcall F (r i) f args = some x := by
  unfold pcall at hx
  cases hf : F f with
  | none => rw [hf] at hx; cases hx
  | some fn =>
    rw [hf] at hx
    simp only at hx
    cases hb : runBody r0 fn ⟨initTm 0 args .e, [], 0⟩ with
    | none => rw [hb] at hx; cases hx
    | some y =>
      refine hE.up (fun i hi => ?_) (runBody_ev hE h hb)
      unfold pcall
      rw [hf]
      simp only
      rw [hi, ← hb]
      exact hx

theorem doCall_ev (hE : Ends ev) (h : ∀ c st x, r0 c st = some x → ev fun i => r i c st = some x) {m : Mode} {f : Nat} {args : List AV} {st : St} {x : AV × St} (hx : doCall F r0 m f args st = some x) : ev fun i => doCall F (r i) m f args st = some x := by
  unfold doCall at hx
  split at hx
  · cases hx
  · rename_i hlen
    cases m with
    | pure =>
      simp only at hx
      cases hm : args.mapM (reify reifyDepth st.bx) with
      | none => rw [hm] at hx; cases hx
      | some xs =>
        rw [hm] at hx
        simp only at hx
        cases hp : pcall F r0 f xs with
        | none => rw [hp] at hx; cases hx
        | some y =>
          refine hE.up (fun i hi => ?_) (pcall_ev hE h hp)
          unfold doCall
          rw [if_neg hlen]
          simp only [hm]
          rw [hi, ← hp]
          exact hx
    | pureV =>
      simp only at hx
      cases hm : args.mapM (reify reifyDepth st.bx) with
      | none => rw [hm] at hx; cases hx
      | some xs =>
        rw [hm] at hx
        simp only at hx
        cases hp : pcall F r0 f xs with
        | none => rw [hp] at hx; cases hx
        | some y =>
          refine hE.up (fun i hi => ?_) (pcall_ev hE h hp)
          unfold doCall
          rw [if_neg hlen]
          simp only [hm]
          rw [hi, ← hp]
          exact hx
    | quiet =>
      simp only at hx
      cases hf : F f with
      | none => rw [hf] at hx; cases hx
      | some fn =>
        rw [hf] at hx
        simp only at hx
        cases hb : runBody r0 fn ⟨initTm 0 args .e, st.bx.map Box.freeze, 0⟩ with
        | none => rw [hb] at hx; cases hx
        | some y =>
          refine hE.up (fun i hi => ?_) (runBody_ev hE h hb)
          unfold doCall
          rw [if_neg hlen]
          simp only [hf]
          rw [hi, ← hb]
          exact hx
    | shared =>
      simp only at hx
      cases hf : F f with
      | none => rw [hf] at hx; cases hx
      | some fn =>
        rw [hf] at hx
        simp only at hx
        cases hb : runBody r0 fn ⟨initTm 0 args .e, st.bx, 0⟩ with
        | none => rw [hb] at hx; cases hx
        | some y =>
          refine hE.up (fun i hi => ?_) (runBody_ev hE h hb)
          unfold doCall
          rw [if_neg hlen]
          simp only [hf]
          rw [hi, ← hb]
          exact hx

theorem runI_ev (hE : Ends ev) (h : ∀ c st x, r0 c st = some x → ev fun i => r i c st = some x) {mi : MI} {st : St} {x : AV × St} (hx : runI G F r0 mi st = some x) : ev fun i => runI G F (r i) mi st = some x := by
  cases mi with
  | call f args m => exact doCall_ev hE h hx
  | callv y args m =>
    simp only [runI] at hx ⊢
    split at hx
    · exact doCall_ev hE h hx
    · cases hx
  | _ => exact hE.up (fun _ _ => hx) hE.all

theorem exec1_ev (hE : Ends ev) (h : ∀ c st x, r0 c st = some x → ev fun i => r i c st = some x) {j : I} {st : St} {x : St} (hx : exec1 G F r0 j st = some x) : ev fun i => exec1 G F (r i) j st = some x := by
  have hrun : ((runI G F r0 j.i st).map fun p => p.2.put j.d p.1) = some x → ev fun i => ((runI G F (r i) j.i st).map fun p => p.2.put j.d p.1) = some x := by
    intro hx
    obtain ⟨y, hy, he⟩ := Option.map_eq_some_iff.1 hx
    exact hE.up (fun i hi => by rw [hi, ← he]; rfl) (runI_ev hE h hy)
  unfold exec1 at hx ⊢
  split at hx
  · exact hrun hx
  · rename_i t want hg
    split at hx
    · rename_i b hb
      revert hx
      cases (b == want) with
      | true => intro hx; exact hrun hx
      | false => intro hx; exact hE.up (fun _ _ => hx) hE.all
    · exact hE.up (fun _ _ => hx) hE.all
    · cases hx

theorem execs_ev (hE : Ends ev) (h : ∀ c st x, r0 c st = some x → ev fun i => r i c st = some x) : ∀ {l : List I} {st : St} {x : St}, execs G F r0 l st = some x → ev fun i => execs G F (r i) l st = some x := by
  intro l
  induction l with
  | nil => intro st x hx; exact hE.up (fun _ _ => hx) hE.all
  | cons j l ih =>
    intro st x hx
    simp only [execs] at hx
    split at hx
    · rename_i st1 h1
      refine hE.up (fun i hi => ?_) (hE.and (exec1_ev hE h h1) (ih hx))
      simp only [execs, hi.1]
      exact hi.2
    · cases hx

theorem execsF_ev (hE : Ends ev) (h : ∀ c st x, r0 c st = some x → ev fun i => r i c st = some x) : ∀ {l : List I} {st : St} {x : St × List Fp}, execsF G F r0 l st = some x → ev fun i => execsF G F (r i) l st = some x := by
  intro l
  induction l with
  | nil => intro st x hx; exact hE.up (fun _ _ => hx) hE.all
  | cons j l ih =>
    intro st x hx
    simp only [execsF] at hx
    split at hx
    · rename_i st1 h1
      obtain ⟨y, hy, he⟩ := Option.map_eq_some_iff.1 hx
      refine hE.up (fun i hi => ?_) (hE.and (exec1_ev hE h h1) (ih hy))
      simp only [execsF, hi.1, hi.2]
      exact congrArg some he
    · cases hx

theorem step_ev (hE : Ends ev) (h : ∀ c st x, r0 c st = some x → ev fun i => r i c st = some x) : ∀ {c : MC} {st : St} {x : Ex × St}, step G F r0 c st = some x → ev fun i => step G F (r i) c st = some x := by
  intro c
  induction c with
  | skip => intro st x hx; exact hE.up (fun _ _ => hx) hE.all
  | exit id => intro st x hx; exact hE.up (fun _ _ => hx) hE.all
  | ret => intro st x hx; exact hE.up (fun _ _ => hx) hE.all
  | prim g => intro st x hx; exact hE.up (fun _ _ => hx) hE.all
  | ops m l =>
    intro st x hx
    simp only [step] at hx ⊢
    split at hx
    · obtain ⟨y, hy, he⟩ := Option.map_eq_some_iff.1 hx
      exact hE.up (fun i hi => by rw [hi, ← he]; rfl) (execs_ev hE h hy)
    · obtain ⟨y, hy, he⟩ := Option.map_eq_some_iff.1 hx
      exact hE.up (fun i hi => by rw [hi, ← he]; rfl) (execs_ev hE h hy)
  | opsD m l prs =>
    intro st x hx
    simp only [step] at hx ⊢
    split at hx
    · rename_i st1 fps hf
      exact hE.up (fun i hi => by rw [hi]; exact hx) (execsF_ev hE h hf)
    · cases hx
  | seq a b iha ihb =>
    intro st x hx
    simp only [step] at hx ⊢
    cases ha : step G F r0 a st with
    | none => rw [ha] at hx; cases hx
    | some y =>
      obtain ⟨e, st1⟩ := y
      rw [ha] at hx
      cases e with
      | normal =>
        refine hE.up (fun i hi => ?_) (hE.and (iha ha) (ihb hx))
        rw [hi.1]
        exact hi.2
      | exit k => exact hE.up (fun i hi => by rw [hi]; exact hx) (iha ha)
      | ret => exact hE.up (fun i hi => by rw [hi]; exact hx) (iha ha)
  | cond c a b iha ihb =>
    intro st x hx
    simp only [step] at hx ⊢
    split at hx
    · rename_i t ht
      cases t with
      | true => exact iha hx
      | false => exact ihb hx
    · cases hx
  | block id a ih =>
    intro st x hx
    simp only [step] at hx ⊢
    cases ha : step G F r0 a st with
    | none => rw [ha] at hx; cases hx
    | some y =>
      rw [ha] at hx
      exact hE.up (fun i hi => by rw [hi]; exact hx) (ih ha)
  | loop a ih =>
    intro st x hx
    simp only [step] at hx ⊢
    cases ha : step G F r0 a st with
    | none => rw [ha] at hx; cases hx
    | some y =>
      obtain ⟨e, st1⟩ := y
      rw [ha] at hx
      cases e with
      | normal =>
        refine hE.up (fun i hi => ?_) (hE.and (ih ha) (h _ _ _ hx))
        rw [hi.1]
        exact hi.2
      | exit k => exact hE.up (fun i hi => by rw [hi]; exact hx) (ih ha)
      | ret => exact hE.up (fun i hi => by rw [hi]; exact hx) (ih ha)

theorem step_le {r1 r2 : Rec} (h : ∀ c st x, r1 c st = some x → r2 c st = some x) {c : MC} {st : St} {x : Ex × St} (hx : step G F r1 c st = some x) : step G F r2 c st = some x :=
  step_ev (ι := Unit) (ev := fun p => p ()) (r := fun _ => r2) ⟨trivial, fun a b => ⟨a, b⟩, fun f a => f _ a⟩ h hx

theorem aexec_succ : ∀ (n : Nat) (c : MC) (st : St) (x : Ex × St), aexec G F n c st = some x → aexec G F (n + 1) c st = some x := by
  intro n
  induction n with
  | zero => intro c st x h; cases h
  | succ n ih => intro c st x h; exact step_le ih h

theorem aexec_le {n m : Nat} (hnm : n ≤ m) {c : MC} {st : St} {x : Ex × St} (h : aexec G F n c st = some x) : aexec G F m c st = some x := by
  induction hnm with
  | refl => exact h
  | step _ ih => exact aexec_succ _ _ _ _ ih
end

section
variable (G : Nat → List AV) (F : Nat → Option MF)

open Classical in
/-- What some fuel gives. -/
noncomputable def E : Rec := fun c st => if h : ∃ x, ∃ n, aexec G F n c st = some x then some (Classical.choose h) else none

theorem E_iff {c : MC} {st : St} {x : Ex × St} : E G F c st = some x ↔ ∃ n, aexec G F n c st = some x := by
  unfold E
  constructor
  · intro h
    split at h
    · rename_i hx
      obtain rfl := Option.some.inj h
      exact Classical.choose_spec hx
    · cases h
  · rintro ⟨n, hn⟩
    have hx : ∃ x, ∃ n, aexec G F n c st = some x := ⟨x, n, hn⟩
    rw [dif_pos hx]
    obtain ⟨m, hm⟩ := Classical.choose_spec hx
    have h1 := aexec_le (Nat.le_max_left n m) hn
    have h2 := aexec_le (Nat.le_max_right n m) hm
    rw [h1] at h2
    exact h2.symm

theorem ends_nat : Ends (ι := Nat) fun p => ∃ n, ∀ m, n ≤ m → p m :=
  ⟨⟨0, fun _ _ => trivial⟩, fun ⟨a, ha⟩ ⟨b, hb⟩ => ⟨max a b, fun m hm => ⟨ha m (by omega), hb m (by omega)⟩⟩, fun f ⟨a, ha⟩ => ⟨a, fun m hm => f m (ha m hm)⟩⟩

theorem E_ends : ∀ c st x, E G F c st = some x → ∃ n, ∀ m, n ≤ m → aexec G F m c st = some x := by
  intro c st x h
  obtain ⟨n, hn⟩ := (E_iff G F).1 h
  exact ⟨n, fun m hm => aexec_le hm hn⟩

theorem E_eq (c : MC) (st : St) : E G F c st = step G F (E G F) c st := by
  apply Option.ext
  intro x
  constructor
  · intro h
    obtain ⟨n, hn⟩ := (E_iff G F).1 h
    have := aexec_succ n _ _ _ hn
    exact step_le (r1 := aexec G F n) (fun c st x h => (E_iff G F).2 ⟨n, h⟩) this
  · intro h
    obtain ⟨n, hn⟩ := step_ev ends_nat (r := aexec G F) (E_ends G F) h
    exact (E_iff G F).2 ⟨n + 1, hn n (Nat.le_refl n)⟩

/-- A call's answer without fuel is one with some fuel. -/
theorem pcall_fuel {f : Nat} {args : List AV} {x : Res × Bool} (h : pcall F (E G F) f args = some x) : ∃ n, pcall F (aexec G F n) f args = some x := by
  obtain ⟨n, hn⟩ := pcall_ev ends_nat (r := aexec G F) (E_ends G F) h
  exact ⟨n, hn n (Nat.le_refl n)⟩
end
end Go.Am
