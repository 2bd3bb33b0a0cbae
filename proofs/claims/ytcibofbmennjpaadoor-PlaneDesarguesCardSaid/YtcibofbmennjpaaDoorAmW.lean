/- THE MACHINE IS SOUND. -/
import Derived.Test.YtcibofbmennjpaaDoorAmSound3
set_option linter.unusedVariables false

namespace Go.Am

open Go.RowKit

section
variable {P : Program} {G : Nat → List AV} {F : Nat → Option MF}

/-- A region. -/
theorem region_sound {n : Nat} {nt : Nat} {w0 w : World} {base : Nat} {S0 S : Nat → Prop} {ρ : List (Nat × Nat)} {st : St} {tmps : Array Value} {ds : List Deferred}
    (hS : Sound P G F n) (hF : FOk P F) (hG : ∀ g, AV.closedL (G g) = true) (hnt : nt < 65535) {H : Hints} {id : Nat} {ops : Array Oper} {draw : Bool} {mc : MC} (hc : cCode P nt H (.region id ops draw) = some mc)
    {e : Ex} {st' : St} (h : step G F (aexec G F n) mc st = some (e, st')) (hR : Rel G nt w0 base S0 S ρ st tmps w) {Q : Exit → Act → World → Prop}
    (hK : ∀ (tmps' : Array Value) (w' : World) (S' : Nat → Prop) (ρ' : List (Nat × Nat)), Rel G nt w0 base S0 S' ρ' st' tmps' w' → Later w S ρ st.bx w' S' ρ' st'.bx → Q (toExit e) ⟨tmps', ds⟩ w') :
    (Code.region id ops draw).wp P Q ⟨tmps, ds⟩ w := by
  simp only [cCode] at hc
  split at hc
  · rename_i l hl
    obtain ⟨hlen, hb⟩ := cOps_bound hl
    have hlen' : l.length = ops.size := by rw [hlen]; simp
    have hb' : ∀ (j : Nat) (o : Oper), ops[j]? = some o → ∃ i, l[j]? = some i ∧ Bound P nt ops o i := fun j o ho => hb j o (by rw [Array.getElem?_toList]; exact ho)
    -- a plain order's boxes
    have plain : ∀ m, step G F (aexec G F n) (.ops m l) st = some (e, st') → ∃ st0 ρ0, Rel G nt w0 base S0 S ρ0 st0 tmps w ∧ Later w S ρ st.bx w S ρ0 st0.bx ∧ execs G F (aexec G F n) l st0 = some st' ∧ e = .normal := by
      intro m h
      simp only [step] at h
      split at h
      · obtain ⟨st1, hx1, he⟩ := Option.map_eq_some_iff.1 h
        obtain ⟨rfl, rfl⟩ := Prod.mk.inj he
        exact ⟨st, ρ, hR, Later.refl, hx1, rfl⟩
      · obtain ⟨R0, L0⟩ := hR.reserve m
        obtain ⟨st1, hx1, he⟩ := Option.map_eq_some_iff.1 h
        obtain ⟨rfl, rfl⟩ := Prod.mk.inj he
        exact ⟨_, _, R0, L0, hx1, rfl⟩
    have drawn : ∀ prs, drawOk ops l prs = true → P.follows .mixedOrders = true → ∀ st0 ρ0 fps, Rel G nt w0 base S0 S ρ0 st0 tmps w → Later w S ρ st.bx w S ρ0 st0.bx → execsF G F (aexec G F n) l st0 = some (st', fps) →
        (∀ i j, (i, j) ∈ prs → (fps.getD i ⟨none, none⟩).apart (fps.getD j ⟨none, none⟩) = true) → e = .normal → (Code.region id ops true).wp P Q ⟨tmps, ds⟩ w := by
      intro prs hd hm st0 ρ0 fps R0 L0 hx hT he
      subst he
      obtain ⟨R1, L1⟩ := R0.world (w' := { w with drawn := w.drawn + 1 }) rfl rfl rfl rfl
      refine wp_region_any hm ?_
      have hrest : rest ops.size (Array.replicate ops.size false) = List.range ops.size := by
        unfold rest
        apply List.filter_eq_self.2
        intro k hk
        have : k < ops.size := by simpa using hk
        simp [Array.getD_eq_getD_getElem?, this]
      have hrun := execsF_run l l [] st0 st' fps (fun k => fps.getD k ⟨none, none⟩) rfl hx (fun k _ => by simp)
      have hrun' : Run G F (aexec G F n) l (fun k => fps.getD k ⟨none, none⟩) (List.range ops.size) st0 st' := by
        rw [← hlen', List.range_eq_range']
        exact hrun
      refine any_sound hS hF hG hnt hlen' hb' hd hT ops.size (by simp) (by rw [hrest]; simp) (fun k hk hkl => ?_) R1 (by rw [hrest]; exact hrun') fun tmps' w' S' ρ' R' L => hK _ _ _ _ R' ((L0.trans L1).trans L)
      simp [Array.getD_eq_getD_getElem?, hk] at hkl
    split at hc
    · rename_i hdraw
      subst hdraw
      split at hc
      · rename_i hm
        split at hc
        · split at hc
          · rename_i hd
            obtain rfl := Option.some.inj hc
            obtain ⟨st0, ρ0, R0, L0, hx, he⟩ := plain _ h
            obtain ⟨fps, hf⟩ := execs_F l st0 st' hx
            exact drawn [] hd hm st0 ρ0 fps R0 L0 hf (fun i j hij => by cases hij) he
          · cases hc
        · split at hc
          · rename_i p ps _ hd
            obtain rfl := Option.some.inj hc
            simp only [step] at h
            split at h
            · rename_i st1 fps hf
              split at h
              · rename_i hall
                obtain ⟨rfl, rfl⟩ := Prod.mk.inj (Option.some.inj h)
                obtain ⟨R0, L0⟩ := hR.reserve (reserved (H id) ops.size)
                exact drawn _ hd hm _ _ fps R0 L0 hf (fun i j hij => List.all_eq_true.1 hall (i, j) hij) rfl
              · cases h
            · cases h
          · cases hc
      · cases hc
    · rename_i hdraw
      have hdraw : draw = false := by simpa using hdraw
      subst hdraw
      obtain rfl := Option.some.inj hc
      obtain ⟨st0, ρ0, R0, L0, hx, rfl⟩ := plain _ h
      exact wp_region (ops_sound hS hF hG hnt hlen' hb' _ R0 (by rw [← hlen', execs_range]; exact hx) fun tmps' w' S' ρ' R' L => hK _ _ _ _ R' (L0.trans L))
  · cases hc

/-- Code, one round of fuel more. -/
theorem code_sound {n : Nat} (hS : Sound P G F n) (hF : FOk P F) (hG : ∀ g, AV.closedL (G g) = true) {nt : Nat} {H : Hints} (hnt : nt < 65535) :
    ∀ (c : Code) {mc : MC} {st : St} {e : Ex} {st' : St}, cCode P nt H c = some mc → step G F (aexec G F n) mc st = some (e, st') →
    ∀ {w0 : World} {base : Nat} {S0 S : Nat → Prop} {ρ : List (Nat × Nat)} {tmps : Array Value} {ds : List Deferred} {w : World}, Rel G nt w0 base S0 S ρ st tmps w →
    ∀ {Q : Exit → Act → World → Prop}, (∀ (tmps' : Array Value) (w' : World) (S' : Nat → Prop) (ρ' : List (Nat × Nat)), Rel G nt w0 base S0 S' ρ' st' tmps' w' → Later w S ρ st.bx w' S' ρ' st'.bx → Q (toExit e) ⟨tmps', ds⟩ w') →
    c.wp P Q ⟨tmps, ds⟩ w := by
  intro c
  induction c with
  | skip =>
    intro mc st e st' hc h w0 base S0 S ρ tmps ds w hR Q hK
    obtain rfl := Option.some.inj hc
    obtain ⟨rfl, rfl⟩ := Prod.mk.inj (Option.some.inj h)
    exact wp_skip (hK _ _ _ _ hR Later.refl)
  | region id ops draw =>
    intro mc st e st' hc h w0 base S0 S ρ tmps ds w hR Q hK
    exact region_sound hS hF hG hnt hc h hR hK
  | seq a b iha ihb =>
    intro mc st e st' hc h w0 base S0 S ρ tmps ds w hR Q hK
    simp only [cCode] at hc
    split at hc
    · rename_i x y hx hy
      obtain rfl := Option.some.inj hc
      simp only [step] at h
      split at h
      · rename_i st1 h1
        exact wp_seq (iha hx h1 hR fun tmps' w' S' ρ' R' L => ihb hy h R' fun tmps2 w2 S2 ρ2 R2 L2 => hK _ _ _ _ R2 (L.trans L2))
      · rename_i hn
        refine wp_seq (iha hx h hR fun tmps' w' S' ρ' R' L => ?_)
        have := hK _ _ _ _ R' L
        cases e with
        | normal => exact absurd h (hn _)
        | exit id => exact this
        | ret => exact this
    · cases hc
  | cond c a b iha ihb =>
    intro mc st e st' hc h w0 base S0 S ρ tmps ds w hR Q hK
    simp only [cCode] at hc
    split at hc
    · rename_i x y hx hy
      obtain rfl := Option.some.inj hc
      simp only [step] at h
      split at h
      · rename_i t ht
        have hv := ev_RV (ds := ds) hR c
        rw [ht] at hv
        refine wp_cond hv.bool_inv ?_
        cases t with
        | true => exact iha hx h hR hK
        | false => exact ihb hy h hR hK
      · cases h
    · cases hc
  | block id a ih =>
    intro mc st e st' hc h w0 base S0 S ρ tmps ds w hR Q hK
    simp only [cCode] at hc
    obtain ⟨x, hx, rfl⟩ := Option.map_eq_some_iff.1 hc
    simp only [step] at h
    refine wp_block ?_
    split at h
    · rename_i i st1 h1
      refine ih hx h1 hR fun tmps' w' S' ρ' R' L => ?_
      split at h
      · rename_i hi
        obtain ⟨rfl, rfl⟩ := Prod.mk.inj (Option.some.inj h)
        have := hK _ _ _ _ R' L
        simp only [toExit, Exit.inBlock, hi, if_true] at this ⊢
        exact this
      · rename_i hi
        obtain ⟨rfl, rfl⟩ := Prod.mk.inj (Option.some.inj h)
        have := hK _ _ _ _ R' L
        simp only [toExit, Exit.inBlock, hi, if_false] at this ⊢
        exact this
    · rename_i hn
      refine ih hx h hR fun tmps' w' S' ρ' R' L => ?_
      have := hK _ _ _ _ R' L
      cases e with
      | normal => exact this
      | exit id => exact absurd h (hn _ _)
      | ret => exact this
  | loop a ih =>
    intro mc st e st' hc h w0 base S0 S ρ tmps ds w hR Q hK
    simp only [cCode] at hc
    obtain ⟨x, hx, rfl⟩ := Option.map_eq_some_iff.1 hc
    simp only [step] at h
    refine wp_loop_rounds (n + 1) ?_
    rw [rounds_succ]
    split at h
    · rename_i st1 h1
      exact ih hx h1 hR fun tmps' w' S' ρ' R' L => hS.loop hx hnt h R' fun tmps2 w2 S2 ρ2 R2 L2 => hK _ _ _ _ R2 (L.trans L2)
    · rename_i hn
      refine ih hx h hR fun tmps' w' S' ρ' R' L => ?_
      have := hK _ _ _ _ R' L
      cases e with
      | normal => exact absurd h (hn _)
      | exit id => exact this
      | ret => exact this
  | exit id =>
    intro mc st e st' hc h w0 base S0 S ρ tmps ds w hR Q hK
    obtain rfl := Option.some.inj hc
    obtain ⟨rfl, rfl⟩ := Prod.mk.inj (Option.some.inj h)
    exact wp_exit (hK _ _ _ _ hR Later.refl)
  | ret =>
    intro mc st e st' hc h w0 base S0 S ρ tmps ds w hR Q hK
    obtain rfl := Option.some.inj hc
    obtain ⟨rfl, rfl⟩ := Prod.mk.inj (Option.some.inj h)
    exact wp_ret (hK _ _ _ _ hR Later.refl)
  | _ =>
    intro mc st e st' hc
    cases hc

theorem sound (hF : FOk P F) (hG : ∀ g, AV.closedL (G g) = true) : ∀ n, Sound P G F n := by
  intro n
  induction n with
  | zero => exact ⟨(by intro nt H c mc st e st' hc hnt h; cases h), (by intro nt H c mc st e st' hc hnt h; cases h)⟩
  | succ n ih =>
    refine ⟨fun {nt H c mc st e st'} hc hnt h {w0 base S0 S ρ tmps ds w} hR {Q} hK => code_sound ih hF hG hnt c hc h hR hK, fun {nt H c mc st e st'} hc hnt h {w0 base S0 S ρ tmps ds w} hR {Q} hK => ?_⟩
    rw [rounds_succ]
    have h' : step G F (aexec G F n) (.loop mc) st = some (e, st') := h
    simp only [step] at h'
    split at h'
    · rename_i st1 h1
      exact code_sound ih hF hG hnt c hc h1 hR fun tmps' w' S' ρ' R' L => ih.loop hc hnt h' R' fun tmps2 w2 S2 ρ2 R2 L2 => hK _ _ _ _ R2 (L.trans L2)
    · rename_i hn
      refine code_sound ih hF hG hnt c hc h' hR fun tmps' w' S' ρ' R' L => ?_
      have := hK _ _ _ _ R' L
      cases e with
      | normal => exact absurd h' (hn _)
      | exit id => exact this
      | ret => exact this
end

end Go.Am

/- From the machine's answer to the program's. -/
set_option linter.unusedVariables false

namespace Go.Am

open Go.RowKit

/-- A CALL FROM OUTSIDE: closed arguments, a value that holds no memory. -/
theorem answers {P : Program} {G : Nat → List AV} {F : Nat → Option MF} (hF : FOk P F) (hG : ∀ g, AV.closedL (G g) = true) {n : Nat} {f : Nat} {as : List AV} {vs : List Value} {w : World} {S : Nat → Prop}
    (hS : ∀ g, S g → g < w.heap.size) (hglob : ∀ g, RV w S [] [] (.rptr (G g)) (.pointer (some ⟨g, 0, none⟩))) (hargs : RVL w S [] [] as vs) (hcl : AV.closedL as = true) (hlen : as.length < 65535)
    (hred : as.mapM (reify reifyDepth []) = some as) {b : Bool} {al : Bool} (h : pcall F (aexec G F n) f as = some (.val (.bool b), al)) :
    Calls P f vs.toArray w fun e w' => e = .returned (.bool b) ∧ Below w.heap.size w w' := by
  have hR : Rel G 0 w w.heap.size S S [] ⟨.e, [], 0⟩ (#[] : Array Value) w :=
    ⟨Below.refl _ _, Nat.le_refl _, Nat.zero_le _, rfl, hS, fun _ h => .inl h, fun id b hb => by simp at hb, fun i j bi bj x y hi => by simp at hi,
      fun t => (by
        have e1 : Tm.get .e t = .undef := Tm.getF_e t
        have e2 : (#[] : Array Value).getD t undef = undef := by simp
        show RV w S [] [] (Tm.get .e t) ((#[] : Array Value).getD t undef)
        rw [e1, e2]
        exact .undef), hglob⟩
  refine ((pure_sound (sound hF hG n) hF hG hR hargs hlen hred h (by simp [hcl])).1 (.bool b) rfl).mono fun e w' ⟨u, S', he, R', L, hv⟩ => ?_
  exact ⟨by rw [he, hv.bool_inv], R'.below⟩

end Go.Am

/- The machine without fuel: 'E' gives what some fuel gives. -/
set_option linter.unusedVariables false
namespace Go.Am

abbrev Rec := MC → St → Option (Ex × St)

/-- 'In the end': closed under 'and', upwards. -/
structure Ends {ι : Type} (ev : (ι → Prop) → Prop) : Prop where
  all : ev fun _ => True
  and : ∀ {p q : ι → Prop}, ev p → ev q → ev fun i => p i ∧ q i
  up : ∀ {p q : ι → Prop}, (∀ i, p i → q i) → ev p → ev q

section
variable {G : Nat → List AV} {F : Nat → Option MF} {ι : Type} {ev : (ι → Prop) → Prop} {r0 : Rec} {r : ι → Rec}

theorem runBody_ev (hE : Ends ev) (h : ∀ c st x, r0 c st = some x → ev fun i => r i c st = some x) {fn : MF} {st : St} {x : St × List AV} (hx : runBody r0 fn st = some x) : ev fun i => runBody (r i) fn st = some x := by
  unfold runBody at hx
  cases hb : r0 fn.body st with
  | none => rw [hb] at hx; cases hx
  | some y =>
    refine hE.up (fun i hi => ?_) (h _ _ _ hb)
    unfold runBody
    rw [hi, ← hb]
    exact hx

theorem pcall_ev (hE : Ends ev) (h : ∀ c st x, r0 c st = some x → ev fun i => r i c st = some x) {f : Nat} {args : List AV} {x : Res × Bool} (hx : pcall F r0 f args = some x) : ev fun i => pcall F (r i) f args = some x := by
  unfold pcall at hx
  cases hf : F f with
  | none => rw [hf] at hx; cases hx
  | some fn =>
    rw [hf] at hx
    simp only at hx
    cases hb : runBody r0 fn ⟨initTm 0 args .e, [], 0⟩ with
    | none => rw [hb] at hx; cases hx
    | some y =>
      refine hE.up (fun i hi => ?_) (runBody_ev hE h hb)
      unfold pcall
      rw [hf]
      simp only
      rw [hi, ← hb]
      exact hx

theorem doCall_ev (hE : Ends ev) (h : ∀ c st x, r0 c st = some x → ev fun i => r i c st = some x) {m : Mode} {f : Nat} {args : List AV} {st : St} {x : AV × St} (hx : doCall F r0 m f args st = some x) : ev fun i => doCall F (r i) m f args st = some x := by
  unfold doCall at hx
  split at hx
  · cases hx
  · rename_i hlen
    cases m with
    | pure =>
      simp only at hx
      cases hm : args.mapM (reify reifyDepth st.bx) with
      | none => rw [hm] at hx; cases hx
      | some xs =>
        rw [hm] at hx
        simp only at hx
        cases hp : pcall F r0 f xs with
        | none => rw [hp] at hx; cases hx
        | some y =>
          refine hE.up (fun i hi => ?_) (pcall_ev hE h hp)
          unfold doCall
          rw [if_neg hlen]
          simp only [hm]
          rw [hi, ← hp]
          exact hx
    | pureV =>
      simp only at hx
      cases hm : args.mapM (reify reifyDepth st.bx) with
      | none => rw [hm] at hx; cases hx
      | some xs =>
        rw [hm] at hx
        simp only at hx
        cases hp : pcall F r0 f xs with
        | none => rw [hp] at hx; cases hx
        | some y =>
          refine hE.up (fun i hi => ?_) (pcall_ev hE h hp)
          unfold doCall
          rw [if_neg hlen]
          simp only [hm]
          rw [hi, ← hp]
          exact hx
    | quiet =>
      simp only at hx
      cases hf : F f with
      | none => rw [hf] at hx; cases hx
      | some fn =>
        rw [hf] at hx
        simp only at hx
        cases hb : runBody r0 fn ⟨initTm 0 args .e, st.bx.map Box.freeze, 0⟩ with
        | none => rw [hb] at hx; cases hx
        | some y =>
          refine hE.up (fun i hi => ?_) (runBody_ev hE h hb)
          unfold doCall
          rw [if_neg hlen]
          simp only [hf]
          rw [hi, ← hb]
          exact hx
    | shared =>
      simp only at hx
      cases hf : F f with
      | none => rw [hf] at hx; cases hx
      | some fn =>
        rw [hf] at hx
        simp only at hx
        cases hb : runBody r0 fn ⟨initTm 0 args .e, st.bx, 0⟩ with
        | none => rw [hb] at hx; cases hx
        | some y =>
          refine hE.up (fun i hi => ?_) (runBody_ev hE h hb)
          unfold doCall
          rw [if_neg hlen]
          simp only [hf]
          rw [hi, ← hb]
          exact hx

theorem runI_ev (hE : Ends ev) (h : ∀ c st x, r0 c st = some x → ev fun i => r i c st = some x) {mi : MI} {st : St} {x : AV × St} (hx : runI G F r0 mi st = some x) : ev fun i => runI G F (r i) mi st = some x := by
  cases mi with
  | call f args m => exact doCall_ev hE h hx
  | callv y args m =>
    simp only [runI] at hx ⊢
    split at hx
    · exact doCall_ev hE h hx
    · cases hx
  | _ => exact hE.up (fun _ _ => hx) hE.all

theorem exec1_ev (hE : Ends ev) (h : ∀ c st x, r0 c st = some x → ev fun i => r i c st = some x) {j : I} {st : St} {x : St} (hx : exec1 G F r0 j st = some x) : ev fun i => exec1 G F (r i) j st = some x := by
  have hrun : ((runI G F r0 j.i st).map fun p => p.2.put j.d p.1) = some x → ev fun i => ((runI G F (r i) j.i st).map fun p => p.2.put j.d p.1) = some x := by
    intro hx
    obtain ⟨y, hy, he⟩ := Option.map_eq_some_iff.1 hx
    exact hE.up (fun i hi => by rw [hi, ← he]; rfl) (runI_ev hE h hy)
  unfold exec1 at hx ⊢
  split at hx
  · exact hrun hx
  · rename_i t want hg
    split at hx
    · rename_i b hb
      revert hx
      cases (b == want) with
      | true => intro hx; exact hrun hx
      | false => intro hx; exact hE.up (fun _ _ => hx) hE.all
    · exact hE.up (fun _ _ => hx) hE.all
    · cases hx

theorem execs_ev (hE : Ends ev) (h : ∀ c st x, r0 c st = some x → ev fun i => r i c st = some x) : ∀ {l : List I} {st : St} {x : St}, execs G F r0 l st = some x → ev fun i => execs G F (r i) l st = some x := by
  intro l
  induction l with
  | nil => intro st x hx; exact hE.up (fun _ _ => hx) hE.all
  | cons j l ih =>
    intro st x hx
    simp only [execs] at hx
    split at hx
    · rename_i st1 h1
      refine hE.up (fun i hi => ?_) (hE.and (exec1_ev hE h h1) (ih hx))
      simp only [execs, hi.1]
      exact hi.2
    · cases hx

theorem execsF_ev (hE : Ends ev) (h : ∀ c st x, r0 c st = some x → ev fun i => r i c st = some x) : ∀ {l : List I} {st : St} {x : St × List Fp}, execsF G F r0 l st = some x → ev fun i => execsF G F (r i) l st = some x := by
  intro l
  induction l with
  | nil => intro st x hx; exact hE.up (fun _ _ => hx) hE.all
  | cons j l ih =>
    intro st x hx
    simp only [execsF] at hx
    split at hx
    · rename_i st1 h1
      obtain ⟨y, hy, he⟩ := Option.map_eq_some_iff.1 hx
      refine hE.up (fun i hi => ?_) (hE.and (exec1_ev hE h h1) (ih hy))
      simp only [execsF, hi.1, hi.2]
      exact congrArg some he
    · cases hx

theorem step_ev (hE : Ends ev) (h : ∀ c st x, r0 c st = some x → ev fun i => r i c st = some x) : ∀ {c : MC} {st : St} {x : Ex × St}, step G F r0 c st = some x → ev fun i => step G F (r i) c st = some x := by
  intro c
  induction c with
  | skip => intro st x hx; exact hE.up (fun _ _ => hx) hE.all
  | exit id => intro st x hx; exact hE.up (fun _ _ => hx) hE.all
  | ret => intro st x hx; exact hE.up (fun _ _ => hx) hE.all
  | prim g => intro st x hx; exact hE.up (fun _ _ => hx) hE.all
  | ops m l =>
    intro st x hx
    simp only [step] at hx ⊢
    split at hx
    · obtain ⟨y, hy, he⟩ := Option.map_eq_some_iff.1 hx
      exact hE.up (fun i hi => by rw [hi, ← he]; rfl) (execs_ev hE h hy)
    · obtain ⟨y, hy, he⟩ := Option.map_eq_some_iff.1 hx
      exact hE.up (fun i hi => by rw [hi, ← he]; rfl) (execs_ev hE h hy)
  | opsD m l prs =>
    intro st x hx
    simp only [step] at hx ⊢
    split at hx
    · rename_i st1 fps hf
      exact hE.up (fun i hi => by rw [hi]; exact hx) (execsF_ev hE h hf)
    · cases hx
  | seq a b iha ihb =>
    intro st x hx
    simp only [step] at hx ⊢
    cases ha : step G F r0 a st with
    | none => rw [ha] at hx; cases hx
    | some y =>
      obtain ⟨e, st1⟩ := y
      rw [ha] at hx
      cases e with
      | normal =>
        refine hE.up (fun i hi => ?_) (hE.and (iha ha) (ihb hx))
        rw [hi.1]
        exact hi.2
      | exit k => exact hE.up (fun i hi => by rw [hi]; exact hx) (iha ha)
      | ret => exact hE.up (fun i hi => by rw [hi]; exact hx) (iha ha)
  | cond c a b iha ihb =>
    intro st x hx
    simp only [step] at hx ⊢
    split at hx
    · rename_i t ht
      cases t with
      | true => exact iha hx
      | false => exact ihb hx
    · cases hx
  | block id a ih =>
    intro st x hx
    simp only [step] at hx ⊢
    cases ha : step G F r0 a st with
    | none => rw [ha] at hx; cases hx
    | some y =>
      rw [ha] at hx
      exact hE.up (fun i hi => by rw [hi]; exact hx) (ih ha)
  | loop a ih =>
    intro st x hx
    simp only [step] at hx ⊢
    cases ha : step G F r0 a st with
    | none => rw [ha] at hx; cases hx
    | some y =>
      obtain ⟨e, st1⟩ := y
      rw [ha] at hx
      cases e with
      | normal =>
        refine hE.up (fun i hi => ?_) (hE.and (ih ha) (h _ _ _ hx))
        rw [hi.1]
        exact hi.2
      | exit k => exact hE.up (fun i hi => by rw [hi]; exact hx) (ih ha)
      | ret => exact hE.up (fun i hi => by rw [hi]; exact hx) (ih ha)

theorem step_le {r1 r2 : Rec} (h : ∀ c st x, r1 c st = some x → r2 c st = some x) {c : MC} {st : St} {x : Ex × St} (hx : step G F r1 c st = some x) : step G F r2 c st = some x :=
  step_ev (ι := Unit) (ev := fun p => p ()) (r := fun _ => r2) ⟨trivial, fun a b => ⟨a, b⟩, fun f a => f _ a⟩ h hx

theorem aexec_succ : ∀ (n : Nat) (c : MC) (st : St) (x : Ex × St), aexec G F n c st = some x → aexec G F (n + 1) c st = some x := by
  intro n
  induction n with
  | zero => intro c st x h; cases h
  | succ n ih => intro c st x h; exact step_le ih h

theorem aexec_le {n m : Nat} (hnm : n ≤ m) {c : MC} {st : St} {x : Ex × St} (h : aexec G F n c st = some x) : aexec G F m c st = some x := by
  induction hnm with
  | refl => exact h
  | step _ ih => exact aexec_succ _ _ _ _ ih
end

section
variable (G : Nat → List AV) (F : Nat → Option MF)

open Classical in
/-- What some fuel gives. -/
noncomputable def E : Rec := fun c st => if h : ∃ x, ∃ n, aexec G F n c st = some x then some (Classical.choose h) else none

theorem E_iff {c : MC} {st : St} {x : Ex × St} : E G F c st = some x ↔ ∃ n, aexec G F n c st = some x := by
  unfold E
  constructor
  · intro h
    split at h
    · rename_i hx
      obtain rfl := Option.some.inj h
      exact Classical.choose_spec hx
    · cases h
  · rintro ⟨n, hn⟩
    have hx : ∃ x, ∃ n, aexec G F n c st = some x := ⟨x, n, hn⟩
    rw [dif_pos hx]
    obtain ⟨m, hm⟩ := Classical.choose_spec hx
    have h1 := aexec_le (Nat.le_max_left n m) hn
    have h2 := aexec_le (Nat.le_max_right n m) hm
    rw [h1] at h2
    exact h2.symm

theorem ends_nat : Ends (ι := Nat) fun p => ∃ n, ∀ m, n ≤ m → p m :=
  ⟨⟨0, fun _ _ => trivial⟩, fun ⟨a, ha⟩ ⟨b, hb⟩ => ⟨max a b, fun m hm => ⟨ha m (by omega), hb m (by omega)⟩⟩, fun f ⟨a, ha⟩ => ⟨a, fun m hm => f m (ha m hm)⟩⟩

theorem E_ends : ∀ c st x, E G F c st = some x → ∃ n, ∀ m, n ≤ m → aexec G F m c st = some x := by
  intro c st x h
  obtain ⟨n, hn⟩ := (E_iff G F).1 h
  exact ⟨n, fun m hm => aexec_le hm hn⟩

theorem E_eq (c : MC) (st : St) : E G F c st = step G F (E G F) c st := by
  apply Option.ext
  intro x
  constructor
  · intro h
    obtain ⟨n, hn⟩ := (E_iff G F).1 h
    have := aexec_succ n _ _ _ hn
    exact step_le (r1 := aexec G F n) (fun c st x h => (E_iff G F).2 ⟨n, h⟩) this
  · intro h
    obtain ⟨n, hn⟩ := step_ev ends_nat (r := aexec G F) (E_ends G F) h
    exact (E_iff G F).2 ⟨n + 1, hn n (Nat.le_refl n)⟩

/-- A call's answer without fuel is one with some fuel. -/
theorem pcall_fuel {f : Nat} {args : List AV} {x : Res × Bool} (h : pcall F (E G F) f args = some x) : ∃ n, pcall F (aexec G F n) f args = some x := by
  obtain ⟨n, hn⟩ := pcall_ev ends_nat (r := aexec G F) (E_ends G F) h
  exact ⟨n, hn n (Nat.le_refl n)⟩
end

end Go.Am

/- Rules to reason about the machine. -/
set_option linter.unusedVariables false
namespace Go.Am

section
variable {G : Nat → List AV} {F : Nat → Option MF}

/-- The code ends, so that Q. -/
def W (G : Nat → List AV) (F : Nat → Option MF) (c : MC) (st : St) (Q : Ex → St → Prop) : Prop := ∃ e st', E G F c st = some (e, st') ∧ Q e st'

variable {st st' : St} {Q Q' : Ex → St → Prop} {a b c : MC}

theorem W.mono (h : W G F a st Q) (hq : ∀ e s, Q e s → Q' e s) : W G F a st Q' := let ⟨e, s, h1, h2⟩ := h; ⟨e, s, h1, hq e s h2⟩

theorem W_skip (h : Q .normal st) : W G F .skip st Q := ⟨_, _, by rw [E_eq]; rfl, h⟩
theorem W_exit {id : Nat} (h : Q (.exit id) st) : W G F (.exit id) st Q := ⟨_, _, by rw [E_eq]; rfl, h⟩
theorem W_ret (h : Q .ret st) : W G F .ret st Q := ⟨_, _, by rw [E_eq]; rfl, h⟩

/-- What follows. -/
def thenQ (K : St → Prop) (Q : Ex → St → Prop) : Ex → St → Prop
  | .normal, s => K s
  | .exit id, s => Q (.exit id) s
  | .ret, s => Q .ret s
@[simp] theorem thenQ_normal (K : St → Prop) (Q : Ex → St → Prop) (s : St) : thenQ K Q .normal s = K s := rfl
@[simp] theorem thenQ_exit (K : St → Prop) (Q : Ex → St → Prop) (id : Nat) (s : St) : thenQ K Q (.exit id) s = Q (.exit id) s := rfl
@[simp] theorem thenQ_ret (K : St → Prop) (Q : Ex → St → Prop) (s : St) : thenQ K Q .ret s = Q .ret s := rfl

theorem W_seq (h : W G F a st (thenQ (fun s => W G F b s Q) Q)) : W G F (.seq a b) st Q := by
  obtain ⟨e, s, h1, h2⟩ := h
  cases e with
  | normal =>
    obtain ⟨e2, s2, h3, h4⟩ := h2
    exact ⟨e2, s2, by rw [E_eq]; simp only [step]; rw [← E_eq, h1]; simp only; rw [← E_eq]; exact h3, h4⟩
  | exit id => exact ⟨_, s, by rw [E_eq]; simp only [step]; rw [← E_eq, h1], h2⟩
  | ret => exact ⟨_, s, by rw [E_eq]; simp only [step]; rw [← E_eq, h1], h2⟩

theorem W_cond {r : R} {t : Bool} (hc : st.ev G r = .bool t) (ht : t = true → W G F a st Q) (hf : t = false → W G F b st Q) : W G F (.cond r a b) st Q := by
  cases t with
  | true =>
    obtain ⟨e, s, h1, h2⟩ := ht rfl
    exact ⟨e, s, by rw [E_eq]; simp only [step, hc, cond_true]; rw [← E_eq]; exact h1, h2⟩
  | false =>
    obtain ⟨e, s, h1, h2⟩ := hf rfl
    exact ⟨e, s, by rw [E_eq]; simp only [step, hc, cond_false]; rw [← E_eq]; exact h1, h2⟩

/-- Out of a block. -/
def outQ (id : Nat) (Q : Ex → St → Prop) : Ex → St → Prop
  | .exit i, s => if i = id then Q .normal s else Q (.exit i) s
  | .normal, s => Q .normal s
  | .ret, s => Q .ret s
@[simp] theorem outQ_normal (id : Nat) (Q : Ex → St → Prop) (s : St) : outQ id Q .normal s = Q .normal s := rfl
@[simp] theorem outQ_ret (id : Nat) (Q : Ex → St → Prop) (s : St) : outQ id Q .ret s = Q .ret s := rfl
@[simp] theorem outQ_exit (id i : Nat) (Q : Ex → St → Prop) (s : St) : outQ id Q (.exit i) s = if i = id then Q .normal s else Q (.exit i) s := rfl

theorem W_block {id : Nat} (h : W G F a st (outQ id Q)) : W G F (.block id a) st Q := by
  obtain ⟨e, s, h1, h2⟩ := h
  cases e with
  | normal => exact ⟨_, s, by rw [E_eq]; simp only [step]; rw [← E_eq, h1], h2⟩
  | ret => exact ⟨_, s, by rw [E_eq]; simp only [step]; rw [← E_eq, h1], h2⟩
  | exit i =>
    by_cases hi : i = id
    · simp only [outQ_exit, hi, if_true] at h2
      exact ⟨_, s, by rw [E_eq]; simp only [step]; rw [← E_eq, h1]; simp only [hi, if_true], h2⟩
    · simp only [outQ_exit, hi, if_false] at h2
      exact ⟨_, s, by rw [E_eq]; simp only [step]; rw [← E_eq, h1]; simp only [hi, if_false], h2⟩

theorem E_loop (a : MC) (st : St) : E G F (.loop a) st = match E G F a st with
    | some (.normal, s) => E G F (.loop a) s
    | r => r := by
  rw [E_eq]
  simp only [step]
  rw [← E_eq]
  rfl

/-- A loop: an invariant that counts down. -/
theorem W_loop (I : Nat → St → Prop) {k : Nat} (h0 : I k st) (hs : ∀ k s, I k s → W G F a s (thenQ (fun s' => ∃ k', k' < k ∧ I k' s') Q)) : W G F (.loop a) st Q := by
  induction k using Nat.strongRecOn generalizing st with
  | _ k ih =>
    obtain ⟨e, s, h1, h2⟩ := hs k st h0
    cases e with
    | normal =>
      obtain ⟨k', hk, hI⟩ := h2
      obtain ⟨e2, s2, h3, h4⟩ := ih k' hk hI
      exact ⟨e2, s2, by rw [E_loop, h1]; exact h3, h4⟩
    | exit id => exact ⟨_, s, by rw [E_loop, h1], h2⟩
    | ret => exact ⟨_, s, by rw [E_loop, h1], h2⟩

theorem W_ops {l : List I} (h : execs G F (E G F) l st = some st') (hq : Q .normal st') : W G F (.ops 0 l) st Q := ⟨_, _, by rw [E_eq]; simp only [step, h]; rfl, hq⟩
theorem W_opsm {m : Nat} {l : List I} (h : execs G F (E G F) l { st with bx := st.bx ++ List.replicate (m + 1) freshBox, rb := st.bx.length } = some st') (hq : Q .normal st') : W G F (.ops (m + 1) l) st Q := ⟨_, _, by rw [E_eq]; simp only [step, h]; rfl, hq⟩
theorem W_opsD {m : Nat} {l : List I} {prs : List (Nat × Nat)} {fps : List Fp} (h : execsF G F (E G F) l { st with bx := st.bx ++ List.replicate m freshBox, rb := st.bx.length } = some (st', fps))
    (ha : (prs.all fun p => (fps.getD p.1 ⟨none, none⟩).apart (fps.getD p.2 ⟨none, none⟩)) = true) (hq : Q .normal st') : W G F (.opsD m l prs) st Q := ⟨_, _, by rw [E_eq]; simp only [step, h, ha, if_true], hq⟩

/-- A function's answer, if its frame ends so that .. -/
theorem runBody_W {mf : MF} {st : St} {R : St → List AV → Prop} (h : W G F mf.body st fun e s => (e = .normal ∨ e = .ret) ∧ ∃ rs, mf.res.mapM (rvar s) = some rs ∧ R s rs) :
    ∃ s rs, runBody (E G F) mf st = some (s, rs) ∧ R s rs := by
  obtain ⟨e, s, h1, he, rs, h2, h3⟩ := h
  refine ⟨s, rs, ?_, h3⟩
  unfold runBody
  rw [h1]
  rcases he with rfl | rfl
  · simp only [h2]; rfl
  · simp only [h2]; rfl

/-- .. a value. -/
theorem pcall_val {f : Nat} {mf : MF} (hf : F f = some mf) {args : List AV} {v : AV} (hv : ∀ id n, v ≠ .own id n)
    (h : W G F mf.body ⟨initTm 0 args .e, [], 0⟩ fun e s => (e = .normal ∨ e = .ret) ∧ ∃ rs, mf.res.mapM (rvar s) = some rs ∧ tuple rs = v) {r : AV} (hr : ∀ bx, reify reifyDepth bx v = some r) {al : Bool} (hal : ∀ bx, alias reifyDepth bx v = al) :
    pcall F (E G F) f args = some (.val r, al) := by
  obtain ⟨s, rs, h1, h2⟩ := runBody_W h
  unfold pcall
  rw [hf]
  simp only [h1, h2]
  cases v with
  | own id n => exact absurd rfl (hv id n)
  | _ => simp only [hr, hal]; rfl

theorem Tm.gs {t : Tm} {k : Nat} {v : AV} {m : Nat} (hk : k < 65535) : (t.set k v).get m = if k = m then v else t.get m := Tm.get_set t k v m hk

/-- A list of ints, as a slice that one reads. -/
def IsInts (v : AV) (l : List Int) : Prop := (v = .nil ∧ l = []) ∨ v = .lst l.length (l.map (.int .i64))
end

end Go.Am

