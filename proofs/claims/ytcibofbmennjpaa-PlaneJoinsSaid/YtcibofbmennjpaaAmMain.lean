/- THE MACHINE IS SOUND. -/
import Derived.Test.YtcibofbmennjpaaAmSound3
set_option linter.unusedVariables false
namespace Go.Am
open Go.RowKit

section
variable {P : Program} {G : Nat → List AV} {F : Nat → Option MF}

/-- A region. -/
theorem region_sound {n : Nat} {nt : Nat} {w0 w : World} {base : Nat} {S0 S : Nat → Prop} {ρ : List (Nat × Nat)} {st : St} {tmps : Array Value} {ds : List Deferred}
    (hS : Sound P G F n) (hF : FOk P F) (hG : ∀ g, AV.closedL (G g) = true) (hnt : nt < 65535) {H : Hints} {id : Nat} {ops : Array Oper} {draw : Bool} {mc : MC} (hc : cCode P nt H (.region id ops draw) = some mc)
    {e : Ex} {st' : St} (h : step G F (aexec G F n) mc st = some (e, st')) (hR : Rel G nt w0 base S0 S ρ st tmps w) {Q : Exit → Act → World → Prop}
    (hK : ∀ (tmps' : Array Value) (w' : World) (S' : Nat → Prop) (ρ' : List (Nat × Nat)), Rel G nt w0 base S0 S' ρ' st' tmps' w' → Later w S ρ st.bx w' S' ρ' st'.bx → Q (toExit e) ⟨tmps', ds⟩ w') :
    (Code.region id ops draw).wp P Q ⟨tmps, ds⟩ w := by
  simp only [cCode] at hc
  split at hc
  · rename_i l hl
    obtain ⟨hlen, hb⟩ := cOps_bound hl
    have hlen' : l.length = ops.size := by rw [hlen]; simp
    have hb' : ∀ (j : Nat) (o : Oper), ops[j]? = some o → ∃ i, l[j]? = some i ∧ Bound P nt ops o i := fun j o ho => hb j o (by rw [Array.getElem?_toList]; exact ho)
    -- a plain order's boxes
    have plain : ∀ m, step G F (aexec G F n) (.ops m l) st = some (e, st') → ∃ st0 ρ0, Rel G nt w0 base S0 S ρ0 st0 tmps w ∧ Later w S ρ st.bx w S ρ0 st0.bx ∧ execs G F (aexec G F n) l st0 = some st' ∧ e = .normal := by
      intro m h
      simp only [step] at h
      split at h
      · obtain ⟨st1, hx1, he⟩ := Option.map_eq_some_iff.1 h
        obtain ⟨rfl, rfl⟩ := Prod.mk.inj he
        exact ⟨st, ρ, hR, Later.refl, hx1, rfl⟩
      · obtain ⟨R0, L0⟩ := hR.reserve m
        obtain ⟨st1, hx1, he⟩ := Option.map_eq_some_iff.1 h
        obtain ⟨rfl, rfl⟩ := Prod.mk.inj he
        exact ⟨_, _, R0, L0, hx1, rfl⟩
    have drawn : ∀ prs, drawOk ops l prs = true → P.follows .mixedOrders = true → ∀ st0 ρ0 fps, Rel G nt w0 base S0 S ρ0 st0 tmps w → Later w S ρ st.bx w S ρ0 st0.bx → execsF G F (aexec G F n) l st0 = some (st', fps) →
        (∀ i j, (i, j) ∈ prs → (fps.getD i ⟨none, none⟩).apart (fps.getD j ⟨none, none⟩) = true) → e = .normal → (Code.region id ops true).wp P Q ⟨tmps, ds⟩ w := by
      intro prs hd hm st0 ρ0 fps R0 L0 hx hT he
      subst he
      obtain ⟨R1, L1⟩ := R0.world (w' := { w with drawn := w.drawn + 1 }) rfl rfl rfl rfl
      refine wp_region_any hm ?_
      have hrest : rest ops.size (Array.replicate ops.size false) = List.range ops.size := by
        unfold rest
        apply List.filter_eq_self.2
        intro k hk
        have : k < ops.size := by simpa using hk
        simp [Array.getD_eq_getD_getElem?, this]
      have hrun := execsF_run l l [] st0 st' fps (fun k => fps.getD k ⟨none, none⟩) rfl hx (fun k _ => by simp)
      have hrun' : Run G F (aexec G F n) l (fun k => fps.getD k ⟨none, none⟩) (List.range ops.size) st0 st' := by
        rw [← hlen', List.range_eq_range']
        exact hrun
      refine any_sound hS hF hG hnt hlen' hb' hd hT ops.size (by simp) (by rw [hrest]; simp) (fun k hk hkl => ?_) R1 (by rw [hrest]; exact hrun') fun tmps' w' S' ρ' R' L => hK _ _ _ _ R' ((L0.trans L1).trans L)
      simp [Array.getD_eq_getD_getElem?, hk] at hkl
    split at hc
    · rename_i hdraw
      subst hdraw
      split at hc
      · rename_i hm
        split at hc
        · split at hc
          · rename_i hd
            obtain rfl := Option.some.inj hc
            obtain ⟨st0, ρ0, R0, L0, hx, he⟩ := plain _ h
            obtain ⟨fps, hf⟩ := execs_F l st0 st' hx
            exact drawn [] hd hm st0 ρ0 fps R0 L0 hf (fun i j hij => by cases hij) he
          · cases hc
        · split at hc
          · rename_i p ps _ hd
            obtain rfl := Option.some.inj hc
            simp only [step] at h
            split at h
            · rename_i st1 fps hf
              split at h
              · rename_i hall
                obtain ⟨rfl, rfl⟩ := Prod.mk.inj (Option.some.inj h)
                obtain ⟨R0, L0⟩ := hR.reserve (reserved (H id) ops.size)
                exact drawn _ hd hm _ _ fps R0 L0 hf (fun i j hij => List.all_eq_true.1 hall (i, j) hij) rfl
              · cases h
            · cases h
          · cases hc
      · cases hc
    · rename_i hdraw
      have hdraw : draw = false := by simpa using hdraw
      subst hdraw
      obtain rfl := Option.some.inj hc
      obtain ⟨st0, ρ0, R0, L0, hx, rfl⟩ := plain _ h
      exact wp_region (ops_sound hS hF hG hnt hlen' hb' _ R0 (by rw [← hlen', execs_range]; exact hx) fun tmps' w' S' ρ' R' L => hK _ _ _ _ R' (L0.trans L))
  · cases hc

/-- Code, one round of fuel more. -/
theorem code_sound {n : Nat} (hS : Sound P G F n) (hF : FOk P F) (hG : ∀ g, AV.closedL (G g) = true) {nt : Nat} {H : Hints} (hnt : nt < 65535) :
    ∀ (c : Code) {mc : MC} {st : St} {e : Ex} {st' : St}, cCode P nt H c = some mc → step G F (aexec G F n) mc st = some (e, st') →
    ∀ {w0 : World} {base : Nat} {S0 S : Nat → Prop} {ρ : List (Nat × Nat)} {tmps : Array Value} {ds : List Deferred} {w : World}, Rel G nt w0 base S0 S ρ st tmps w →
    ∀ {Q : Exit → Act → World → Prop}, (∀ (tmps' : Array Value) (w' : World) (S' : Nat → Prop) (ρ' : List (Nat × Nat)), Rel G nt w0 base S0 S' ρ' st' tmps' w' → Later w S ρ st.bx w' S' ρ' st'.bx → Q (toExit e) ⟨tmps', ds⟩ w') →
    c.wp P Q ⟨tmps, ds⟩ w := by
  intro c
  induction c with
  | skip =>
    intro mc st e st' hc h w0 base S0 S ρ tmps ds w hR Q hK
    obtain rfl := Option.some.inj hc
    obtain ⟨rfl, rfl⟩ := Prod.mk.inj (Option.some.inj h)
    exact wp_skip (hK _ _ _ _ hR Later.refl)
  | region id ops draw =>
    intro mc st e st' hc h w0 base S0 S ρ tmps ds w hR Q hK
    exact region_sound hS hF hG hnt hc h hR hK
  | seq a b iha ihb =>
    intro mc st e st' hc h w0 base S0 S ρ tmps ds w hR Q hK
    simp only [cCode] at hc
    split at hc
    · rename_i x y hx hy
      obtain rfl := Option.some.inj hc
      simp only [step] at h
      split at h
      · rename_i st1 h1
        exact wp_seq (iha hx h1 hR fun tmps' w' S' ρ' R' L => ihb hy h R' fun tmps2 w2 S2 ρ2 R2 L2 => hK _ _ _ _ R2 (L.trans L2))
      · rename_i hn
        refine wp_seq (iha hx h hR fun tmps' w' S' ρ' R' L => ?_)
        have := hK _ _ _ _ R' L
        cases e with
        | normal => exact absurd h (hn _)
        | exit id => exact this
        | ret => exact this
    · cases hc
  | cond c a b iha ihb =>
    intro mc st e st' hc h w0 base S0 S ρ tmps ds w hR Q hK
    simp only [cCode] at hc
    split at hc
    · rename_i x y hx hy
      obtain rfl := Option.some.inj hc
      simp only [step] at h
      split at h
      · rename_i t ht
        have hv := ev_RV (ds := ds) hR c
        rw [ht] at hv
        refine wp_cond hv.bool_inv ?_
        cases t with
        | true => exact iha hx h hR hK
        | false => exact ihb hy h hR hK
      · cases h
    · cases hc
  | block id a ih =>
    intro mc st e st' hc h w0 base S0 S ρ tmps ds w hR Q hK
    simp only [cCode] at hc
    obtain ⟨x, hx, rfl⟩ := Option.map_eq_some_iff.1 hc
    simp only [step] at h
    refine wp_block ?_
    split at h
    · rename_i i st1 h1
      refine ih hx h1 hR fun tmps' w' S' ρ' R' L => ?_
      split at h
      · rename_i hi
        obtain ⟨rfl, rfl⟩ := Prod.mk.inj (Option.some.inj h)
        have := hK _ _ _ _ R' L
        simp only [toExit, Exit.inBlock, hi, if_true] at this ⊢
        exact this
      · rename_i hi
        obtain ⟨rfl, rfl⟩ := Prod.mk.inj (Option.some.inj h)
        have := hK _ _ _ _ R' L
        simp only [toExit, Exit.inBlock, hi, if_false] at this ⊢
        exact this
    · rename_i hn
      refine ih hx h hR fun tmps' w' S' ρ' R' L => ?_
      have := hK _ _ _ _ R' L
      cases e with
      | normal => exact this
      | exit id => exact absurd h (hn _ _)
      | ret => exact this
  | loop a ih =>
    intro mc st e st' hc h w0 base S0 S ρ tmps ds w hR Q hK
    simp only [cCode] at hc
    obtain ⟨x, hx, rfl⟩ := Option.map_eq_some_iff.1 hc
    simp only [step] at h
    refine wp_loop_rounds (n + 1) ?_
    rw [rounds_succ]
    split at h
    · rename_i st1 h1
      exact ih hx h1 hR fun tmps' w' S' ρ' R' L => hS.loop hx hnt h R' fun tmps2 w2 S2 ρ2 R2 L2 => hK _ _ _ _ R2 (L.trans L2)
    · rename_i hn
      refine ih hx h hR fun tmps' w' S' ρ' R' L => ?_
      have := hK _ _ _ _ R' L
      cases e with
      | normal => exact absurd h (hn _)
      | exit id => exact this
      | ret => exact this
  | exit id =>
    intro mc st e st' hc h w0 base S0 S ρ tmps ds w hR Q hK
    obtain rfl := Option.some.inj hc
    obtain ⟨rfl, rfl⟩ := Prod.mk.inj (Option.some.inj h)
    exact wp_exit (hK _ _ _ _ hR Later.refl)
  | ret =>
    intro mc st e st' hc h w0 base S0 S ρ tmps ds w hR Q hK
    obtain rfl := Option.some.inj hc
    obtain ⟨rfl, rfl⟩ := Prod.mk.inj (Option.some.inj h)
    exact wp_ret (hK _ _ _ _ hR Later.refl)
  | _ =>
    intro mc st e st' hc
    cases hc

theorem sound (hF : FOk P F) (hG : ∀ g, AV.closedL (G g) = true) : ∀ n, Sound P G F n := by
  intro n
  induction n with
  | zero => exact ⟨(by intro nt H c mc st e st' hc hnt h; cases h), (by intro nt H c mc st e st' hc hnt h; cases h)⟩
  | succ n ih =>
    refine ⟨fun {nt H c mc st e st'} hc hnt h {w0 base S0 S ρ tmps ds w} hR {Q} hK => code_sound ih hF hG hnt c hc h hR hK, fun {nt H c mc st e st'} hc hnt h {w0 base S0 S ρ tmps ds w} hR {Q} hK => ?_⟩
    rw [rounds_succ]
    have h' : step G F (aexec G F n) (.loop mc) st = some (e, st') := h
    simp only [step] at h'
    split at h'
    · rename_i st1 h1
      exact code_sound ih hF hG hnt c hc h1 hR fun tmps' w' S' ρ' R' L => ih.loop hc hnt h' R' fun tmps2 w2 S2 ρ2 R2 L2 => hK _ _ _ _ R2 (L.trans L2)
    · rename_i hn
      refine code_sound ih hF hG hnt c hc h' hR fun tmps' w' S' ρ' R' L => ?_
      have := hK _ _ _ _ R' L
      cases e with
      | normal => exact absurd h' (hn _)
      | exit id => exact this
      | ret => exact this
end
end Go.Am
