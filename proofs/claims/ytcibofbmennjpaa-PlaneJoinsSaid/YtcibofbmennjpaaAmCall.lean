/- Slots, closed trees, and what the machine knows of a callee's frame. -/
import Derived.Test.YtcibofbmennjpaaAmSim
set_option linter.unusedVariables false
namespace Go.Am
open Go.RowKit

section
variable {P : Program} {G : Nat → List AV} {nt : Nat} {w0 w : World} {base : Nat} {S0 S : Nat → Prop} {ρ : List (Nat × Nat)} {st : St} {tmps : Array Value} {ds : List Deferred}

theorem Rel.put (hR : Rel G nt w0 base S0 S ρ st tmps w) {d : Nat} (hd : d < nt) (hnt : nt < 65535) {av : AV} {v : Value} (hv : RV w S ρ st.bx av v) :
    Rel G nt w0 base S0 S ρ (st.put (some d) av) (tmps.setIfInBounds d v) w := by
  refine ⟨hR.below, hR.baseLe, by simpa using hR.size, hR.rho, hR.slt, hR.sbase, hR.box, hR.inj, fun t => ?_, hR.glob⟩
  show RV w S ρ st.bx ((st.tm.set d av).get t) _
  rw [Tm.get_set _ _ _ _ (by omega)]
  have hs := hR.size
  by_cases h : d = t
  · subst h
    rw [if_pos rfl]
    have : (tmps.setIfInBounds d v).getD d undef = v := by
      rw [Array.getD_eq_getD_getElem?, Array.getElem?_setIfInBounds_self_of_lt (by omega)]; rfl
    rw [this]; exact hv
  · rw [if_neg h]
    have : (tmps.setIfInBounds d v).getD t undef = tmps.getD t undef := by
      rw [Array.getD_eq_getD_getElem?, Array.getD_eq_getD_getElem?, Array.getElem?_setIfInBounds_ne h]
    rw [this]; exact hR.tm t

theorem Rel.put' (hR : Rel G nt w0 base S0 S ρ st tmps w) (d : Option Nat) (hd : ∀ k, d = some k → k < nt) (hnt : nt < 65535) {av : AV} {v : Value} (hv : RV w S ρ st.bx av v) :
    Rel G nt w0 base S0 S ρ (st.put d av) ((Act.put ⟨tmps, ds⟩ d v).tmps) w := by
  cases d with
  | none => exact hR
  | some k => exact hR.put (hd k rfl) hnt hv

theorem St.put_bx (d : Option Nat) (av : AV) : (st.put d av).bx = st.bx := by cases d <;> rfl

theorem mapM_get {α β : Type} {f : α → Option β} : ∀ {l : List α} {r : List β}, l.mapM f = some r → r.length = l.length ∧ ∀ (j : Nat) (x : α), l[j]? = some x → ∃ y, r[j]? = some y ∧ f x = some y
  | [], r, h => by
    simp only [List.mapM_nil] at h
    obtain rfl := Option.some.inj h
    exact ⟨rfl, fun j x hj => by simp at hj⟩
  | a :: l, r, h => by
    simp only [List.mapM_cons] at h
    cases hf : f a with
    | none => simp [hf] at h
    | some b =>
      cases hl : l.mapM f with
      | none => simp [hf, hl] at h
      | some rest =>
        simp only [hf, hl, Option.bind_eq_bind, Option.bind_some, Option.pure_def, Option.some.injEq] at h
        subst h
        obtain ⟨h1, h2⟩ := mapM_get hl
        refine ⟨by simp [h1], fun j x hj => ?_⟩
        cases j with
        | zero => simp at hj; subst hj; exact ⟨b, rfl, hf⟩
        | succ j => exact h2 j x (by simpa using hj)

theorem mapM_get' {α β : Type} {f : α → Option β} {l : List α} {r : List β} (h : l.mapM f = some r) {j : Nat} {y : β} (hj : r[j]? = some y) : ∃ x, l[j]? = some x ∧ f x = some y := by
  obtain ⟨h1, h2⟩ := mapM_get h
  have hlt : j < l.length := by rw [← h1]; exact (List.getElem?_eq_some_iff.1 hj).1
  obtain ⟨y', hy', hf⟩ := h2 j _ (List.getElem?_eq_getElem hlt)
  rw [hj] at hy'
  obtain rfl := Option.some.inj hy'
  exact ⟨_, List.getElem?_eq_getElem hlt, hf⟩

theorem closedL_of {cs : List AV} (h : ∀ (j : Nat) (c : AV), cs[j]? = some c → c.closed = true) : AV.closedL cs = true := by
  induction cs with
  | nil => rfl
  | cons x xs ih =>
    simp only [AV.closedL, Bool.and_eq_true]
    exact ⟨h 0 x rfl, ih fun j c hj => h (j + 1) c (by simpa using hj)⟩

/-- THE CLOSED TREE OF A VALUE: in the model it is the same value, over persistent blocks. -/
theorem reify_RV {bx bxr : List Box} {T : Nat → Prop} (hsub : ∀ (id : Nat) (b : Box), bxr[id]? = some b → b.status ≠ .fresh → bx[id]? = some b) (hbox : ∀ (id : Nat) (b : Box), bxr[id]? = some b → b.status ≠ .fresh → ∃ g cap cur, BoxOk w S ρ bx base id b g cap cur ∧ T g) (f : Nat) :
    ∀ (av : AV) (v : Value) (r : AV), RV w S ρ bx av v → reify f bxr av = some r → (alias f bxr av = false ∨ ∀ g, S g → T g) → (∀ (ρ2 : List (Nat × Nat)) (bx2 : List Box), RV w T ρ2 bx2 r v) ∧ r.closed = true := by
  induction f with
  | zero => intro av v r _ h; simp [reify] at h
  | succ f ih =>
    intro av v r hv h hal
    have lists : ∀ (cs rs : List AV) (vs : List Value), RVL w S ρ bx cs vs → cs.mapM (reify f bxr) = some rs → (cs.any (alias f bxr) = false ∨ ∀ g, S g → T g) →
        (∀ (ρ2 : List (Nat × Nat)) (bx2 : List Box), RVL w T ρ2 bx2 rs vs) ∧ AV.closedL rs = true := by
      intro cs rs vs hrl hm ha
      obtain ⟨hl, _⟩ := mapM_get hm
      have each : ∀ (j : Nat) (c' : AV) (u : Value), rs[j]? = some c' → vs[j]? = some u → (∀ (ρ2 : List (Nat × Nat)) (bx2 : List Box), RV w T ρ2 bx2 c' u) ∧ c'.closed = true := by
        intro j c' u h1 h2
        obtain ⟨c, hc, hf⟩ := mapM_get' hm h1
        refine ih c u c' (hrl.2 j c u hc h2) hf (ha.imp (fun hh => ?_) id)
        have := List.any_eq_false.1 hh c (List.mem_of_getElem? hc)
        simpa using this
      refine ⟨fun ρ2 bx2 => ⟨by rw [hl, hrl.1], fun j c' u h1 h2 => (each j c' u h1 h2).1 ρ2 bx2⟩, closedL_of fun j c' hj => ?_⟩
      have hlt : j < vs.length := by rw [hrl.1, ← hl]; exact (List.getElem?_eq_some_iff.1 hj).1
      exact (each j c' _ hj (List.getElem?_eq_getElem hlt)).2
    cases av with
    | own id n =>
      simp only [reify] at h
      split at h
      · rename_i b hb
        split at h
        · rename_i hc
          simp only [Option.map_eq_some_iff] at h
          obtain ⟨rs, hm, rfl⟩ := h
          obtain ⟨g, cap, cur, ok, hTg⟩ := hbox id b hb hc.1
          cases hv with
          | own id n v b' hb' hf' hle h1 hh =>
            rw [hsub id b hb hc.1] at hb'
            obtain rfl := Option.some.inj hb'
            obtain ⟨g', cap', hr, rfl, hn⟩ := hh hc.2
            have := ok.rho
            rw [hr] at this
            simp only [Option.some.injEq, Prod.mk.injEq] at this
            obtain ⟨rfl, rfl⟩ := this
            obtain ⟨s1, s2⟩ := ok.shown
            obtain ⟨l1, l2⟩ := lists b.cs rs _ s1 hm (hal.imp (fun hh => by simpa [alias, hb] using hh) (fun x => x))
            refine ⟨fun ρ2 bx2 => ?_, by simpa [AV.closed] using l2⟩
            refine lst_mk hn ok.cap (l1 ρ2 bx2) (fun _ => hTg) (fun j u hj => ?_)
            rw [add_row, Nat.zero_add]
            exact s2 j u hj
        · exact absurd h (by simp)
      · exact absurd h (by simp)
    | agg cs =>
      simp only [reify, Option.map_eq_some_iff] at h
      obtain ⟨rs, hm, rfl⟩ := h
      obtain ⟨vs, rfl, hrl⟩ := hv.agg_inv
      obtain ⟨l1, l2⟩ := lists cs rs vs hrl hm (hal.imp (fun hh => by simpa [alias] using hh) id)
      exact ⟨fun ρ2 bx2 => .agg _ _ (l1 ρ2 bx2).1 (l1 ρ2 bx2).2, by simpa [AV.closed] using l2⟩
    | tup cs =>
      simp only [reify, Option.map_eq_some_iff] at h
      obtain ⟨rs, hm, rfl⟩ := h
      obtain ⟨vs, rfl, hrl⟩ := hv.tup_inv
      obtain ⟨l1, l2⟩ := lists cs rs vs hrl hm (hal.imp (fun hh => by simpa [alias] using hh) id)
      exact ⟨fun ρ2 bx2 => .tup _ _ (l1 ρ2 bx2).1 (l1 ρ2 bx2).2, by simpa [AV.closed] using l2⟩
    | clo q cs =>
      simp only [reify, Option.map_eq_some_iff] at h
      obtain ⟨rs, hm, rfl⟩ := h
      obtain ⟨vs, rfl, hrl⟩ := hv.clo_inv
      obtain ⟨l1, l2⟩ := lists cs rs vs hrl hm (hal.imp (fun hh => by simpa [alias] using hh) id)
      exact ⟨fun ρ2 bx2 => .clo q _ _ (l1 ρ2 bx2).1 (l1 ρ2 bx2).2, by simpa [AV.closed] using l2⟩
    | ptr a b c => simp [reify] at h
    | any => simp [reify] at h
    | int k n =>
      simp only [reify] at h
      split at h
      · obtain rfl := Option.some.inj h
        rw [hv.int_inv]
        exact ⟨fun _ _ => .int _ _, rfl⟩
      · exact absurd h (by simp)
    | bool b =>
      simp only [reify] at h
      split at h
      · obtain rfl := Option.some.inj h
        rw [hv.bool_inv]
        exact ⟨fun _ _ => .bool _, rfl⟩
      · exact absurd h (by simp)
    | nil =>
      simp only [reify] at h
      split at h
      · obtain rfl := Option.some.inj h
        rw [hv.nil_inv]
        exact ⟨fun _ _ => .nil, rfl⟩
      · exact absurd h (by simp)
    | undef =>
      simp only [reify] at h
      split at h
      · obtain rfl := Option.some.inj h
        rw [hv.undef_inv]
        exact ⟨fun _ _ => .undef, rfl⟩
      · exact absurd h (by simp)
    | lst n cs =>
      simp only [reify] at h
      split at h
      · rename_i hcl
        obtain rfl := Option.some.inj h
        refine ⟨fun ρ2 bx2 => hv.closed hcl T ρ2 bx2 (hal.elim (fun hh => ?_) id), hcl⟩
        simp [alias] at hh
      · exact absurd h (by simp)
    | rptr cs =>
      simp only [reify] at h
      split at h
      · rename_i hcl
        obtain rfl := Option.some.inj h
        refine ⟨fun ρ2 bx2 => hv.closed hcl T ρ2 bx2 (hal.elim (fun hh => ?_) id), hcl⟩
        simp [alias] at hh
      · exact absurd h (by simp)

theorem reifyL_RV {bx bxr : List Box} {T : Nat → Prop} (hsub : ∀ (id : Nat) (b : Box), bxr[id]? = some b → b.status ≠ .fresh → bx[id]? = some b) (hbox : ∀ (id : Nat) (b : Box), bxr[id]? = some b → b.status ≠ .fresh → ∃ g cap cur, BoxOk w S ρ bx base id b g cap cur ∧ T g) (f : Nat) {cs rs : List AV} {vs : List Value}
    (hrl : RVL w S ρ bx cs vs) (hm : cs.mapM (reify f bxr) = some rs) (ha : cs.any (alias f bxr) = false ∨ ∀ g, S g → T g) : (∀ (ρ2 : List (Nat × Nat)) (bx2 : List Box), RVL w T ρ2 bx2 rs vs) ∧ AV.closedL rs = true := by
  obtain ⟨hl, _⟩ := mapM_get hm
  have each : ∀ (j : Nat) (c' : AV) (u : Value), rs[j]? = some c' → vs[j]? = some u → (∀ (ρ2 : List (Nat × Nat)) (bx2 : List Box), RV w T ρ2 bx2 c' u) ∧ c'.closed = true := by
    intro j c' u h1 h2
    obtain ⟨c, hc, hf⟩ := mapM_get' hm h1
    refine reify_RV hsub hbox f c u c' (hrl.2 j c u hc h2) hf (ha.imp (fun hh => ?_) id)
    have := List.any_eq_false.1 hh c (List.mem_of_getElem? hc)
    simpa using this
  refine ⟨fun ρ2 bx2 => ⟨by rw [hl, hrl.1], fun j c' u h1 h2 => (each j c' u h1 h2).1 ρ2 bx2⟩, closedL_of fun j c' hj => ?_⟩
  have hlt : j < vs.length := by rw [hrl.1, ← hl]; exact (List.getElem?_eq_some_iff.1 hj).1
  exact (each j c' _ hj (List.getElem?_eq_getElem hlt)).2

theorem initTm_get : ∀ (vs : List AV) (k : Nat) (t : Tm) (m : Nat), k + vs.length < 65535 → (initTm k vs t).get m = if k ≤ m ∧ m < k + vs.length then (vs[m - k]?).getD .undef else t.get m
  | [], k, t, m, h => by
    simp only [initTm, List.length_nil, Nat.add_zero]
    rw [if_neg (by omega)]
  | v :: vs, k, t, m, h => by
    simp only [initTm, List.length_cons] at h ⊢
    rw [initTm_get vs (k + 1) _ m (by omega), Tm.get_set _ _ _ _ (by omega)]
    by_cases h1 : k + 1 ≤ m ∧ m < k + 1 + vs.length
    · rw [if_pos h1, if_pos (by omega)]
      have : m - k = (m - (k + 1)) + 1 := by omega
      rw [this]; rfl
    · rw [if_neg h1]
      by_cases h2 : k = m
      · subst h2
        rw [if_pos rfl, if_pos (by omega)]
        simp
      · rw [if_neg h2, if_neg (by omega)]

theorem get_e (m : Nat) : Tm.get .e m = .undef := Tm.getF_e m

/-- The slots of a frame that is entered. -/
theorem enter_tm {bx : List Box} {args : List AV} {vs : List Value} (hrl : RVL w S ρ bx args vs) (hl : args.length < 65535) (n : Nat) (t : Nat) :
    RV w S ρ bx ((initTm 0 args .e).get t) ((vs.toArray ++ Array.replicate n undef).getD t undef) := by
  rw [initTm_get _ _ _ _ (by omega), get_e]
  rw [Array.getD_eq_getD_getElem?]
  by_cases h : t < args.length
  · rw [if_pos (by omega)]
    have hv : t < vs.length := by rw [hrl.1]; exact h
    rw [Array.getElem?_append_left (by simpa using hv)]
    simp only [Nat.sub_zero, List.getElem?_toArray, List.getElem?_eq_getElem h, List.getElem?_eq_getElem hv, Option.getD_some]
    exact hrl.2 t _ _ (List.getElem?_eq_getElem h) (List.getElem?_eq_getElem hv)
  · rw [if_neg (by omega)]
    have hv : vs.length ≤ t := by rw [hrl.1]; omega
    rw [Array.getElem?_append_right (by simpa using hv)]
    have : ((Array.replicate n undef)[t - vs.toArray.size]?).getD undef = undef := by
      rw [Array.getElem?_replicate]
      split <;> rfl
    rw [this]
    exact .undef

/-- The results of a frame. -/
theorem rvar_sim (hR : Rel G nt w0 base S0 S ρ st tmps w) (rv : ResultVar) (r : RVar) (hc : cRes P rv = some r) {av : AV} (h : rvar st r = some av) :
    ∃ v, (match rv with | .tmp t => pure (tmps.getD t undef) | .cell a t => do loadVar t (← asAddr (tmps.getD a undef)) : Sem Value).run P w = .ok v w ∧ RV w S ρ st.bx av v := by
  cases rv with
  | tmp t =>
    simp only [cRes, Option.some.injEq] at hc
    subst hc
    simp only [rvar, Option.some.injEq] at h
    subst h
    exact ⟨_, rfl, hR.tm t⟩
  | cell a t =>
    simp only [cRes] at hc
    split at hc
    · rename_i d i hd hi
      split at hc
      · rename_i hda
        obtain rfl := Option.some.inj hc
        simp only [rvar] at h
        split at h
        · rename_i cs hat
          split at h
          · rename_i hle
            obtain rfl := Option.some.inj h
            obtain ⟨ad, vs, ev, hvs, hcl⟩ := at_inv hR (hR.tm a) hat
            have ht2 := hvs.take i.size
            have hlen : (vs.take i.size).length = i.size := by simp [hvs.1]; omega
            have hl := run_loadCells_list (P := P) w ad (vs.take i.size) (fun j u hj => by
              rw [List.getElem?_take] at hj
              split at hj
              · exact hcl j u hj
              · cases hj)
            rw [hlen] at hl
            refine ⟨.agg (vs.take i.size).toArray, ?_, .agg _ _ ht2.1 ht2.2⟩
            simp only [ev, asAddr]
            simp [loadVar, run_isAgg hd, hda, run_sizeOf' hi, hl]
          · exact absurd h (by simp)
        · exact absurd h (by simp)
      · rename_i hda
        obtain rfl := Option.some.inj hc
        simp only [rvar] at h
        split at h
        · rename_i c cs hat
          obtain rfl := Option.some.inj h
          obtain ⟨ad, vs, ev, hvs, hcl⟩ := at_inv hR (hR.tm a) hat
          obtain ⟨v, vs', rfl, hv, _⟩ := hvs.uncons
          have h0 := hcl 0 v rfl
          have e0 : ad.add 0 = ad := by simp [Addr.add]
          rw [e0] at h0
          refine ⟨v, ?_, hv⟩
          simp only [ev, asAddr]
          simp [loadVar, run_isAgg hd, hda, h0]
        · exact absurd h (by simp)
    · exact absurd hc (by simp)

theorem results_sim (hR : Rel G nt w0 base S0 S ρ st tmps w) (fn : Func) (rs : List RVar) (hc : fn.results.toList.mapM (cRes P) = some rs) {avs : List AV} (h : rs.mapM (rvar st) = some avs) :
    ∃ v, (results fn tmps).run P w = .ok v w ∧ RV w S ρ st.bx (tuple avs) v := by
  have key : ∀ (l : List ResultVar) (rs : List RVar) (avs : List AV), l.mapM (cRes P) = some rs → rs.mapM (rvar st) = some avs →
      ∃ vs, (l.mapM (fun | .tmp t => pure (tmps.getD t undef) | .cell a t => do loadVar t (← asAddr (tmps.getD a undef)) : ResultVar → Sem Value)).run P w = .ok vs w ∧ RVL w S ρ st.bx avs vs := by
    intro l
    induction l with
    | nil =>
      intro rs avs h1 h2
      simp only [List.mapM_nil] at h1
      obtain rfl := Option.some.inj h1
      simp only [List.mapM_nil] at h2
      obtain rfl := Option.some.inj h2
      exact ⟨[], rfl, .nil⟩
    | cons a l ih =>
      intro rs avs h1 h2
      simp only [List.mapM_cons] at h1
      cases ha : cRes P a with
      | none => simp [ha] at h1
      | some r =>
        cases hl : l.mapM (cRes P) with
        | none => simp [ha, hl] at h1
        | some rest =>
          simp only [ha, hl, Option.bind_eq_bind, Option.bind_some, Option.pure_def, Option.some.injEq] at h1
          subst h1
          simp only [List.mapM_cons] at h2
          cases hr : rvar st r with
          | none => simp [hr] at h2
          | some av =>
            cases hrest : rest.mapM (rvar st) with
            | none => simp [hr, hrest] at h2
            | some avr =>
              simp only [hr, hrest, Option.bind_eq_bind, Option.bind_some, Option.pure_def, Option.some.injEq] at h2
              subst h2
              obtain ⟨v, hv, hrv⟩ := rvar_sim (P := P) hR a r ha hr
              obtain ⟨vs, hvs, hrl⟩ := ih rest avr hl hrest
              refine ⟨v :: vs, ?_, .cons hrv hrl⟩
              simp only [List.mapM_cons, Sem.run_bind]
              rw [hv]
              simp only [Result.andThen_ok, hvs, Sem.run_pure]
  obtain ⟨vs, hvs, hrl⟩ := key fn.results.toList rs avs hc h
  have hm : (fn.results.mapM (fun | .tmp t => pure (tmps.getD t undef) | .cell a t => do loadVar t (← asAddr (tmps.getD a undef)) : ResultVar → Sem Value)).run P w = .ok vs.toArray w := by
    rw [Array.mapM_eq_mapM_toList]
    show (List.toArray <$> _ : Sem _).run P w = _
    rw [map_eq_pure_bind, Sem.run_bind, hvs]
    rfl
  refine ⟨if h : vs.toArray.size = 1 then vs.toArray[0] else .tuple vs.toArray, ?_, ?_⟩
  · unfold results
    rw [Sem.run_bind]
    erw [hm]
    rfl
  · match avs, vs, hrl with
    | [], [], hrl => exact .tup [] [] rfl hrl.2
    | [a], [v], hrl => exact hrl.2 0 a v rfl rfl
    | a :: b :: as, v :: u :: vs, hrl =>
      rw [dif_neg (by simp)]
      exact .tup _ _ hrl.1 hrl.2
    | [], v :: vs, hrl => have := hrl.1; simp at this
    | a :: as, [], hrl => have := hrl.1; simp at this
    | [a], v :: u :: vs, hrl => have := hrl.1; simp at this
    | a :: b :: as, [v], hrl => have := hrl.1; simp at this

/-- A closed value is its own tree. -/
theorem reify_closed {bx : List Box} (f : Nat) : ∀ (av r : AV), av.closed = true → reify f bx av = some r → r = av := by
  induction f with
  | zero => intro av r _ h; simp [reify] at h
  | succ f ih =>
    intro av r hc h
    have lists : ∀ (cs rs : List AV), AV.closedL cs = true → cs.mapM (reify f bx) = some rs → rs = cs := by
      intro cs
      induction cs with
      | nil => intro rs _ h; simp only [List.mapM_nil] at h; exact (Option.some.inj h).symm
      | cons x xs ihx =>
        intro rs hcl h
        simp only [AV.closedL, Bool.and_eq_true] at hcl
        simp only [List.mapM_cons] at h
        cases hf : reify f bx x with
        | none => simp [hf] at h
        | some y =>
          cases hl : xs.mapM (reify f bx) with
          | none => simp [hf, hl] at h
          | some rest =>
            simp only [hf, hl, Option.bind_eq_bind, Option.bind_some, Option.pure_def, Option.some.injEq] at h
            subst h
            rw [ih x y hcl.1 hf, ihx rest hcl.2 hl]
    cases av with
    | own id n => simp [AV.closed] at hc
    | ptr a b c => simp [AV.closed] at hc
    | any => simp [AV.closed] at hc
    | agg cs =>
      simp only [reify, Option.map_eq_some_iff] at h
      obtain ⟨rs, hm, rfl⟩ := h
      rw [lists cs rs (by simpa [AV.closed] using hc) hm]
    | tup cs =>
      simp only [reify, Option.map_eq_some_iff] at h
      obtain ⟨rs, hm, rfl⟩ := h
      rw [lists cs rs (by simpa [AV.closed] using hc) hm]
    | clo q cs =>
      simp only [reify, Option.map_eq_some_iff] at h
      obtain ⟨rs, hm, rfl⟩ := h
      rw [lists cs rs (by simpa [AV.closed] using hc) hm]
    | int k n => simp only [reify, hc, if_true, Option.some.injEq] at h; exact h.symm
    | bool b => simp only [reify, hc, if_true, Option.some.injEq] at h; exact h.symm
    | nil => simp only [reify, hc, if_true, Option.some.injEq] at h; exact h.symm
    | undef => simp only [reify, hc, if_true, Option.some.injEq] at h; exact h.symm
    | lst n cs => simp only [reify, hc, if_true, Option.some.injEq] at h; exact h.symm
    | rptr cs => simp only [reify, hc, if_true, Option.some.injEq] at h; exact h.symm

theorem reifyL_closed {bx : List Box} {f : Nat} : ∀ {cs rs : List AV}, AV.closedL cs = true → cs.mapM (reify f bx) = some rs → rs = cs
  | [], rs, _, h => by simp only [List.mapM_nil] at h; exact (Option.some.inj h).symm
  | x :: xs, rs, hcl, h => by
    simp only [AV.closedL, Bool.and_eq_true] at hcl
    simp only [List.mapM_cons] at h
    cases hf : reify f bx x with
    | none => simp [hf] at h
    | some y =>
      cases hl : xs.mapM (reify f bx) with
      | none => simp [hf, hl] at h
      | some rest =>
        simp only [hf, hl, Option.bind_eq_bind, Option.bind_some, Option.pure_def, Option.some.injEq] at h
        subst h
        rw [reify_closed f x y hcl.1 hf, reifyL_closed hcl.2 hl]

theorem scalarL_get {cs : List AV} (h : AV.scalarL cs = true) : ∀ {j : Nat} {c : AV}, cs[j]? = some c → c.scalar = true := by
  induction cs with
  | nil => intro j c h; simp at h
  | cons x xs ih =>
    simp only [AV.scalarL, Bool.and_eq_true] at h
    intro j c hj
    cases j with
    | zero => simp at hj; subst hj; exact h.1
    | succ j => exact ih h.2 (by simpa using hj)

/-- Numbers speak of no memory. -/
theorem RV.scalar {bx : List Box} {c : AV} {v : Value} (hv : RV w S ρ bx c v) : c.scalar = true → ∀ (w2 : World) (T : Nat → Prop) (ρ2 : List (Nat × Nat)) (bx2 : List Box), RV w2 T ρ2 bx2 c v := by
  induction hv with
  | int k n => intro _ _ _ _ _; exact .int k n
  | bool b => intro _ _ _ _ _; exact .bool b
  | agg cs vs hl hr ih => intro hc w2 T ρ2 bx2; simp only [AV.scalar] at hc; exact .agg cs vs hl (fun j c v h1 h2 => ih j c v h1 h2 (scalarL_get hc h1) w2 T ρ2 bx2)
  | tup cs vs hl hr ih => intro hc w2 T ρ2 bx2; simp only [AV.scalar] at hc; exact .tup cs vs hl (fun j c v h1 h2 => ih j c v h1 h2 (scalarL_get hc h1) w2 T ρ2 bx2)
  | nil => intro hc; simp [AV.scalar] at hc
  | lst n cap ao cs vs hl hn hm hc hr => intro hc; simp [AV.scalar] at hc
  | own id n v b hb hf hle h1 hh => intro hc; simp [AV.scalar] at hc
  | ptr id len off v b hb hf hle h1 hh => intro hc; simp [AV.scalar] at hc
  | rptr a cs vs hl hc hr => intro hc; simp [AV.scalar] at hc
  | clo f cs vs hl hr => intro hc; simp [AV.scalar] at hc
  | undef => intro hc; simp [AV.scalar] at hc
  | any v => intro hc; simp [AV.scalar] at hc
end
end Go.Am
