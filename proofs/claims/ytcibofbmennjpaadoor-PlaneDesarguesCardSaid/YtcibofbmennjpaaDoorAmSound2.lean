/- The machine is sound: calls, instructions, regions, code. -/
import Derived.Test.YtcibofbmennjpaaDoorAmCalls
import Derived.Orders
set_option linter.unusedVariables false

namespace Go.Am

open Go.RowKit

section
variable {P : Program} {G : Nat → List AV} {F : Nat → Option MF}
variable {n : Nat} {nt : Nat} {w0 w : World} {base : Nat} {S0 S : Nat → Prop} {ρ : List (Nat × Nat)} {st : St} {tmps : Array Value} {ds : List Deferred}

theorem freeze_get {bx : List Box} {id : Nat} {b : Box} (h : (bx.map Box.freeze)[id]? = some b) : ∃ b0, bx[id]? = some b0 ∧ b.cs = b0.cs ∧ b.sz = b0.sz ∧ b.e = b0.e ∧ b.status ≠ .live ∧ (b.status ≠ .fresh ↔ b0.status ≠ .fresh) := by
  rw [List.getElem?_map] at h
  obtain ⟨b0, h0, rfl⟩ := Option.map_eq_some_iff.1 h
  refine ⟨b0, h0, ?_⟩
  unfold Box.freeze
  split <;> rename_i hs
  · exact ⟨rfl, rfl, rfl, by simp, by simp [hs]⟩
  · exact ⟨rfl, rfl, rfl, fun e => hs e, Iff.rfl⟩

/-- A CALL THAT READS THE CALLER's BOXES AND WRITES NONE. -/
theorem quiet_sound (hS : Sound P G F n) (hF : FOk P F) (hR : Rel G nt w0 base S0 S ρ st tmps w) {f : Nat} {args : List AV} {vs : List Value} (hargs : RVL w S ρ st.bx args vs) (hal : args.length < 65535)
    {mf : MF} (hmf : F f = some mf) {st1 : St} {rs : List AV} (hrun : runBody (aexec G F n) mf ⟨initTm 0 args .e, st.bx.map Box.freeze, 0⟩ = some (st1, rs)) (hsc : (tuple rs).scalar = true) :
    Calls P f vs.toArray w fun e w' => ∃ u, e = .returned u ∧ Rel G nt w0 base S0 S ρ st tmps w' ∧ Later w S ρ st.bx w' S ρ st.bx ∧ RV w' S ρ st.bx (tuple rs) u := by
  obtain ⟨nk, hdo⟩ := does hS hF hmf
  let T : Nat → Prop := fun g => S g ∨ ∃ (id : Nat) (b : Box) (cap : Nat), st.bx[id]? = some b ∧ b.status ≠ .fresh ∧ ρ[id]? = some (g, cap)
  have L0 : Later w S ρ st.bx w T ρ (st.bx.map Box.freeze) := by
    refine ⟨fun _ h => .inl h, fun _ _ => rfl, Nat.le_refl _, fun id b hb hfr => ?_⟩
    refine ⟨b.freeze, by rw [List.getElem?_map, hb]; rfl, ?_, ?_, .inl ⟨?_, rfl⟩⟩
    · unfold Box.freeze; split <;> simp_all
    · unfold Box.freeze; split <;> rfl
    · unfold Box.freeze; split <;> rfl
  have R0 : Rel G nk w0 base S0 T ρ ⟨initTm 0 args .e, st.bx.map Box.freeze, 0⟩ (vs.toArray ++ Array.replicate (nk - vs.toArray.size) undef) w := by
    refine ⟨hR.below, hR.baseLe, replicate_size _ _, by simp [hR.rho], fun g hg => ?_, fun g hg => ?_, fun id b hb hfr => ?_, fun i j bi bj x y hi hj hfi hfj hx hy hij => ?_, fun t => enter_tm ?_ hal _ t, fun g => (hR.glob g).later L0⟩
    · rcases hg with hg | ⟨id, b, cap, hb, hfr, hr⟩
      · exact hR.slt g hg
      · obtain ⟨g2, cap2, cur2, ok⟩ := hR.box id b hb hfr
        have := ok.rho
        rw [hr] at this
        simp only [Option.some.injEq, Prod.mk.injEq] at this
        obtain ⟨rfl, rfl⟩ := this
        exact (Array.getElem?_eq_some_iff.1 ok.heap).1
    · rcases hg with hg | ⟨id, b, cap, hb, hfr, hr⟩
      · exact hR.sbase g hg
      · obtain ⟨g2, cap2, cur2, ok⟩ := hR.box id b hb hfr
        have := ok.rho
        rw [hr] at this
        simp only [Option.some.injEq, Prod.mk.injEq] at this
        obtain ⟨rfl, rfl⟩ := this
        exact .inr ok.base
    · obtain ⟨b0, hb0, e1, e2, e3, hnl, hff⟩ := freeze_get hb
      obtain ⟨g, cap, cur, ok⟩ := hR.box id b0 hb0 (hff.1 hfr)
      refine ⟨g, cap, cur, ok.rho, ok.base, by rw [e3]; exact ok.heap, by rw [e2]; exact ok.size, ok.cap, by rw [e1]; exact ok.fits, fun j c hj => ?_, fun h => absurd h hnl, fun _ => .inr ⟨id, b0, cap, hb0, hff.1 hfr, ok.rho⟩⟩
      rw [e1] at hj
      obtain ⟨v, h1, h2, h3⟩ := ok.cells j c hj
      exact ⟨v, h1, h2, h3.later L0⟩
    · obtain ⟨b1, h1, _, _, _, _, f1⟩ := freeze_get hi
      obtain ⟨b2, h2, _, _, _, _, f2⟩ := freeze_get hj
      exact hR.inj i j b1 b2 x y h1 h2 (f1.1 hfi) (f2.1 hfj) hx hy hij
    · exact hargs.later L0
  refine (hdo (by simpa using hargs.1) R0 hrun).mono fun e w' ⟨u, tmps1, S1, ρ1, he, R1, L1, hrv⟩ => ?_
  have L : Later w S ρ st.bx w' S ρ st.bx := ⟨fun _ h => h, fun g hg => L1.heap g (.inl hg), L1.size, fun id b hb hf => ⟨b, hb, hf, rfl, .inl ⟨rfl, rfl⟩⟩⟩
  have hbl := hR.baseLe
  have hsz := L1.size
  refine ⟨u, he, ⟨R1.below, by omega, hR.size, hR.rho, fun g hg => by have := hR.slt g hg; omega, hR.sbase, fun id b hb hfr => ?_, hR.inj, fun t => (hR.tm t).later L, fun g => (hR.glob g).later L⟩, L, hrv.scalar hsc _ _ _ _⟩
  obtain ⟨g, cap, cur, ok⟩ := hR.box id b hb hfr
  refine ⟨g, cap, cur, ok.rho, ok.base, (L1.heap g (.inr ⟨id, b, cap, hb, hfr, ok.rho⟩)).trans ok.heap, ok.size, ok.cap, ok.fits, fun j c hj => ?_, ok.live, ok.frozen⟩
  obtain ⟨v, h1, h2, h3⟩ := ok.cells j c hj
  exact ⟨v, h1, h2, h3.later L⟩

/-- A CALL. -/
theorem call_sound (hS : Sound P G F n) (hF : FOk P F) (hG : ∀ g, AV.closedL (G g) = true) (hR : Rel G nt w0 base S0 S ρ st tmps w) {m : Mode} {f : Nat} {args : List AV} {vs : List Value} (hargs : RVL w S ρ st.bx args vs)
    {av : AV} {st' : St} (h : doCall F (aexec G F n) m f args st = some (av, st')) :
    Calls P f vs.toArray w fun e w' => ∃ u S' ρ', e = .returned u ∧ Rel G nt w0 base S0 S' ρ' st' tmps w' ∧ Later w S ρ st.bx w' S' ρ' st'.bx ∧ RV w' S' ρ' st'.bx av u := by
  unfold doCall at h
  split at h
  · exact absurd h (by simp)
  rename_i hal
  split at h
  · split at h
    · exact absurd h (by simp)
    rename_i as hm
    split at h
    · exact absurd h (by simp)
    · rename_i v al hp
      split at h
      · exact absurd h (by simp)
      · rename_i hok
        simp only [Option.some.injEq, Prod.mk.injEq] at h
        obtain ⟨rfl, rfl⟩ := h
        refine ((pure_sound hS hF hG hR hargs (by omega) hm hp (by simpa using hok)).1 v rfl).mono fun e w' ⟨u, S', he, R', L, hv⟩ => ⟨u, S', ρ, he, R', L, hv⟩
    · rename_i k cs sz e al hp
      split at h
      · exact absurd h (by simp)
      · rename_i hok
        simp only [Option.map_eq_some_iff, Prod.mk.injEq] at h
        obtain ⟨⟨id, st1⟩, hn, rfl, rfl⟩ := h
        exact (pure_sound hS hF hG hR hargs (by omega) hm hp (by simpa using hok)).2 k cs sz e id _ rfl hn
  · split at h
    · exact absurd h (by simp)
    rename_i as hm
    split at h
    · rename_i v al hp
      split at h
      · exact absurd h (by simp)
      · rename_i hok
        simp only [Option.some.injEq, Prod.mk.injEq] at h
        obtain ⟨rfl, rfl⟩ := h
        refine ((pure_sound hS hF hG hR hargs (by omega) hm hp (by simpa using hok)).1 v rfl).mono fun e w' ⟨u, S', he, R', L, hv⟩ => ⟨u, S', ρ, he, R', L, hv⟩
    · exact absurd h (by simp)
  · split at h
    · exact absurd h (by simp)
    rename_i mf hmf
    split at h
    · exact absurd h (by simp)
    rename_i st1 rs hrun
    split at h
    · rename_i hsc
      simp only [Option.some.injEq, Prod.mk.injEq] at h
      obtain ⟨rfl, rfl⟩ := h
      exact (quiet_sound hS hF hR hargs (by omega) hmf hrun hsc).mono fun e w' ⟨u, he, R', L, hv⟩ => ⟨u, S, ρ, he, R', L, hv⟩
    · exact absurd h (by simp)
  · split at h
    · exact absurd h (by simp)
    rename_i mf hmf
    split at h
    · exact absurd h (by simp)
    rename_i st1 rs hrun
    simp only [Option.some.injEq, Prod.mk.injEq] at h
    obtain ⟨rfl, rfl⟩ := h
    obtain ⟨nk, hdo⟩ := does hS hF hmf
    have R0 : Rel G nk w0 base S0 S ρ ⟨initTm 0 args .e, st.bx, 0⟩ (vs.toArray ++ Array.replicate (nk - vs.toArray.size) undef) w :=
      ⟨hR.below, hR.baseLe, replicate_size _ _, hR.rho, hR.slt, hR.sbase, hR.box, hR.inj, fun t => enter_tm hargs (by omega) _ t, hR.glob⟩
    refine (hdo (by simpa using hargs.1) R0 hrun).mono fun e w' ⟨u, tmps1, S1, ρ1, he, R1, L1, hrv⟩ => ?_
    have L : Later w S ρ st.bx w' S1 ρ1 st1.bx := L1
    exact ⟨u, S1, ρ1, he, ⟨R1.below, R1.baseLe, hR.size, R1.rho, R1.slt, R1.sbase, R1.box, R1.inj, fun t => (hR.tm t).later L, R1.glob⟩, L, hrv⟩

/-- How a compiled instruction is bound to its operation. -/
structure Bound (P : Program) (nt : Nat) (ops : Array Oper) (o : Oper) (i : I) : Prop where
  op : ∃ hint, cOp P hint o = some i.i
  d : i.d = o.dst
  lt : ∀ k, o.dst = some k → k < nt
  g : (o.guard = none ∧ i.g = none) ∨ ∃ g want s, o.guard = some (g, want) ∧ (ops[g]?).bind (·.dst) = some s ∧ s < nt ∧ i.g = some (s, want)

theorem cOps_bound {hs : Nat → Hint} {ops : Array Oper} : ∀ {l : List Oper} {k : Nat} {is : List I}, cOps P nt hs ops k l = some is → is.length = l.length ∧ ∀ (j : Nat) (o : Oper), l[j]? = some o → ∃ i, is[j]? = some i ∧ Bound P nt ops o i
  | [], k, is, h => by
    simp only [cOps, Option.some.injEq] at h
    subst h
    exact ⟨rfl, fun j o hj => by simp at hj⟩
  | o :: l, k, is, h => by
    simp only [cOps] at h
    split at h
    · rename_i mi gd rest hmi hgd hrest
      obtain ⟨hlen, hb⟩ := cOps_bound hrest
      split at h
      · rename_i hd
        obtain rfl := Option.some.inj h
        have hlt : ∀ k, o.dst = some k → k < nt := by
          intro k hk
          rw [hk] at hd
          simpa [dstOk] using hd
        refine ⟨by simp [hlen], fun j o' hj => ?_⟩
        cases j with
        | zero =>
          simp at hj
          subst hj
          refine ⟨_, rfl, ⟨_, hmi⟩, rfl, hlt, ?_⟩
          cases hog : o.guard with
          | none =>
            rw [hog] at hgd
            simp only [cGuard, Option.some.injEq] at hgd
            exact .inl ⟨rfl, hgd.symm⟩
          | some gw =>
            obtain ⟨g, want⟩ := gw
            rw [hog] at hgd
            simp only [cGuard] at hgd
            split at hgd
            · rename_i s hs
              split at hgd
              · rename_i hsl
                exact .inr ⟨g, want, s, rfl, hs, hsl, (Option.some.inj hgd).symm⟩
              · exact absurd hgd (by simp)
            · exact absurd hgd (by simp)
        | succ j => exact hb j o' (by simpa using hj)
      · exact absurd h (by simp)
    · exact absurd h (by simp)

/-- What a call operation compiles from. -/
theorem cOp_call {hint : Hint} {o : Oper} {f : Nat} {args : List R} {m : Mode} (h : cOp P hint o = some (.call f args m)) : ∃ c : Call, o.op = .call c ∧ c.callee = .value (.func f) ∧ args = c.args.toList.map cR := by
  unfold cOp at h
  split at h <;> first
    | (rename_i c e
       split at h <;> first
         | (rename_i hb
            simp only [Option.some.injEq, MI.call.injEq] at h
            obtain ⟨rfl, rfl, _⟩ := h
            exact ⟨c, e, hb, rfl⟩)
         | (exfalso; revert h; repeat' split
            all_goals simp))
    | (exfalso; revert h; repeat' split
       all_goals simp)
end

end Go.Am

/- The machine is sound: instructions, regions, code, functions. -/
set_option linter.unusedVariables false

namespace Go.Am

open Go.RowKit

section
variable {P : Program} {G : Nat → List AV} {F : Nat → Option MF}
variable {n : Nat} {nt : Nat} {w0 w : World} {base : Nat} {S0 S : Nat → Prop} {ρ : List (Nat × Nat)} {st : St} {tmps : Array Value} {ds : List Deferred}

theorem cOp_callv {hint : Hint} {o : Oper} {x : R} {args : List R} {m : Mode} (h : cOp P hint o = some (.callv x args m)) : ∃ (c : Call) (y : Operand), o.op = .call c ∧ c.callee = .value y ∧ x = cR y ∧ args = c.args.toList.map cR := by
  unfold cOp at h
  split at h <;> first
    | (rename_i c e
       split at h <;> first
         | (rename_i y _ hb
            simp only [Option.some.injEq, MI.callv.injEq] at h
            obtain ⟨rfl, rfl, _⟩ := h
            exact ⟨c, y, e, hb, rfl, rfl⟩)
         | (exfalso; revert h; repeat' split
            all_goals simp))
    | (exfalso; revert h; repeat' split
       all_goals simp)

theorem evalL_RVL (hR : Rel G nt w0 base S0 S ρ st tmps w) (l : List Operand) : RVL w S ρ st.bx ((l.map cR).map (st.ev G)) (l.map (Act.eval ⟨tmps, ds⟩)) := by
  refine ⟨by simp, fun j c v h1 h2 => ?_⟩
  rw [List.map_map] at h1
  rw [List.getElem?_map] at h1 h2
  obtain ⟨x, hx, rfl⟩ := Option.map_eq_some_iff.1 h1
  obtain ⟨x', hx', rfl⟩ := Option.map_eq_some_iff.1 h2
  rw [hx] at hx'
  obtain rfl := Option.some.inj hx'
  exact ev_RV hR x

/-- The function of a compiled body is no body-less one. -/
theorem run_callFunc (hF : FOk P F) {f : Nat} {mf : MF} (hmf : F f = some mf) (args : Array Value) (w : World) : (callFunc f args).run P w = .ok (.enter f args) w := by
  rcases hF f mf hmf with ⟨fn, H, hf, hc⟩ | hp
  case inr => exact hp.enter args w
  obtain ⟨c, m, rs, hb, _, hname, _⟩ := cFn_inv hc
  simp [callFunc, program, Sem.run, hf, hb, hname, Sem.bind, Bind.bind, Option.isNone]

theorem doCall_mf {m : Mode} {f : Nat} {args : List AV} {av : AV} {st' : St} {rec : MC → St → Option (Ex × St)} (h : doCall F rec m f args st = some (av, st')) : ∃ mf, F f = some mf := by
  cases hF : F f with
  | some mf => exact ⟨mf, rfl⟩
  | none =>
    exfalso
    unfold doCall at h
    split at h
    · cases h
    · cases m
      · simp only at h
        split at h
        · cases h
        · simp [pcall, hF] at h
      · simp only at h
        split at h
        · cases h
        · simp [pcall, hF] at h
      · simp [hF] at h
      · simp [hF] at h

theorem doCall_tm {m : Mode} {f : Nat} {args : List AV} {av : AV} {st' : St} {rec : MC → St → Option (Ex × St)} (h : doCall F rec m f args st = some (av, st')) : True := trivial

/-- AN INSTRUCTION. -/
theorem exec1_sound (hS : Sound P G F n) (hF : FOk P F) (hG : ∀ g, AV.closedL (G g) = true) (hnt : nt < 65535) (hR : Rel G nt w0 base S0 S ρ st tmps w) {ops : Array Oper} {o : Oper} {i : I} (hb : Bound P nt ops o i) {st' : St}
    (h : exec1 G F (aexec G F n) i st = some st') {K : Act → World → Prop} {Q : Exit → Act → World → Prop}
    (hK : ∀ (tmps' : Array Value) (w' : World) (S' : Nat → Prop) (ρ' : List (Nat × Nat)), Rel G nt w0 base S0 S' ρ' st' tmps' w' → Later w S ρ st.bx w' S' ρ' st'.bx → K ⟨tmps', ds⟩ w') :
    if Region.wanted o (yielded ops tmps) then o.wp P ⟨tmps, ds⟩ w K Q else K (Act.put ⟨tmps, ds⟩ o.dst undef) w := by
  obtain ⟨⟨hint, hop⟩, hd, hlt, hg⟩ := hb
  have put_eq : ∀ (t : Array Value) (v : Value), Act.put ⟨t, ds⟩ o.dst v = ⟨(Act.put ⟨t, ds⟩ o.dst v).tmps, ds⟩ := by
    intro t v; cases o.dst <;> rfl
  -- the instruction itself
  have hrun : ∀ st2, (runI G F (aexec G F n) i.i st).map (fun p => p.2.put i.d p.1) = some st2 →
      (∀ (tmps' : Array Value) (w' : World) (S' : Nat → Prop) (ρ' : List (Nat × Nat)), Rel G nt w0 base S0 S' ρ' st2 tmps' w' → Later w S ρ st.bx w' S' ρ' st2.bx → K ⟨tmps', ds⟩ w') → o.wp P ⟨tmps, ds⟩ w K Q := by
    intro st2 hr hK2
    have fin : ∀ (st3 : St) (av : AV) (w' : World) (S' : Nat → Prop) (ρ' : List (Nat × Nat)) (v : Value), st3.put i.d av = st2 → Rel G nt w0 base S0 S' ρ' st3 tmps w' → Later w S ρ st.bx w' S' ρ' st3.bx → RV w' S' ρ' st3.bx av v → K (Act.put ⟨tmps, ds⟩ o.dst v) w' := by
      intro st3 av w' S' ρ' v he R3 L3 hv
      rw [put_eq]
      have R4 := R3.put' (ds := ds) o.dst hlt hnt hv
      rw [← hd, he] at R4
      refine hK2 _ w' S' ρ' ?_ ?_
      · rw [← hd]; exact R4
      · have : st2.bx = st3.bx := by rw [← he, St.put_bx]
        rw [this]; exact L3
    have called : ∀ (f : Nat) (m : Mode) (args : List AV) (vs : List Value), RVL w S ρ st.bx args vs → ((doCall F (aexec G F n) m f args st).map fun p => p.2.put i.d p.1) = some st2 →
        (execOp (Act.eval ⟨tmps, ds⟩) o).run P w = .ok (.enter f vs.toArray) w → o.wp P ⟨tmps, ds⟩ w K Q := by
      intro f m args vs hrl hdc hex
      simp only [Option.map_eq_some_iff] at hdc
      obtain ⟨⟨av, st3⟩, hdc, he⟩ := hdc
      unfold Oper.wp
      rw [hex, Oper.upon_enter]
      refine (call_sound hS hF hG hR hrl hdc).mono fun e w' ⟨u, S', ρ', heq, R3, L3, hv⟩ => ?_
      subst heq
      exact fin st3 av w' S' ρ' u he R3 L3 hv
    cases hi : i.i with
    | call f args m =>
      rw [hi] at hop
      simp only [hi, runI] at hr
      obtain ⟨c, hc1, hc2, rfl⟩ := cOp_call hop
      have hr' := hr
      simp only [Option.map_eq_some_iff] at hr'
      obtain ⟨⟨av, st3⟩, hdc, _⟩ := hr'
      obtain ⟨mf, hmf⟩ := doCall_mf hdc
      refine called f m _ _ (evalL_RVL (ds := ds) hR c.args.toList) hr ?_
      unfold execOp
      simp only [hc1, resolve, hc2, Act.eval, Deferred.ofValue, Sem.run_bind, Sem.run_pure, Result.andThen_ok, invoke, Array.append_empty, Array.empty_append]
      have e1 : c.args.map (Act.eval ⟨tmps, ds⟩) = (c.args.toList.map (Act.eval ⟨tmps, ds⟩)).toArray := by rw [← Array.toList_map, Array.toArray_toList]
      have := run_callFunc hF hmf (c.args.map (Act.eval ⟨tmps, ds⟩)) w
      rw [← e1]
      exact this
    | callv x args m =>
      rw [hi] at hop
      simp only [hi, runI] at hr
      obtain ⟨c, y, hc1, hc2, rfl, rfl⟩ := cOp_callv hop
      split at hr
      · rename_i f cap ey
        have hy := ev_RV (ds := ds) hR y
        rw [ey] at hy
        obtain ⟨vcap, evy, hcap⟩ := hy.clo_inv
        have hr' := hr
        simp only [Option.map_eq_some_iff] at hr'
        obtain ⟨⟨av, st3⟩, hdc, _⟩ := hr'
        obtain ⟨mf, hmf⟩ := doCall_mf hdc
        refine called f m _ _ ((evalL_RVL (ds := ds) hR c.args.toList).append hcap) hr ?_
        unfold execOp
        simp only [hc1, resolve, hc2, evy, Deferred.ofValue, Sem.run_bind, Sem.run_pure, Result.andThen_ok, invoke, Array.empty_append]
        have e1 : c.args.map (Act.eval ⟨tmps, ds⟩) ++ vcap.toArray = (c.args.toList.map (Act.eval ⟨tmps, ds⟩) ++ vcap).toArray := by
          apply Array.ext'; simp
        have := run_callFunc hF hmf (c.args.map (Act.eval ⟨tmps, ds⟩) ++ vcap.toArray) w
        rw [← e1]
        exact this
      · exact absurd hr (by simp)
    | _ =>
      all_goals
        rw [hi] at hop
        simp only [hi, runI, Option.map_eq_some_iff] at hr
        obtain ⟨⟨av, st3⟩, hex, he⟩ := hr
        obtain ⟨nx, v, w', S', ρ', hx, hv, R3, hrv, L3⟩ := sim_op (P := P) (ds := ds) hR hint o _ hop rfl hex
        unfold Oper.wp
        rw [hx]
        cases nx with
        | value u =>
          simp only [nxv, Option.some.injEq] at hv
          subst hv
          rw [Oper.upon_value]
          exact fin st3 av w' S' ρ' _ he R3 L3 hrv
        | skip =>
          simp only [nxv, Option.some.injEq] at hv
          subst hv
          rw [Oper.upon_skip]
          exact fin st3 av w' S' ρ' _ he R3 L3 hrv
        | _ => simp [nxv] at hv
  unfold exec1 at h
  rcases hg with ⟨h1, h2⟩ | ⟨g, want, s, h1, h2, h3, h4⟩
  · rw [h2] at h
    simp only at h
    rw [if_pos (by simp [Region.wanted, h1])]
    exact hrun st' h hK
  · rw [h4] at h
    simp only at h
    have hsl : s < tmps.size := Nat.lt_of_lt_of_le h3 hR.size
    have hy : yielded ops tmps g = match tmps[s]? with
        | some (.bool b) => some b
        | _ => none := by
      unfold yielded
      rw [h2]
      rfl
    have hts : tmps[s]? = some (tmps.getD s undef) := by
      rw [Array.getD_eq_getD_getElem?, Array.getElem?_eq_getElem hsl]; rfl
    have hrv := hR.tm s
    have skipped : st' = st.put i.d .undef → K (Act.put ⟨tmps, ds⟩ o.dst undef) w := by
      intro e
      rw [put_eq]
      have R4 := hR.put' (ds := ds) o.dst hlt hnt (RV.undef (w := w) (S := S) (ρ := ρ) (bx := st.bx))
      refine hK _ w S ρ ?_ ?_
      · rw [e, hd]; exact R4
      · rw [e, St.put_bx]; exact Later.refl
    split at h
    · rename_i b eb
      rw [eb] at hrv
      have hw : Region.wanted o (yielded ops tmps) = (b == want) := by
        simp only [Region.wanted, h1, hy, hts, hrv.bool_inv]
        cases b <;> cases want <;> rfl
      rw [hw]
      cases hbw : (b == want)
      · rw [hbw] at h
        simp only [cond_false, Option.some.injEq] at h
        rw [if_neg (by simp)]
        exact skipped h.symm
      · rw [hbw] at h
        simp only [cond_true] at h
        rw [if_pos rfl]
        exact hrun st' h hK
    · rename_i eb
      rw [eb] at hrv
      have hw : Region.wanted o (yielded ops tmps) = false := by
        simp only [Region.wanted, h1, hy, hts, hrv.undef_inv]
        rfl
      rw [hw, if_neg (by simp)]
      simp only [Option.some.injEq] at h
      exact skipped h.symm
    · exact absurd h (by simp)
end

end Go.Am

