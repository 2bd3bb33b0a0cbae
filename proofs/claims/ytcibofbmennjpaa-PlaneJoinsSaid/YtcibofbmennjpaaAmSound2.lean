/- The machine is sound: instructions, regions, code, functions. -/
import Derived.Test.YtcibofbmennjpaaAmSound
set_option linter.unusedVariables false
namespace Go.Am
open Go.RowKit

section
variable {P : Program} {G : Nat → List AV} {F : Nat → Option MF}
variable {n : Nat} {nt : Nat} {w0 w : World} {base : Nat} {S0 S : Nat → Prop} {ρ : List (Nat × Nat)} {st : St} {tmps : Array Value} {ds : List Deferred}

theorem cOp_callv {hint : Hint} {o : Oper} {x : R} {args : List R} {m : Mode} (h : cOp P hint o = some (.callv x args m)) : ∃ (c : Call) (y : Operand), o.op = .call c ∧ c.callee = .value y ∧ x = cR y ∧ args = c.args.toList.map cR := by
  unfold cOp at h
  split at h <;> first
    | (rename_i c e
       split at h <;> first
         | (rename_i y _ hb
            simp only [Option.some.injEq, MI.callv.injEq] at h
            obtain ⟨rfl, rfl, _⟩ := h
            exact ⟨c, y, e, hb, rfl, rfl⟩)
         | (exfalso; revert h; repeat' split
            all_goals simp))
    | (exfalso; revert h; repeat' split
       all_goals simp)

theorem evalL_RVL (hR : Rel G nt w0 base S0 S ρ st tmps w) (l : List Operand) : RVL w S ρ st.bx ((l.map cR).map (st.ev G)) (l.map (Act.eval ⟨tmps, ds⟩)) := by
  refine ⟨by simp, fun j c v h1 h2 => ?_⟩
  rw [List.map_map] at h1
  rw [List.getElem?_map] at h1 h2
  obtain ⟨x, hx, rfl⟩ := Option.map_eq_some_iff.1 h1
  obtain ⟨x', hx', rfl⟩ := Option.map_eq_some_iff.1 h2
  rw [hx] at hx'
  obtain rfl := Option.some.inj hx'
  exact ev_RV hR x

/-- The function of a compiled body is no body-less one. -/
theorem run_callFunc (hF : FOk P F) {f : Nat} {mf : MF} (hmf : F f = some mf) (args : Array Value) (w : World) : (callFunc f args).run P w = .ok (.enter f args) w := by
  rcases hF f mf hmf with ⟨fn, H, hf, hc⟩ | hp
  case inr => exact hp.enter args w
  obtain ⟨c, m, rs, hb, _, hname, _⟩ := cFn_inv hc
  simp [callFunc, program, Sem.run, hf, hb, hname, Sem.bind, Bind.bind, Option.isNone]

theorem doCall_mf {m : Mode} {f : Nat} {args : List AV} {av : AV} {st' : St} {rec : MC → St → Option (Ex × St)} (h : doCall F rec m f args st = some (av, st')) : ∃ mf, F f = some mf := by
  cases hF : F f with
  | some mf => exact ⟨mf, rfl⟩
  | none =>
    exfalso
    unfold doCall at h
    split at h
    · cases h
    · cases m
      · simp only at h
        split at h
        · cases h
        · simp [pcall, hF] at h
      · simp only at h
        split at h
        · cases h
        · simp [pcall, hF] at h
      · simp [hF] at h
      · simp [hF] at h

theorem doCall_tm {m : Mode} {f : Nat} {args : List AV} {av : AV} {st' : St} {rec : MC → St → Option (Ex × St)} (h : doCall F rec m f args st = some (av, st')) : True := trivial

/-- AN INSTRUCTION. -/
theorem exec1_sound (hS : Sound P G F n) (hF : FOk P F) (hG : ∀ g, AV.closedL (G g) = true) (hnt : nt < 65535) (hR : Rel G nt w0 base S0 S ρ st tmps w) {ops : Array Oper} {o : Oper} {i : I} (hb : Bound P nt ops o i) {st' : St}
    (h : exec1 G F (aexec G F n) i st = some st') {K : Act → World → Prop} {Q : Exit → Act → World → Prop}
    (hK : ∀ (tmps' : Array Value) (w' : World) (S' : Nat → Prop) (ρ' : List (Nat × Nat)), Rel G nt w0 base S0 S' ρ' st' tmps' w' → Later w S ρ st.bx w' S' ρ' st'.bx → K ⟨tmps', ds⟩ w') :
    if Region.wanted o (yielded ops tmps) then o.wp P ⟨tmps, ds⟩ w K Q else K (Act.put ⟨tmps, ds⟩ o.dst undef) w := by
  obtain ⟨⟨hint, hop⟩, hd, hlt, hg⟩ := hb
  have put_eq : ∀ (t : Array Value) (v : Value), Act.put ⟨t, ds⟩ o.dst v = ⟨(Act.put ⟨t, ds⟩ o.dst v).tmps, ds⟩ := by
    intro t v; cases o.dst <;> rfl
  -- the instruction itself
  have hrun : ∀ st2, (runI G F (aexec G F n) i.i st).map (fun p => p.2.put i.d p.1) = some st2 →
      (∀ (tmps' : Array Value) (w' : World) (S' : Nat → Prop) (ρ' : List (Nat × Nat)), Rel G nt w0 base S0 S' ρ' st2 tmps' w' → Later w S ρ st.bx w' S' ρ' st2.bx → K ⟨tmps', ds⟩ w') → o.wp P ⟨tmps, ds⟩ w K Q := by
    intro st2 hr hK2
    have fin : ∀ (st3 : St) (av : AV) (w' : World) (S' : Nat → Prop) (ρ' : List (Nat × Nat)) (v : Value), st3.put i.d av = st2 → Rel G nt w0 base S0 S' ρ' st3 tmps w' → Later w S ρ st.bx w' S' ρ' st3.bx → RV w' S' ρ' st3.bx av v → K (Act.put ⟨tmps, ds⟩ o.dst v) w' := by
      intro st3 av w' S' ρ' v he R3 L3 hv
      rw [put_eq]
      have R4 := R3.put' (ds := ds) o.dst hlt hnt hv
      rw [← hd, he] at R4
      refine hK2 _ w' S' ρ' ?_ ?_
      · rw [← hd]; exact R4
      · have : st2.bx = st3.bx := by rw [← he, St.put_bx]
        rw [this]; exact L3
    have called : ∀ (f : Nat) (m : Mode) (args : List AV) (vs : List Value), RVL w S ρ st.bx args vs → ((doCall F (aexec G F n) m f args st).map fun p => p.2.put i.d p.1) = some st2 →
        (execOp (Act.eval ⟨tmps, ds⟩) o).run P w = .ok (.enter f vs.toArray) w → o.wp P ⟨tmps, ds⟩ w K Q := by
      intro f m args vs hrl hdc hex
      simp only [Option.map_eq_some_iff] at hdc
      obtain ⟨⟨av, st3⟩, hdc, he⟩ := hdc
      unfold Oper.wp
      rw [hex, Oper.upon_enter]
      refine (call_sound hS hF hG hR hrl hdc).mono fun e w' ⟨u, S', ρ', heq, R3, L3, hv⟩ => ?_
      subst heq
      exact fin st3 av w' S' ρ' u he R3 L3 hv
    cases hi : i.i with
    | call f args m =>
      rw [hi] at hop
      simp only [hi, runI] at hr
      obtain ⟨c, hc1, hc2, rfl⟩ := cOp_call hop
      have hr' := hr
      simp only [Option.map_eq_some_iff] at hr'
      obtain ⟨⟨av, st3⟩, hdc, _⟩ := hr'
      obtain ⟨mf, hmf⟩ := doCall_mf hdc
      refine called f m _ _ (evalL_RVL (ds := ds) hR c.args.toList) hr ?_
      unfold execOp
      simp only [hc1, resolve, hc2, Act.eval, Deferred.ofValue, Sem.run_bind, Sem.run_pure, Result.andThen_ok, invoke, Array.append_empty, Array.empty_append]
      have e1 : c.args.map (Act.eval ⟨tmps, ds⟩) = (c.args.toList.map (Act.eval ⟨tmps, ds⟩)).toArray := by rw [← Array.toList_map, Array.toArray_toList]
      have := run_callFunc hF hmf (c.args.map (Act.eval ⟨tmps, ds⟩)) w
      rw [← e1]
      exact this
    | callv x args m =>
      rw [hi] at hop
      simp only [hi, runI] at hr
      obtain ⟨c, y, hc1, hc2, rfl, rfl⟩ := cOp_callv hop
      split at hr
      · rename_i f cap ey
        have hy := ev_RV (ds := ds) hR y
        rw [ey] at hy
        obtain ⟨vcap, evy, hcap⟩ := hy.clo_inv
        have hr' := hr
        simp only [Option.map_eq_some_iff] at hr'
        obtain ⟨⟨av, st3⟩, hdc, _⟩ := hr'
        obtain ⟨mf, hmf⟩ := doCall_mf hdc
        refine called f m _ _ ((evalL_RVL (ds := ds) hR c.args.toList).append hcap) hr ?_
        unfold execOp
        simp only [hc1, resolve, hc2, evy, Deferred.ofValue, Sem.run_bind, Sem.run_pure, Result.andThen_ok, invoke, Array.empty_append]
        have e1 : c.args.map (Act.eval ⟨tmps, ds⟩) ++ vcap.toArray = (c.args.toList.map (Act.eval ⟨tmps, ds⟩) ++ vcap).toArray := by
          apply Array.ext'; simp
        have := run_callFunc hF hmf (c.args.map (Act.eval ⟨tmps, ds⟩) ++ vcap.toArray) w
        rw [← e1]
        exact this
      · exact absurd hr (by simp)
    | _ =>
      all_goals
        rw [hi] at hop
        simp only [hi, runI, Option.map_eq_some_iff] at hr
        obtain ⟨⟨av, st3⟩, hex, he⟩ := hr
        obtain ⟨nx, v, w', S', ρ', hx, hv, R3, hrv, L3⟩ := sim_op (P := P) (ds := ds) hR hint o _ hop rfl hex
        unfold Oper.wp
        rw [hx]
        cases nx with
        | value u =>
          simp only [nxv, Option.some.injEq] at hv
          subst hv
          rw [Oper.upon_value]
          exact fin st3 av w' S' ρ' _ he R3 L3 hrv
        | skip =>
          simp only [nxv, Option.some.injEq] at hv
          subst hv
          rw [Oper.upon_skip]
          exact fin st3 av w' S' ρ' _ he R3 L3 hrv
        | _ => simp [nxv] at hv
  unfold exec1 at h
  rcases hg with ⟨h1, h2⟩ | ⟨g, want, s, h1, h2, h3, h4⟩
  · rw [h2] at h
    simp only at h
    rw [if_pos (by simp [Region.wanted, h1])]
    exact hrun st' h hK
  · rw [h4] at h
    simp only at h
    have hsl : s < tmps.size := Nat.lt_of_lt_of_le h3 hR.size
    have hy : yielded ops tmps g = match tmps[s]? with
        | some (.bool b) => some b
        | _ => none := by
      unfold yielded
      rw [h2]
      rfl
    have hts : tmps[s]? = some (tmps.getD s undef) := by
      rw [Array.getD_eq_getD_getElem?, Array.getElem?_eq_getElem hsl]; rfl
    have hrv := hR.tm s
    have skipped : st' = st.put i.d .undef → K (Act.put ⟨tmps, ds⟩ o.dst undef) w := by
      intro e
      rw [put_eq]
      have R4 := hR.put' (ds := ds) o.dst hlt hnt (RV.undef (w := w) (S := S) (ρ := ρ) (bx := st.bx))
      refine hK _ w S ρ ?_ ?_
      · rw [e, hd]; exact R4
      · rw [e, St.put_bx]; exact Later.refl
    split at h
    · rename_i b eb
      rw [eb] at hrv
      have hw : Region.wanted o (yielded ops tmps) = (b == want) := by
        simp only [Region.wanted, h1, hy, hts, hrv.bool_inv]
        cases b <;> cases want <;> rfl
      rw [hw]
      cases hbw : (b == want)
      · rw [hbw] at h
        simp only [cond_false, Option.some.injEq] at h
        rw [if_neg (by simp)]
        exact skipped h.symm
      · rw [hbw] at h
        simp only [cond_true] at h
        rw [if_pos rfl]
        exact hrun st' h hK
    · rename_i eb
      rw [eb] at hrv
      have hw : Region.wanted o (yielded ops tmps) = false := by
        simp only [Region.wanted, h1, hy, hts, hrv.undef_inv]
        rfl
      rw [hw, if_neg (by simp)]
      simp only [Option.some.injEq] at h
      exact skipped h.symm
    · exact absurd h (by simp)
end
end Go.Am
