/- Calls: a callee's frame, entered and left, in the machine's three ways. -/
import Derived.Test.YtcibofbmennjpaaAmCall
set_option linter.unusedVariables false
namespace Go.Am
open Go.RowKit

def toExit : Ex → Exit
  | .normal => .normal
  | .exit id => .exit id
  | .ret => .ret

section
variable {P : Program} {G : Nat → List AV} {F : Nat → Option MF}

/-- A function that the machine runs in one step: what it does is proved elsewhere. -/
structure Prim (P : Program) (F : Nat → Option MF) (f : Nat) (mf : MF) : Prop where
  enter : ∀ (args : Array Value) (w : World), (callFunc f args).run P w = .ok (.enter f args) w
  run : ∀ {G : Nat → List AV} {n : Nat} {w0 w : World} {base : Nat} {S0 S : Nat → Prop} {ρ : List (Nat × Nat)} {as : List AV} {bx : List Box} {args : Array Value} {st1 : St} {rs : List AV}, args.size = as.length →
    Rel G 0 w0 base S0 S ρ ⟨initTm 0 as .e, bx, 0⟩ args w → runBody (aexec G F n) mf ⟨initTm 0 as .e, bx, 0⟩ = some (st1, rs) →
    Calls P f args w fun e w' => ∃ v tmps1 S1 ρ1, e = .returned v ∧ Rel G 0 w0 base S0 S1 ρ1 st1 tmps1 w' ∧ Later w S ρ bx w' S1 ρ1 st1.bx ∧ RV w' S1 ρ1 st1.bx (tuple rs) v

/-- Every function of the table is the program's, compiled; or it is proved elsewhere. -/
def FOk (P : Program) (F : Nat → Option MF) : Prop := ∀ f mf, F f = some mf → (∃ fn H, P.funcs[f]? = some fn ∧ cFn P H fn = some mf) ∨ Prim P F f mf

/-- The machine with n rounds of fuel does what the model does. -/
structure Sound (P : Program) (G : Nat → List AV) (F : Nat → Option MF) (n : Nat) : Prop where
  main : ∀ {nt : Nat} {H : Hints} {c : Code} {mc : MC} {st : St} {e : Ex} {st' : St}, cCode P nt H c = some mc → nt < 65535 → aexec G F n mc st = some (e, st') →
    ∀ {w0 : World} {base : Nat} {S0 S : Nat → Prop} {ρ : List (Nat × Nat)} {tmps : Array Value} {ds : List Deferred} {w : World}, Rel G nt w0 base S0 S ρ st tmps w →
    ∀ {Q : Exit → Act → World → Prop}, (∀ (tmps' : Array Value) (w' : World) (S' : Nat → Prop) (ρ' : List (Nat × Nat)), Rel G nt w0 base S0 S' ρ' st' tmps' w' → Later w S ρ st.bx w' S' ρ' st'.bx → Q (toExit e) ⟨tmps', ds⟩ w') →
    c.wp P Q ⟨tmps, ds⟩ w
  loop : ∀ {nt : Nat} {H : Hints} {c : Code} {mc : MC} {st : St} {e : Ex} {st' : St}, cCode P nt H c = some mc → nt < 65535 → aexec G F n (.loop mc) st = some (e, st') →
    ∀ {w0 : World} {base : Nat} {S0 S : Nat → Prop} {ρ : List (Nat × Nat)} {tmps : Array Value} {ds : List Deferred} {w : World}, Rel G nt w0 base S0 S ρ st tmps w →
    ∀ {Q : Exit → Act → World → Prop}, (∀ (tmps' : Array Value) (w' : World) (S' : Nat → Prop) (ρ' : List (Nat × Nat)), Rel G nt w0 base S0 S' ρ' st' tmps' w' → Later w S ρ st.bx w' S' ρ' st'.bx → Q (toExit e) ⟨tmps', ds⟩ w') →
    Code.rounds P c Q n ⟨tmps, ds⟩ w

variable {n : Nat} {nt : Nat} {w0 w : World} {base : Nat} {S0 S : Nat → Prop} {ρ : List (Nat × Nat)} {st : St} {tmps : Array Value} {ds : List Deferred}

theorem cFn_inv {H : Hints} {fn : Func} {mf : MF} (h : cFn P H fn = some mf) : ∃ c m rs, fn.body = some c ∧ fn.ntmps < 65535 ∧ fn.name ≠ "runtime.NumGoroutine" ∧ cCode P fn.ntmps H c = some m ∧ fn.results.toList.mapM (cRes P) = some rs ∧ mf = ⟨m, rs⟩ := by
  unfold cFn at h
  split at h
  · exact absurd h (by simp)
  · rename_i c hc
    split at h
    · rename_i hq
      split at h
      · rename_i m rs hm hr
        exact ⟨c, m, rs, hc, hq.1, hq.2, hm, hr, (Option.some.inj h).symm⟩
      · exact absurd h (by simp)
    · exact absurd h (by simp)

/-- A BODY THAT IS ENTERED. -/
theorem body_sound (hS : Sound P G F n) {f : Nat} {fn : Func} {H : Hints} {mf : MF} (hf : P.funcs[f]? = some fn) (hc : cFn P H fn = some mf) {args : Array Value} {st1 : St} {rs : List AV}
    (hR : Rel G fn.ntmps w0 base S0 S ρ st (args ++ Array.replicate (fn.ntmps - args.size) undef) w) (h : runBody (aexec G F n) mf st = some (st1, rs)) :
    Calls P f args w fun e w' => ∃ v tmps1 S1 ρ1, e = .returned v ∧ Rel G fn.ntmps w0 base S0 S1 ρ1 st1 tmps1 w' ∧ Later w S ρ st.bx w' S1 ρ1 st1.bx ∧ RV w' S1 ρ1 st1.bx (tuple rs) v := by
  obtain ⟨c, m, rvs, hb, hnt, _, hm, hres, rfl⟩ := cFn_inv hc
  unfold runBody at h
  refine calls_of_wp hf hb ?_
  have key : ∀ e, aexec G F n m st = some (e, st1) → (e = .normal ∨ e = .ret) → rvs.mapM (rvar st1) = some rs → c.wp P (bodyPost P fn fun e w' => ∃ v tmps1 S1 ρ1, e = .returned v ∧ Rel G fn.ntmps w0 base S0 S1 ρ1 st1 tmps1 w' ∧ Later w S ρ st.bx w' S1 ρ1 st1.bx ∧ RV w' S1 ρ1 st1.bx (tuple rs) v) ⟨args ++ Array.replicate (fn.ntmps - args.size) undef, []⟩ w := by
    intro e he hn hr
    refine hS.main hm hnt he hR (fun tmps' w' S' ρ' R' L => ?_)
    obtain ⟨v, hv, hrv⟩ := results_sim (P := P) R' fn rvs hres hr
    rcases hn with rfl | rfl
    · exact ⟨rfl, v, hv, v, tmps', S', ρ', rfl, R', L, hrv⟩
    · exact ⟨rfl, v, hv, v, tmps', S', ρ', rfl, R', L, hrv⟩
  split at h
  · rename_i st2 he
    simp only [Option.map_eq_some_iff, Prod.mk.injEq] at h
    obtain ⟨rs', hr, rfl, rfl⟩ := h
    exact key _ he (.inl rfl) hr
  · rename_i st2 he
    simp only [Option.map_eq_some_iff, Prod.mk.injEq] at h
    obtain ⟨rs', hr, rfl, rfl⟩ := h
    exact key _ he (.inr rfl) hr
  · exact absurd h (by simp)

/-- A BODY THAT IS ENTERED, compiled or not. -/
theorem does (hS : Sound P G F n) (hF : FOk P F) {f : Nat} {mf : MF} (hmf : F f = some mf) :
    ∃ k, ∀ {w0 w : World} {base : Nat} {S0 S : Nat → Prop} {ρ : List (Nat × Nat)} {as : List AV} {bx : List Box} {args : Array Value} {st1 : St} {rs : List AV}, args.size = as.length →
    Rel G k w0 base S0 S ρ ⟨initTm 0 as .e, bx, 0⟩ (args ++ Array.replicate (k - args.size) undef) w → runBody (aexec G F n) mf ⟨initTm 0 as .e, bx, 0⟩ = some (st1, rs) →
    Calls P f args w fun e w' => ∃ v tmps1 S1 ρ1, e = .returned v ∧ Rel G k w0 base S0 S1 ρ1 st1 tmps1 w' ∧ Later w S ρ bx w' S1 ρ1 st1.bx ∧ RV w' S1 ρ1 st1.bx (tuple rs) v := by
  rcases hF f mf hmf with ⟨fn, H, hf, hc⟩ | hp
  · exact ⟨fn.ntmps, fun _ hR h => body_sound hS hf hc hR h⟩
  · refine ⟨0, fun hs hR h => hp.run hs ?_ h⟩
    simpa using hR

theorem replicate_size (args : Array Value) (k : Nat) : k ≤ (args ++ Array.replicate (k - args.size) undef).size := by simp; omega

/-- Is entered in a heap of its own. -/
theorem enterPure (hR : Rel G nt w0 base S0 S ρ st tmps w) (hG : ∀ g, AV.closedL (G g) = true) {T : Nat → Prop} (hT : ∀ g, S g → T g) (hTlt : ∀ g, T g → g < w.heap.size) {as : List AV} {vs : List Value} (hrl : RVL w T [] [] as vs) (k : Nat) (hk : as.length < 65535) :
    Rel G k w w.heap.size T T [] ⟨initTm 0 as .e, [], 0⟩ (vs.toArray ++ Array.replicate (k - vs.toArray.size) undef) w :=
  ⟨Below.refl _ _, Nat.le_refl _, replicate_size _ _, rfl, hTlt, fun _ h => .inl h, fun id b hb => by simp at hb, fun i j bi bj x y hi => by simp at hi, fun t => enter_tm hrl hk _ t,
    fun g => (hR.glob g).closed (by simpa [AV.closed] using hG g) T [] [] hT⟩

/-- Far away something has happened: new blocks alone; some of them are persistent. -/
theorem Rel.far (hR : Rel G nt w0 base S0 S ρ st tmps w) {w' : World} (hb : Below w.heap.size w w') {T : Nat → Prop} (hT : ∀ g, T g → (S g ∨ w.heap.size ≤ g) ∧ g < w'.heap.size) :
    Rel G nt w0 base S0 (fun g => S g ∨ T g) ρ st tmps w' ∧ Later w S ρ st.bx w' (fun g => S g ∨ T g) ρ st.bx := by
  have L : Later w S ρ st.bx w' (fun g => S g ∨ T g) ρ st.bx := ⟨fun _ h => .inl h, fun g hg => hb.block g (hR.slt g hg), hb.size, fun id b hb hf => ⟨b, hb, hf, rfl, .inl ⟨rfl, rfl⟩⟩⟩
  have hbl := hR.baseLe
  have hsz := hb.size
  refine ⟨⟨hR.below.trans (hb.mono hbl), by omega, hR.size, hR.rho, fun g hg => ?_, fun g hg => ?_, fun id b hbx hf => ?_, hR.inj, fun t => (hR.tm t).later L, fun g => (hR.glob g).later L⟩, L⟩
  · rcases hg with hg | hg
    · have := hR.slt g hg; omega
    · exact (hT g hg).2
  · rcases hg with hg | hg
    · exact hR.sbase g hg
    · rcases (hT g hg).1 with h | h
      · exact hR.sbase g h
      · exact .inr (by omega)
  · obtain ⟨g, cap, cur, ok⟩ := hR.box id b hbx hf
    have hgl : g < w.heap.size := (Array.getElem?_eq_some_iff.1 ok.heap).1
    refine ⟨g, cap, cur, ok.rho, ok.base, (hb.block g hgl).trans ok.heap, ok.size, ok.cap, ok.fits, fun j c hj => ?_, fun hl hs => ?_, fun hl => .inl (ok.frozen hl)⟩
    · obtain ⟨v, h1, h2, h3⟩ := ok.cells j c hj
      exact ⟨v, h1, h2, h3.later L⟩
    · rcases hs with hs | hs
      · exact ok.live hl hs
      · rcases (hT g hs).1 with h | h
        · exact ok.live hl h
        · omega

/-- A CALL IN A HEAP OF ITS OWN. -/
theorem pure_sound (hS : Sound P G F n) (hF : FOk P F) (hG : ∀ g, AV.closedL (G g) = true) (hR : Rel G nt w0 base S0 S ρ st tmps w) {f : Nat} {args as : List AV} {vs : List Value} (hargs : RVL w S ρ st.bx args vs)
    (hal : args.length < 65535) (hm : args.mapM (reify reifyDepth st.bx) = some as) {res : Res} {al : Bool} (h : pcall F (aexec G F n) f as = some (res, al)) (hok : (al && !AV.closedL args) = false) :
    (∀ v, res = .val v → Calls P f vs.toArray w fun e w' => ∃ u S', e = .returned u ∧ Rel G nt w0 base S0 S' ρ st tmps w' ∧ Later w S ρ st.bx w' S' ρ st.bx ∧ RV w' S' ρ st.bx v u) ∧
    (∀ k cs sz e id st', res = .own k cs sz e → st.newBox none ⟨cs, sz, e, .live⟩ = some (id, st') →
      Calls P f vs.toArray w fun e w' => ∃ u S' ρ', e = .returned u ∧ Rel G nt w0 base S0 S' ρ' st' tmps w' ∧ Later w S ρ st.bx w' S' ρ' st'.bx ∧ RV w' S' ρ' st'.bx (.own id k) u) := by
  -- the set of blocks that the callee takes for persistent
  obtain ⟨T, hST, hTlt, hrl, hTS⟩ : ∃ T : Nat → Prop, (∀ g, S g → T g) ∧ (∀ g, T g → g < w.heap.size) ∧ RVL w T [] [] as vs ∧ (al = false ∨ ∀ g, T g → S g) := by
    by_cases hcl : AV.closedL args = true
    · refine ⟨S, fun _ h => h, hR.slt, ?_, .inr fun _ h => h⟩
      rw [reifyL_closed hcl hm]
      exact closedL_RVL hargs hcl S [] [] (fun _ h => h)
    · refine ⟨fun g => S g ∨ ∃ (id : Nat) (b : Box) (cap : Nat), st.bx[id]? = some b ∧ b.status ≠ .fresh ∧ ρ[id]? = some (g, cap), fun _ h => .inl h, fun g hg => ?_, ?_, .inl ?_⟩
      · rcases hg with hg | ⟨id, b, cap, hb, hf, hr⟩
        · exact hR.slt g hg
        · obtain ⟨g2, cap2, cur2, ok⟩ := hR.box id b hb hf
          have := ok.rho
          rw [hr] at this
          simp only [Option.some.injEq, Prod.mk.injEq] at this
          obtain ⟨rfl, rfl⟩ := this
          exact (Array.getElem?_eq_some_iff.1 ok.heap).1
      · exact (reifyL_RV (bxr := st.bx) (T := fun g => S g ∨ ∃ (id : Nat) (b : Box) (cap : Nat), st.bx[id]? = some b ∧ b.status ≠ .fresh ∧ ρ[id]? = some (g, cap)) (fun _ _ h _ => h) (fun id b hb hf => by
          obtain ⟨g, cap, cur, ok⟩ := hR.box id b hb hf
          exact ⟨g, cap, cur, ok, .inr ⟨id, b, cap, hb, hf, ok.rho⟩⟩) reifyDepth hargs hm (.inr fun _ h => .inl h)).1 [] []
      · cases al
        · rfl
        · exfalso
          have : AV.closedL args = false := by simpa using hcl
          simp [this] at hok
  have hasl : as.length < 65535 := by rw [(mapM_get hm).1]; exact hal
  unfold pcall at h
  split at h
  · exact absurd h (by simp)
  rename_i mf hmf
  obtain ⟨nk, hdo⟩ := does hS hF hmf
  split at h
  · exact absurd h (by simp)
  rename_i st1 rs hrun
  have hcall := hdo (by simpa using hrl.1) (enterPure hR hG hST hTlt hrl nk hasl) hrun
  -- the callee's persistent blocks and boxes, seen from outside
  have outer : ∀ {w' : World} {S1 : Nat → Prop} {ρ1 : List (Nat × Nat)} {tmps1 : Array Value}, Rel G nk w w.heap.size T S1 ρ1 st1 tmps1 w' → ∀ g, ((S1 g ∧ al = true) ∨ ∃ (id : Nat) (b : Box) (cap : Nat), st1.bx[id]? = some b ∧ b.status ≠ .fresh ∧ ρ1[id]? = some (g, cap)) → (S g ∨ w.heap.size ≤ g) ∧ g < w'.heap.size := by
    intro w' S1 ρ1 tmps1 R1 g hg
    rcases hg with ⟨h1, h2⟩ | ⟨id, b, cap, hb, hfr, hr⟩
    · refine ⟨?_, R1.slt g h1⟩
      rcases R1.sbase g h1 with h3 | h3
      · rcases hTS with h4 | h4
        · rw [h4] at h2; cases h2
        · exact .inl (h4 g h3)
      · exact .inr h3
    · obtain ⟨g2, cap2, cur2, ok⟩ := R1.box id b hb hfr
      have := ok.rho
      rw [hr] at this
      simp only [Option.some.injEq, Prod.mk.injEq] at this
      obtain ⟨rfl, rfl⟩ := this
      exact ⟨.inr ok.base, (Array.getElem?_eq_some_iff.1 ok.heap).1⟩
  split at h
  · rename_i id k htup
    split at h
    · rename_i b hb
      split at h
      · rename_i hq
        simp only [Option.map_eq_some_iff, Prod.mk.injEq] at h
        obtain ⟨cs', hmc, rfl, rfl⟩ := h
        refine ⟨fun v hv => (by cases hv), fun k' cs sz e id' st' hres hnew => ?_⟩
        simp only [Res.own.injEq] at hres
        obtain ⟨rfl, rfl, rfl, rfl⟩ := hres
        refine hcall.mono fun e w' ⟨u, tmps1, S1, ρ1, he, R1, L1, hrv⟩ => ?_
        rw [htup] at hrv
        have hfr : b.status ≠ .fresh := by rw [hq.1]; decide
        obtain ⟨g, cap, cur, ok, rfl, hkc⟩ := own_inv R1 hrv hb hfr hq.2
        have hbw : Below w.heap.size w w' := R1.below
        -- without the box itself
        have hget : ∀ (k : Nat) (b2 : Box), (st1.bx.set id freshBox)[k]? = some b2 → b2.status ≠ .fresh → k ≠ id ∧ st1.bx[k]? = some b2 := by
          intro k b2 h1 h2
          rw [List.getElem?_set] at h1
          split at h1
          · split at h1
            · obtain rfl := Option.some.inj h1; simp [freshBox] at h2
            · cases h1
          · rename_i hne; exact ⟨fun e => hne e.symm, h1⟩
        let T2 : Nat → Prop := fun q => (S1 q ∧ b.cs.any (alias reifyDepth (st1.bx.set id freshBox)) = true) ∨ ∃ (id2 : Nat) (b2 : Box) (cap2 : Nat), id2 ≠ id ∧ st1.bx[id2]? = some b2 ∧ b2.status ≠ .fresh ∧ ρ1[id2]? = some (q, cap2)
        have hT2 : ∀ q, T2 q → (S q ∨ w.heap.size ≤ q) ∧ q < w'.heap.size := by
          intro q hq2
          refine outer R1 q ?_
          rcases hq2 with h1 | ⟨id2, b2, cap2, _, h2, h3, h4⟩
          · exact .inl h1
          · exact .inr ⟨id2, b2, cap2, h2, h3, h4⟩
        obtain ⟨R2, L2⟩ := hR.far hbw hT2
        obtain ⟨s1, s2⟩ := ok.shown
        obtain ⟨hcells, hclosed⟩ := reifyL_RV (w := w') (S := S1) (ρ := ρ1) (base := w.heap.size) (bx := st1.bx) (bxr := st1.bx.set id freshBox) (T := T2) (fun k b2 h1 h2 => (hget k b2 h1 h2).2) (fun k b2 h1 h2 => by
          obtain ⟨hne, h3⟩ := hget k b2 h1 h2
          obtain ⟨g2, cap2, cur2, ok2⟩ := R1.box k b2 h3 h2
          exact ⟨g2, cap2, cur2, ok2, .inr ⟨k, b2, cap2, hne, h3, h2, ok2.rho⟩⟩) reifyDepth s1 hmc (by
          by_cases ha : b.cs.any (alias reifyDepth (st1.bx.set id freshBox)) = true
          · exact .inr fun q hq2 => .inl ⟨hq2, ha⟩
          · exact .inl (by simpa using ha))
        have hgS : ¬ (S g ∨ T2 g) := by
          rintro (hs | ⟨hs, _⟩ | ⟨id2, b2, cap2, hne, h2, h3, h4⟩)
          · have := hR.slt g hs; have := ok.base; omega
          · exact ok.live hq.1 hs
          · exact R1.inj id2 id b2 b _ _ h2 hb h3 hfr h4 ok.rho hne rfl
        have hcl := hclosed
        have hlen : cs'.length = b.cs.length := (mapM_get hmc).1
        obtain ⟨ρ', R3, L3, hb3, hr3⟩ := R2.newBoxG (w' := w') (g := g) (cur := cur) (cap := cap) hnew rfl (Nat.le_trans hR.baseLe ok.base) hgS (fun k b2 x hb2 hf2 hx e => by
            obtain ⟨g2, cap2, cur2, ok2⟩ := hR.box k b2 hb2 hf2
            rw [ok2.rho] at hx
            obtain rfl := Option.some.inj hx
            have := (Array.getElem?_eq_some_iff.1 ok2.heap).1
            have := ok.base
            simp at e
            omega) rfl rfl rfl (Nat.le_refl _) (fun k hk => rfl) ok.heap ok.size ok.cap (by simp only; rw [hlen]; exact ok.fits) (fun j c hj => by
            obtain ⟨u, hu, hru⟩ := (hcells ρ st.bx).get hj
            have hjl : j < b.cs.length := by rw [← hlen]; exact (List.getElem?_eq_some_iff.1 hj).1
            obtain ⟨u', hu', h1', _⟩ := ok.cells j _ (List.getElem?_eq_getElem hjl)
            rw [List.getElem?_take, if_pos hjl] at hu
            simp only [Array.getElem?_toList] at hu
            rw [hu] at hu'
            obtain rfl := Option.some.inj hu'
            exact ⟨u, hu, h1', hru.closed (closedL_get hcl hj) _ _ _ (fun _ h => .inr h)⟩)
        refine ⟨_, _, ρ', he, R3, L2.trans L3, ?_⟩
        exact .own _ _ _ _ hb3 (by simp) (by simp only; rw [hlen, hq.2]; exact Nat.le_refl _) rfl (fun _ => ⟨_, _, hr3, rfl, hkc⟩)
      · exact absurd h (by simp)
    · exact absurd h (by simp)
  · simp only [Option.map_eq_some_iff, Prod.mk.injEq] at h
    obtain ⟨r, hr, rfl, rfl⟩ := h
    refine ⟨fun v hv => ?_, fun k' cs sz e id' st' hres => (by cases hres)⟩
    simp only [Res.val.injEq] at hv
    subst hv
    refine hcall.mono fun e w' ⟨u, tmps1, S1, ρ1, he, R1, L1, hrv⟩ => ?_
    have hbw : Below w.heap.size w w' := R1.below
    obtain ⟨R2, L2⟩ := hR.far hbw (outer R1)
    obtain ⟨hval, _⟩ := reify_RV (bxr := st1.bx) (base := w.heap.size) (T := fun g => (S1 g ∧ alias reifyDepth st1.bx (tuple rs) = true) ∨ ∃ (id : Nat) (b : Box) (cap : Nat), st1.bx[id]? = some b ∧ b.status ≠ .fresh ∧ ρ1[id]? = some (g, cap)) (fun _ _ h _ => h) (fun id b hb hf => by
      obtain ⟨g, cap, cur, ok⟩ := R1.box id b hb hf
      exact ⟨g, cap, cur, ok, .inr ⟨id, b, cap, hb, hf, ok.rho⟩⟩) reifyDepth (tuple rs) u r hrv hr (by
      by_cases ha : alias reifyDepth st1.bx (tuple rs) = true
      · exact .inr fun q hq2 => .inl ⟨hq2, ha⟩
      · exact .inl (by simpa using ha))
    have hcl : r.closed = true := (reify_RV (bxr := st1.bx) (base := w.heap.size) (T := fun g => S1 g ∨ ∃ (id : Nat) (b : Box) (cap : Nat), st1.bx[id]? = some b ∧ b.status ≠ .fresh ∧ ρ1[id]? = some (g, cap)) (fun _ _ h _ => h) (fun id b hb hf => by
      obtain ⟨g, cap, cur, ok⟩ := R1.box id b hb hf
      exact ⟨g, cap, cur, ok, .inr ⟨id, b, cap, hb, hf, ok.rho⟩⟩) reifyDepth (tuple rs) u r hrv hr (.inr fun _ h => .inl h)).2
    exact ⟨u, _, he, R2, L2, (hval ρ st.bx).closed hcl _ _ _ (fun _ h => .inr h)⟩
end
end Go.Am
