/- Each instruction without a call does what the machine says: all of them, as compiled. -/
import Derived.Test.YtcibofbmennjpaaAmOps5
set_option linter.unusedVariables false
namespace Go.Am
open Go.RowKit

section
variable {P : Program} {G : Nat → List AV} {nt : Nat} {w0 w : World} {base : Nat} {S0 S : Nat → Prop} {ρ : List (Nat × Nat)} {st : St} {tmps : Array Value} {ds : List Deferred}

def MI.isCall : MI → Bool
  | .call _ _ _ | .callv _ _ _ => true
  | _ => false

theorem sim_max2 (hR : Rel G nt w0 base S0 S ρ st tmps w) (ts : Array TypeId) (ty : TypeId) (x y : Operand) {av : AV} {st' : St} (h : exI G (.max2 (cR x) (cR y)) st = some (av, st')) :
    Sim P G nt w0 base S0 S ρ st tmps w (do pure (.value (← Builtin.max_ ts ty #[Act.eval ⟨tmps, ds⟩ x, Act.eval ⟨tmps, ds⟩ y]))) av st' := by
  simp only [exI] at h
  have hx := ev_RV (ds := ds) hR x
  have hy := ev_RV (ds := ds) hR y
  generalize Act.eval ⟨tmps, ds⟩ x = vx at hx ⊢
  generalize Act.eval ⟨tmps, ds⟩ y = vy at hy ⊢
  split at h
  · rename_i a b e1 e2
    rw [e1] at hx
    rw [e2] at hy
    obtain rfl := hx.int_inv
    obtain rfl := hy.int_inv
    simp only [Option.some.injEq, Prod.mk.injEq] at h
    obtain ⟨rfl, rfl⟩ := h
    refine sim_same (v := .int .i64 (if b > a then b else a)) hR ?_ (.int _ _)
    by_cases hba : b > a <;> simp [Builtin.max_, Builtin.max2, hba]
  · exact absurd h (by simp)

/-- A builtin's call. -/
theorem run_builtin (o : Oper) (c : Call) (b : Builtin) (ho : o.op = .call c) (hc : c.callee = .builtin b) :
    execOp (Act.eval ⟨tmps, ds⟩) o = builtin b c.argTypes o.type (c.args.map fun | .const _ => true | _ => false) (c.args.map (Act.eval ⟨tmps, ds⟩)) := by
  unfold execOp
  simp only [ho, resolve, hc]
  rfl

theorem builtin1 (b : Builtin) (ts : Array TypeId) (ty : TypeId) (cs : Array Bool) (f : Array TypeId → TypeId → Array Value → Sem Value) (hb : ∀ vs, builtin b ts ty cs vs = (do pure (.value (← f ts ty vs)))) (x : Operand) :
    builtin b ts ty cs (#[x].map (Act.eval ⟨tmps, ds⟩)) = (do pure (.value (← f ts ty #[Act.eval ⟨tmps, ds⟩ x]))) := by
  rw [hb]; simp
theorem builtin2 (b : Builtin) (ts : Array TypeId) (ty : TypeId) (cs : Array Bool) (f : Array TypeId → TypeId → Array Value → Sem Value) (hb : ∀ vs, builtin b ts ty cs vs = (do pure (.value (← f ts ty vs)))) (x y : Operand) :
    builtin b ts ty cs (#[x, y].map (Act.eval ⟨tmps, ds⟩)) = (do pure (.value (← f ts ty #[Act.eval ⟨tmps, ds⟩ x, Act.eval ⟨tmps, ds⟩ y]))) := by
  rw [hb]; simp

theorem array2 {α : Type} {a : Array α} {x y : α} (h : a.toList = [x, y]) : a = #[x, y] := by
  apply Array.ext'; simpa using h
theorem array1 {α : Type} {a : Array α} {x : α} (h : a.toList = [x]) : a = #[x] := by
  apply Array.ext'; simpa using h

theorem sim_op (hR : Rel G nt w0 base S0 S ρ st tmps w) (hint : Hint) (o : Oper) (mi : MI) (hc : cOp P hint o = some mi) (hcall : mi.isCall = false) {av : AV} {st' : St} (h : exI G mi st = some (av, st')) :
    Sim P G nt w0 base S0 S ρ st tmps w (execOp (Act.eval ⟨tmps, ds⟩) o) av st' := by
  unfold cOp at hc
  simp only [oneCells_eq] at hc
  split at hc
  · rename_i x e
    obtain rfl := Option.some.inj hc
    unfold execOp; rw [e]; exact sim_mov hR x h
  · rename_i x e
    obtain rfl := Option.some.inj hc
    unfold execOp; rw [e]; exact sim_mov hR x h
  · rename_i x e
    obtain rfl := Option.some.inj hc
    exact sim_nilc hR o x e h
  · rename_i c a b e
    obtain rfl := Option.some.inj hc
    unfold execOp; rw [e]; exact sim_pick hR c a b h
  · rename_i op xt x y yt e
    split at hc
    · obtain rfl := Option.some.inj hc
      unfold execOp; rw [e]; exact sim_bin hR op xt x y h
    · rename_i ht
      split at hc
      · obtain rfl := Option.some.inj hc
        unfold execOp; rw [e]; exact sim_eqb hR xt ht false .eql rfl x y h
      · obtain rfl := Option.some.inj hc
        unfold execOp; rw [e]; exact sim_eqb hR xt ht true .neq rfl x y h
      · exact absurd hc (by simp)
    · exact absurd hc (by simp)
  · rename_i t x e
    obtain rfl := Option.some.inj hc
    unfold execOp; rw [e]; exact sim_not hR x h
  · rename_i s d x e
    split at hc
    · rename_i ks k hs hd
      obtain rfl := Option.some.inj hc
      unfold execOp; rw [e]; exact sim_conv hR s d ks k hs hd x h
    · exact absurd hc (by simp)
  · rename_i t x e
    split at hc
    · rename_i d i hd hi
      split at hc
      · rename_i hda
        obtain rfl := Option.some.inj hc
        unfold execOp; rw [e]; exact sim_ldn hR t d i hd hi hda x h
      · rename_i hda
        obtain rfl := Option.some.inj hc
        unfold execOp; rw [e]; exact sim_ld1 hR t d hd (by simpa using hda) x h
    · exact absurd hc (by simp)
  · rename_i t x v e
    split at hc
    · rename_i d i hd hi
      split at hc
      · obtain rfl := Option.some.inj hc
        unfold execOp; rw [e]; exact sim_stn hR t i hi x v h
      · split at hc
        · rename_i h1
          obtain rfl := Option.some.inj hc
          unfold execOp; rw [e]; exact sim_st1 hR t i hi h1 x v h
        · exact absurd hc (by simp)
    · exact absurd hc (by simp)
  · rename_i e' e
    split at hc
    · rename_i i hi
      split at hc
      · rename_i z hz
        split at hc
        · rename_i h1
          obtain rfl := Option.some.inj hc
          unfold execOp; rw [e]; exact sim_new hR e' i z hi hz h1 _ h
        · exact absurd hc (by simp)
      · exact absurd hc (by simp)
    · exact absurd hc (by simp)
  · rename_i e' x e
    split at hc
    · rename_i i hi
      obtain rfl := Option.some.inj hc
      unfold execOp; rw [e]; exact sim_box hR e' i hi _ x h
    · exact absurd hc (by simp)
  · rename_i t ps e
    split at hc
    · rename_i fs i ht hi
      split at hc
      · rename_i z pl hz hpl
        split at hc
        · rename_i h1
          simp only [Option.map_eq_some_iff] at hc
          obtain ⟨ps', hps, rfl⟩ := hc
          unfold execOp; rw [e]; exact sim_bld_struct hR t fs i z pl ht hi hz hpl h1 ps ps' hps h
        · exact absurd hc (by simp)
      · exact absurd hc (by simp)
    · rename_i n e' i ht hi
      split at hc
      · rename_i z ie hz hie
        split at hc
        · rename_i h1
          simp only [Option.map_eq_some_iff] at hc
          obtain ⟨ps', hps, rfl⟩ := hc
          unfold execOp; rw [e]; exact sim_bld_array hR t e' n i ie z ht hi hz hie h1 ps ps' hps h
        · exact absurd hc (by simp)
      · exact absurd hc (by simp)
    · exact absurd hc (by simp)
  · rename_i t len ps e
    split at hc
    · rename_i e' ht
      split at hc
      · rename_i i hi
        split at hc
        · rename_i z hz
          split at hc
          · rename_i hq
            simp only [Option.map_eq_some_iff] at hc
            obtain ⟨ps', hps, rfl⟩ := hc
            unfold execOp; rw [e]; exact sim_blds hR t e' i z ht hi hz hq.1 hq.2.1 _ _ len hq.2.2.1 hq.2.2.2 ps ps' hps h
          · exact absurd hc (by simp)
        · exact absurd hc (by simp)
      · exact absurd hc (by simp)
    · exact absurd hc (by simp)
  · rename_i s x f e
    split at hc
    · rename_i fs hs
      split at hc
      · rename_i fd hf
        split at hc
        · rename_i i hi
          split at hc
          · exact absurd hc (by simp)
          · rename_i h0
            obtain rfl := Option.some.inj hc
            unfold execOp; rw [e]; exact sim_faddr hR s fs f fd i hs hf hi h0 x h
        · exact absurd hc (by simp)
      · exact absurd hc (by simp)
    · exact absurd hc (by simp)
  · rename_i t x i e
    split at hc
    · rename_i e' ht
      split at hc
      · rename_i ie hie
        obtain rfl := Option.some.inj hc
        unfold execOp; rw [e]; exact sim_iaddr hR t e' ie ht hie x i h
      · exact absurd hc (by simp)
    · rename_i len e' ht
      split at hc
      · rename_i ie hie
        obtain rfl := Option.some.inj hc
        unfold execOp; rw [e]; exact sim_aaddr hR t e' len ie ht hie x i h
      · exact absurd hc (by simp)
    · exact absurd hc (by simp)
  · rename_i t x f e
    split at hc
    · rename_i fs ht
      split at hc
      · rename_i fd hf
        split at hc
        · rename_i d i hd hi
          split at hc
          · rename_i hda
            obtain rfl := Option.some.inj hc
            unfold execOp; rw [e]; exact sim_fldn hR t fs f fd d i ht hf hd hda hi x h
          · rename_i hda
            obtain rfl := Option.some.inj hc
            unfold execOp; rw [e]; exact sim_fld1 hR t fs f fd d ht hf hd (by simpa using hda) x h
        · exact absurd hc (by simp)
      · exact absurd hc (by simp)
    · exact absurd hc (by simp)
  · rename_i t x i e
    split at hc
    · rename_i len e' ht
      split at hc
      · rename_i d ie hd hie
        split at hc
        · rename_i hda
          obtain rfl := Option.some.inj hc
          unfold execOp; rw [e]; exact sim_idxn hR t e' len d ie ht hd hda hie x i h
        · rename_i hda
          split at hc
          · rename_i h1
            obtain rfl := Option.some.inj hc
            unfold execOp; rw [e]; exact sim_idx1 hR t e' len d ie ht hd (by simpa using hda) hie h1 x i h
          · exact absurd hc (by simp)
      · exact absurd hc (by simp)
    · exact absurd hc (by simp)
  · rename_i t i e
    obtain rfl := Option.some.inj hc
    unfold execOp; rw [e]; exact sim_ext hR t i h
  · rename_i f first cap e
    split at hc
    · rename_i h0
      obtain rfl := Option.some.inj hc
      have hfirst : first = #[] := Array.eq_empty_of_size_eq_zero h0
      subst hfirst
      unfold execOp; rw [e]
      have := sim_fn (P := P) (ds := ds) hR f cap h
      simpa only [Array.map_empty] using this
    · exact absurd hc (by simp)
  · rename_i t l c e
    split at hc
    · rename_i e' ht
      split at hc
      · rename_i i hi
        split at hc
        · rename_i z hz
          split at hc
          · rename_i hq
            obtain rfl := Option.some.inj hc
            unfold execOp; rw [e]; exact sim_mk hR t e' i z ht hi hz hq.1 hq.2.1 hq.2.2 _ l c h
          · exact absurd hc (by simp)
        · exact absurd hc (by simp)
      · exact absurd hc (by simp)
    · exact absurd hc (by simp)
  · rename_i t x lo hi' e
    split at hc
    · rename_i e' ht
      split at hc
      · rename_i i hi
        obtain rfl := Option.some.inj hc
        unfold execOp; rw [e]; exact sim_slc hR t e' i ht hi x lo hi' h
      · exact absurd hc (by simp)
    · rename_i n e' ht
      split at hc
      · rename_i i hi
        obtain rfl := Option.some.inj hc
        unfold execOp; rw [e]; exact sim_slca hR t e' n i ht hi x lo hi' h
      · exact absurd hc (by simp)
    · exact absurd hc (by simp)
  · rename_i c e
    split at hc
    · rename_i hb
      rw [run_builtin o c .len e hb]
      split at hc
      · rename_i t x ht' hx'
        split at hc
        · rename_i e' ht
          obtain rfl := Option.some.inj hc
          rw [array1 ht', array1 hx', builtin1 .len _ _ _ Builtin.len_ (fun _ => rfl)]
          exact sim_len hR t o.type e' ht x h
        · rename_i n e' ht
          obtain rfl := Option.some.inj hc
          rw [array1 ht', array1 hx', builtin1 .len _ _ _ Builtin.len_ (fun _ => rfl)]
          exact sim_alen hR t o.type n e' ht _ h
        · exact absurd hc (by simp)
      · exact absurd hc (by simp)
    · rename_i hb
      rw [run_builtin o c .append e hb]
      split at hc
      · rename_i t t' s x ht' hx'
        split at hc
        · rename_i htt
          subst htt
          split at hc
          · rename_i e' ht
            split at hc
            · rename_i i hi
              split at hc
              · rename_i z hz
                split at hc
                · rename_i hq
                  obtain rfl := Option.some.inj hc
                  rw [array2 ht', array2 hx', builtin2 .append _ _ _ Builtin.append_ (fun _ => rfl)]
                  exact sim_app hR t o.type e' i z ht hi hz hq.1 hq.2 _ s x h
                · exact absurd hc (by simp)
              · exact absurd hc (by simp)
            · exact absurd hc (by simp)
          · exact absurd hc (by simp)
        · exact absurd hc (by simp)
      · exact absurd hc (by simp)
    · rename_i hb
      rw [run_builtin o c .min e hb]
      split at hc
      · rename_i x y hx'
        obtain rfl := Option.some.inj hc
        rw [array2 hx', builtin2 .min _ _ _ Builtin.min_ (fun _ => rfl)]
        exact sim_min2 hR c.argTypes o.type x y h
      · exact absurd hc (by simp)
    · rename_i hb
      rw [run_builtin o c .max e hb]
      split at hc
      · rename_i x y hx'
        obtain rfl := Option.some.inj hc
        rw [array2 hx', builtin2 .max _ _ _ Builtin.max_ (fun _ => rfl)]
        exact sim_max2 hR c.argTypes o.type x y h
      · exact absurd hc (by simp)
    · obtain rfl := Option.some.inj hc
      simp [MI.isCall] at hcall
    · obtain rfl := Option.some.inj hc
      simp [MI.isCall] at hcall
    · exact absurd hc (by simp)
  · exact absurd hc (by simp)
end
end Go.Am
