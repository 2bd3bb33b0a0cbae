/- Instructions that keep out of one another's way change places. -/
import Derived.Test.YtcibofbmennjpaaAmFoot2
set_option linter.unusedVariables false
namespace Go.Am

section
variable {G : Nat → List AV} {F : Nat → Option MF} {rec : MC → St → Option (Ex × St)}

theorem runI_cases (G : Nat → List AV) (F : Nat → Option MF) (rec : MC → St → Option (Ex × St)) (mi : MI) : (∃ f a m, mi = .call f a m) ∨ (∃ x a m, mi = .callv x a m) ∨ runI G F rec mi = exI G mi := by
  cases mi with
  | call f a m => exact .inl ⟨f, a, m, rfl⟩
  | callv x a m => exact .inr (.inl ⟨x, a, m, rfl⟩)
  | _ => exact .inr (.inr rfl)

theorem runI_frame {mi : MI} {st : St} {v : AV} {st' : St} (h : runI G F rec mi st = some (v, st')) : Frame (runIv G F rec mi) (fpI G mi st) st v st'.bx := by
  have hv : runIv G F rec mi st = some (v, st'.bx) := by unfold runIv; rw [h]; rfl
  rcases runI_cases G F rec mi with ⟨f, args, m, rfl⟩ | ⟨x, args, m, rfl⟩ | e
  · refine Frame.whole hv ?_
    cases m with
    | pure => exact .inl rfl
    | shared => exact .inl rfl
    | pureV => exact .inr ⟨rfl, congrArg St.bx (runI_reads (by rfl) h)⟩
    | quiet => exact .inr ⟨rfl, congrArg St.bx (runI_reads (by rfl) h)⟩
  · refine Frame.whole hv ?_
    cases m with
    | pure => exact .inl rfl
    | shared => exact .inl rfl
    | pureV => exact .inr ⟨rfl, congrArg St.bx (runI_reads (by rfl) h)⟩
    | quiet => exact .inr ⟨rfl, congrArg St.bx (runI_reads (by rfl) h)⟩
  · have ef : runIv G F rec mi = exIv G mi := by funext s; unfold runIv exIv; rw [e]
    rw [e] at h
    rw [ef]
    exact exI_frame h

theorem Frame.still {f : St → Option (AV × List Box)} {fp : Fp} {st : St} {v : AV} (h : ∀ bx2, bx2.length = st.bx.length → (∀ k, In fp.r k ∨ In fp.w k → bx2[k]? = st.bx[k]?) → f { st with bx := bx2 } = some (v, bx2)) : Frame f fp st v st.bx :=
  ⟨fun _ _ => rfl, fun _ => rfl, fun bx2 hl ha => ⟨bx2, h bx2 hl ha, fun k hk => ha k (.inr hk), fun _ _ => rfl⟩⟩

theorem exec1v_frame {i : I} {st : St} {v : AV} {bx : List Box} (h : exec1v G F rec i st = some (v, bx)) : Frame (exec1v G F rec i) (fpI G i.i st) st v bx := by
  have hrun : ∀ {v : AV} {bx : List Box}, ((runI G F rec i.i st).map fun p => (p.1, p.2.bx)) = some (v, bx) → Frame (runIv G F rec i.i) (fpI G i.i st) st v bx := by
    intro v bx h
    obtain ⟨⟨u, st'⟩, hr, he⟩ := Option.map_eq_some_iff.1 h
    obtain ⟨rfl, rfl⟩ := Prod.mk.inj he
    exact runI_frame hr
  cases hg : i.g with
  | none =>
    have e : exec1v G F rec i = runIv G F rec i.i := by funext s; unfold exec1v runIv; rw [hg]
    rw [e] at h ⊢
    exact hrun h
  | some g =>
    obtain ⟨t, want⟩ := g
    have e : ∀ bx2, exec1v G F rec i { st with bx := bx2 } = match st.tm.get t with
        | .bool b => bif b == want then runIv G F rec i.i { st with bx := bx2 } else some (.undef, bx2)
        | .undef => some (.undef, bx2)
        | _ => none := fun bx2 => by
      unfold exec1v runIv; rw [hg]; simp only; cases st.tm.get t <;> rfl
    have e0 := e st.bx
    have hst : ({ st with bx := st.bx } : St) = st := rfl
    rw [hst, h] at e0
    split at e0
    · rename_i b hb
      cases hw : (b == want) with
      | true =>
        rw [hw] at e0
        have hf := hrun (v := v) (bx := bx) (by rw [cond_true] at e0; exact e0.symm)
        refine ⟨hf.out, hf.len, fun bx2 hl ha => ?_⟩
        obtain ⟨bx2', h1, h2, h3⟩ := hf.same bx2 hl ha
        exact ⟨bx2', by rw [e bx2, hb]; simp only [hw, cond_true]; exact h1, h2, h3⟩
      | false =>
        rw [hw, cond_false] at e0
        obtain ⟨rfl, rfl⟩ := Prod.mk.inj (Option.some.inj e0)
        exact Frame.still fun bx2 _ _ => by rw [e bx2, hb]; simp only [hw, cond_false]
    · rename_i hb
      obtain ⟨rfl, rfl⟩ := Prod.mk.inj (Option.some.inj e0)
      exact Frame.still fun bx2 _ _ => by rw [e bx2, hb]
    · cases e0

theorem fpI_congr {mi : MI} {st st2 : St} (hr : st.rb = st2.rb) (he : ∀ r ∈ mi.reads, st.ev G r = st2.ev G r) : fpI G mi st = fpI G mi st2 := by
  have hj : ∀ j, jw st j = jw st2 j := fun j => by unfold jw; rw [hr]
  cases mi with
  | app j e sz b s x => simp only [MI.reads, List.mem_cons, List.not_mem_nil, or_false, forall_eq_or_imp, forall_eq] at he; simp only [fpI, he.1, he.2, hj]
  | slc sz x lo hi => simp only [fpI, he x (by simp [MI.reads])]
  | slca n sz x lo hi => simp only [fpI, he x (by simp [MI.reads])]
  | call f args m => cases m <;> rfl
  | callv x args m => cases m <;> rfl
  | blds j own e sz len z ps => simp only [fpI, hj]
  | new j e cs => simp only [fpI, hj]
  | box j e sz x => simp only [fpI, hj]
  | mk j e sz b z l c => simp only [fpI, hj]
  | ld1 x => simp only [fpI, he x (by simp [MI.reads])]
  | ldn n x => simp only [fpI, he x (by simp [MI.reads])]
  | nilc x => simp only [fpI, he x (by simp [MI.reads])]
  | faddr n x => simp only [fpI, he x (by simp [MI.reads])]
  | iaddr n x i => simp only [fpI, he x (by simp [MI.reads])]
  | aaddr n s x i => simp only [fpI, he x (by simp [MI.reads])]
  | len x => simp only [fpI, he x (by simp [MI.reads])]
  | st1 x v => simp only [fpI, he x (by simp [MI.reads])]
  | stn n x v => simp only [fpI, he x (by simp [MI.reads])]
  | _ => rfl

/-- Boxes: two frames that keep apart change places. -/
theorem frames_swap {f g : St → Option (AV × List Box)} {x y : Fp} (hap : x.apart y = true) {st : St} {vx vy : AV} {bx1 bx2 : List Box} (hx : Frame f x st vx bx1) (hy : Frame g y { st with bx := bx1 } vy bx2)
    (hy0 : g { st with bx := bx1 } = some (vy, bx2)) (hx0 : f st = some (vx, bx1)) :
    ∃ bxy, g st = some (vy, bxy) ∧ f { st with bx := bxy } = some (vx, bx2) := by
  unfold Fp.apart at hap
  simp only [Bool.and_eq_true, Bool.not_eq_true'] at hap
  obtain ⟨⟨⟨⟨hxs, hys⟩, h1⟩, h2⟩, h3⟩ := hap
  have a1 := hit_spec h1
  have a2 := hit_spec h2
  have a3 := hit_spec h3
  have hl1 := hx.len (Option.isSome_iff_exists.1 hxs)
  -- y where x has not been
  obtain ⟨bxy, g1, g2, g3⟩ := hy.same st.bx hl1.symm (fun k hk => (hx.out k (by
    rcases hk with hk | hk
    · exact fun hw => a1 k ⟨hw, hk⟩
    · exact fun hw => a2 k ⟨hw, hk⟩)).symm)
  have g1' : g st = some (vy, bxy) := g1
  have hly : bxy.length = st.bx.length := by
    obtain ⟨l, hl⟩ := Option.isSome_iff_exists.1 hys
    exact (List.ext_getElem? (l₁ := bxy.map fun _ => ()) (l₂ := st.bx.map fun _ => ()) fun k => by
      rw [List.getElem?_map, List.getElem?_map]
      by_cases hk : In y.w k
      · have hy2 := hy.len ⟨l, hl⟩
        rw [g2 k hk]
        by_cases hlt : k < st.bx.length
        · rw [List.getElem?_eq_getElem (show k < bx2.length by rw [hy2]; simp only; omega), List.getElem?_eq_getElem hlt]; rfl
        · rw [List.getElem?_eq_none (show bx2.length ≤ k by rw [hy2]; simp only; omega), List.getElem?_eq_none (by omega)]
      · rw [g3 k hk]) |> fun e => by simpa using congrArg List.length e
  obtain ⟨bx', f1, f2, f3⟩ := hx.same bxy hly (fun k hk => g3 k (by
    rcases hk with hk | hk
    · exact fun hw => a3 k ⟨hk, hw⟩
    · exact fun hw => a2 k ⟨hk, hw⟩))
  refine ⟨bxy, g1', ?_⟩
  have : bx' = bx2 := List.ext_getElem? fun k => by
    by_cases hk : In x.w k
    · rw [f2 k hk]
      exact (hy.out k (fun hw => a2 k ⟨hk, hw⟩)).symm
    · rw [f3 k hk]
      by_cases hk2 : In y.w k
      · exact g2 k hk2
      · rw [g3 k hk2, hy.out k hk2]
        exact (hx.out k hk).symm
  rw [← this]
  exact f1

/-- TWO INSTRUCTIONS CHANGE PLACES. -/
theorem swap {x y : I} {st st1 st2 : St} (hx : ∀ k, x.d = some k → k < 65535) (hy : ∀ k, y.d = some k → k < 65535) (hf : slotFree x y = true) (hc : clsFree x y = true ∨ (fpI G x.i st).apart (fpI G y.i st1) = true)
    (h1 : exec1 G F rec x st = some st1) (h2 : exec1 G F rec y st1 = some st2) :
    ∃ st1', exec1 G F rec y st = some st1' ∧ exec1 G F rec x st1' = some st2 ∧ fpI G y.i st = fpI G y.i st1 ∧ fpI G x.i st1' = fpI G x.i st := by
  unfold slotFree at hf
  simp only [Bool.and_eq_true] at hf
  obtain ⟨hxy, hyx⟩ := hf
  have nx : ∀ s ∈ y.slots, ∀ k, x.d = some k → k ≠ s := by
    intro s hs k hk e
    subst e
    rw [hk] at hxy
    simp [hs] at hxy
  have nd : ∀ k, x.d = some k → y.d ≠ some k := by
    intro k hk e
    rw [hk] at hxy
    simp [e] at hxy
  have ny : ∀ s ∈ x.slots, ∀ k, y.d = some k → k ≠ s := by
    intro s hs k hk e
    subst e
    rw [hk] at hyx
    simp [hs] at hyx
  rw [exec1_eq] at h1
  obtain ⟨⟨vx, bx1⟩, ex, rfl⟩ := Option.map_eq_some_iff.1 h1
  rw [exec1_eq] at h2
  obtain ⟨⟨vy, bx2⟩, ey, rfl⟩ := Option.map_eq_some_iff.1 h2
  simp only at ey hc ⊢
  have put_bx : ∀ (s : St) (d : Option Nat) (v : AV), (s.put d v).bx = s.bx := fun s d v => by cases d <;> rfl
  have put_rb : ∀ (s : St) (d : Option Nat) (v : AV), (s.put d v).rb = s.rb := fun s d v => by cases d <;> rfl
  have inslots : ∀ (i : I) (r : R), r ∈ i.i.reads → ∀ s ∈ r.slots, s ∈ i.slots := fun i r hr s hs => by
    unfold I.slots
    exact List.mem_append_left _ (List.mem_flatMap.2 ⟨r, hr, hs⟩)
  have evy : ∀ r ∈ y.i.reads, St.ev G (({ st with bx := bx1 } : St).put x.d vx) r = st.ev G r := fun r hr =>
    (ev_congr (st := ({ st with bx := bx1 } : St).put x.d vx) (st2 := st) fun s hs => St.put_tm { st with bx := bx1 } x.d vx hx s (nx s (inslots y r hr s hs)))
  have fpy : fpI G y.i (({ st with bx := bx1 } : St).put x.d vx) = fpI G y.i st := fpI_congr (put_rb _ _ _) evy
  have ey' : exec1v G F rec y { st with bx := bx1 } = some (vy, bx2) := by
    rw [← ey]
    exact exec1v_congr (put_bx _ _ _).symm (put_rb _ _ _).symm fun s hs => (St.put_tm { st with bx := bx1 } x.d vx hx s (nx s hs)).symm
  -- the boxes
  have main : ∃ bxy, exec1v G F rec y st = some (vy, bxy) ∧ exec1v G F rec x { st with bx := bxy } = some (vx, bx2) := by
    rcases hc with hc | hc
    · unfold clsFree at hc
      split at hc
      · rename_i hn
        have e := exec1v_reads (.inr hn) ex
        subst e
        exact ⟨bx2, ey', exec1v_none hn ex bx2⟩
      · rename_i hn _
        have e := exec1v_reads (.inr hn) ey'
        subst e
        exact ⟨st.bx, exec1v_none hn ey' st.bx, ex⟩
      · rename_i hr1 hr2
        have e := exec1v_reads (.inl hr1) ex
        subst e
        have e2 := exec1v_reads (.inl hr2) ey'
        subst e2
        exact ⟨st.bx, ey', ex⟩
      · cases hc
    · rw [fpy] at hc
      have hfy := exec1v_frame ey'
      have : fpI G y.i { st with bx := bx1 } = fpI G y.i st := fpI_congr rfl fun r _ => ev_bx st bx1 r
      rw [this] at hfy
      exact frames_swap hc (exec1v_frame ex) hfy ey' ex
  obtain ⟨bxy, my, mx⟩ := main
  have evx : ∀ r ∈ x.i.reads, St.ev G (({ st with bx := bxy } : St).put y.d vy) r = st.ev G r := fun r hr =>
    (ev_congr (st := ({ st with bx := bxy } : St).put y.d vy) (st2 := st) fun s hs => St.put_tm { st with bx := bxy } y.d vy hy s (ny s (inslots x r hr s hs)))
  refine ⟨({ st with bx := bxy } : St).put y.d vy, by rw [exec1_eq, my]; rfl, ?_, fpy.symm, fpI_congr (put_rb _ _ _) evx⟩
  rw [exec1_eq]
  have : exec1v G F rec x (({ st with bx := bxy } : St).put y.d vy) = some (vx, bx2) := by
    rw [← mx]
    exact exec1v_congr (put_bx _ _ _) (put_rb _ _ _) fun s hs => St.put_tm { st with bx := bxy } y.d vy hy s (ny s hs)
  rw [this]
  simp only [Option.map_some, Option.some.injEq]
  cases hxd : x.d with
  | none => cases y.d <;> rfl
  | some a =>
    cases hyd : y.d with
    | none => rfl
    | some b =>
      have hab : a ≠ b := fun e => nd a hxd (e ▸ hyd)
      simp only [St.put]
      rw [Tm.set_comm st.tm a b vx vy hab]

/-- Instructions by their places; what each reads and writes is 'T'. -/
inductive Run (G : Nat → List AV) (F : Nat → Option MF) (rec : MC → St → Option (Ex × St)) (l : List I) (T : Nat → Fp) : List Nat → St → St → Prop where
  | nil (st : St) : Run G F rec l T [] st st
  | cons (k : Nat) (ks : List Nat) (i : I) (st st1 st' : St) (hi : l[k]? = some i) (h : exec1 G F rec i st = some st1) (hf : fpI G i.i st = T k) (hr : Run G F rec l T ks st1 st') : Run G F rec l T (k :: ks) st st'

/-- ONE OF THEM COMES FIRST. -/
theorem Run.front {l : List I} {T : Nat → Fp} (hd : ∀ (k : Nat) (i : I), l[k]? = some i → ∀ d, i.d = some d → d < 65535) {i : Nat} {q : List Nat} : ∀ (p : List Nat) (st st' : St),
    (∀ j ∈ p, ∃ x y, l[j]? = some x ∧ l[i]? = some y ∧ slotFree x y = true ∧ (clsFree x y = true ∨ (T j).apart (T i) = true)) → Run G F rec l T (p ++ i :: q) st st' → Run G F rec l T (i :: (p ++ q)) st st' := by
  intro p
  induction p with
  | nil => intro st st' _ h; exact h
  | cons j p ih =>
    intro st st' hp h
    obtain ⟨x, y, hx, hy, hf, hc⟩ := hp j (by simp)
    cases h with
    | cons _ _ x' _ st1 _ hx' h1 hfx hr =>
      rw [hx] at hx'
      obtain rfl := Option.some.inj hx'
      have h2 := ih st1 st' (fun k hk => hp k (by simp [hk])) hr
      cases h2 with
      | cons _ _ y' _ st2 _ hy' h3 hfy hr2 =>
        rw [hy] at hy'
        obtain rfl := Option.some.inj hy'
        obtain ⟨st1', e1, e2, e3, e4⟩ := swap (hd j x hx) (hd i y hy) hf (by rw [hfx, hfy]; exact hc) h1 h3
        exact .cons _ _ y _ st1' _ hy e1 (e3.trans hfy) (.cons _ _ x _ st2 _ hx e2 (e4.trans hfx) hr2)
end
end Go.Am
