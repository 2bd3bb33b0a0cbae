/- Slices of one's own, read and written. -/
import Derived.Test.YtcibofbmennjpaaAmView2
set_option linter.unusedVariables false
set_option linter.unusedSimpArgs false
namespace Go.Am

/-- Box id holds these ints. -/
def HasInts (bx : List Box) (id : Nat) (k : IntKind) (e : TypeId) (l : List Int) : Prop := bx[id]? = some ⟨l.map (.int k), 1, e, .live⟩

section
variable {G : Nat → List AV} {F : Nat → Option MF} {rec : Rec} {bx : List Box} {id : Nat} {k : IntKind} {e : TypeId} {l : List Int}

theorem HasInts.len (h : HasInts bx id k e l) (tm : Tm) (rb n : Nat) (hn : n = l.length) : lenV ⟨tm, bx, rb⟩ (.own id n) = some (n : Int) := by
  subst hn
  simp only [lenV]
  rw [h]
  simp

theorem HasInts.iaddr (h : HasInts bx id k e l) (tm : Tm) (rb n : Nat) (hn : n = l.length) (k' : IntKind) (i : Int) (hi : 0 ≤ i ∧ i < n) : iaddrV ⟨tm, bx, rb⟩ 1 (.own id n) (.int k' i) = some (.ptr id n i.toNat) := by
  subst hn
  simp only [iaddrV]
  rw [h]
  simp [hi]

theorem HasInts.ld (h : HasInts bx id k e l) (tm : Tm) (rb n : Nat) (hn : n = l.length) (off : Nat) (ho : off < n) : ld1V ⟨tm, bx, rb⟩ (.ptr id n off) = some (.int k (l.getD off 0)) := by
  subst hn
  simp only [ld1V, St.at_]
  rw [h]
  simp only [List.length_map, ne_eq, reduceCtorEq, not_false_eq_true, and_self, if_true]
  rw [← List.map_drop, List.drop_eq_getElem_cons ho, List.map_cons, List.getD_eq_getElem?_getD, List.getElem?_eq_getElem ho]
  rfl

theorem HasInts.write (h : HasInts bx id k e l) (tm : Tm) (rb n : Nat) (hn : n = l.length) (off : Nat) (ho : off < n) (a : Int) : St.write ⟨tm, bx, rb⟩ (.ptr id n off) [.int k a] = some ⟨tm, bx.set id ⟨(l.set off a).map (.int k), 1, e, .live⟩, rb⟩ := by
  subst hn
  simp only [St.write]
  rw [h]
  have hp : putAt (l.map (AV.int k)) off [.int k a] = (l.set off a).map (.int k) := by
    apply List.ext_getElem?
    intro j
    rw [getElem?_putAt _ _ _ (by simp; omega), List.getElem?_map, List.getElem?_map, List.getElem?_set]
    by_cases h1 : j < off
    · rw [if_pos h1, if_neg (by omega)]
    · by_cases h2 : j < off + [AV.int k a].length
      · have : off = j := by simp at h2; omega
        rw [if_neg h1, if_pos h2, if_pos this, if_pos (by omega)]
        simp [this]
      · have : off ≠ j := by simp at h2; omega
        rw [if_neg h1, if_neg h2, if_neg this]
  simp only [List.length_map, List.length_singleton, true_and]
  rw [if_pos ⟨by omega, by simp [AV.one]⟩, hp]

theorem HasInts.set (h : HasInts bx id k e l) (l' : List Int) : HasInts (bx.set id ⟨l'.map (.int k), 1, e, .live⟩) id k e l' := by
  unfold HasInts at *
  have := (List.getElem?_eq_some_iff.1 h).1
  rw [List.getElem?_set_self this]

theorem doCall_shared_ex {f : Nat} {mf : MF} (hf : F f = some mf) {args : List AV} {st : St} {P : AV → List Box → Prop} (hl : args.length < 65535)
    (h : W G F mf.body ⟨initTm 0 args .e, st.bx, 0⟩ fun ex s => (ex = .normal ∨ ex = .ret) ∧ ∃ rs, mf.res.mapM (rvar s) = some rs ∧ P (tuple rs) s.bx) :
    ∃ v bx', doCall F (E G F) .shared f args st = some (v, { st with bx := bx' }) ∧ P v bx' := by
  obtain ⟨s, rs, h1, h2⟩ := runBody_W h
  refine ⟨_, _, ?_, h2⟩
  unfold doCall
  rw [if_neg (by omega)]
  simp only [hf, h1]
end
end Go.Am
