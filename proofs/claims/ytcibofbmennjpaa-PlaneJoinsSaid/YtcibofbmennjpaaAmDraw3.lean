/- A region whose order is drawn, every order: as the program's text has it. -/
import Derived.Test.YtcibofbmennjpaaAmSwap
set_option linter.unusedVariables false
namespace Go.Am

section masks

/-- A mask is borne out by the edges. -/
def MaskOk (ops : List Oper) (acc : List Nat) : Prop :=
  ∀ (k m : Nat), acc[k]? = some m → ∀ (j : Nat), m.testBit j = true → ∃ o : Oper, ops[k]? = some o ∧ ∃ e ∈ o.after, Region.binds .any e = true ∧ (e.on = j ∨ (acc.getD e.on 0).testBit j = true)

theorem edgeMask_bit (acc : List Nat) (o : Oper) {j : Nat} (h : (edgeMask acc o).testBit j = true) : ∃ e ∈ o.after, Region.binds .any e = true ∧ (e.on = j ∨ (acc.getD e.on 0).testBit j = true) := by
  unfold edgeMask at h
  have key : ∀ (es : List Edge) (m : Nat), (es.foldl (fun m e => bif Region.binds .any e then m ||| (1 <<< e.on ||| acc.getD e.on 0) else m) m).testBit j = true →
      m.testBit j = true ∨ ∃ e ∈ es, Region.binds .any e = true ∧ (e.on = j ∨ (acc.getD e.on 0).testBit j = true) := by
    intro es
    induction es with
    | nil => intro m hm; exact .inl hm
    | cons e es ih =>
      intro m hm
      rw [List.foldl_cons] at hm
      rcases ih _ hm with h1 | ⟨e', he', r⟩
      · cases hb : Region.binds .any e with
        | false => rw [hb] at h1; exact .inl h1
        | true =>
          rw [hb] at h1
          simp only [cond_true, Nat.testBit_or, Bool.or_eq_true] at h1
          rcases h1 with h1 | h1 | h1
          · exact .inl h1
          · refine .inr ⟨e, by simp, hb, .inl ?_⟩
            rw [Nat.shiftLeft_eq, Nat.one_mul] at h1
            by_cases he : e.on = j
            · exact he
            · rw [Nat.testBit_two_pow_of_ne he] at h1
              cases h1
          · exact .inr ⟨e, by simp, hb, .inr h1⟩
      · exact .inr ⟨e', by simp [he'], r⟩
  rcases key _ 0 h with h0 | ⟨e, he, r⟩
  · simp at h0
  · exact ⟨e, by simpa using he, r⟩

theorem masks_ok (all : List Oper) (hb : ∀ (k : Nat) (o : Oper), all[k]? = some o → ∀ e ∈ o.after, Region.binds .any e = true → e.on < k) :
    ∀ (l : List Oper) (acc : List Nat), all.drop acc.length = l → MaskOk all acc → MaskOk all (masks l acc) := by
  intro l
  induction l with
  | nil => intro acc _ h; exact h
  | cons o l ih =>
    intro acc hd h
    simp only [masks, forceN_eq]
    have ho : all[acc.length]? = some o := by
      have := congrArg (fun l => l[0]?) hd
      simpa using this
    refine ih _ ?_ ?_
    · rw [List.length_append, List.length_singleton, ← List.drop_drop, hd]
      rfl
    · intro k m hk j hj
      have old : ∀ k, k < acc.length → (acc ++ [edgeMask acc o]).getD k 0 = acc.getD k 0 := by
        intro k hk
        rw [List.getD_eq_getElem?_getD, List.getElem?_append_left hk, ← List.getD_eq_getElem?_getD]
      by_cases hlt : k < acc.length
      · rw [List.getElem?_append_left hlt] at hk
        obtain ⟨o', ho', e, he, hbi, hor⟩ := h k m hk j hj
        refine ⟨o', ho', e, he, hbi, ?_⟩
        rw [old _ (Nat.lt_trans (hb k o' ho' e he hbi) hlt)]
        exact hor
      · have hk2 : k = acc.length := by
          have := (List.getElem?_eq_some_iff.1 hk).1
          simp at this
          omega
        subst hk2
        simp at hk
        subst hk
        obtain ⟨e, he, hbi, hor⟩ := edgeMask_bit acc o hj
        refine ⟨o, ho, e, he, hbi, ?_⟩
        rw [old _ (hb _ o ho e he hbi)]
        exact hor

/-- What stands before a ready operation is listed. -/
theorem mask_listed {all : List Oper} {ms : List Nat} (hm : MaskOk all ms) (hb : ∀ (k : Nat) (o : Oper), all[k]? = some o → ∀ e ∈ o.after, Region.binds .any e = true → e.on < k)
    {L : Nat → Prop} (hL : ∀ k, L k → ∀ o, all[k]? = some o → ∀ e ∈ o.after, Region.binds .any e = true → L e.on) :
    ∀ (k : Nat) (o : Oper), all[k]? = some o → (∀ e ∈ o.after, Region.binds .any e = true → L e.on) → ∀ j, (ms.getD k 0).testBit j = true → L j := by
  intro k
  induction k using Nat.strongRecOn with
  | _ k ih =>
    intro o ho hr j hj
    rw [List.getD_eq_getElem?_getD] at hj
    cases hk : ms[k]? with
    | none => rw [hk] at hj; simp at hj
    | some m =>
      rw [hk] at hj
      obtain ⟨o', ho', e, he, hbi, hor⟩ := hm k m hk j hj
      rw [ho] at ho'
      obtain rfl := Option.some.inj ho'
      have hl := hr e he hbi
      rcases hor with rfl | hor
      · exact hl
      · have hlt := hb k o ho e he hbi
        have hk2 : k < all.length := (List.getElem?_eq_some_iff.1 ho).1
        have hoe : all[e.on]? = some all[e.on] := List.getElem?_eq_getElem (by omega)
        exact ih e.on hlt _ hoe (hL e.on hl _ hoe) j hor
end masks
end Go.Am
