/- The table of two points' blocks: plain Lean. -/
import Derived.Test.YtcibofbmennjpaaAmPop
set_option linter.unusedVariables false
set_option linter.unusedSimpArgs false
namespace Go.Am

/-- Nonzero cells. -/
def full (l : List Int) : Nat := l.countP fun x => x != 0

/-- The table, when the triples of V have been put in. -/
structure Tab (V : Nat → Int → Int → Prop) (l : List Int) (many : Nat) : Prop where
  len : l.length = 1600
  inn : ∀ i a b, V i a b → (0 ≤ a ∧ a < 40) ∧ (0 ≤ b ∧ b < 40) ∧ a ≠ b ∧ l.getD (a.toNat * 40 + b.toNat) 0 = (i : Int) + 1
  out : ∀ k, k < 1600 → l.getD k 0 ≠ 0 → ∃ i a b, V i a b ∧ k = a.toNat * 40 + b.toNat
  cnt : many = full l

theorem Tab.zero : Tab (fun _ _ _ => False) (List.replicate 1600 0) 0 := by
  refine ⟨List.length_replicate, fun _ _ _ h => h.elim, fun k hk h => absurd ?_ h, ?_⟩
  · rw [List.getD_eq_getElem?_getD, List.getElem?_replicate, if_pos hk]; rfl
  · unfold full
    rw [List.countP_replicate]
    simp

theorem Tab.congr {V V' : Nat → Int → Int → Prop} {l : List Int} {m : Nat} (h : Tab V l m) (e : ∀ i a b, V' i a b ↔ V i a b) : Tab V' l m :=
  ⟨h.len, fun i a b hv => h.inn i a b ((e i a b).1 hv), fun k hk hn => let ⟨i, a, b, hv, hq⟩ := h.out k hk hn; ⟨i, a, b, (e i a b).2 hv, hq⟩, h.cnt⟩

theorem Tab.put {V V' : Nat → Int → Int → Prop} {l : List Int} {m : Nat} (h : Tab V l m) (i : Nat) (a b : Int) (ha : 0 ≤ a ∧ a < 40) (hb : 0 ≤ b ∧ b < 40) (hne : a ≠ b) (hz : l.getD (a.toNat * 40 + b.toNat) 0 = 0)
    (e : ∀ j x y, V' j x y ↔ V j x y ∨ (j = i ∧ x = a ∧ y = b)) : Tab V' (l.set (a.toNat * 40 + b.toNat) ((i : Int) + 1)) (m + 1) := by
  have hk : a.toNat * 40 + b.toNat < l.length := by rw [h.len]; omega
  have get : ∀ k, k < l.length → (l.set (a.toNat * 40 + b.toNat) ((i : Int) + 1)).getD k 0 = if a.toNat * 40 + b.toNat = k then (i : Int) + 1 else l.getD k 0 := by
    intro k hkl
    rw [List.getD_eq_getElem?_getD, List.getElem?_set]
    split
    · rename_i e; subst e; rfl
    · rw [List.getD_eq_getElem?_getD]
  refine ⟨by rw [List.length_set]; exact h.len, fun j x y hv => ?_, fun k hk1 hn => ?_, ?_⟩
  · rcases (e j x y).1 hv with hv | ⟨rfl, rfl, rfl⟩
    · obtain ⟨h1, h2, h3, h4⟩ := h.inn j x y hv
      refine ⟨h1, h2, h3, ?_⟩
      rw [get _ (by rw [h.len]; omega)]
      split
      · rename_i e1; rw [← e1, hz] at h4; omega
      · exact h4
    · exact ⟨ha, hb, hne, by rw [get _ hk, if_pos rfl]⟩
  · rw [get k (by rw [h.len]; exact hk1)] at hn
    split at hn
    · rename_i e1; exact ⟨i, a, b, (e i a b).2 (.inr ⟨rfl, rfl, rfl⟩), e1.symm⟩
    · obtain ⟨j, x, y, hv, hq⟩ := h.out k hk1 hn
      exact ⟨j, x, y, (e j x y).2 (.inl hv), hq⟩
  · have hc := h.cnt
    unfold full at *
    rw [List.countP_set hk]
    have h0 : l[a.toNat * 40 + b.toNat] = 0 := by
      rw [List.getD_eq_getElem?_getD, List.getElem?_eq_getElem hk] at hz
      exact hz
    have h1 : ((i : Int) + 1 != 0) = true := by rw [bne_iff_ne]; omega
    rw [h0, h1]
    simp
    omega

theorem full_filter (l : List Int) (h : l.length = 1600) : full l = ((List.range 1600).filter fun k => l.getD k 0 != 0).length := by
  unfold full
  have : l = (List.range 1600).map fun k => l.getD k 0 := by
    apply List.ext_getElem
    · simp [h]
    · intro k h1 h2
      rw [List.getElem_map, List.getElem_range, List.getD_eq_getElem?_getD, List.getElem?_eq_getElem h1]
      rfl
  conv => lhs; rw [this]
  rw [List.countP_map, List.countP_eq_length_filter]
  rfl

/-- The cells of two points below n. -/
def cellsOf (n : Nat) : List Nat := (List.range 1600).filter fun k => decide (k / 40 < n ∧ k % 40 < n ∧ k / 40 ≠ k % 40)
theorem cellsOf_length : ∀ n, n < 41 → (cellsOf n).length = n * (n - 1) := by decide +kernel

/-- ALL PAIRS ARE IN, IF THE COUNT IS RIGHT. -/
theorem Tab.all {V : Nat → Int → Int → Prop} {l : List Int} {m n : Nat} (h : Tab V l m) (hn : n ≤ 40) (hV : ∀ i a b, V i a b → a < n ∧ b < n) :
    m = n * (n - 1) ↔ ∀ a b : Nat, a < n → b < n → a ≠ b → ∃ i, V i a b := by
  have hf := full_filter l h.len
  have hsub : ∀ k ∈ (List.range 1600).filter (fun k => l.getD k 0 != 0), k ∈ cellsOf n := by
    intro k hk
    obtain ⟨h1, h2⟩ := List.mem_filter.1 hk
    obtain ⟨i, a, b, hv, rfl⟩ := h.out k (List.mem_range.1 h1) (bne_iff_ne.1 h2)
    obtain ⟨ha, hb, hne, _⟩ := h.inn i a b hv
    have := hV i a b hv
    exact List.mem_filter.2 ⟨h1, decide_eq_true (by omega)⟩
  have hnd : ((List.range 1600).filter (fun k => l.getD k 0 != 0)).Nodup := List.Pairwise.filter _ List.nodup_range
  have hc := h.cnt
  rw [← cellsOf_length n (by omega), hc, hf]
  constructor
  · intro he a b ha hb hne
    have hin : a * 40 + b ∈ cellsOf n := List.mem_filter.2 ⟨List.mem_range.2 (by omega), decide_eq_true (by omega)⟩
    have := nodup_all hnd hsub (by omega) _ hin
    obtain ⟨h1, h2⟩ := List.mem_filter.1 this
    obtain ⟨i, x, y, hv, hq⟩ := h.out _ (List.mem_range.1 h1) (bne_iff_ne.1 h2)
    obtain ⟨hx, hy, _, _⟩ := h.inn i x y hv
    have e1 : x = a := by omega
    have e2 : y = b := by omega
    subst e1 e2
    exact ⟨i, hv⟩
  · intro hall
    refine Nat.le_antisymm (nodup_sub hnd hsub) (nodup_sub (List.Pairwise.filter _ List.nodup_range) fun k hk => ?_)
    obtain ⟨h1, h2⟩ := List.mem_filter.1 hk
    have h2 := of_decide_eq_true h2
    obtain ⟨i, hv⟩ := hall (k / 40) (k % 40) h2.1 h2.2.1 h2.2.2
    obtain ⟨_, _, _, h4⟩ := h.inn _ _ _ hv
    refine List.mem_filter.2 ⟨h1, bne_iff_ne.2 ?_⟩
    rw [show (((k / 40 : Nat) : Int)).toNat * 40 + (((k % 40 : Nat) : Int)).toNat = k by omega] at h4
    rw [h4]; omega
end Go.Am
