/- plane.Check and PlaneOrder answer alike: plain law. -/
import Derived.Test.YtcibofbmennjpaaAmPl11
set_option linter.unusedVariables false
set_option linter.unusedSimpArgs false
namespace Go.Am

theorem together2 (x y : Int) (r : List Int) : together [y, x] r = 2 ↔ y ∈ r ∧ x ∈ r := by
  unfold together
  by_cases h1 : y ∈ r <;> by_cases h2 : x ∈ r <;> simp [List.filter_cons, h1, h2]
theorem together4 (a b c e : Int) (r : List Int) : 2 < together [a, b, c, e] r ↔ (a ∈ r ∧ b ∈ r ∧ c ∈ r) ∨ (a ∈ r ∧ b ∈ r ∧ e ∈ r) ∨ (a ∈ r ∧ c ∈ r ∧ e ∈ r) ∨ (b ∈ r ∧ c ∈ r ∧ e ∈ r) := by
  unfold together
  by_cases h1 : a ∈ r <;> by_cases h2 : b ∈ r <;> by_cases h3 : c ∈ r <;> by_cases h4 : e ∈ r <;> simp [List.filter_cons, h1, h2, h3, h4]

theorem both_zero (d : Des) (x y : Int) (k : Nat) : d.both x y k = 0 ↔ ∀ i, i < k → ¬ (y ∈ d.rw i ∧ x ∈ d.rw i) := by
  induction k with
  | zero => exact ⟨fun _ i h => by omega, fun _ => rfl⟩
  | succ k ih =>
    unfold Des.both
    constructor
    · intro h i hi hm
      split at h
      · omega
      · rename_i hn
        by_cases e : i = k
        · subst e; exact hn ((together2 ..).2 hm)
        · exact ih.1 (by omega) i (by omega) hm
    · intro h
      rw [ih.2 fun i hi => h i (by omega), if_neg fun e => h k (by omega) ((together2 ..).1 e)]
theorem both_one (d : Des) (x y : Int) (k : Nat) : d.both x y k = 1 ↔ ∃ i, i < k ∧ y ∈ d.rw i ∧ x ∈ d.rw i ∧ ∀ j, j < k → y ∈ d.rw j → x ∈ d.rw j → j = i := by
  induction k with
  | zero => exact ⟨fun h => by simp [Des.both] at h, fun ⟨i, h, _⟩ => by omega⟩
  | succ k ih =>
    unfold Des.both
    constructor
    · intro h
      split at h
      · rename_i hm
        have hm := (together2 ..).1 hm
        have h0 := (both_zero d x y k).1 (by omega)
        exact ⟨k, by omega, hm.1, hm.2, fun j hj h1 h2 => by
          by_cases e : j = k
          · exact e
          · exact absurd ⟨h1, h2⟩ (h0 j (by omega))⟩
      · rename_i hn
        obtain ⟨i, h1, h2, h3, h4⟩ := ih.1 (by omega)
        exact ⟨i, by omega, h2, h3, fun j hj h5 h6 => by
          by_cases e : j = k
          · subst e; exact absurd ((together2 ..).2 ⟨h5, h6⟩) hn
          · exact h4 j (by omega) h5 h6⟩
    · rintro ⟨i, h1, h2, h3, h4⟩
      by_cases e : i = k
      · subst e
        rw [if_pos ((together2 ..).2 ⟨h2, h3⟩), (both_zero d x y i).2 fun j hj hm => by have := h4 j (by omega) hm.1 hm.2; omega]
      · rw [ih.2 ⟨i, by omega, h2, h3, fun j hj => h4 j (by omega)⟩, if_neg fun hm => by
          have hm := (together2 ..).1 hm
          have := h4 k (by omega) hm.1 hm.2
          omega]

theorem uniq_two (d : Des) (n : Nat) : d.Uniq n ↔ ∀ x y : Nat, y < x → x < n → d.both x y d.rows.length = 1 := by
  constructor
  · intro h x y h1 h2
    rw [both_one]
    exact h y x (by omega) h2 (by omega)
  · intro h a b ha hb hne
    rcases Nat.lt_or_gt_of_ne hne with hlt | hlt
    · exact (both_one ..).1 (h b a hlt hb)
    · obtain ⟨i, h1, h2, h3, h4⟩ := (both_one ..).1 (h a b hlt ha)
      exact ⟨i, h1, h3, h2, fun j hj h5 h6 => h4 j hj h6 h5⟩

/-- Lin, by the blocks. -/
theorem lin_iff (d : Des) (s : List Int) : Lin d s ↔ ∃ i, i < d.rows.length ∧ 2 < together s (d.rw i) := by
  unfold Lin
  rw [any_bl]
  simp only [decide_eq_true_eq]
  rfl

section
variable {d : Des} {n : Nat} {l : List Int} {m : Nat}

theorem tab_eq (hg : Good d n) (hu : d.Uniq n) (ht : Tab (d.V d.rows.length) l m) {x y z : Nat} (hx : x < n) (hy : y < n) (hz : z < n) (h1 : x ≠ y) (h2 : x ≠ z) :
    l.getD (x * 40 + y) 0 = l.getD (x * 40 + z) 0 ↔ ∃ i, i < d.rows.length ∧ (x : Int) ∈ d.rw i ∧ (y : Int) ∈ d.rw i ∧ (z : Int) ∈ d.rw i := by
  have key : ∀ (x y i : Nat), x ≠ y → i < d.rows.length → (x : Int) ∈ d.rw i → (y : Int) ∈ d.rw i → l.getD (x * 40 + y) 0 = (i : Int) + 1 := by
    intro x y i hne hi h1 h2
    have := (ht.inn i x y ⟨hi, h1, h2, by omega⟩).2.2.2
    simpa using this
  constructor
  · intro h
    obtain ⟨i, hi, a1, a2, _⟩ := hu x y hx hy h1
    obtain ⟨j, hj, b1, b2, _⟩ := hu x z hx hz h2
    rw [key x y i h1 hi a1 a2, key x z j h2 hj b1 b2] at h
    have : i = j := by omega
    subst this
    exact ⟨i, hi, a1, a2, b2⟩
  · rintro ⟨i, hi, a, b, c⟩
    rw [key x y i h1 hi a b, key x z i h2 hi a c]

/-- The four points, by the table. -/
theorem quad_lin (hg : Good d n) (hu : d.Uniq n) (ht : Tab (d.V d.rows.length) l m) {a b c p : Nat} (ha : a < n) (hb : b < a) (hc : c < b) (hp : p < c) :
    Quad l a b c p ↔ ¬ Lin d [(p : Int), (c : Int), (b : Int), (a : Int)] := by
  unfold Quad
  rw [lin_iff]
  simp only [ne_eq, tab_eq hg hu ht (x := a) (y := b) (z := c) ha (by omega) (by omega) (by omega) (by omega), tab_eq hg hu ht (x := a) (y := b) (z := p) ha (by omega) (by omega) (by omega) (by omega),
    tab_eq hg hu ht (x := a) (y := c) (z := p) ha (by omega) (by omega) (by omega) (by omega), tab_eq hg hu ht (x := b) (y := c) (z := p) (by omega) (by omega) (by omega) (by omega) (by omega)]
  constructor
  · rintro ⟨q1, q2, q3, q4⟩ ⟨i, hi, ht⟩
    rcases (together4 ..).1 ht with ⟨h1, h2, h3⟩ | ⟨h1, h2, h3⟩ | ⟨h1, h2, h3⟩ | ⟨h1, h2, h3⟩
    · exact q4 ⟨i, hi, h3, h2, h1⟩
    · exact q3 ⟨i, hi, h3, h2, h1⟩
    · exact q2 ⟨i, hi, h3, h2, h1⟩
    · exact q1 ⟨i, hi, h3, h2, h1⟩
  · intro h
    refine ⟨fun ⟨i, hi, x, y, z⟩ => h ⟨i, hi, (together4 ..).2 ?_⟩, fun ⟨i, hi, x, y, z⟩ => h ⟨i, hi, (together4 ..).2 ?_⟩, fun ⟨i, hi, x, y, z⟩ => h ⟨i, hi, (together4 ..).2 ?_⟩, fun ⟨i, hi, x, y, z⟩ => h ⟨i, hi, (together4 ..).2 ?_⟩⟩
    · exact .inr (.inr (.inr ⟨z, y, x⟩))
    · exact .inr (.inr (.inl ⟨z, y, x⟩))
    · exact .inr (.inl ⟨z, y, x⟩)
    · exact .inl ⟨z, y, x⟩

/-- THE TWO CHECKS AGREE. -/
theorem check_plane (hg : Good d n) {out : List Int} (hgot : Got d d.rows.length 0 out) (ht : d.Uniq n → Tab (d.V d.rows.length) l m) :
    (d.Uniq n ∧ sorted out = [1] ∧ ∃ a b c p, a < n ∧ b < a ∧ c < b ∧ p < c ∧ Quad l a b c p) ↔ PlaneP d n := by
  have hone : (out = [1]) ↔ (∃ a b, b < a ∧ a < d.rows.length) ∧ ∀ a b, b < a → a < d.rows.length → together (d.rw a) (d.rw b) = 1 := by
    constructor
    · intro h
      have h1 : (1 : Int) ∈ out := by rw [h]; simp
      obtain ⟨a, b, h2, h3, _⟩ := (hgot.mem 1).1 h1
      refine ⟨⟨a, b, h2, by omega⟩, fun a b h2 h3 => ?_⟩
      have := (hgot.mem (together (d.rw a) (d.rw b) : Int)).2 ⟨a, b, h2, by omega, rfl⟩
      rw [h, List.mem_singleton] at this
      omega
    · rintro ⟨⟨a, b, h1, h2⟩, h3⟩
      have hin : (1 : Int) ∈ out := (hgot.mem 1).2 ⟨a, b, h1, by omega, by rw [h3 a b h1 h2]; rfl⟩
      have hall : ∀ x ∈ out, x = 1 := by
        intro x hx
        obtain ⟨a, b, h1, h2, rfl⟩ := (hgot.mem x).1 hx
        rw [h3 a b h1 (by omega)]; rfl
      cases out with
      | nil => cases hin
      | cons y r =>
        have hy := hall y (by simp)
        subst hy
        cases r with
        | nil => rfl
        | cons z r =>
          have hz := hall z (by simp)
          subst hz
          have := (List.nodup_cons.1 hgot.nodup).1
          simp at this
  rw [sorted_one, hone]
  constructor
  · rintro ⟨hu, ⟨_, h1⟩, a, b, c, p, q1, q2, q3, q4, hq⟩
    refine ⟨fun i j hj hi => h1 i j hj hi, (uniq_two d n).1 hu, by omega, p, c, b, a, by omega, by omega, by omega, by omega, by omega, ?_⟩
    exact (quad_lin hg hu (ht hu) q1 q2 q3 q4).1 hq
  · rintro ⟨h1, h2, h3, a, b, c, e, ha, hb, hc, he, hn, hl⟩
    have hu := (uniq_two d n).2 h2
    obtain ⟨a, rfl⟩ : ∃ k : Nat, a = (k : Int) := ⟨a.toNat, by omega⟩
    obtain ⟨b, rfl⟩ : ∃ k : Nat, b = (k : Int) := ⟨b.toNat, by omega⟩
    obtain ⟨c, rfl⟩ : ∃ k : Nat, c = (k : Int) := ⟨c.toNat, by omega⟩
    obtain ⟨e, rfl⟩ : ∃ k : Nat, e = (k : Int) := ⟨e.toNat, by omega⟩
    refine ⟨hu, ⟨?_, fun i j => h1 i j⟩, e, c, b, a, by omega, by omega, by omega, by omega, (quad_lin hg hu (ht hu) (by omega) (by omega) (by omega) (by omega)).2 hl⟩
    obtain ⟨i, hi, i1, i2, _⟩ := hu a b (by omega) (by omega) (by omega)
    obtain ⟨j, hj, j1, j2, _⟩ := hu a c (by omega) (by omega) (by omega)
    by_cases e : i = j
    · subst e
      exact absurd ((lin_iff ..).2 ⟨i, hi, (together4 ..).2 (.inl ⟨i1, i2, j2⟩)⟩) hl
    · rcases Nat.lt_or_gt_of_ne e with h | h
      · exact ⟨j, i, h, hj⟩
      · exact ⟨i, j, h, hi⟩
end
end Go.Am
