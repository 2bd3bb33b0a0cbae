/- IsPlane, PlaneOrder: the document's. -/
import Derived.Test.YtcibofbmennjpaaDoorAmPl10
set_option linter.unusedVariables false
set_option linter.unusedSimpArgs false
namespace Go.Am

/-- Ascending. -/
theorem asc_of_not_down {b : List Int} (h : ¬ Down b) : b.Pairwise (· < ·) := by
  have step : ∀ i, i + 1 < b.length → b.getD i 0 < b.getD (i + 1) 0 := by
    intro i hi
    apply Classical.byContradiction
    intro hn
    exact h ⟨i + 1, by omega, hi, by simpa using hn⟩
  clear h
  induction b with
  | nil => exact List.Pairwise.nil
  | cons a b ih =>
    have hb := ih fun i hi => by have := step (i + 1) (by simpa using hi); simpa using this
    refine List.pairwise_cons.2 ⟨fun x hx => ?_, hb⟩
    cases b with
    | nil => cases hx
    | cons c b =>
      have h0 : a < c := by have := step 0 (by simp); simpa using this
      rcases List.mem_cons.1 hx with rfl | hx
      · exact h0
      · exact Int.lt_trans h0 ((List.pairwise_cons.1 hb).1 x hx)

/-- What a design without a fault is. -/
structure Good (d : Des) (n : Nat) : Prop where
  pts : d.points = n
  lo : 1 ≤ n
  hi : n ≤ 40
  rows : d.rows.length ≤ 200
  inn : ∀ i, ∀ p ∈ d.rw i, 0 ≤ p ∧ p < n
  asc : ∀ i, (d.rw i).Pairwise (· < ·)
theorem Good.nodup {d : Des} {n : Nat} (h : Good d n) (i : Nat) : (d.rw i).Nodup := by
  rw [List.nodup_iff_pairwise_ne]
  exact (h.asc i).imp fun h => by omega
theorem Good.bits {d : Des} {n : Nat} (h : Good d n) (i : Nat) : Bits (d.rw i) := fun p hp => by have := h.inn i p hp; have := h.hi; omega
theorem Fault.good {d : Des} (h : Fault d 0) : ∃ n, Good d n := by
  cases h with
  | ok h h2 ok =>
    have key : ∀ i, ¬ Out d.points (d.rw i) ∧ ¬ Down (d.rw i) := by
      intro i
      by_cases hi : i < d.rows.length
      · exact ok i hi
      · have : d.rw i = [] := by
          unfold Des.rw
          rw [List.getD_eq_getElem?_getD, List.getElem?_eq_none (by omega)]; rfl
        rw [this]
        exact ⟨fun ⟨j, h, _⟩ => by simp at h, fun ⟨j, _, h, _⟩ => by simp at h⟩
    refine ⟨d.points.toNat, by omega, by omega, by omega, by omega, fun i p hp => ?_, fun i => asc_of_not_down (key i).2⟩
    obtain ⟨j, hj, rfl⟩ := List.mem_iff_getElem.1 hp
    have : ¬ ((d.rw i).getD j 0 < 0 ∨ d.points ≤ (d.rw i).getD j 0) := fun h => (key i).1 ⟨j, hj, h⟩
    rw [List.getD_eq_getElem?_getD, List.getElem?_eq_getElem hj] at this
    simp only [Option.getD_some] at this
    omega

/-- In how many of the first k blocks both points are. -/
def Des.both (d : Des) (x y : Int) : Nat → Nat
  | 0 => 0
  | k + 1 => d.both x y k + if together [y, x] (d.rw k) = 2 then 1 else 0
theorem Des.both_le (d : Des) (x y : Int) (k : Nat) : d.both x y k ≤ k := by
  induction k with
  | zero => exact Nat.le_refl _
  | succ k ih => unfold Des.both; split <;> omega

/-- Three of these points are in a block. -/
def Lin (d : Des) (s : List Int) : Prop := (d.bl.any fun b => decide (2 < together s b)) = true

/-- A plane, as the document has it. -/
structure PlaneP (d : Des) (n : Nat) : Prop where
  one : ∀ i j, j < i → i < d.rows.length → together (d.rw i) (d.rw j) = 1
  two : ∀ x y : Nat, y < x → x < n → d.both x y d.rows.length = 1
  four : 4 ≤ n
  free : ∃ a b c e : Int, 0 ≤ a ∧ a < b ∧ b < c ∧ c < e ∧ e < n ∧ ¬ Lin d [a, b, c, e]

theorem Last.uniq {s : List Int} {n : Int} {i j : Nat} (h : Last s n i) (h' : Last s n j) : i = j := by
  rcases Nat.lt_trichotomy i j with hlt | he | hlt
  · exact absurd h'.2.1 (h.2.2 j hlt h'.1)
  · exact he
  · exact absurd h.2.1 (h'.2.2 i hlt h.1)

/-- Ahead, by places. -/
def Lex (t0 t1 t2 t3 s0 s1 s2 s3 : Int) : Prop := t0 < s0 ∨ (t0 = s0 ∧ (t1 < s1 ∨ (t1 = s1 ∧ (t2 < s2 ∨ (t2 = s2 ∧ t3 < s3)))))
def Four (n a b c e : Int) : Prop := 0 ≤ a ∧ a < b ∧ b < c ∧ c < e ∧ e < n
def meas (a b c e : Int) : Nat := ((((40 - a) * 64 + (40 - b)) * 64 + (40 - c)) * 64 + (40 - e)).toNat

theorem last4 (a b c e n : Int) (i : Nat) : Last [a, b, c, e] n i ↔ (i = 0 ∧ a < n - 4 ∧ ¬ b < n - 3 ∧ ¬ c < n - 2 ∧ ¬ e < n - 1) ∨ (i = 1 ∧ b < n - 3 ∧ ¬ c < n - 2 ∧ ¬ e < n - 1) ∨ (i = 2 ∧ c < n - 2 ∧ ¬ e < n - 1) ∨ (i = 3 ∧ e < n - 1) := by
  unfold Last
  constructor
  · rintro ⟨h1, h2, h3⟩
    simp only [List.length_cons, List.length_nil] at h1 h2 h3
    match i, h1 with
    | 0, _ =>
      have e1 := h3 1 (by omega) (by omega)
      have e2 := h3 2 (by omega) (by omega)
      have e3 := h3 3 (by omega) (by omega)
      simp at h2 e1 e2 e3
      left; omega
    | 1, _ =>
      have e2 := h3 2 (by omega) (by omega)
      have e3 := h3 3 (by omega) (by omega)
      simp at h2 e2 e3
      right; left; omega
    | 2, _ =>
      have e3 := h3 3 (by omega) (by omega)
      simp at h2 e3
      right; right; left; omega
    | 3, _ =>
      simp at h2
      right; right; right; omega
  · rintro (⟨rfl, h⟩ | ⟨rfl, h⟩ | ⟨rfl, h⟩ | ⟨rfl, h⟩)
    · refine ⟨by simp, by simp; omega, fun j h1 h2 => ?_⟩
      simp only [List.length_cons, List.length_nil] at h2
      match j, h2 with
      | 0, _ => omega
      | 1, _ => simp; omega
      | 2, _ => simp; omega
      | 3, _ => simp; omega
    · refine ⟨by simp, by simp; omega, fun j h1 h2 => ?_⟩
      simp only [List.length_cons, List.length_nil] at h2
      match j, h2 with
      | 0, _ => omega
      | 1, _ => omega
      | 2, _ => simp; omega
      | 3, _ => simp; omega
    · refine ⟨by simp, by simp; omega, fun j h1 h2 => ?_⟩
      simp only [List.length_cons, List.length_nil] at h2
      match j, h2 with
      | 0, _ => omega
      | 1, _ => omega
      | 2, _ => omega
      | 3, _ => simp; omega
    · refine ⟨by simp, by simp; omega, fun j h1 h2 => ?_⟩
      simp only [List.length_cons, List.length_nil] at h2
      omega

theorem nexts (n a b c e : Int) (hn : n ≤ 40) (h : Four n a b c e) :
    (∃ i a' b' c' e', Last [a, b, c, e] n i ∧ nextAt [a, b, c, e] i = [a', b', c', e'] ∧ Four n a' b' c' e' ∧ meas a' b' c' e' < meas a b c e ∧ ∀ t0 t1 t2 t3, Four n t0 t1 t2 t3 → Lex t0 t1 t2 t3 a' b' c' e' → Lex t0 t1 t2 t3 a b c e ∨ (t0 = a ∧ t1 = b ∧ t2 = c ∧ t3 = e)) ∨
    ((∀ i, ¬ Last [a, b, c, e] n i) ∧ ∀ t0 t1 t2 t3, Four n t0 t1 t2 t3 → Lex t0 t1 t2 t3 a b c e ∨ (t0 = a ∧ t1 = b ∧ t2 = c ∧ t3 = e)) := by
  unfold Four at h
  by_cases h3 : e < n - 1
  · refine .inl ⟨3, a, b, c, e + 1, (last4 ..).2 (by omega), by simp [nextAt, List.range_succ], by unfold Four; omega, by unfold meas; omega, fun t0 t1 t2 t3 ht hl => ?_⟩
    unfold Four Lex at *; omega
  by_cases h2 : c < n - 2
  · refine .inl ⟨2, a, b, c + 1, c + 2, (last4 ..).2 (by omega), by simp [nextAt, List.range_succ]; omega, by unfold Four; omega, by unfold meas; omega, fun t0 t1 t2 t3 ht hl => ?_⟩
    unfold Four Lex at *; omega
  by_cases h1 : b < n - 3
  · refine .inl ⟨1, a, b + 1, b + 2, b + 3, (last4 ..).2 (by omega), by simp [nextAt, List.range_succ]; omega, by unfold Four; omega, by unfold meas; omega, fun t0 t1 t2 t3 ht hl => ?_⟩
    unfold Four Lex at *; omega
  by_cases h0 : a < n - 4
  · refine .inl ⟨0, a + 1, a + 2, a + 3, a + 4, (last4 ..).2 (by omega), by simp [nextAt, List.range_succ]; omega, by unfold Four; omega, by unfold meas; omega, fun t0 t1 t2 t3 ht hl => ?_⟩
    unfold Four Lex at *; omega
  · refine .inr ⟨fun i hi => ?_, fun t0 t1 t2 t3 ht => ?_⟩
    · rcases (last4 ..).1 hi with h | h | h | h <;> omega
    · unfold Four Lex at *; omega

section
variable {G : Nat → List AV} {F : Nat → Option MF} {rec : Rec}



theorem reify_ownInts {bx : List Box} {id : Nat} {l : List Int} {e : TypeId} {s : Status} (h : bx[id]? = some ⟨l.map (.int .i64), 1, e, s⟩) (hs : s ≠ .fresh) : reify reifyDepth bx (.own id l.length) = some (ints (some l)) := by
  rw [show reifyDepth = 7 + 1 from rfl, reify_own, h]
  simp only
  rw [if_pos ⟨hs, by simp⟩]
  have : (l.map (AV.int .i64)).mapM (reify 7 bx) = some (l.map (AV.int .i64)) := by
    clear h
    induction l with
    | nil => rfl
    | cons a l ih => rw [List.map_cons, List.mapM_cons, ih]; rfl
  rw [this]
  simp [ints, sl]

end

end Go.Am

/- plane.Check and PlaneOrder answer alike: plain law. -/
set_option linter.unusedVariables false
set_option linter.unusedSimpArgs false
namespace Go.Am

theorem together2 (x y : Int) (r : List Int) : together [y, x] r = 2 ↔ y ∈ r ∧ x ∈ r := by
  unfold together
  by_cases h1 : y ∈ r <;> by_cases h2 : x ∈ r <;> simp [List.filter_cons, h1, h2]
theorem together4 (a b c e : Int) (r : List Int) : 2 < together [a, b, c, e] r ↔ (a ∈ r ∧ b ∈ r ∧ c ∈ r) ∨ (a ∈ r ∧ b ∈ r ∧ e ∈ r) ∨ (a ∈ r ∧ c ∈ r ∧ e ∈ r) ∨ (b ∈ r ∧ c ∈ r ∧ e ∈ r) := by
  unfold together
  by_cases h1 : a ∈ r <;> by_cases h2 : b ∈ r <;> by_cases h3 : c ∈ r <;> by_cases h4 : e ∈ r <;> simp [List.filter_cons, h1, h2, h3, h4]

theorem both_zero (d : Des) (x y : Int) (k : Nat) : d.both x y k = 0 ↔ ∀ i, i < k → ¬ (y ∈ d.rw i ∧ x ∈ d.rw i) := by
  induction k with
  | zero => exact ⟨fun _ i h => by omega, fun _ => rfl⟩
  | succ k ih =>
    unfold Des.both
    constructor
    · intro h i hi hm
      split at h
      · omega
      · rename_i hn
        by_cases e : i = k
        · subst e; exact hn ((together2 ..).2 hm)
        · exact ih.1 (by omega) i (by omega) hm
    · intro h
      rw [ih.2 fun i hi => h i (by omega), if_neg fun e => h k (by omega) ((together2 ..).1 e)]
theorem both_one (d : Des) (x y : Int) (k : Nat) : d.both x y k = 1 ↔ ∃ i, i < k ∧ y ∈ d.rw i ∧ x ∈ d.rw i ∧ ∀ j, j < k → y ∈ d.rw j → x ∈ d.rw j → j = i := by
  induction k with
  | zero => exact ⟨fun h => by simp [Des.both] at h, fun ⟨i, h, _⟩ => by omega⟩
  | succ k ih =>
    unfold Des.both
    constructor
    · intro h
      split at h
      · rename_i hm
        have hm := (together2 ..).1 hm
        have h0 := (both_zero d x y k).1 (by omega)
        exact ⟨k, by omega, hm.1, hm.2, fun j hj h1 h2 => by
          by_cases e : j = k
          · exact e
          · exact absurd ⟨h1, h2⟩ (h0 j (by omega))⟩
      · rename_i hn
        obtain ⟨i, h1, h2, h3, h4⟩ := ih.1 (by omega)
        exact ⟨i, by omega, h2, h3, fun j hj h5 h6 => by
          by_cases e : j = k
          · subst e; exact absurd ((together2 ..).2 ⟨h5, h6⟩) hn
          · exact h4 j (by omega) h5 h6⟩
    · rintro ⟨i, h1, h2, h3, h4⟩
      by_cases e : i = k
      · subst e
        rw [if_pos ((together2 ..).2 ⟨h2, h3⟩), (both_zero d x y i).2 fun j hj hm => by have := h4 j (by omega) hm.1 hm.2; omega]
      · rw [ih.2 ⟨i, by omega, h2, h3, fun j hj => h4 j (by omega)⟩, if_neg fun hm => by
          have hm := (together2 ..).1 hm
          have := h4 k (by omega) hm.1 hm.2
          omega]

theorem uniq_two (d : Des) (n : Nat) : d.Uniq n ↔ ∀ x y : Nat, y < x → x < n → d.both x y d.rows.length = 1 := by
  constructor
  · intro h x y h1 h2
    rw [both_one]
    exact h y x (by omega) h2 (by omega)
  · intro h a b ha hb hne
    rcases Nat.lt_or_gt_of_ne hne with hlt | hlt
    · exact (both_one ..).1 (h b a hlt hb)
    · obtain ⟨i, h1, h2, h3, h4⟩ := (both_one ..).1 (h a b hlt ha)
      exact ⟨i, h1, h3, h2, fun j hj h5 h6 => h4 j hj h6 h5⟩

/-- Lin, by the blocks. -/
theorem lin_iff (d : Des) (s : List Int) : Lin d s ↔ ∃ i, i < d.rows.length ∧ 2 < together s (d.rw i) := by
  unfold Lin
  rw [any_bl]
  simp only [decide_eq_true_eq]
  rfl

section
variable {d : Des} {n : Nat} {l : List Int} {m : Nat}

theorem tab_eq (hg : Good d n) (hu : d.Uniq n) (ht : Tab (d.V d.rows.length) l m) {x y z : Nat} (hx : x < n) (hy : y < n) (hz : z < n) (h1 : x ≠ y) (h2 : x ≠ z) :
    l.getD (x * 40 + y) 0 = l.getD (x * 40 + z) 0 ↔ ∃ i, i < d.rows.length ∧ (x : Int) ∈ d.rw i ∧ (y : Int) ∈ d.rw i ∧ (z : Int) ∈ d.rw i := by
  have key : ∀ (x y i : Nat), x ≠ y → i < d.rows.length → (x : Int) ∈ d.rw i → (y : Int) ∈ d.rw i → l.getD (x * 40 + y) 0 = (i : Int) + 1 := by
    intro x y i hne hi h1 h2
    have := (ht.inn i x y ⟨hi, h1, h2, by omega⟩).2.2.2
    simpa using this
  constructor
  · intro h
    obtain ⟨i, hi, a1, a2, _⟩ := hu x y hx hy h1
    obtain ⟨j, hj, b1, b2, _⟩ := hu x z hx hz h2
    rw [key x y i h1 hi a1 a2, key x z j h2 hj b1 b2] at h
    have : i = j := by omega
    subst this
    exact ⟨i, hi, a1, a2, b2⟩
  · rintro ⟨i, hi, a, b, c⟩
    rw [key x y i h1 hi a b, key x z i h2 hi a c]

/-- The four points, by the table. -/
theorem quad_lin (hg : Good d n) (hu : d.Uniq n) (ht : Tab (d.V d.rows.length) l m) {a b c p : Nat} (ha : a < n) (hb : b < a) (hc : c < b) (hp : p < c) :
    Quad l a b c p ↔ ¬ Lin d [(p : Int), (c : Int), (b : Int), (a : Int)] := by
  unfold Quad
  rw [lin_iff]
  simp only [ne_eq, tab_eq hg hu ht (x := a) (y := b) (z := c) ha (by omega) (by omega) (by omega) (by omega), tab_eq hg hu ht (x := a) (y := b) (z := p) ha (by omega) (by omega) (by omega) (by omega),
    tab_eq hg hu ht (x := a) (y := c) (z := p) ha (by omega) (by omega) (by omega) (by omega), tab_eq hg hu ht (x := b) (y := c) (z := p) (by omega) (by omega) (by omega) (by omega) (by omega)]
  constructor
  · rintro ⟨q1, q2, q3, q4⟩ ⟨i, hi, ht⟩
    rcases (together4 ..).1 ht with ⟨h1, h2, h3⟩ | ⟨h1, h2, h3⟩ | ⟨h1, h2, h3⟩ | ⟨h1, h2, h3⟩
    · exact q4 ⟨i, hi, h3, h2, h1⟩
    · exact q3 ⟨i, hi, h3, h2, h1⟩
    · exact q2 ⟨i, hi, h3, h2, h1⟩
    · exact q1 ⟨i, hi, h3, h2, h1⟩
  · intro h
    refine ⟨fun ⟨i, hi, x, y, z⟩ => h ⟨i, hi, (together4 ..).2 ?_⟩, fun ⟨i, hi, x, y, z⟩ => h ⟨i, hi, (together4 ..).2 ?_⟩, fun ⟨i, hi, x, y, z⟩ => h ⟨i, hi, (together4 ..).2 ?_⟩, fun ⟨i, hi, x, y, z⟩ => h ⟨i, hi, (together4 ..).2 ?_⟩⟩
    · exact .inr (.inr (.inr ⟨z, y, x⟩))
    · exact .inr (.inr (.inl ⟨z, y, x⟩))
    · exact .inr (.inl ⟨z, y, x⟩)
    · exact .inl ⟨z, y, x⟩

/-- THE TWO CHECKS AGREE. -/
theorem check_plane (hg : Good d n) {out : List Int} (hgot : Got d d.rows.length 0 out) (ht : d.Uniq n → Tab (d.V d.rows.length) l m) :
    (d.Uniq n ∧ sorted out = [1] ∧ ∃ a b c p, a < n ∧ b < a ∧ c < b ∧ p < c ∧ Quad l a b c p) ↔ PlaneP d n := by
  have hone : (out = [1]) ↔ (∃ a b, b < a ∧ a < d.rows.length) ∧ ∀ a b, b < a → a < d.rows.length → together (d.rw a) (d.rw b) = 1 := by
    constructor
    · intro h
      have h1 : (1 : Int) ∈ out := by rw [h]; simp
      obtain ⟨a, b, h2, h3, _⟩ := (hgot.mem 1).1 h1
      refine ⟨⟨a, b, h2, by omega⟩, fun a b h2 h3 => ?_⟩
      have := (hgot.mem (together (d.rw a) (d.rw b) : Int)).2 ⟨a, b, h2, by omega, rfl⟩
      rw [h, List.mem_singleton] at this
      omega
    · rintro ⟨⟨a, b, h1, h2⟩, h3⟩
      have hin : (1 : Int) ∈ out := (hgot.mem 1).2 ⟨a, b, h1, by omega, by rw [h3 a b h1 h2]; rfl⟩
      have hall : ∀ x ∈ out, x = 1 := by
        intro x hx
        obtain ⟨a, b, h1, h2, rfl⟩ := (hgot.mem x).1 hx
        rw [h3 a b h1 (by omega)]; rfl
      cases out with
      | nil => cases hin
      | cons y r =>
        have hy := hall y (by simp)
        subst hy
        cases r with
        | nil => rfl
        | cons z r =>
          have hz := hall z (by simp)
          subst hz
          have := (List.nodup_cons.1 hgot.nodup).1
          simp at this
  rw [sorted_one, hone]
  constructor
  · rintro ⟨hu, ⟨_, h1⟩, a, b, c, p, q1, q2, q3, q4, hq⟩
    refine ⟨fun i j hj hi => h1 i j hj hi, (uniq_two d n).1 hu, by omega, p, c, b, a, by omega, by omega, by omega, by omega, by omega, ?_⟩
    exact (quad_lin hg hu (ht hu) q1 q2 q3 q4).1 hq
  · rintro ⟨h1, h2, h3, a, b, c, e, ha, hb, hc, he, hn, hl⟩
    have hu := (uniq_two d n).2 h2
    obtain ⟨a, rfl⟩ : ∃ k : Nat, a = (k : Int) := ⟨a.toNat, by omega⟩
    obtain ⟨b, rfl⟩ : ∃ k : Nat, b = (k : Int) := ⟨b.toNat, by omega⟩
    obtain ⟨c, rfl⟩ : ∃ k : Nat, c = (k : Int) := ⟨c.toNat, by omega⟩
    obtain ⟨e, rfl⟩ : ∃ k : Nat, e = (k : Int) := ⟨e.toNat, by omega⟩
    refine ⟨hu, ⟨?_, fun i j => h1 i j⟩, e, c, b, a, by omega, by omega, by omega, by omega, (quad_lin hg hu (ht hu) (by omega) (by omega) (by omega) (by omega)).2 hl⟩
    obtain ⟨i, hi, i1, i2, _⟩ := hu a b (by omega) (by omega) (by omega)
    obtain ⟨j, hj, j1, j2, _⟩ := hu a c (by omega) (by omega) (by omega)
    by_cases e : i = j
    · subst e
      exact absurd ((lin_iff ..).2 ⟨i, hi, (together4 ..).2 (.inl ⟨i1, i2, j2⟩)⟩) hl
    · rcases Nat.lt_or_gt_of_ne e with h | h
      · exact ⟨j, i, h, hj⟩
      · exact ⟨i, j, h, hi⟩
end

end Go.Am

