/- How many bits are set; sets of points as bits: plain Lean. -/
set_option linter.unusedVariables false
set_option linter.unusedSimpArgs false
namespace Go.Am

/-- The bits that are set, of the first n. -/
def pop : Nat → Nat → Nat
  | 0, _ => 0
  | n + 1, x => x % 2 + pop n (x / 2)

theorem land_256 (p q s t : Nat) (hq : q < 256) (ht : t < 256) : (256 * p + q) &&& (256 * s + t) = 256 * (p &&& s) + (q &&& t) := by
  have hqt : q &&& t < 2 ^ 8 := Nat.and_lt_two_pow _ ht
  apply Nat.eq_of_testBit_eq
  intro i
  rw [Nat.testBit_and, show (256 : Nat) = 2 ^ 8 from rfl, Nat.testBit_two_pow_mul_add _ (by omega), Nat.testBit_two_pow_mul_add _ (by omega), Nat.testBit_two_pow_mul_add _ hqt]
  by_cases h : i < 8
  · simp only [h, if_true, Nat.testBit_and]
  · simp only [h, if_false, Nat.testBit_and]

def rep8 (m : Nat) : Nat → Nat
  | 0 => 0
  | n + 1 => 256 * rep8 m n + m

/-- A step that works on each byte alone. -/
def stA (m k x : Nat) : Nat := (x / 2 ^ k &&& m) + (x &&& m)
def stC (m x : Nat) : Nat := ((x / 16 + x) &&& m)

/-- Bytes, each through a function. -/
def byt (f : Nat → Nat) : Nat → Nat → Nat
  | 0, _ => 0
  | n + 1, x => 256 * byt f n (x / 256) + f (x % 256)

theorem byt_div (f : Nat → Nat) (n x : Nat) (hf : ∀ y, y < 256 → f y < 256) : byt f (n + 1) x / 256 = byt f n (x / 256) := by
  have := hf (x % 256) (Nat.mod_lt _ (by decide))
  simp only [byt]; omega
theorem byt_mod (f : Nat → Nat) (n x : Nat) (hf : ∀ y, y < 256 → f y < 256) : byt f (n + 1) x % 256 = f (x % 256) := by
  have := hf (x % 256) (Nat.mod_lt _ (by decide))
  simp only [byt]; omega

def tA (x : Nat) : Nat := (x / 2 &&& 85) + (x &&& 85)
def tB (x : Nat) : Nat := (x / 4 &&& 51) + (x &&& 51)
def tC (x : Nat) : Nat := (x / 16 + x) &&& 15

theorem stA_split (m k n x : Nat) (hm : m < 256) (hk : k = 1 ∨ k = 2) (h : ∀ c, c < 4 → ∀ q, q < 256 → (c * 2 ^ (8 - k) % 256 + q / 2 ^ k) &&& m = (q / 2 ^ k &&& m)) (hb : ∀ q, q < 256 → (q / 2 ^ k &&& m) + (q &&& m) < 256) :
    stA (rep8 m n) k x = byt (fun q => (q / 2 ^ k &&& m) + (q &&& m)) n x := by
  induction n generalizing x with
  | zero => simp [stA, rep8, byt]
  | succ n ih =>
    have hx : x = 256 * (x / 256) + x % 256 := by omega
    have hr : x % 256 < 256 := Nat.mod_lt _ (by decide)
    have hd : x / 2 ^ k = 256 * (x / 256 / 2 ^ k) + ((x / 256 % 2 ^ k) * 2 ^ (8 - k) + x % 256 / 2 ^ k) ∧ (x / 256 % 2 ^ k) * 2 ^ (8 - k) + x % 256 / 2 ^ k < 256 ∧ x / 256 % 2 ^ k < 4 ∧ (x / 256 % 2 ^ k) * 2 ^ (8 - k) % 256 = (x / 256 % 2 ^ k) * 2 ^ (8 - k) := by
      rcases hk with rfl | rfl <;> (simp only [Nat.reducePow, Nat.reduceSub]; omega)
    obtain ⟨d1, d2, d3, d4⟩ := hd
    have h' := h _ d3 _ hr
    rw [d4] at h'
    unfold stA
    rw [d1]
    conv => lhs; rhs; rw [hx]
    simp only [rep8, byt]
    rw [land_256 _ _ _ _ d2 hm, land_256 _ _ _ _ hr hm, h', ← ih]
    unfold stA
    omega
theorem tA_spec (n x : Nat) : stA (rep8 85 n) 1 x = byt tA n x := stA_split 85 1 n x (by decide) (.inl rfl) (by decide +kernel) (by decide +kernel)
theorem tB_spec (n x : Nat) : stA (rep8 51 n) 2 x = byt tB n x := stA_split 51 2 n x (by decide) (.inr rfl) (by decide +kernel) (by decide +kernel)

/-- Each byte's nibbles are small. -/
def Small : Nat → Nat → Prop
  | 0, _ => True
  | n + 1, x => x % 16 ≤ 4 ∧ x / 16 % 16 ≤ 4 ∧ Small n (x / 256)

theorem stC_split (n x : Nat) (hs : Small n x) (hx : x < 256 ^ n) : stC (rep8 15 n) x = byt tC n x := by
  induction n generalizing x with
  | zero => simp [stC, rep8, byt]
  | succ n ih =>
    obtain ⟨h1, h2, h3⟩ := hs
    rw [Nat.pow_succ] at hx
    unfold stC
    have e : x / 16 + x = 256 * (x / 256 / 16 + x / 256) + ((x / 256 % 16) * 16 + x % 256 / 16 + x % 256) := by omega
    have e3 : x / 256 % 16 ≤ 4 := by
      cases n with
      | zero => simp at hx; omega
      | succ n => exact h3.1
    rw [e]
    simp only [rep8, byt]
    rw [land_256 _ _ _ _ (by omega) (by decide), ← ih _ h3 (by omega)]
    have key : ∀ c, c < 5 → ∀ q, q < 256 → q % 16 ≤ 4 → q / 16 % 16 ≤ 4 → (c * 16 + q / 16 + q) &&& 15 = tC q := by decide +kernel
    rw [key _ (by omega) _ (by omega) (by omega) (by omega)]
    rfl

theorem byt_small (f : Nat → Nat) (hf : ∀ q, q < 256 → f q % 16 ≤ 4 ∧ f q / 16 ≤ 4) (n x : Nat) : Small n (byt f n x) := by
  have hf2 : ∀ q, q < 256 → f q < 256 := fun q hq => by have := hf q hq; omega
  induction n generalizing x with
  | zero => trivial
  | succ n ih =>
    have h1 := byt_mod f n x hf2
    have h3 := hf (x % 256) (Nat.mod_lt _ (by decide))
    refine ⟨by omega, by omega, ?_⟩
    rw [byt_div f n x hf2]
    exact ih _
theorem byt_lt (f : Nat → Nat) (hf : ∀ q, q < 256 → f q < 256) (n x : Nat) : byt f n x < 256 ^ n := by
  induction n generalizing x with
  | zero => simp [byt]
  | succ n ih =>
    have := ih (x / 256)
    have := hf (x % 256) (Nat.mod_lt _ (by decide))
    rw [Nat.pow_succ]; simp only [byt]; omega
theorem byt_le (f : Nat → Nat) (m : Nat) (hf : ∀ q, q < 256 → f q ≤ m) (n x : Nat) : byt f n x ≤ rep8 m n := by
  induction n generalizing x with
  | zero => exact Nat.le_refl _
  | succ n ih =>
    have := ih (x / 256)
    have := hf (x % 256) (Nat.mod_lt _ (by decide))
    simp only [byt, rep8]; omega
theorem byt_comp (f g : Nat → Nat) (hf : ∀ q, q < 256 → f q < 256) (n x : Nat) : byt g n (byt f n x) = byt (fun q => g (f q)) n x := by
  induction n generalizing x with
  | zero => rfl
  | succ n ih =>
    show 256 * byt g n (byt f (n + 1) x / 256) + g (byt f (n + 1) x % 256) = _
    rw [byt_div f n x hf, byt_mod f n x hf, ih]
    rfl
theorem byt_congr {f g : Nat → Nat} (h : ∀ q, q < 256 → f q = g q) (n x : Nat) : byt f n x = byt g n x := by
  induction n generalizing x with
  | zero => rfl
  | succ n ih => simp only [byt]; rw [ih, h _ (Nat.mod_lt _ (by decide))]

theorem pop_byte : ∀ q, q < 256 → tC (tB (tA q)) = pop 8 q := by decide +kernel
theorem pop8_le : ∀ q, q < 256 → pop 8 q ≤ 8 := by decide +kernel
theorem tA_lt : ∀ q, q < 256 → tA q < 256 := by decide +kernel
theorem tBA : ∀ q, q < 256 → tB (tA q) < 256 ∧ tB (tA q) % 16 ≤ 4 ∧ tB (tA q) / 16 ≤ 4 := by decide +kernel

theorem pop_split (n x : Nat) : pop (n + 8) x = pop 8 (x % 256) + pop n (x / 256) := by
  simp only [pop]
  have e : x / 2 / 2 / 2 / 2 / 2 / 2 / 2 / 2 = x / 256 := by omega
  rw [e]
  omega

theorem steps (x : Nat) : stC (rep8 15 8) (stA (rep8 51 8) 2 (stA (rep8 85 8) 1 x)) = byt (pop 8) 8 x := by
  rw [tA_spec, tB_spec, byt_comp _ _ tA_lt, stC_split _ _ (byt_small _ (fun q hq => (tBA q hq).2) _ _) (byt_lt _ (fun q hq => (tBA q hq).1) _ _), byt_comp _ _ (fun q hq => (tBA q hq).1)]
  exact byt_congr pop_byte 8 x

theorem fold8 (x : Nat) : let y := byt (pop 8) 8 x; let y4 := y + y / 256; let y5 := y4 + y4 / 65536; (y5 + y5 / 4294967296) % 128 = pop 64 x ∧ y < 2 ^ 60 ∧ pop 64 x ≤ 64 := by
  have h0 := pop8_le (x % 256) (Nat.mod_lt _ (by decide))
  have h1 := pop8_le (x / 256 % 256) (Nat.mod_lt _ (by decide))
  have h2 := pop8_le (x / 256 / 256 % 256) (Nat.mod_lt _ (by decide))
  have h3 := pop8_le (x / 256 / 256 / 256 % 256) (Nat.mod_lt _ (by decide))
  have h4 := pop8_le (x / 256 / 256 / 256 / 256 % 256) (Nat.mod_lt _ (by decide))
  have h5 := pop8_le (x / 256 / 256 / 256 / 256 / 256 % 256) (Nat.mod_lt _ (by decide))
  have h6 := pop8_le (x / 256 / 256 / 256 / 256 / 256 / 256 % 256) (Nat.mod_lt _ (by decide))
  have h7 := pop8_le (x / 256 / 256 / 256 / 256 / 256 / 256 / 256 % 256) (Nat.mod_lt _ (by decide))
  have a0 : pop 64 (x) = pop 8 ((x) % 256) + pop 56 ((x) / 256) := pop_split 56 _
  have a1 : pop 56 (x / 256) = pop 8 ((x / 256) % 256) + pop 48 ((x / 256) / 256) := pop_split 48 _
  have a2 : pop 48 (x / 256 / 256) = pop 8 ((x / 256 / 256) % 256) + pop 40 ((x / 256 / 256) / 256) := pop_split 40 _
  have a3 : pop 40 (x / 256 / 256 / 256) = pop 8 ((x / 256 / 256 / 256) % 256) + pop 32 ((x / 256 / 256 / 256) / 256) := pop_split 32 _
  have a4 : pop 32 (x / 256 / 256 / 256 / 256) = pop 8 ((x / 256 / 256 / 256 / 256) % 256) + pop 24 ((x / 256 / 256 / 256 / 256) / 256) := pop_split 24 _
  have a5 : pop 24 (x / 256 / 256 / 256 / 256 / 256) = pop 8 ((x / 256 / 256 / 256 / 256 / 256) % 256) + pop 16 ((x / 256 / 256 / 256 / 256 / 256) / 256) := pop_split 16 _
  have a6 : pop 16 (x / 256 / 256 / 256 / 256 / 256 / 256) = pop 8 ((x / 256 / 256 / 256 / 256 / 256 / 256) % 256) + pop 8 ((x / 256 / 256 / 256 / 256 / 256 / 256) / 256) := pop_split 8 _
  have a7 : pop 8 (x / 256 / 256 / 256 / 256 / 256 / 256 / 256) = pop 8 ((x / 256 / 256 / 256 / 256 / 256 / 256 / 256) % 256) + pop 0 ((x / 256 / 256 / 256 / 256 / 256 / 256 / 256) / 256) := pop_split 0 _
  have z : pop 0 (x / 256 / 256 / 256 / 256 / 256 / 256 / 256 / 256) = 0 := rfl
  rw [a0, a1, a2, a3, a4, a5, a6, a7, z]
  clear a0 a1 a2 a3 a4 a5 a6 a7 z
  simp only [byt]
  generalize pop 8 (x % 256) = a0 at *
  generalize pop 8 (x / 256 % 256) = a1 at *
  generalize pop 8 (x / 256 / 256 % 256) = a2 at *
  generalize pop 8 (x / 256 / 256 / 256 % 256) = a3 at *
  generalize pop 8 (x / 256 / 256 / 256 / 256 % 256) = a4 at *
  generalize pop 8 (x / 256 / 256 / 256 / 256 / 256 % 256) = a5 at *
  generalize pop 8 (x / 256 / 256 / 256 / 256 / 256 / 256 % 256) = a6 at *
  generalize pop 8 (x / 256 / 256 / 256 / 256 / 256 / 256 / 256 % 256) = a7 at *
  have e1 : (256 * (256 * (256 * (256 * (256 * (256 * (256 * (256 * (0) + (a7)) + (a6)) + (a5)) + (a4)) + (a3)) + (a2)) + (a1)) + (a0)) / 256 = 256 * (256 * (256 * (256 * (256 * (256 * (256 * (0) + (a7)) + (a6)) + (a5)) + (a4)) + (a3)) + (a2)) + (a1) := by omega
  have e2 : 256 * (256 * (256 * (256 * (256 * (256 * (256 * (256 * (0) + (a7)) + (a6)) + (a5)) + (a4)) + (a3)) + (a2)) + (a1)) + (a0) + (256 * (256 * (256 * (256 * (256 * (256 * (256 * (0) + (a7)) + (a6)) + (a5)) + (a4)) + (a3)) + (a2)) + (a1)) = 256 * (256 * (256 * (256 * (256 * (256 * (256 * (256 * (0) + (a7 + 0)) + (a6 + a7)) + (a5 + a6)) + (a4 + a5)) + (a3 + a4)) + (a2 + a3)) + (a1 + a2)) + (a0 + a1) := by omega
  have e3 : (256 * (256 * (256 * (256 * (256 * (256 * (256 * (256 * (0) + (a7 + 0)) + (a6 + a7)) + (a5 + a6)) + (a4 + a5)) + (a3 + a4)) + (a2 + a3)) + (a1 + a2)) + (a0 + a1)) / 65536 = 256 * (256 * (256 * (256 * (256 * (256 * (0) + (a7 + 0)) + (a6 + a7)) + (a5 + a6)) + (a4 + a5)) + (a3 + a4)) + (a2 + a3) := by omega
  have e4 : 256 * (256 * (256 * (256 * (256 * (256 * (256 * (256 * (0) + (a7 + 0)) + (a6 + a7)) + (a5 + a6)) + (a4 + a5)) + (a3 + a4)) + (a2 + a3)) + (a1 + a2)) + (a0 + a1) + (256 * (256 * (256 * (256 * (256 * (256 * (0) + (a7 + 0)) + (a6 + a7)) + (a5 + a6)) + (a4 + a5)) + (a3 + a4)) + (a2 + a3)) = 256 * (256 * (256 * (256 * (256 * (256 * (256 * (256 * (0) + (a7 + 0 + 0 + 0)) + (a6 + a7 + 0 + 0)) + (a5 + a6 + a7 + 0)) + (a4 + a5 + a6 + a7)) + (a3 + a4 + a5 + a6)) + (a2 + a3 + a4 + a5)) + (a1 + a2 + a3 + a4)) + (a0 + a1 + a2 + a3) := by omega
  have e5 : (256 * (256 * (256 * (256 * (256 * (256 * (256 * (256 * (0) + (a7 + 0 + 0 + 0)) + (a6 + a7 + 0 + 0)) + (a5 + a6 + a7 + 0)) + (a4 + a5 + a6 + a7)) + (a3 + a4 + a5 + a6)) + (a2 + a3 + a4 + a5)) + (a1 + a2 + a3 + a4)) + (a0 + a1 + a2 + a3)) / 4294967296 = 256 * (256 * (256 * (256 * (0) + (a7 + 0 + 0 + 0)) + (a6 + a7 + 0 + 0)) + (a5 + a6 + a7 + 0)) + (a4 + a5 + a6 + a7) := by omega
  rw [e1, e2, e3, e4, e5]
  clear e1 e2 e3 e4 e5
  omega
/-- The bits, one by one. -/
theorem pop_filter (n x : Nat) : pop n x = ((List.range n).filter fun i => x.testBit i).length := by
  induction n generalizing x with
  | zero => rfl
  | succ n ih =>
    rw [pop, ih, List.range_succ_eq_map, List.filter_cons, List.filter_map]
    have e : ((fun i => x.testBit i) ∘ Nat.succ) = fun i => (x / 2).testBit i := by
      funext i
      simp [Nat.testBit_succ]
    rw [e]
    have h0 : x.testBit 0 = decide (x % 2 = 1) := Nat.testBit_zero x
    rw [h0]
    by_cases h : x % 2 = 1
    · rw [if_pos (decide_eq_true h), List.length_cons, List.length_map]; omega
    · rw [if_neg (by simp [h]), List.length_map]; omega

theorem nodup_sub {α : Type} [DecidableEq α] : ∀ {a b : List α}, a.Nodup → (∀ x ∈ a, x ∈ b) → a.length ≤ b.length
  | [], b, _, _ => Nat.zero_le _
  | x :: a, b, hn, h => by
    have hx : x ∈ b := h x (by simp)
    have hn' := List.nodup_cons.1 hn
    have := nodup_sub (a := a) (b := b.erase x) hn'.2 fun y hy => (List.mem_erase_of_ne (by intro e; subst e; exact hn'.1 hy)).2 (h y (by simp [hy]))
    rw [List.length_erase_of_mem hx] at this
    have := List.length_pos_of_mem hx
    simp; omega

/-- .. and if they are as many, they are the same. -/
theorem nodup_all {α : Type} [DecidableEq α] {a b : List α} (hn : a.Nodup) (h : ∀ x ∈ a, x ∈ b) (hl : b.length ≤ a.length) : ∀ x ∈ b, x ∈ a := by
  intro x hx
  apply Classical.byContradiction
  intro hxa
  have := nodup_sub (b := b.erase x) hn fun y hy => (List.mem_erase_of_ne (by intro e; subst e; exact hxa hy)).2 (h y hy)
  rw [List.length_erase_of_mem hx] at this
  have := List.length_pos_of_mem hx
  omega

/-- A block as bits. -/
def mask (b : List Int) : Nat := b.foldl (fun s p => s ||| 2 ^ p.toNat) 0
theorem mask_take (b : List Int) (i : Nat) (h : i < b.length) : mask (b.take (i + 1)) = mask (b.take i) ||| 2 ^ (b.getD i 0).toNat := by
  unfold mask
  rw [List.take_succ_eq_append_getElem h, List.foldl_append, List.getD_eq_getElem?_getD, List.getElem?_eq_getElem h]
  rfl
theorem foldl_bit (b : List Int) (s i : Nat) : (b.foldl (fun s p => s ||| 2 ^ p.toNat) s).testBit i = (s.testBit i || b.any fun p => decide (p.toNat = i)) := by
  induction b generalizing s with
  | nil => simp
  | cons p b ih => rw [List.foldl_cons, ih, Nat.testBit_or, Nat.testBit_two_pow, List.any_cons, Bool.or_assoc]
theorem mask_bit (b : List Int) (h0 : ∀ p ∈ b, 0 ≤ p) (i : Nat) : (mask b).testBit i = decide ((i : Int) ∈ b) := by
  unfold mask
  rw [foldl_bit, Nat.zero_testBit, Bool.false_or]
  rw [Bool.eq_iff_iff, List.any_eq_true, decide_eq_true_iff]
  constructor
  · rintro ⟨p, hp, hd⟩
    have := h0 p hp
    have : p = (i : Int) := by have := of_decide_eq_true hd; omega
    rw [← this]; exact hp
  · intro h
    exact ⟨_, h, by simp⟩
theorem mask_lt (b : List Int) (h : ∀ p ∈ b, 0 ≤ p ∧ p < 64) : mask b < 2 ^ 64 := by
  unfold mask
  have : ∀ (b : List Int) (s : Nat), s < 2 ^ 64 → (∀ p ∈ b, 0 ≤ p ∧ p < 64) → b.foldl (fun s p => s ||| 2 ^ p.toNat) s < 2 ^ 64 := by
    intro b
    induction b with
    | nil => intro s hs _; exact hs
    | cons p b ih =>
      intro s hs hp
      rw [List.foldl_cons]
      refine ih _ (Nat.or_lt_two_pow hs (Nat.pow_lt_pow_right (by decide) ?_)) fun q hq => hp q (by simp [hq])
      have := hp p (by simp)
      omega
  exact this b 0 (by decide) h

/-- COMMON POINTS, BY BITS. -/
theorem pop_mask (a b : List Int) (ha : ∀ p ∈ a, 0 ≤ p ∧ p < 64) (hb : ∀ p ∈ b, 0 ≤ p ∧ p < 64) (hn : a.Nodup) : pop 64 (mask a &&& mask b) = (a.filter fun x => decide (x ∈ b)).length := by
  rw [pop_filter]
  have e : (List.range 64).filter (fun i => (mask a &&& mask b).testBit i) = (List.range 64).filter (fun (i : Nat) => decide ((i : Int) ∈ a) && decide ((i : Int) ∈ b)) := by
    apply List.filter_congr
    intro i _
    rw [Nat.testBit_and, mask_bit a (fun p hp => (ha p hp).1), mask_bit b (fun p hp => (hb p hp).1)]
  rw [e]
  apply Nat.le_antisymm
  · rw [← List.length_map (as := (List.range 64).filter _) (fun (i : Nat) => (i : Int))]
    refine nodup_sub ?_ fun x hx => ?_
    · rw [List.nodup_iff_pairwise_ne, List.pairwise_map]
      refine List.Pairwise.imp ?_ (List.Pairwise.filter _ (List.nodup_range (n := 64)))
      intro x y hne
      omega
    · obtain ⟨i, hi, rfl⟩ := List.mem_map.1 hx
      obtain ⟨_, h2⟩ := List.mem_filter.1 hi
      simp only [Bool.and_eq_true, decide_eq_true_eq] at h2
      exact List.mem_filter.2 ⟨h2.1, decide_eq_true h2.2⟩
  · rw [← List.length_map (as := List.filter _ a) (fun (x : Int) => x.toNat)]
    refine nodup_sub ?_ fun x hx => ?_
    · rw [List.nodup_iff_pairwise_ne, List.pairwise_map]
      refine List.Pairwise.imp_of_mem ?_ (List.Pairwise.filter _ hn)
      intro x y hx hy hne
      have := (ha x (List.mem_filter.1 hx).1).1
      have := (ha y (List.mem_filter.1 hy).1).1
      omega
    · obtain ⟨p, hp, rfl⟩ := List.mem_map.1 hx
      obtain ⟨h1, h2⟩ := List.mem_filter.1 hp
      have hp' := ha p h1
      refine List.mem_filter.2 ⟨List.mem_range.2 (by omega), ?_⟩
      have e : ((p.toNat : Nat) : Int) = p := by omega
      simp only [e, Bool.and_eq_true, decide_eq_true_eq]
      exact ⟨h1, of_decide_eq_true h2⟩
end Go.Am
