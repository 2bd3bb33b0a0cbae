/- How many bits are set; sets of points as bits: plain Lean. -/
import Derived.Test.YtcibofbmennjpaaDoorAmW
import Derived.Sort.OwnSortedInts
set_option linter.unusedVariables false
set_option linter.unusedSimpArgs false
namespace Go.Am

/-- The bits that are set, of the first n. -/
def pop : Nat → Nat → Nat
  | 0, _ => 0
  | n + 1, x => x % 2 + pop n (x / 2)

theorem land_256 (p q s t : Nat) (hq : q < 256) (ht : t < 256) : (256 * p + q) &&& (256 * s + t) = 256 * (p &&& s) + (q &&& t) := by
  have hqt : q &&& t < 2 ^ 8 := Nat.and_lt_two_pow _ ht
  apply Nat.eq_of_testBit_eq
  intro i
  rw [Nat.testBit_and, show (256 : Nat) = 2 ^ 8 from rfl, Nat.testBit_two_pow_mul_add _ (by omega), Nat.testBit_two_pow_mul_add _ (by omega), Nat.testBit_two_pow_mul_add _ hqt]
  by_cases h : i < 8
  · simp only [h, if_true, Nat.testBit_and]
  · simp only [h, if_false, Nat.testBit_and]

def rep8 (m : Nat) : Nat → Nat
  | 0 => 0
  | n + 1 => 256 * rep8 m n + m

/-- A step that works on each byte alone. -/
def stA (m k x : Nat) : Nat := (x / 2 ^ k &&& m) + (x &&& m)
def stC (m x : Nat) : Nat := ((x / 16 + x) &&& m)

/-- Bytes, each through a function. -/
def byt (f : Nat → Nat) : Nat → Nat → Nat
  | 0, _ => 0
  | n + 1, x => 256 * byt f n (x / 256) + f (x % 256)

theorem byt_div (f : Nat → Nat) (n x : Nat) (hf : ∀ y, y < 256 → f y < 256) : byt f (n + 1) x / 256 = byt f n (x / 256) := by
  have := hf (x % 256) (Nat.mod_lt _ (by decide))
  simp only [byt]; omega
theorem byt_mod (f : Nat → Nat) (n x : Nat) (hf : ∀ y, y < 256 → f y < 256) : byt f (n + 1) x % 256 = f (x % 256) := by
  have := hf (x % 256) (Nat.mod_lt _ (by decide))
  simp only [byt]; omega

def tA (x : Nat) : Nat := (x / 2 &&& 85) + (x &&& 85)
def tB (x : Nat) : Nat := (x / 4 &&& 51) + (x &&& 51)
def tC (x : Nat) : Nat := (x / 16 + x) &&& 15

theorem stA_split (m k n x : Nat) (hm : m < 256) (hk : k = 1 ∨ k = 2) (h : ∀ c, c < 4 → ∀ q, q < 256 → (c * 2 ^ (8 - k) % 256 + q / 2 ^ k) &&& m = (q / 2 ^ k &&& m)) (hb : ∀ q, q < 256 → (q / 2 ^ k &&& m) + (q &&& m) < 256) :
    stA (rep8 m n) k x = byt (fun q => (q / 2 ^ k &&& m) + (q &&& m)) n x := by
  induction n generalizing x with
  | zero => simp [stA, rep8, byt]
  | succ n ih =>
    have hx : x = 256 * (x / 256) + x % 256 := by omega
    have hr : x % 256 < 256 := Nat.mod_lt _ (by decide)
    have hd : x / 2 ^ k = 256 * (x / 256 / 2 ^ k) + ((x / 256 % 2 ^ k) * 2 ^ (8 - k) + x % 256 / 2 ^ k) ∧ (x / 256 % 2 ^ k) * 2 ^ (8 - k) + x % 256 / 2 ^ k < 256 ∧ x / 256 % 2 ^ k < 4 ∧ (x / 256 % 2 ^ k) * 2 ^ (8 - k) % 256 = (x / 256 % 2 ^ k) * 2 ^ (8 - k) := by
      rcases hk with rfl | rfl <;> (simp only [Nat.reducePow, Nat.reduceSub]; omega)
    obtain ⟨d1, d2, d3, d4⟩ := hd
    have h' := h _ d3 _ hr
    rw [d4] at h'
    unfold stA
    rw [d1]
    conv => lhs; rhs; rw [hx]
    simp only [rep8, byt]
    rw [land_256 _ _ _ _ d2 hm, land_256 _ _ _ _ hr hm, h', ← ih]
    unfold stA
    omega
theorem tA_spec (n x : Nat) : stA (rep8 85 n) 1 x = byt tA n x := stA_split 85 1 n x (by decide) (.inl rfl) (by decide +kernel) (by decide +kernel)
theorem tB_spec (n x : Nat) : stA (rep8 51 n) 2 x = byt tB n x := stA_split 51 2 n x (by decide) (.inr rfl) (by decide +kernel) (by decide +kernel)

/-- Each byte's nibbles are small. -/
def Small : Nat → Nat → Prop
  | 0, _ => True
  | n + 1, x => x % 16 ≤ 4 ∧ x / 16 % 16 ≤ 4 ∧ Small n (x / 256)

theorem stC_split (n x : Nat) (hs : Small n x) (hx : x < 256 ^ n) : stC (rep8 15 n) x = byt tC n x := by
  induction n generalizing x with
  | zero => simp [stC, rep8, byt]
  | succ n ih =>
    obtain ⟨h1, h2, h3⟩ := hs
    rw [Nat.pow_succ] at hx
    unfold stC
    have e : x / 16 + x = 256 * (x / 256 / 16 + x / 256) + ((x / 256 % 16) * 16 + x % 256 / 16 + x % 256) := by omega
    have e3 : x / 256 % 16 ≤ 4 := by
      cases n with
      | zero => simp at hx; omega
      | succ n => exact h3.1
    rw [e]
    simp only [rep8, byt]
    rw [land_256 _ _ _ _ (by omega) (by decide), ← ih _ h3 (by omega)]
    have key : ∀ c, c < 5 → ∀ q, q < 256 → q % 16 ≤ 4 → q / 16 % 16 ≤ 4 → (c * 16 + q / 16 + q) &&& 15 = tC q := by decide +kernel
    rw [key _ (by omega) _ (by omega) (by omega) (by omega)]
    rfl

theorem byt_small (f : Nat → Nat) (hf : ∀ q, q < 256 → f q % 16 ≤ 4 ∧ f q / 16 ≤ 4) (n x : Nat) : Small n (byt f n x) := by
  have hf2 : ∀ q, q < 256 → f q < 256 := fun q hq => by have := hf q hq; omega
  induction n generalizing x with
  | zero => trivial
  | succ n ih =>
    have h1 := byt_mod f n x hf2
    have h3 := hf (x % 256) (Nat.mod_lt _ (by decide))
    refine ⟨by omega, by omega, ?_⟩
    rw [byt_div f n x hf2]
    exact ih _
theorem byt_lt (f : Nat → Nat) (hf : ∀ q, q < 256 → f q < 256) (n x : Nat) : byt f n x < 256 ^ n := by
  induction n generalizing x with
  | zero => simp [byt]
  | succ n ih =>
    have := ih (x / 256)
    have := hf (x % 256) (Nat.mod_lt _ (by decide))
    rw [Nat.pow_succ]; simp only [byt]; omega
theorem byt_le (f : Nat → Nat) (m : Nat) (hf : ∀ q, q < 256 → f q ≤ m) (n x : Nat) : byt f n x ≤ rep8 m n := by
  induction n generalizing x with
  | zero => exact Nat.le_refl _
  | succ n ih =>
    have := ih (x / 256)
    have := hf (x % 256) (Nat.mod_lt _ (by decide))
    simp only [byt, rep8]; omega
theorem byt_comp (f g : Nat → Nat) (hf : ∀ q, q < 256 → f q < 256) (n x : Nat) : byt g n (byt f n x) = byt (fun q => g (f q)) n x := by
  induction n generalizing x with
  | zero => rfl
  | succ n ih =>
    show 256 * byt g n (byt f (n + 1) x / 256) + g (byt f (n + 1) x % 256) = _
    rw [byt_div f n x hf, byt_mod f n x hf, ih]
    rfl
theorem byt_congr {f g : Nat → Nat} (h : ∀ q, q < 256 → f q = g q) (n x : Nat) : byt f n x = byt g n x := by
  induction n generalizing x with
  | zero => rfl
  | succ n ih => simp only [byt]; rw [ih, h _ (Nat.mod_lt _ (by decide))]

theorem pop_byte : ∀ q, q < 256 → tC (tB (tA q)) = pop 8 q := by decide +kernel
theorem pop8_le : ∀ q, q < 256 → pop 8 q ≤ 8 := by decide +kernel
theorem tA_lt : ∀ q, q < 256 → tA q < 256 := by decide +kernel
theorem tBA : ∀ q, q < 256 → tB (tA q) < 256 ∧ tB (tA q) % 16 ≤ 4 ∧ tB (tA q) / 16 ≤ 4 := by decide +kernel

theorem pop_split (n x : Nat) : pop (n + 8) x = pop 8 (x % 256) + pop n (x / 256) := by
  simp only [pop]
  have e : x / 2 / 2 / 2 / 2 / 2 / 2 / 2 / 2 = x / 256 := by omega
  rw [e]
  omega

theorem steps (x : Nat) : stC (rep8 15 8) (stA (rep8 51 8) 2 (stA (rep8 85 8) 1 x)) = byt (pop 8) 8 x := by
  rw [tA_spec, tB_spec, byt_comp _ _ tA_lt, stC_split _ _ (byt_small _ (fun q hq => (tBA q hq).2) _ _) (byt_lt _ (fun q hq => (tBA q hq).1) _ _), byt_comp _ _ (fun q hq => (tBA q hq).1)]
  exact byt_congr pop_byte 8 x

theorem fold8 (x : Nat) : let y := byt (pop 8) 8 x; let y4 := y + y / 256; let y5 := y4 + y4 / 65536; (y5 + y5 / 4294967296) % 128 = pop 64 x ∧ y < 2 ^ 60 ∧ pop 64 x ≤ 64 := by
  have h0 := pop8_le (x % 256) (Nat.mod_lt _ (by decide))
  have h1 := pop8_le (x / 256 % 256) (Nat.mod_lt _ (by decide))
  have h2 := pop8_le (x / 256 / 256 % 256) (Nat.mod_lt _ (by decide))
  have h3 := pop8_le (x / 256 / 256 / 256 % 256) (Nat.mod_lt _ (by decide))
  have h4 := pop8_le (x / 256 / 256 / 256 / 256 % 256) (Nat.mod_lt _ (by decide))
  have h5 := pop8_le (x / 256 / 256 / 256 / 256 / 256 % 256) (Nat.mod_lt _ (by decide))
  have h6 := pop8_le (x / 256 / 256 / 256 / 256 / 256 / 256 % 256) (Nat.mod_lt _ (by decide))
  have h7 := pop8_le (x / 256 / 256 / 256 / 256 / 256 / 256 / 256 % 256) (Nat.mod_lt _ (by decide))
  have a0 : pop 64 (x) = pop 8 ((x) % 256) + pop 56 ((x) / 256) := pop_split 56 _
  have a1 : pop 56 (x / 256) = pop 8 ((x / 256) % 256) + pop 48 ((x / 256) / 256) := pop_split 48 _
  have a2 : pop 48 (x / 256 / 256) = pop 8 ((x / 256 / 256) % 256) + pop 40 ((x / 256 / 256) / 256) := pop_split 40 _
  have a3 : pop 40 (x / 256 / 256 / 256) = pop 8 ((x / 256 / 256 / 256) % 256) + pop 32 ((x / 256 / 256 / 256) / 256) := pop_split 32 _
  have a4 : pop 32 (x / 256 / 256 / 256 / 256) = pop 8 ((x / 256 / 256 / 256 / 256) % 256) + pop 24 ((x / 256 / 256 / 256 / 256) / 256) := pop_split 24 _
  have a5 : pop 24 (x / 256 / 256 / 256 / 256 / 256) = pop 8 ((x / 256 / 256 / 256 / 256 / 256) % 256) + pop 16 ((x / 256 / 256 / 256 / 256 / 256) / 256) := pop_split 16 _
  have a6 : pop 16 (x / 256 / 256 / 256 / 256 / 256 / 256) = pop 8 ((x / 256 / 256 / 256 / 256 / 256 / 256) % 256) + pop 8 ((x / 256 / 256 / 256 / 256 / 256 / 256) / 256) := pop_split 8 _
  have a7 : pop 8 (x / 256 / 256 / 256 / 256 / 256 / 256 / 256) = pop 8 ((x / 256 / 256 / 256 / 256 / 256 / 256 / 256) % 256) + pop 0 ((x / 256 / 256 / 256 / 256 / 256 / 256 / 256) / 256) := pop_split 0 _
  have z : pop 0 (x / 256 / 256 / 256 / 256 / 256 / 256 / 256 / 256) = 0 := rfl
  rw [a0, a1, a2, a3, a4, a5, a6, a7, z]
  clear a0 a1 a2 a3 a4 a5 a6 a7 z
  simp only [byt]
  generalize pop 8 (x % 256) = a0 at *
  generalize pop 8 (x / 256 % 256) = a1 at *
  generalize pop 8 (x / 256 / 256 % 256) = a2 at *
  generalize pop 8 (x / 256 / 256 / 256 % 256) = a3 at *
  generalize pop 8 (x / 256 / 256 / 256 / 256 % 256) = a4 at *
  generalize pop 8 (x / 256 / 256 / 256 / 256 / 256 % 256) = a5 at *
  generalize pop 8 (x / 256 / 256 / 256 / 256 / 256 / 256 % 256) = a6 at *
  generalize pop 8 (x / 256 / 256 / 256 / 256 / 256 / 256 / 256 % 256) = a7 at *
  have e1 : (256 * (256 * (256 * (256 * (256 * (256 * (256 * (256 * (0) + (a7)) + (a6)) + (a5)) + (a4)) + (a3)) + (a2)) + (a1)) + (a0)) / 256 = 256 * (256 * (256 * (256 * (256 * (256 * (256 * (0) + (a7)) + (a6)) + (a5)) + (a4)) + (a3)) + (a2)) + (a1) := by omega
  have e2 : 256 * (256 * (256 * (256 * (256 * (256 * (256 * (256 * (0) + (a7)) + (a6)) + (a5)) + (a4)) + (a3)) + (a2)) + (a1)) + (a0) + (256 * (256 * (256 * (256 * (256 * (256 * (256 * (0) + (a7)) + (a6)) + (a5)) + (a4)) + (a3)) + (a2)) + (a1)) = 256 * (256 * (256 * (256 * (256 * (256 * (256 * (256 * (0) + (a7 + 0)) + (a6 + a7)) + (a5 + a6)) + (a4 + a5)) + (a3 + a4)) + (a2 + a3)) + (a1 + a2)) + (a0 + a1) := by omega
  have e3 : (256 * (256 * (256 * (256 * (256 * (256 * (256 * (256 * (0) + (a7 + 0)) + (a6 + a7)) + (a5 + a6)) + (a4 + a5)) + (a3 + a4)) + (a2 + a3)) + (a1 + a2)) + (a0 + a1)) / 65536 = 256 * (256 * (256 * (256 * (256 * (256 * (0) + (a7 + 0)) + (a6 + a7)) + (a5 + a6)) + (a4 + a5)) + (a3 + a4)) + (a2 + a3) := by omega
  have e4 : 256 * (256 * (256 * (256 * (256 * (256 * (256 * (256 * (0) + (a7 + 0)) + (a6 + a7)) + (a5 + a6)) + (a4 + a5)) + (a3 + a4)) + (a2 + a3)) + (a1 + a2)) + (a0 + a1) + (256 * (256 * (256 * (256 * (256 * (256 * (0) + (a7 + 0)) + (a6 + a7)) + (a5 + a6)) + (a4 + a5)) + (a3 + a4)) + (a2 + a3)) = 256 * (256 * (256 * (256 * (256 * (256 * (256 * (256 * (0) + (a7 + 0 + 0 + 0)) + (a6 + a7 + 0 + 0)) + (a5 + a6 + a7 + 0)) + (a4 + a5 + a6 + a7)) + (a3 + a4 + a5 + a6)) + (a2 + a3 + a4 + a5)) + (a1 + a2 + a3 + a4)) + (a0 + a1 + a2 + a3) := by omega
  have e5 : (256 * (256 * (256 * (256 * (256 * (256 * (256 * (256 * (0) + (a7 + 0 + 0 + 0)) + (a6 + a7 + 0 + 0)) + (a5 + a6 + a7 + 0)) + (a4 + a5 + a6 + a7)) + (a3 + a4 + a5 + a6)) + (a2 + a3 + a4 + a5)) + (a1 + a2 + a3 + a4)) + (a0 + a1 + a2 + a3)) / 4294967296 = 256 * (256 * (256 * (256 * (0) + (a7 + 0 + 0 + 0)) + (a6 + a7 + 0 + 0)) + (a5 + a6 + a7 + 0)) + (a4 + a5 + a6 + a7) := by omega
  rw [e1, e2, e3, e4, e5]
  clear e1 e2 e3 e4 e5
  omega
/-- The bits, one by one. -/
theorem pop_filter (n x : Nat) : pop n x = ((List.range n).filter fun i => x.testBit i).length := by
  induction n generalizing x with
  | zero => rfl
  | succ n ih =>
    rw [pop, ih, List.range_succ_eq_map, List.filter_cons, List.filter_map]
    have e : ((fun i => x.testBit i) ∘ Nat.succ) = fun i => (x / 2).testBit i := by
      funext i
      simp [Nat.testBit_succ]
    rw [e]
    have h0 : x.testBit 0 = decide (x % 2 = 1) := Nat.testBit_zero x
    rw [h0]
    by_cases h : x % 2 = 1
    · rw [if_pos (decide_eq_true h), List.length_cons, List.length_map]; omega
    · rw [if_neg (by simp [h]), List.length_map]; omega

theorem nodup_sub {α : Type} [DecidableEq α] : ∀ {a b : List α}, a.Nodup → (∀ x ∈ a, x ∈ b) → a.length ≤ b.length
  | [], b, _, _ => Nat.zero_le _
  | x :: a, b, hn, h => by
    have hx : x ∈ b := h x (by simp)
    have hn' := List.nodup_cons.1 hn
    have := nodup_sub (a := a) (b := b.erase x) hn'.2 fun y hy => (List.mem_erase_of_ne (by intro e; subst e; exact hn'.1 hy)).2 (h y (by simp [hy]))
    rw [List.length_erase_of_mem hx] at this
    have := List.length_pos_of_mem hx
    simp; omega

/-- .. and if they are as many, they are the same. -/
theorem nodup_all {α : Type} [DecidableEq α] {a b : List α} (hn : a.Nodup) (h : ∀ x ∈ a, x ∈ b) (hl : b.length ≤ a.length) : ∀ x ∈ b, x ∈ a := by
  intro x hx
  apply Classical.byContradiction
  intro hxa
  have := nodup_sub (b := b.erase x) hn fun y hy => (List.mem_erase_of_ne (by intro e; subst e; exact hxa hy)).2 (h y hy)
  rw [List.length_erase_of_mem hx] at this
  have := List.length_pos_of_mem hx
  omega

/-- A block as bits. -/
def mask (b : List Int) : Nat := b.foldl (fun s p => s ||| 2 ^ p.toNat) 0
theorem mask_take (b : List Int) (i : Nat) (h : i < b.length) : mask (b.take (i + 1)) = mask (b.take i) ||| 2 ^ (b.getD i 0).toNat := by
  unfold mask
  rw [List.take_succ_eq_append_getElem h, List.foldl_append, List.getD_eq_getElem?_getD, List.getElem?_eq_getElem h]
  rfl
theorem foldl_bit (b : List Int) (s i : Nat) : (b.foldl (fun s p => s ||| 2 ^ p.toNat) s).testBit i = (s.testBit i || b.any fun p => decide (p.toNat = i)) := by
  induction b generalizing s with
  | nil => simp
  | cons p b ih => rw [List.foldl_cons, ih, Nat.testBit_or, Nat.testBit_two_pow, List.any_cons, Bool.or_assoc]
theorem mask_bit (b : List Int) (h0 : ∀ p ∈ b, 0 ≤ p) (i : Nat) : (mask b).testBit i = decide ((i : Int) ∈ b) := by
  unfold mask
  rw [foldl_bit, Nat.zero_testBit, Bool.false_or]
  rw [Bool.eq_iff_iff, List.any_eq_true, decide_eq_true_iff]
  constructor
  · rintro ⟨p, hp, hd⟩
    have := h0 p hp
    have : p = (i : Int) := by have := of_decide_eq_true hd; omega
    rw [← this]; exact hp
  · intro h
    exact ⟨_, h, by simp⟩
theorem mask_lt (b : List Int) (h : ∀ p ∈ b, 0 ≤ p ∧ p < 64) : mask b < 2 ^ 64 := by
  unfold mask
  have : ∀ (b : List Int) (s : Nat), s < 2 ^ 64 → (∀ p ∈ b, 0 ≤ p ∧ p < 64) → b.foldl (fun s p => s ||| 2 ^ p.toNat) s < 2 ^ 64 := by
    intro b
    induction b with
    | nil => intro s hs _; exact hs
    | cons p b ih =>
      intro s hs hp
      rw [List.foldl_cons]
      refine ih _ (Nat.or_lt_two_pow hs (Nat.pow_lt_pow_right (by decide) ?_)) fun q hq => hp q (by simp [hq])
      have := hp p (by simp)
      omega
  exact this b 0 (by decide) h

/-- COMMON POINTS, BY BITS. -/
theorem pop_mask (a b : List Int) (ha : ∀ p ∈ a, 0 ≤ p ∧ p < 64) (hb : ∀ p ∈ b, 0 ≤ p ∧ p < 64) (hn : a.Nodup) : pop 64 (mask a &&& mask b) = (a.filter fun x => decide (x ∈ b)).length := by
  rw [pop_filter]
  have e : (List.range 64).filter (fun i => (mask a &&& mask b).testBit i) = (List.range 64).filter (fun (i : Nat) => decide ((i : Int) ∈ a) && decide ((i : Int) ∈ b)) := by
    apply List.filter_congr
    intro i _
    rw [Nat.testBit_and, mask_bit a (fun p hp => (ha p hp).1), mask_bit b (fun p hp => (hb p hp).1)]
  rw [e]
  apply Nat.le_antisymm
  · rw [← List.length_map (as := (List.range 64).filter _) (fun (i : Nat) => (i : Int))]
    refine nodup_sub ?_ fun x hx => ?_
    · rw [List.nodup_iff_pairwise_ne, List.pairwise_map]
      refine List.Pairwise.imp ?_ (List.Pairwise.filter _ (List.nodup_range (n := 64)))
      intro x y hne
      omega
    · obtain ⟨i, hi, rfl⟩ := List.mem_map.1 hx
      obtain ⟨_, h2⟩ := List.mem_filter.1 hi
      simp only [Bool.and_eq_true, decide_eq_true_eq] at h2
      exact List.mem_filter.2 ⟨h2.1, decide_eq_true h2.2⟩
  · rw [← List.length_map (as := List.filter _ a) (fun (x : Int) => x.toNat)]
    refine nodup_sub ?_ fun x hx => ?_
    · rw [List.nodup_iff_pairwise_ne, List.pairwise_map]
      refine List.Pairwise.imp_of_mem ?_ (List.Pairwise.filter _ hn)
      intro x y hx hy hne
      have := (ha x (List.mem_filter.1 hx).1).1
      have := (ha y (List.mem_filter.1 hy).1).1
      omega
    · obtain ⟨p, hp, rfl⟩ := List.mem_map.1 hx
      obtain ⟨h1, h2⟩ := List.mem_filter.1 hp
      have hp' := ha p h1
      refine List.mem_filter.2 ⟨List.mem_range.2 (by omega), ?_⟩
      have e : ((p.toNat : Nat) : Int) = p := by omega
      simp only [e, Bool.and_eq_true, decide_eq_true_eq]
      exact ⟨h1, of_decide_eq_true h2⟩

end Go.Am

/- The table of two points' blocks: plain Lean. -/
set_option linter.unusedVariables false
set_option linter.unusedSimpArgs false
namespace Go.Am

/-- Nonzero cells. -/
def full (l : List Int) : Nat := l.countP fun x => x != 0

/-- The table, when the triples of V have been put in. -/
structure Tab (V : Nat → Int → Int → Prop) (l : List Int) (many : Nat) : Prop where
  len : l.length = 1600
  inn : ∀ i a b, V i a b → (0 ≤ a ∧ a < 40) ∧ (0 ≤ b ∧ b < 40) ∧ a ≠ b ∧ l.getD (a.toNat * 40 + b.toNat) 0 = (i : Int) + 1
  out : ∀ k, k < 1600 → l.getD k 0 ≠ 0 → ∃ i a b, V i a b ∧ k = a.toNat * 40 + b.toNat
  cnt : many = full l

theorem Tab.zero : Tab (fun _ _ _ => False) (List.replicate 1600 0) 0 := by
  refine ⟨List.length_replicate, fun _ _ _ h => h.elim, fun k hk h => absurd ?_ h, ?_⟩
  · rw [List.getD_eq_getElem?_getD, List.getElem?_replicate, if_pos hk]; rfl
  · unfold full
    rw [List.countP_replicate]
    simp

theorem Tab.congr {V V' : Nat → Int → Int → Prop} {l : List Int} {m : Nat} (h : Tab V l m) (e : ∀ i a b, V' i a b ↔ V i a b) : Tab V' l m :=
  ⟨h.len, fun i a b hv => h.inn i a b ((e i a b).1 hv), fun k hk hn => let ⟨i, a, b, hv, hq⟩ := h.out k hk hn; ⟨i, a, b, (e i a b).2 hv, hq⟩, h.cnt⟩

theorem Tab.put {V V' : Nat → Int → Int → Prop} {l : List Int} {m : Nat} (h : Tab V l m) (i : Nat) (a b : Int) (ha : 0 ≤ a ∧ a < 40) (hb : 0 ≤ b ∧ b < 40) (hne : a ≠ b) (hz : l.getD (a.toNat * 40 + b.toNat) 0 = 0)
    (e : ∀ j x y, V' j x y ↔ V j x y ∨ (j = i ∧ x = a ∧ y = b)) : Tab V' (l.set (a.toNat * 40 + b.toNat) ((i : Int) + 1)) (m + 1) := by
  have hk : a.toNat * 40 + b.toNat < l.length := by rw [h.len]; omega
  have get : ∀ k, k < l.length → (l.set (a.toNat * 40 + b.toNat) ((i : Int) + 1)).getD k 0 = if a.toNat * 40 + b.toNat = k then (i : Int) + 1 else l.getD k 0 := by
    intro k hkl
    rw [List.getD_eq_getElem?_getD, List.getElem?_set]
    split
    · rename_i e; subst e; rfl
    · rw [List.getD_eq_getElem?_getD]
  refine ⟨by rw [List.length_set]; exact h.len, fun j x y hv => ?_, fun k hk1 hn => ?_, ?_⟩
  · rcases (e j x y).1 hv with hv | ⟨rfl, rfl, rfl⟩
    · obtain ⟨h1, h2, h3, h4⟩ := h.inn j x y hv
      refine ⟨h1, h2, h3, ?_⟩
      rw [get _ (by rw [h.len]; omega)]
      split
      · rename_i e1; rw [← e1, hz] at h4; omega
      · exact h4
    · exact ⟨ha, hb, hne, by rw [get _ hk, if_pos rfl]⟩
  · rw [get k (by rw [h.len]; exact hk1)] at hn
    split at hn
    · rename_i e1; exact ⟨i, a, b, (e i a b).2 (.inr ⟨rfl, rfl, rfl⟩), e1.symm⟩
    · obtain ⟨j, x, y, hv, hq⟩ := h.out k hk1 hn
      exact ⟨j, x, y, (e j x y).2 (.inl hv), hq⟩
  · have hc := h.cnt
    unfold full at *
    rw [List.countP_set hk]
    have h0 : l[a.toNat * 40 + b.toNat] = 0 := by
      rw [List.getD_eq_getElem?_getD, List.getElem?_eq_getElem hk] at hz
      exact hz
    have h1 : ((i : Int) + 1 != 0) = true := by rw [bne_iff_ne]; omega
    rw [h0, h1]
    simp
    omega

theorem full_filter (l : List Int) (h : l.length = 1600) : full l = ((List.range 1600).filter fun k => l.getD k 0 != 0).length := by
  unfold full
  have : l = (List.range 1600).map fun k => l.getD k 0 := by
    apply List.ext_getElem
    · simp [h]
    · intro k h1 h2
      rw [List.getElem_map, List.getElem_range, List.getD_eq_getElem?_getD, List.getElem?_eq_getElem h1]
      rfl
  conv => lhs; rw [this]
  rw [List.countP_map, List.countP_eq_length_filter]
  rfl

/-- The cells of two points below n. -/
def cellsOf (n : Nat) : List Nat := (List.range 1600).filter fun k => decide (k / 40 < n ∧ k % 40 < n ∧ k / 40 ≠ k % 40)
theorem cellsOf_length : ∀ n, n < 41 → (cellsOf n).length = n * (n - 1) := by decide +kernel

/-- ALL PAIRS ARE IN, IF THE COUNT IS RIGHT. -/
theorem Tab.all {V : Nat → Int → Int → Prop} {l : List Int} {m n : Nat} (h : Tab V l m) (hn : n ≤ 40) (hV : ∀ i a b, V i a b → a < n ∧ b < n) :
    m = n * (n - 1) ↔ ∀ a b : Nat, a < n → b < n → a ≠ b → ∃ i, V i a b := by
  have hf := full_filter l h.len
  have hsub : ∀ k ∈ (List.range 1600).filter (fun k => l.getD k 0 != 0), k ∈ cellsOf n := by
    intro k hk
    obtain ⟨h1, h2⟩ := List.mem_filter.1 hk
    obtain ⟨i, a, b, hv, rfl⟩ := h.out k (List.mem_range.1 h1) (bne_iff_ne.1 h2)
    obtain ⟨ha, hb, hne, _⟩ := h.inn i a b hv
    have := hV i a b hv
    exact List.mem_filter.2 ⟨h1, decide_eq_true (by omega)⟩
  have hnd : ((List.range 1600).filter (fun k => l.getD k 0 != 0)).Nodup := List.Pairwise.filter _ List.nodup_range
  have hc := h.cnt
  rw [← cellsOf_length n (by omega), hc, hf]
  constructor
  · intro he a b ha hb hne
    have hin : a * 40 + b ∈ cellsOf n := List.mem_filter.2 ⟨List.mem_range.2 (by omega), decide_eq_true (by omega)⟩
    have := nodup_all hnd hsub (by omega) _ hin
    obtain ⟨h1, h2⟩ := List.mem_filter.1 this
    obtain ⟨i, x, y, hv, hq⟩ := h.out _ (List.mem_range.1 h1) (bne_iff_ne.1 h2)
    obtain ⟨hx, hy, _, _⟩ := h.inn i x y hv
    have e1 : x = a := by omega
    have e2 : y = b := by omega
    subst e1 e2
    exact ⟨i, hv⟩
  · intro hall
    refine Nat.le_antisymm (nodup_sub hnd hsub) (nodup_sub (List.Pairwise.filter _ List.nodup_range) fun k hk => ?_)
    obtain ⟨h1, h2⟩ := List.mem_filter.1 hk
    have h2 := of_decide_eq_true h2
    obtain ⟨i, hv⟩ := hall (k / 40) (k % 40) h2.1 h2.2.1 h2.2.2
    obtain ⟨_, _, _, h4⟩ := h.inn _ _ _ hv
    refine List.mem_filter.2 ⟨h1, bne_iff_ne.2 ?_⟩
    rw [show (((k / 40 : Nat) : Int)).toNat * 40 + (((k % 40 : Nat) : Int)).toNat = k by omega] at h4
    rw [h4]; omega

end Go.Am

/- slices.Sort at []int, one step of the machine: by the shelf's contract. -/
set_option linter.unusedVariables false
set_option linter.unusedSimpArgs false

namespace Go.Am

open Go.RowKit Go.Sort

def twoArgs : Tm → Bool
  | .n _ (.n _ _ _) _ => true
  | _ => false
theorem two_set (t : Tm) (k : Nat) (v : AV) (h : twoArgs t = true) : twoArgs (t.set k v) = true := by
  cases t with
  | e => cases h
  | n a l r =>
    cases l with
    | e => cases h
    | n b l2 r2 =>
      unfold Tm.set
      rw [show (16 : Nat) = 14 + 1 + 1 from rfl]
      unfold Tm.setF
      cases Nat.beq k 0 with
      | true => rfl
      | false =>
        simp only [cond_false]
        cases Nat.beq (k % 2) 1 with
        | false => rfl
        | true =>
          simp only [cond_true]
          unfold Tm.setF
          cases Nat.beq (k / 2) 0 with
          | true => rfl
          | false =>
            simp only [cond_false]
            cases Nat.beq (k / 2 % 2) 1 <;> rfl
theorem two_init : ∀ (l : List AV) (k : Nat) (t : Tm), twoArgs t = true → twoArgs (initTm k l t) = true
  | [], _, _, h => h
  | v :: l, k, t, h => two_init l (k + 1) _ (two_set t k v h)
theorem one_arg {l : List AV} {v : AV} (h : initTm 0 l .e = .n v .e .e) : l = [v] := by
  cases l with
  | nil => cases h
  | cons a l =>
    cases l with
    | nil =>
      have : initTm 0 [a] .e = .n a .e .e := rfl
      rw [this] at h
      cases h; rfl
    | cons b l =>
      exfalso
      have : twoArgs (initTm 0 (a :: b :: l) .e) = true := two_init l 2 _ rfl
      rw [h] at this
      cases this

def toInts : List AV → Option (List Int)
  | [] => some []
  | .int .i64 n :: r => (toInts r).map (n :: ·)
  | _ :: _ => none
theorem toInts_map (l : List Int) : toInts (l.map (.int .i64)) = some l := by
  induction l with
  | nil => rfl
  | cons a l ih => rw [List.map_cons, toInts, ih]; rfl
theorem toInts_inv : ∀ {cs : List AV} {l : List Int}, toInts cs = some l → cs = l.map (.int .i64)
  | [], l, h => by cases h; rfl
  | c :: r, l, h => by
    unfold toInts at h
    split at h
    · rename_i hq; cases hq
    · rename_i n r' hr
      obtain ⟨l', hl, rfl⟩ := Option.map_eq_some_iff.1 h
      cases hr
      rw [toInts_inv hl]; rfl
    · cases h

def sorted (l : List Int) : List Int := l.mergeSort fun x y => decide (x ≤ y)
theorem sorted_length (l : List Int) : (sorted l).length = l.length := List.length_mergeSort l
theorem sorted_one (l : List Int) (x : Int) : sorted l = [x] ↔ l = [x] := by
  have hp : (sorted l).Perm l := List.mergeSort_perm l _
  constructor
  · intro h
    rw [h] at hp
    exact (List.perm_singleton.1 hp.symm)
  · intro h
    rw [h] at hp ⊢
    exact List.perm_singleton.1 hp

def sortBox (st : St) (id n : Nat) (b : Box) (o : Option (List Int)) : Option St := match o with
  | some l => if b.status = .live ∧ l.length = n ∧ b.sz = 1 ∧ n < 4611686018427387904 then some { st with bx := st.bx.set id { b with cs := (sorted l).map (.int .i64) } } else none
  | none => none
/-- The step: the one argument's box is sorted. -/
def sortSt (st : St) : Option St := match st.tm with
  | .n .nil .e .e => some st
  | .n (.own id n) .e .e => match st.bx[id]? with
    | some b => sortBox st id n b (toInts b.cs)
    | none => none
  | _ => none
def mfSort : MF := ⟨.prim sortSt, []⟩

section
variable {P : Program} {F : Nat → Option MF}

theorem sort_prim {f : Nat} (he : ∀ (args : Array Value) (w : World), (callFunc f args).run P w = .ok (.enter f args) w)
    (hs : ∀ (blk off cap : Nat) (zs : List Int) (w : World), Holds (Value.int .i64) w blk off zs.toArray → blk < w.heap.size → zs.length < 4611686018427387904 →
      Calls P f #[.slice (some ⟨blk, off, none⟩) zs.length cap] w fun e w' => e = .returned (.tuple #[]) ∧ ∃ n os, w' = grow (putRow (Value.int .i64) (Sort.ahead w n) blk off (zs.mergeSort fun x y => decide (x ≤ y)).toArray) os)
    (hz : ∀ (p : Option Addr) (cap : Nat) (w : World), Calls P f #[.slice p 0 cap] w fun e w' => e = .returned (.tuple #[]) ∧ w' = w) : Prim P F f mfSort := by
  refine ⟨he, ?_⟩
  intro G n w0 w base S0 S ρ xs bx args st1 rs hsz hR hrun
  have hrun' : ∃ st', sortSt ⟨initTm 0 xs .e, bx, 0⟩ = some st' ∧ st1 = st' ∧ rs = [] := by
    unfold runBody at hrun
    cases n with
    | zero => simp [aexec, mfSort] at hrun
    | succ n =>
      simp only [mfSort, aexec, step] at hrun
      cases hs : sortSt ⟨initTm 0 xs .e, bx, 0⟩ with
      | none => rw [hs] at hrun; simp at hrun
      | some st' =>
        rw [hs] at hrun
        simp only [Option.map_some, List.mapM_nil, Option.pure_def, Option.some.injEq, Prod.mk.injEq] at hrun
        exact ⟨st', rfl, hrun.1.symm, hrun.2.symm⟩
  obtain ⟨st', hst, rfl, rfl⟩ := hrun'
  unfold sortSt at hst
  simp only at hst
  have ha : ∀ v, xs = [v] → ∃ a, args = #[a] ∧ RV w S ρ bx v a := by
    intro v hv
    subst hv
    obtain ⟨l⟩ := args
    match l, hsz with
    | [a], _ => exact ⟨a, rfl, hR.tm 0⟩
  split at hst
  · rename_i htm
    obtain ⟨a, rfl, hv⟩ := ha _ (one_arg htm)
    cases hst
    cases hv
    refine (hz none 0 w).mono fun e w' ⟨h1, h2⟩ => ?_
    subst h2
    exact ⟨_, _, _, _, h1, hR, Later.refl, .tup _ _ rfl (fun j c v h => by simp at h)⟩
  · rename_i id k htm
    obtain ⟨a, rfl, hv⟩ := ha _ (one_arg htm)
    split at hst
    · rename_i b hb
      unfold sortBox at hst
      split at hst
      · rename_i l hl
        split at hst
        · rename_i hc
          obtain ⟨c1, c2, c3, c4⟩ := hc
          cases hst
          have hcs := toInts_inv hl
          have hblen : b.cs.length = k * b.sz := by rw [hcs, List.length_map, c2, c3, Nat.mul_one]
          obtain ⟨g, cap, cur, ok, rfl, hkc⟩ := own_inv hR hv hb (by rw [c1]; decide) hblen
          have hgl : g < w.heap.size := (Array.getElem?_eq_some_iff.1 ok.heap).1
          have hidl : id < bx.length := (List.getElem?_eq_some_iff.1 hb).1
          have hcur : cur.toList.take l.length = l.map (Value.int .i64) := by
            apply List.ext_getElem?
            intro j
            by_cases hj : j < l.length
            · rw [List.getElem?_take_of_lt hj, Array.getElem?_toList, List.getElem?_map, List.getElem?_eq_getElem hj]
              obtain ⟨v, h1, _, h3⟩ := ok.cells j (.int .i64 l[j]) (by rw [hcs, List.getElem?_map, List.getElem?_eq_getElem hj]; rfl)
              rw [h1]
              cases h3; rfl
            · rw [List.getElem?_take_eq_none (by omega), List.getElem?_eq_none (by simp; omega)]
          have hfit : l.length ≤ cur.size := by have := ok.fits; rw [hcs, List.length_map] at this; exact this
          rw [← c2]
          refine (hs g 0 cap l w (holds_of_blockI ok.heap hcur) hgl (by omega)).mono fun e w' ⟨h1, m, os, h2⟩ => ?_
          have hh := heap_sortedI (n := m) (os := os) (sorted l).toArray ok.heap
          have hg := grownBy_sortedI (w := w) (g := g) (n := m) (os := os) (sorted l).toArray
          rw [show (l.mergeSort fun x y => decide (x ≤ y)) = sorted l from rfl] at h2
          rw [← h2] at hh hg
          obtain ⟨q1, q2, q3, q4, q5⟩ := hg
          have htk := take_putCellsI cur (sorted l) (by rw [sorted_length]; exact hfit)
          obtain ⟨R', L'⟩ := hR.upd (w' := w') (ρ' := ρ) (bx' := bx.set id { b with cs := (sorted l).map (.int .i64) }) (id := id) (g' := g) (go := g) (cap' := cap) (b' := { b with cs := (sorted l).map (.int .i64) }) (cur' := putCells (Value.int .i64) 0 (sorted l).toArray cur)
            (by simp [hidl]) c1 ok.rho (fun k hk => ⟨by rw [List.getElem?_set_ne (Ne.symm hk)], rfl⟩) (by simp [hR.rho])
            (fun b0 hb0 => .inr (by rw [hb] at hb0; obtain rfl := Option.some.inj hb0; exact ⟨rfl, .inl ⟨by simp only; rw [hcs, List.length_map, List.length_map, sorted_length], rfl⟩⟩))
            q1 q2 q3 q4 (fun k hk hne _ => q5 k hk (fun e => hne (Option.some.inj e))) ok.base (ok.live c1) ok.base (ok.live c1) hh
            (by simp only [putCells, Array.size_mapIdx]; exact ok.size) ok.cap (by simp only [putCells, Array.size_mapIdx]; rw [List.length_map, sorted_length]; exact hfit)
            (fun j c hj => by
              simp only at hj
              rw [List.getElem?_map] at hj
              obtain ⟨x, hx, rfl⟩ := Option.map_eq_some_iff.1 hj
              have hjl : j < (sorted l).length := (List.getElem?_eq_some_iff.1 hx).1
              refine ⟨.int .i64 x, ?_, rfl, .int _ _⟩
              rw [← Array.getElem?_toList, ← List.getElem?_take_of_lt hjl, htk, List.getElem?_map, hx]; rfl)
            (fun k b2 x hk hb2 hf2 hx => ⟨fun e => hR.inj k id b2 b x (g, cap) hb2 hb hf2 (by rw [c1]; decide) hx ok.rho hk e, fun e => hR.inj k id b2 b x (g, cap) hb2 hb hf2 (by rw [c1]; decide) hx ok.rho hk e⟩)
          exact ⟨_, _, _, _, h1, R', L', .tup _ _ rfl (fun j c v h => by simp at h)⟩
        · cases hst
      · cases hst
    · cases hst
  · cases hst
end

end Go.Am

