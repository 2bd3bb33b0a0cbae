/- What the small functions answer: slices of one's own. -/
import Derived.Test.YtcibofbmennjpaaDoorAmPl1
set_option linter.unusedVariables false
set_option linter.unusedSimpArgs false
namespace Go.Am

section
variable {G : Nat → List AV} {F : Nat → Option MF}

def upto (n : Nat) : List Int := (List.range n).map fun (i : Nat) => (i : Int)
theorem upto_length (n : Nat) : (upto n).length = n := by simp [upto]
theorem upto_succ (n : Nat) : upto (n + 1) = upto n ++ [(n : Int)] := by simp [upto, List.range_succ]



/-- The next set of as many points: at place i. -/
def nextAt (s : List Int) (i : Nat) : List Int := s.take i ++ (List.range (s.length - i)).map fun (j : Nat) => s.getD i 0 + 1 + (j : Int)

theorem nextAt_length (s : List Int) (i : Nat) (h : i < s.length) : (nextAt s i).length = s.length := by simp [nextAt]; omega
theorem nextAt_getD (s : List Int) (i m : Nat) (h1 : i ≤ m) (h2 : m < s.length) : (nextAt s i).getD m 0 = s.getD i 0 + 1 + ((m - i : Nat) : Int) := by
  unfold nextAt
  rw [List.getD_eq_getElem?_getD, List.getElem?_append_right (by simp; omega), List.getElem?_map, List.length_take, Nat.min_eq_left (by omega), List.getElem?_range (by omega)]
  rfl
def mix (a b : List Int) (j : Nat) : List Int := a.take j ++ b.drop j
theorem mix_length (a b : List Int) (j : Nat) (h : a.length = b.length) (hj : j ≤ b.length) : (mix a b j).length = b.length := by simp [mix]; omega
theorem mix_lt (a b : List Int) (j m : Nat) (h : m < j) (hj : j ≤ a.length) : (mix a b j).getD m 0 = a.getD m 0 := by
  unfold mix
  rw [List.getD_eq_getElem?_getD, List.getElem?_append_left (by simp; omega), List.getElem?_take, if_pos h, List.getD_eq_getElem?_getD]
theorem mix_set (a b : List Int) (j : Nat) (h : a.length = b.length) (hj : j < b.length) : (mix a b j).set j (a.getD j 0) = mix a b (j + 1) := by
  apply List.ext_getElem?
  intro m
  rw [List.getElem?_set, mix_length a b j h (by omega)]
  unfold mix
  by_cases h1 : j = m
  · subst h1
    rw [if_pos rfl, if_pos hj, List.getElem?_append_left (by simp; omega), List.getElem?_take, if_pos (by omega), List.getD_eq_getElem?_getD, List.getElem?_eq_getElem (by omega)]
    rfl
  · rw [if_neg h1]
    by_cases h2 : m < j
    · rw [List.getElem?_append_left (by simp; omega), List.getElem?_append_left (by simp; omega), List.getElem?_take, List.getElem?_take, if_pos h2, if_pos (by omega)]
    · rw [List.getElem?_append_right (by simp; omega), List.getElem?_append_right (by simp; omega), List.getElem?_drop, List.getElem?_drop, List.length_take, List.length_take]
      congr 1
      omega
theorem mix_whole (a b : List Int) (h : a.length = b.length) : mix a b b.length = a := by
  unfold mix
  rw [List.take_of_length_le (by omega), List.drop_of_length_le (Nat.le_refl _), List.append_nil]
theorem mix_first (s : List Int) (i : Nat) (h : i < s.length) : s.set i (s.getD i 0 + 1) = mix (nextAt s i) s (i + 1) := by
  rw [← mix_set _ _ _ (nextAt_length s i h) h, nextAt_getD s i i (Nat.le_refl _) h]
  have e : mix (nextAt s i) s i = s := by
    unfold mix nextAt
    rw [List.take_append_of_le_length (by simp; omega), List.take_take, Nat.min_self, List.take_append_drop]
  rw [e]
  simp

/-- What the last place is that can grow. -/
def Last (s : List Int) (n : Int) (i : Nat) : Prop := i < s.length ∧ s.getD i 0 < n - s.length + i ∧ ∀ j, i < j → j < s.length → ¬ s.getD j 0 < n - s.length + j

end

end Go.Am

/- The document's answers. -/
set_option linter.unusedVariables false
set_option linter.unusedSimpArgs false
namespace Go.Am

/-- Nothing is longer than a slice can be. -/
structure Des.Ok (d : Des) : Prop where
  n : d.rows.length < 9223372036854775808
  r : ∀ i, ((d.rows.getD i none).getD []).length < 9223372036854775808

section
variable {G : Nat → List AV} {F : Nat → Option MF}

theorem any_bl (d : Des) (f : List Int → Bool) : d.bl.any f = true ↔ ∃ i, i < d.rows.length ∧ f ((d.rows.getD i none).getD []) = true := by
  unfold Des.bl
  rw [List.any_map, List.any_eq_true]
  constructor
  · rintro ⟨r, hr, hf⟩
    obtain ⟨i, hi, rfl⟩ := List.mem_iff_getElem.1 hr
    exact ⟨i, hi, by rw [List.getD_eq_getElem?_getD, List.getElem?_eq_getElem hi]; exact hf⟩
  · rintro ⟨i, hi, hf⟩
    rw [List.getD_eq_getElem?_getD, List.getElem?_eq_getElem hi] at hf
    exact ⟨_, List.getElem_mem hi, hf⟩



/-- What is wrong with a block of points below n. -/
def Out (n : Int) (b : List Int) : Prop := ∃ i, i < b.length ∧ (b.getD i 0 < 0 ∨ n ≤ b.getD i 0)
def Down (b : List Int) : Prop := ∃ i, 1 ≤ i ∧ i < b.length ∧ b.getD i 0 ≤ b.getD (i - 1) 0
/-- The first fault: its kind. -/
inductive Fault (d : Des) : Int → Prop where
  | few (h : d.points < 1 ∨ 40 < d.points) : Fault d 1
  | full (h : ¬ (d.points < 1 ∨ 40 < d.points)) (h2 : 200 < d.rows.length) : Fault d 3
  | out (h : ¬ (d.points < 1 ∨ 40 < d.points)) (h2 : ¬ 200 < d.rows.length) (i : Nat) (hi : i < d.rows.length) (ok : ∀ j, j < i → ¬ Out d.points ((d.rows.getD j none).getD []) ∧ ¬ Down ((d.rows.getD j none).getD [])) (ho : Out d.points ((d.rows.getD i none).getD [])) : Fault d 1
  | down (h : ¬ (d.points < 1 ∨ 40 < d.points)) (h2 : ¬ 200 < d.rows.length) (i : Nat) (hi : i < d.rows.length) (ok : ∀ j, j < i → ¬ Out d.points ((d.rows.getD j none).getD []) ∧ ¬ Down ((d.rows.getD j none).getD [])) (hn : ¬ Out d.points ((d.rows.getD i none).getD [])) (hd : Down ((d.rows.getD i none).getD [])) : Fault d 2
  | ok (h : ¬ (d.points < 1 ∨ 40 < d.points)) (h2 : ¬ 200 < d.rows.length) (ok : ∀ j, j < d.rows.length → ¬ Out d.points ((d.rows.getD j none).getD []) ∧ ¬ Down ((d.rows.getD j none).getD [])) : Fault d 0

/-- A function of a value, by a property of its answer. -/
theorem pcall_ex {f : Nat} {mf : MF} (hf : F f = some mf) {args : List AV} {P : AV → Prop} (hv : ∀ v, P v → (∀ id n, v ≠ .own id n) ∧ (∀ bx, reify reifyDepth bx v = some v) ∧ ∀ bx, alias reifyDepth bx v = false)
    (h : W G F mf.body ⟨initTm 0 args .e, [], 0⟩ fun e s => (e = .normal ∨ e = .ret) ∧ ∃ rs, mf.res.mapM (rvar s) = some rs ∧ P (tuple rs)) :
    ∃ v, pcall F (E G F) f args = some (.val v, false) ∧ P v := by
  obtain ⟨s, rs, h1, h2⟩ := runBody_W h
  obtain ⟨a, b, c⟩ := hv _ h2
  refine ⟨tuple rs, ?_, h2⟩
  unfold pcall
  rw [hf]
  simp only [h1]
  generalize tuple rs = v at *
  cases v with
  | own id n => exact absurd rfl (a id n)
  | _ => simp only [b, c]; rfl

end

end Go.Am

