/- The planes of the fields up to order 5, and their duals. Written by program. -/
import Derived.Test.YtcibofbmennjpaaDoorAmFd9
import Derived.KernelRfl
set_option linter.unusedVariables false
set_option linter.unusedSimpArgs false
namespace Go.Am
def rowsQ2 : List (List Int) := [[1, 3, 5], [0, 3, 4], [2, 3, 6], [0, 1, 2], [1, 4, 6], [0, 5, 6], [2, 4, 5]]
def tripsQ2 : List (List Int) := [[0, 0, 1], [0, 1, 0], [0, 1, 1], [1, 0, 0], [1, 0, 1], [1, 1, 0], [1, 1, 1]]
def rowsQ3 : List (List Int) := [[1, 4, 7, 10], [0, 4, 5, 6], [3, 4, 9, 11], [2, 4, 8, 12], [0, 1, 2, 3], [1, 6, 9, 12], [1, 5, 8, 11], [0, 10, 11, 12], [3, 6, 8, 10], [2, 5, 9, 10], [0, 7, 8, 9], [2, 6, 7, 11], [3, 5, 7, 12]]
def tripsQ3 : List (List Int) := [[0, 0, 1], [0, 1, 0], [0, 1, 1], [0, 1, 2], [1, 0, 0], [1, 0, 1], [1, 0, 2], [1, 1, 0], [1, 1, 1], [1, 1, 2], [1, 2, 0], [1, 2, 1], [1, 2, 2]]
def rowsQ4 : List (List Int) := [[1, 5, 9, 13, 17], [0, 5, 6, 7, 8], [2, 5, 10, 15, 20], [4, 5, 12, 14, 19], [3, 5, 11, 16, 18], [0, 1, 2, 3, 4], [1, 6, 10, 14, 18], [1, 8, 12, 16, 20], [1, 7, 11, 15, 19], [0, 9, 10, 11, 12], [2, 6, 9, 16, 19], [4, 8, 9, 15, 18], [3, 7, 9, 14, 20], [0, 17, 18, 19, 20], [3, 6, 12, 15, 17], [2, 8, 11, 14, 17], [4, 7, 10, 16, 17], [0, 13, 14, 15, 16], [4, 6, 11, 13, 20], [3, 8, 10, 13, 19], [2, 7, 12, 13, 18]]
def tripsQ4 : List (List Int) := [[0, 0, 1], [0, 1, 0], [0, 1, 1], [0, 1, 2], [0, 1, 3], [1, 0, 0], [1, 0, 1], [1, 0, 2], [1, 0, 3], [1, 1, 0], [1, 1, 1], [1, 1, 2], [1, 1, 3], [1, 2, 0], [1, 2, 1], [1, 2, 2], [1, 2, 3], [1, 3, 0], [1, 3, 1], [1, 3, 2], [1, 3, 3]]
def rowsQ5 : List (List Int) := [[1, 6, 11, 16, 21, 26], [0, 6, 7, 8, 9, 10], [5, 6, 15, 19, 23, 27], [3, 6, 13, 20, 22, 29], [4, 6, 14, 17, 25, 28], [2, 6, 12, 18, 24, 30], [0, 1, 2, 3, 4, 5], [1, 10, 15, 20, 25, 30], [1, 8, 13, 18, 23, 28], [1, 9, 14, 19, 24, 29], [1, 7, 12, 17, 22, 27], [0, 26, 27, 28, 29, 30], [5, 10, 14, 18, 22, 26], [3, 8, 15, 17, 24, 26], [4, 9, 12, 20, 23, 26], [2, 7, 13, 19, 25, 26], [0, 16, 17, 18, 19, 20], [4, 10, 13, 16, 24, 27], [5, 8, 12, 16, 25, 29], [2, 9, 15, 16, 22, 28], [3, 7, 14, 16, 23, 30], [0, 21, 22, 23, 24, 25], [3, 10, 12, 19, 21, 28], [2, 8, 14, 20, 21, 27], [5, 9, 13, 17, 21, 30], [4, 7, 15, 18, 21, 29], [0, 11, 12, 13, 14, 15], [2, 10, 11, 17, 23, 29], [4, 8, 11, 19, 22, 30], [3, 9, 11, 18, 25, 27], [5, 7, 11, 20, 24, 28]]
def tripsQ5 : List (List Int) := [[0, 0, 1], [0, 1, 0], [0, 1, 1], [0, 1, 2], [0, 1, 3], [0, 1, 4], [1, 0, 0], [1, 0, 1], [1, 0, 2], [1, 0, 3], [1, 0, 4], [1, 1, 0], [1, 1, 1], [1, 1, 2], [1, 1, 3], [1, 1, 4], [1, 2, 0], [1, 2, 1], [1, 2, 2], [1, 2, 3], [1, 2, 4], [1, 3, 0], [1, 3, 1], [1, 3, 2], [1, 3, 3], [1, 3, 4], [1, 4, 0], [1, 4, 1], [1, 4, 2], [1, 4, 3], [1, 4, 4]]
set_option maxRecDepth 100000
theorem rowsQ2_eq : rowsUpto 2 tripsQ2 7 7 = rowsQ2 := by decide +kernel
theorem tripsQ2_eq : tripCells 2 = (tripsQ2.flatMap id).map (.int .i64) := by kernel_rfl
theorem tripsQ2_ok : ∀ i, i < 7 → ((tripsQ2.flatMap id).drop (i * 3)).take 3 = tripsQ2.getD i [] ∧ (tripsQ2.getD i []).length = 3 ∧ ∀ x ∈ tripsQ2.getD i [], 0 ≤ x ∧ x < 2 := by decide +kernel
theorem tripL2 : TripL 2 7 tripsQ2 (tripsQ2.flatMap id) := ⟨by decide +kernel, fun i hi => let ⟨a, b, c⟩ := tripsQ2_ok i hi; ⟨a, b, c⟩, by decide⟩
theorem rowsQ3_eq : rowsUpto 3 tripsQ3 13 13 = rowsQ3 := by decide +kernel
theorem tripsQ3_eq : tripCells 3 = (tripsQ3.flatMap id).map (.int .i64) := by kernel_rfl
theorem tripsQ3_ok : ∀ i, i < 13 → ((tripsQ3.flatMap id).drop (i * 3)).take 3 = tripsQ3.getD i [] ∧ (tripsQ3.getD i []).length = 3 ∧ ∀ x ∈ tripsQ3.getD i [], 0 ≤ x ∧ x < 3 := by decide +kernel
theorem tripL3 : TripL 3 13 tripsQ3 (tripsQ3.flatMap id) := ⟨by decide +kernel, fun i hi => let ⟨a, b, c⟩ := tripsQ3_ok i hi; ⟨a, b, c⟩, by decide⟩
theorem rowsQ4_eq : rowsUpto 4 tripsQ4 21 21 = rowsQ4 := by decide +kernel
theorem tripsQ4_eq : tripCells 4 = (tripsQ4.flatMap id).map (.int .i64) := by kernel_rfl
theorem tripsQ4_ok : ∀ i, i < 21 → ((tripsQ4.flatMap id).drop (i * 3)).take 3 = tripsQ4.getD i [] ∧ (tripsQ4.getD i []).length = 3 ∧ ∀ x ∈ tripsQ4.getD i [], 0 ≤ x ∧ x < 4 := by decide +kernel
theorem tripL4 : TripL 4 21 tripsQ4 (tripsQ4.flatMap id) := ⟨by decide +kernel, fun i hi => let ⟨a, b, c⟩ := tripsQ4_ok i hi; ⟨a, b, c⟩, by decide⟩
theorem rowsQ5_eq : rowsUpto 5 tripsQ5 31 31 = rowsQ5 := by decide +kernel
theorem tripsQ5_eq : tripCells 5 = (tripsQ5.flatMap id).map (.int .i64) := by kernel_rfl
theorem tripsQ5_ok : ∀ i, i < 31 → ((tripsQ5.flatMap id).drop (i * 3)).take 3 = tripsQ5.getD i [] ∧ (tripsQ5.getD i []).length = 3 ∧ ∀ x ∈ tripsQ5.getD i [], 0 ≤ x ∧ x < 5 := by decide +kernel
theorem tripL5 : TripL 5 31 tripsQ5 (tripsQ5.flatMap id) := ⟨by decide +kernel, fun i hi => let ⟨a, b, c⟩ := tripsQ5_ok i hi; ⟨a, b, c⟩, by decide⟩

theorem rowsO_rows (n : Int) (rows : List (List Int)) : (Des.mk n (rowsO rows)).rows = rows.map optL := by cases rows <;> rfl
theorem rowsO_len (n : Int) (rows : List (List Int)) : (Des.mk n (rowsO rows)).rows.length = rows.length := by rw [rowsO_rows, List.length_map]
theorem rowsO_rw (n : Int) (rows : List (List Int)) (i : Nat) : (Des.mk n (rowsO rows)).rw i = rows.getD i [] := by
  unfold Des.rw
  rw [rowsO_rows, List.getD_eq_getElem?_getD, List.getElem?_map, List.getD_eq_getElem?_getD]
  cases rows[i]? with
  | none => rfl
  | some r => exact optL_getD r

/-- In how many rows both points are. -/
def bothL (rows : List (List Int)) (x y : Int) : Nat → Nat
  | 0 => 0
  | k + 1 => bothL rows x y k + if together [y, x] (rows.getD k []) = 2 then 1 else 0
theorem both_L (n : Int) (rows : List (List Int)) (x y : Int) (k : Nat) : (Des.mk n (rowsO rows)).both x y k = bothL rows x y k := by
  induction k with
  | zero => rfl
  | succ k ih => unfold Des.both bothL; rw [ih, rowsO_rw]

def ascB : List Int → Bool
  | [] => true
  | [_] => true
  | a :: b :: r => decide (a < b) && ascB (b :: r)
theorem ascB_get : ∀ (l : List Int), ascB l = true → ∀ i, i + 1 < l.length → l.getD i 0 < l.getD (i + 1) 0
  | [], _, i, h => by simp at h
  | [_], _, i, h => by simp at h
  | a :: b :: r, h, i, hi => by
    simp only [ascB, Bool.and_eq_true, decide_eq_true_eq] at h
    cases i with
    | zero => exact h.1
    | succ i => exact ascB_get (b :: r) h.2 i (by simpa using hi)

/-- Rows that are a plane's. -/
structure PlaneL (n : Nat) (rows : List (List Int)) : Prop where
  lo : 1 ≤ n
  hi : n ≤ 40
  len : rows.length ≤ 200
  inn : ∀ r ∈ rows, ascB r = true ∧ ∀ x ∈ r, 0 ≤ x ∧ x < n
  one : ∀ i, i < rows.length → ∀ j, j < i → together (rows.getD i []) (rows.getD j []) = 1
  two : ∀ x, x < n → ∀ y, y < x → bothL rows (x : Nat) (y : Nat) rows.length = 1
  four : 4 ≤ n
  free : ∃ a b c e : Int, 0 ≤ a ∧ a < b ∧ b < c ∧ c < e ∧ e < n ∧ ∀ r ∈ rows, ¬ 2 < together [a, b, c, e] r

theorem PlaneL.fault {n : Nat} {rows : List (List Int)} (h : PlaneL n rows) : Fault ⟨n, rowsO rows⟩ 0 := by
  refine .ok (by show ¬ ((n : Int) < 1 ∨ 40 < (n : Int)); have := h.lo; have := h.hi; omega) (by rw [rowsO_len]; have := h.len; omega) fun j hj => ?_
  rw [rowsO_len] at hj
  have e : ((Des.mk n (rowsO rows)).rows.getD j none).getD [] = rows.getD j [] := rowsO_rw n rows j
  rw [e]
  have hm : rows.getD j [] ∈ rows := by rw [List.getD_eq_getElem?_getD, List.getElem?_eq_getElem hj]; exact List.getElem_mem hj
  obtain ⟨h1, h2⟩ := h.inn _ hm
  refine ⟨fun ⟨i, hi, ho⟩ => ?_, fun ⟨i, h1', hi, hd⟩ => ?_⟩
  · have := h2 _ (getD_mem hi)
    have ho : (rows.getD j []).getD i 0 < 0 ∨ (n : Int) ≤ (rows.getD j []).getD i 0 := ho
    omega
  · have := ascB_get _ h1 (i - 1) (by omega)
    rw [show i - 1 + 1 = i by omega] at this
    omega
theorem PlaneL.planeP {n : Nat} {rows : List (List Int)} (h : PlaneL n rows) : ∃ hg : Good ⟨n, rowsO rows⟩ n, PlaneP ⟨n, rowsO rows⟩ n := by
  obtain ⟨m, hg⟩ := h.fault.good
  have hm : m = n := by have : ((n : Nat) : Int) = m := hg.pts; omega
  subst hm
  refine ⟨hg, fun i j hj hi => ?_, fun x y hy hx => ?_, h.four, ?_⟩
  · rw [rowsO_rw, rowsO_rw]; rw [rowsO_len] at hi; exact h.one i hi j hj
  · rw [rowsO_len, both_L]; exact h.two x hx y hy
  · obtain ⟨a, b, c, e, h1, h2, h3, h4, h5, h6⟩ := h.free
    refine ⟨a, b, c, e, h1, h2, h3, h4, h5, fun hl => ?_⟩
    obtain ⟨i, hi, ht⟩ := (lin_iff ..).1 hl
    rw [rowsO_len] at hi
    rw [rowsO_rw] at ht
    exact h6 _ (by rw [List.getD_eq_getElem?_getD, List.getElem?_eq_getElem hi]; exact List.getElem_mem hi) ht
theorem planeL2 : PlaneL 7 rowsQ2 := ⟨by decide, by decide, by decide +kernel, by decide +kernel, by decide +kernel, by decide +kernel, by decide, 0, 1, 3, 6, by decide, by decide, by decide, by decide, by decide, by decide +kernel⟩
theorem planeL3 : PlaneL 13 rowsQ3 := ⟨by decide, by decide, by decide +kernel, by decide +kernel, by decide +kernel, by decide +kernel, by decide, 0, 1, 4, 8, by decide, by decide, by decide, by decide, by decide, by decide +kernel⟩
theorem planeL4 : PlaneL 21 rowsQ4 := ⟨by decide, by decide, by decide +kernel, by decide +kernel, by decide +kernel, by decide +kernel, by decide, 0, 1, 5, 10, by decide, by decide, by decide, by decide, by decide, by decide +kernel⟩
theorem planeL5 : PlaneL 31 rowsQ5 := ⟨by decide, by decide, by decide +kernel, by decide +kernel, by decide +kernel, by decide +kernel, by decide, 0, 1, 6, 12, by decide, by decide, by decide, by decide, by decide, by decide +kernel⟩
end Go.Am
