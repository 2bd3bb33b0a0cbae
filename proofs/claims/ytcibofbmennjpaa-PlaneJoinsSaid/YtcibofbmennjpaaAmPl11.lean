/- IsPlane, PlaneOrder: the document's. -/
import Derived.Test.YtcibofbmennjpaaAmPl10
set_option linter.unusedVariables false
set_option linter.unusedSimpArgs false
namespace Go.Am

/-- Ascending. -/
theorem asc_of_not_down {b : List Int} (h : ¬ Down b) : b.Pairwise (· < ·) := by
  have step : ∀ i, i + 1 < b.length → b.getD i 0 < b.getD (i + 1) 0 := by
    intro i hi
    apply Classical.byContradiction
    intro hn
    exact h ⟨i + 1, by omega, hi, by simpa using hn⟩
  clear h
  induction b with
  | nil => exact List.Pairwise.nil
  | cons a b ih =>
    have hb := ih fun i hi => by have := step (i + 1) (by simpa using hi); simpa using this
    refine List.pairwise_cons.2 ⟨fun x hx => ?_, hb⟩
    cases b with
    | nil => cases hx
    | cons c b =>
      have h0 : a < c := by have := step 0 (by simp); simpa using this
      rcases List.mem_cons.1 hx with rfl | hx
      · exact h0
      · exact Int.lt_trans h0 ((List.pairwise_cons.1 hb).1 x hx)

/-- What a design without a fault is. -/
structure Good (d : Des) (n : Nat) : Prop where
  pts : d.points = n
  lo : 1 ≤ n
  hi : n ≤ 40
  rows : d.rows.length ≤ 200
  inn : ∀ i, ∀ p ∈ d.rw i, 0 ≤ p ∧ p < n
  asc : ∀ i, (d.rw i).Pairwise (· < ·)
theorem Good.nodup {d : Des} {n : Nat} (h : Good d n) (i : Nat) : (d.rw i).Nodup := by
  rw [List.nodup_iff_pairwise_ne]
  exact (h.asc i).imp fun h => by omega
theorem Good.bits {d : Des} {n : Nat} (h : Good d n) (i : Nat) : Bits (d.rw i) := fun p hp => by have := h.inn i p hp; have := h.hi; omega
theorem Fault.good {d : Des} (h : Fault d 0) : ∃ n, Good d n := by
  cases h with
  | ok h h2 ok =>
    have key : ∀ i, ¬ Out d.points (d.rw i) ∧ ¬ Down (d.rw i) := by
      intro i
      by_cases hi : i < d.rows.length
      · exact ok i hi
      · have : d.rw i = [] := by
          unfold Des.rw
          rw [List.getD_eq_getElem?_getD, List.getElem?_eq_none (by omega)]; rfl
        rw [this]
        exact ⟨fun ⟨j, h, _⟩ => by simp at h, fun ⟨j, _, h, _⟩ => by simp at h⟩
    refine ⟨d.points.toNat, by omega, by omega, by omega, by omega, fun i p hp => ?_, fun i => asc_of_not_down (key i).2⟩
    obtain ⟨j, hj, rfl⟩ := List.mem_iff_getElem.1 hp
    have : ¬ ((d.rw i).getD j 0 < 0 ∨ d.points ≤ (d.rw i).getD j 0) := fun h => (key i).1 ⟨j, hj, h⟩
    rw [List.getD_eq_getElem?_getD, List.getElem?_eq_getElem hj] at this
    simp only [Option.getD_some] at this
    omega

/-- In how many of the first k blocks both points are. -/
def Des.both (d : Des) (x y : Int) : Nat → Nat
  | 0 => 0
  | k + 1 => d.both x y k + if together [y, x] (d.rw k) = 2 then 1 else 0
theorem Des.both_le (d : Des) (x y : Int) (k : Nat) : d.both x y k ≤ k := by
  induction k with
  | zero => exact Nat.le_refl _
  | succ k ih => unfold Des.both; split <;> omega

/-- Three of these points are in a block. -/
def Lin (d : Des) (s : List Int) : Prop := (d.bl.any fun b => decide (2 < together s b)) = true

/-- A plane, as the document has it. -/
structure PlaneP (d : Des) (n : Nat) : Prop where
  one : ∀ i j, j < i → i < d.rows.length → together (d.rw i) (d.rw j) = 1
  two : ∀ x y : Nat, y < x → x < n → d.both x y d.rows.length = 1
  four : 4 ≤ n
  free : ∃ a b c e : Int, 0 ≤ a ∧ a < b ∧ b < c ∧ c < e ∧ e < n ∧ ¬ Lin d [a, b, c, e]

theorem Last.uniq {s : List Int} {n : Int} {i j : Nat} (h : Last s n i) (h' : Last s n j) : i = j := by
  rcases Nat.lt_trichotomy i j with hlt | he | hlt
  · exact absurd h'.2.1 (h.2.2 j hlt h'.1)
  · exact he
  · exact absurd h.2.1 (h'.2.2 i hlt h.1)

/-- Ahead, by places. -/
def Lex (t0 t1 t2 t3 s0 s1 s2 s3 : Int) : Prop := t0 < s0 ∨ (t0 = s0 ∧ (t1 < s1 ∨ (t1 = s1 ∧ (t2 < s2 ∨ (t2 = s2 ∧ t3 < s3)))))
def Four (n a b c e : Int) : Prop := 0 ≤ a ∧ a < b ∧ b < c ∧ c < e ∧ e < n
def meas (a b c e : Int) : Nat := ((((40 - a) * 64 + (40 - b)) * 64 + (40 - c)) * 64 + (40 - e)).toNat

theorem last4 (a b c e n : Int) (i : Nat) : Last [a, b, c, e] n i ↔ (i = 0 ∧ a < n - 4 ∧ ¬ b < n - 3 ∧ ¬ c < n - 2 ∧ ¬ e < n - 1) ∨ (i = 1 ∧ b < n - 3 ∧ ¬ c < n - 2 ∧ ¬ e < n - 1) ∨ (i = 2 ∧ c < n - 2 ∧ ¬ e < n - 1) ∨ (i = 3 ∧ e < n - 1) := by
  unfold Last
  constructor
  · rintro ⟨h1, h2, h3⟩
    simp only [List.length_cons, List.length_nil] at h1 h2 h3
    match i, h1 with
    | 0, _ =>
      have e1 := h3 1 (by omega) (by omega)
      have e2 := h3 2 (by omega) (by omega)
      have e3 := h3 3 (by omega) (by omega)
      simp at h2 e1 e2 e3
      left; omega
    | 1, _ =>
      have e2 := h3 2 (by omega) (by omega)
      have e3 := h3 3 (by omega) (by omega)
      simp at h2 e2 e3
      right; left; omega
    | 2, _ =>
      have e3 := h3 3 (by omega) (by omega)
      simp at h2 e3
      right; right; left; omega
    | 3, _ =>
      simp at h2
      right; right; right; omega
  · rintro (⟨rfl, h⟩ | ⟨rfl, h⟩ | ⟨rfl, h⟩ | ⟨rfl, h⟩)
    · refine ⟨by simp, by simp; omega, fun j h1 h2 => ?_⟩
      simp only [List.length_cons, List.length_nil] at h2
      match j, h2 with
      | 0, _ => omega
      | 1, _ => simp; omega
      | 2, _ => simp; omega
      | 3, _ => simp; omega
    · refine ⟨by simp, by simp; omega, fun j h1 h2 => ?_⟩
      simp only [List.length_cons, List.length_nil] at h2
      match j, h2 with
      | 0, _ => omega
      | 1, _ => omega
      | 2, _ => simp; omega
      | 3, _ => simp; omega
    · refine ⟨by simp, by simp; omega, fun j h1 h2 => ?_⟩
      simp only [List.length_cons, List.length_nil] at h2
      match j, h2 with
      | 0, _ => omega
      | 1, _ => omega
      | 2, _ => omega
      | 3, _ => simp; omega
    · refine ⟨by simp, by simp; omega, fun j h1 h2 => ?_⟩
      simp only [List.length_cons, List.length_nil] at h2
      omega

theorem nexts (n a b c e : Int) (hn : n ≤ 40) (h : Four n a b c e) :
    (∃ i a' b' c' e', Last [a, b, c, e] n i ∧ nextAt [a, b, c, e] i = [a', b', c', e'] ∧ Four n a' b' c' e' ∧ meas a' b' c' e' < meas a b c e ∧ ∀ t0 t1 t2 t3, Four n t0 t1 t2 t3 → Lex t0 t1 t2 t3 a' b' c' e' → Lex t0 t1 t2 t3 a b c e ∨ (t0 = a ∧ t1 = b ∧ t2 = c ∧ t3 = e)) ∨
    ((∀ i, ¬ Last [a, b, c, e] n i) ∧ ∀ t0 t1 t2 t3, Four n t0 t1 t2 t3 → Lex t0 t1 t2 t3 a b c e ∨ (t0 = a ∧ t1 = b ∧ t2 = c ∧ t3 = e)) := by
  unfold Four at h
  by_cases h3 : e < n - 1
  · refine .inl ⟨3, a, b, c, e + 1, (last4 ..).2 (by omega), by simp [nextAt, List.range_succ], by unfold Four; omega, by unfold meas; omega, fun t0 t1 t2 t3 ht hl => ?_⟩
    unfold Four Lex at *; omega
  by_cases h2 : c < n - 2
  · refine .inl ⟨2, a, b, c + 1, c + 2, (last4 ..).2 (by omega), by simp [nextAt, List.range_succ]; omega, by unfold Four; omega, by unfold meas; omega, fun t0 t1 t2 t3 ht hl => ?_⟩
    unfold Four Lex at *; omega
  by_cases h1 : b < n - 3
  · refine .inl ⟨1, a, b + 1, b + 2, b + 3, (last4 ..).2 (by omega), by simp [nextAt, List.range_succ]; omega, by unfold Four; omega, by unfold meas; omega, fun t0 t1 t2 t3 ht hl => ?_⟩
    unfold Four Lex at *; omega
  by_cases h0 : a < n - 4
  · refine .inl ⟨0, a + 1, a + 2, a + 3, a + 4, (last4 ..).2 (by omega), by simp [nextAt, List.range_succ]; omega, by unfold Four; omega, by unfold meas; omega, fun t0 t1 t2 t3 ht hl => ?_⟩
    unfold Four Lex at *; omega
  · refine .inr ⟨fun i hi => ?_, fun t0 t1 t2 t3 ht => ?_⟩
    · rcases (last4 ..).1 hi with h | h | h | h <;> omega
    · unfold Four Lex at *; omega

section
variable {G : Nat → List AV} {F : Nat → Option MF} {rec : Rec}

theorem NextSet_yes (hF : F 34 = some mf34) (bx : List Box) (id : Nat) (s : List Int) (n : Int) (hb : HasInts bx id .i64 3 s) (hs : s.length < 1000000) (hn : 0 ≤ n ∧ n ≤ 1000000) (hr : ∀ x ∈ s, 0 ≤ x ∧ x ≤ 1000000) {i : Nat} (hi : Last s n i) (tm : Tm) (rb : Nat) :
    doCall F (E G F) .shared 34 [.own id s.length, .int .i64 n] ⟨tm, bx, rb⟩ = some (.bool true, ⟨tm, bx.set id ⟨(nextAt s i).map (.int .i64), 1, 3, .live⟩, rb⟩) := by
  obtain ⟨v, bx', h, h2⟩ := NextSet_spec (G := G) hF ⟨tm, bx, rb⟩ id s n hb hs hn hr
  rcases h2 with ⟨rfl, j, hj, rfl⟩ | ⟨rfl, rfl, hno⟩
  · rw [hi.uniq hj]; exact h
  · exact absurd hi (hno i)
theorem NextSet_no (hF : F 34 = some mf34) (bx : List Box) (id : Nat) (s : List Int) (n : Int) (hb : HasInts bx id .i64 3 s) (hs : s.length < 1000000) (hn : 0 ≤ n ∧ n ≤ 1000000) (hr : ∀ x ∈ s, 0 ≤ x ∧ x ≤ 1000000) (hi : ∀ i, ¬ Last s n i) (tm : Tm) (rb : Nat) :
    doCall F (E G F) .shared 34 [.own id s.length, .int .i64 n] ⟨tm, bx, rb⟩ = some (.bool false, ⟨tm, bx, rb⟩) := by
  obtain ⟨v, bx', h, h2⟩ := NextSet_spec (G := G) hF ⟨tm, bx, rb⟩ id s n hb hs hn hr
  rcases h2 with ⟨rfl, j, hj, rfl⟩ | ⟨rfl, rfl, hno⟩
  · exact absurd hj (hi j)
  · exact h

theorem reify_ownInts {bx : List Box} {id : Nat} {l : List Int} {e : TypeId} {s : Status} (h : bx[id]? = some ⟨l.map (.int .i64), 1, e, s⟩) (hs : s ≠ .fresh) : reify reifyDepth bx (.own id l.length) = some (ints (some l)) := by
  rw [show reifyDepth = 7 + 1 from rfl, reify_own, h]
  simp only
  rw [if_pos ⟨hs, by simp⟩]
  have : (l.map (AV.int .i64)).mapM (reify 7 bx) = some (l.map (AV.int .i64)) := by
    clear h
    induction l with
    | nil => rfl
    | cons a l ih => rw [List.map_cons, List.mapM_cons, ih]; rfl
  rw [this]
  simp [ints, sl]

set_option maxHeartbeats 4000000 in
theorem IsPlane_spec (hF : F 14 = some mf14) (hT : F 32 = some mf32) (hL : F 31 = some mf31) (hLi : F 18 = some mf18) (hSt : F 33 = some mf33) (hN : F 34 = some mf34)
    (d : Des) (hd : d.Ok) (n : Nat) (hg : Good d n) :
    ∃ v, pcall F (E G F) 14 [d.av] = some (.val v, false) ∧ ∃ r, v = .bool r ∧ (r = true ↔ PlaneP d n) := by
  have hH : ∀ x, Has (⟨d.cells, 2, 24, .live⟩ :: x) 0 d.cells := fun x => ⟨_, rfl, rfl, by simp⟩
  have hfa := fun x tm rb o off => (hH x).faddr tm rb 2 o off rfl
  have hld := fun x tm rb off => (hH x).ld1 tm rb 2 off rfl
  have hldn := fun x tm rb => (hH x).ldn tm rb 2 rfl
  have hda : AV.agg d.cells = d.av := rfl
  have hst4 : pcall F (E G F) 33 [.int .i64 4] = some (.own 4 [.int .i64 0, .int .i64 1, .int .i64 2, .int .i64 3] 1 3, false) := Still_spec hSt 4 (by decide)
  have hdn := hd.n
  have hrw := hg.rows
  have hn4 := hg.hi
  have hrl : ∀ i, (d.rw i).length ≤ 40 := fun i => by
    have := nodup_sub (a := d.rw i) (b := (List.range 40).map fun (x : Nat) => (x : Int)) (hg.nodup i) fun x hx => List.mem_map.2 ⟨x.toNat, List.mem_range.2 (by have := hg.inn i x hx; omega), by have := hg.inn i x hx; omega⟩
    simpa using this
  have htog := fun i j => Together_spec (G := G) hT hL (d.rows.getD i none) (d.rows.getD j none) (hd.r i) (hd.r j)
  have htr : ∀ i j, together ((d.rows.getD i none).getD []) ((d.rows.getD j none).getD []) = together (d.rw i) (d.rw j) := fun _ _ => rfl
  refine pcall_ex hF (fun v ⟨r, he, _⟩ => he ▸ ⟨fun _ _ h => (by cases h), fun _ => rfl, fun _ => rfl⟩) ?_
  unfold mf14
  simp only
  repeat' first
    | refine W_seq ?_
    | refine W_skip ?_
    | refine W_exit ?_
    | refine W_ret ?_
    | refine W_block ?_
    | (refine W_ops (by simp (maxSteps := 1000000) (disch := first | decide | omega | assumption | exact plain_int _ _ | exact plain_ints _ | exact plain_bool _ | exact one_int _ _ | exact plain_des _ | exact plain_rows _) only [AM, initTm, Nat.reduceAdd, Nat.reduceEqDiff, reduceCtorEq, run_aaddr, run_stn, run_bld, bldV_nil, hfa, hld]; rfl) ?_)
    | (refine W_cond (by simp (maxSteps := 1000000) (disch := first | decide | omega | assumption | exact plain_int _ _ | exact plain_ints _ | exact plain_bool _ | exact one_int _ _ | exact plain_des _ | exact plain_rows _) only [AM, initTm, Nat.reduceAdd, Nat.reduceEqDiff, reduceCtorEq, run_aaddr, run_stn, run_bld, bldV_nil, hfa, hld]; rfl) ?_ ?_ <;> intro hcond <;> (try simp only [decide_eq_true_eq, decide_eq_false_iff_not, beq_iff_eq, beq_eq_false_iff_ne, ne_eq, reduceCtorEq, Bool.not_eq_true', Bool.not_eq_false', bne_iff_ne, bne_eq_false_iff_eq] at hcond) <;> (try (exfalso; omega)))
    | refine thenQ_n ?_
    | refine thenQ_e ?_
    | refine thenQ_r ?_
    | refine outQ_n ?_
    | refine outQ_r ?_
    | refine outQ_e ?_
    | refine outQ_d (by decide) ?_
  refine W_loop (k := d.rows.length) (fun k s => ∃ (i : Nat) (tm : Tm), s = ⟨tm, [⟨d.cells, 2, 24, .live⟩], 0⟩ ∧ tm.get 1 = .ptr 0 2 0 ∧ tm.get 3 = .int .i64 i ∧ i ≤ d.rows.length ∧ k = d.rows.length - i ∧ ∀ a b, b < a → a < i → together (d.rw a) (d.rw b) = 1) ⟨0, _, rfl, by simp (maxSteps := 1000000) (disch := first | decide | omega | assumption | exact plain_int _ _ | exact plain_ints _ | exact plain_bool _ | exact one_int _ _ | exact plain_des _ | exact plain_rows _) only [AM, initTm, Nat.reduceAdd, Nat.reduceEqDiff, reduceCtorEq, run_aaddr, run_stn, run_bld, bldV_nil], by simp (maxSteps := 1000000) (disch := first | decide | omega | assumption | exact plain_int _ _ | exact plain_ints _ | exact plain_bool _ | exact one_int _ _ | exact plain_des _ | exact plain_rows _) only [AM, initTm, Nat.reduceAdd, Nat.reduceEqDiff, reduceCtorEq, run_aaddr, run_stn, run_bld, bldV_nil]; rfl, Nat.zero_le _, rfl, fun a b h1 h2 => by omega⟩ ?_
  rintro k s ⟨i, tm, rfl, g1, g3, hi, rfl, hx⟩
  repeat' first
    | refine W_seq ?_
    | refine W_skip ?_
    | refine W_exit ?_
    | refine W_ret ?_
    | refine W_block ?_
    | (refine W_ops (by simp (maxSteps := 1000000) (disch := first | decide | omega | assumption | exact plain_int _ _ | exact plain_ints _ | exact plain_bool _ | exact one_int _ _ | exact plain_des _ | exact plain_rows _) only [AM, initTm, Nat.reduceAdd, Nat.reduceEqDiff, reduceCtorEq, run_aaddr, run_stn, run_bld, bldV_nil, g1, g3, hfa, hld]; rfl) ?_)
    | (refine W_cond (by simp (maxSteps := 1000000) (disch := first | decide | omega | assumption | exact plain_int _ _ | exact plain_ints _ | exact plain_bool _ | exact one_int _ _ | exact plain_des _ | exact plain_rows _) only [AM, initTm, Nat.reduceAdd, Nat.reduceEqDiff, reduceCtorEq, run_aaddr, run_stn, run_bld, bldV_nil, g1, g3, hfa, hld]; rfl) ?_ ?_ <;> intro hcond <;> (try simp only [decide_eq_true_eq, decide_eq_false_iff_not, beq_iff_eq, beq_eq_false_iff_ne, ne_eq, reduceCtorEq, Bool.not_eq_true', Bool.not_eq_false', bne_iff_ne, bne_eq_false_iff_eq] at hcond) <;> (try (exfalso; omega)))
    | refine thenQ_n ?_
    | refine thenQ_e ?_
    | refine thenQ_r ?_
    | refine outQ_n ?_
    | refine outQ_r ?_
    | refine outQ_e ?_
    | refine outQ_d (by decide) ?_
  · refine W_loop (k := i) (fun k s => ∃ (j : Nat) (tm : Tm), s = ⟨tm, [⟨d.cells, 2, 24, .live⟩], 0⟩ ∧ tm.get 1 = .ptr 0 2 0 ∧ tm.get 3 = .int .i64 i ∧ tm.get 4 = .int .i64 j ∧ j ≤ i ∧ k = i - j ∧ ∀ b, b < j → together (d.rw i) (d.rw b) = 1) ⟨0, _, rfl, by simp (maxSteps := 1000000) (disch := first | decide | omega | assumption | exact plain_int _ _ | exact plain_ints _ | exact plain_bool _ | exact one_int _ _ | exact plain_des _ | exact plain_rows _) only [AM, initTm, Nat.reduceAdd, Nat.reduceEqDiff, reduceCtorEq, run_aaddr, run_stn, run_bld, bldV_nil, g1], by simp (maxSteps := 1000000) (disch := first | decide | omega | assumption | exact plain_int _ _ | exact plain_ints _ | exact plain_bool _ | exact one_int _ _ | exact plain_des _ | exact plain_rows _) only [AM, initTm, Nat.reduceAdd, Nat.reduceEqDiff, reduceCtorEq, run_aaddr, run_stn, run_bld, bldV_nil, g3], by simp (maxSteps := 1000000) (disch := first | decide | omega | assumption | exact plain_int _ _ | exact plain_ints _ | exact plain_bool _ | exact one_int _ _ | exact plain_des _ | exact plain_rows _) only [AM, initTm, Nat.reduceAdd, Nat.reduceEqDiff, reduceCtorEq, run_aaddr, run_stn, run_bld, bldV_nil]; rfl, Nat.zero_le _, rfl, fun b h => by omega⟩ ?_
    rintro k s ⟨j, tm, rfl, g1, g3, g4, hj, rfl, hxj⟩
    by_cases hjl : (j : Int) < (i : Int)
    · have htl := together_le (d.rw i) (d.rw j)
      have hri := hrl i
      repeat' first
        | refine W_seq ?_
        | refine W_skip ?_
        | refine W_exit ?_
        | refine W_ret ?_
        | refine W_block ?_
        | (refine W_ops (by simp (maxSteps := 1000000) (disch := first | decide | omega | assumption | exact plain_int _ _ | exact plain_ints _ | exact plain_bool _ | exact one_int _ _ | exact plain_des _ | exact plain_rows _) only [AM, initTm, Nat.reduceAdd, Nat.reduceEqDiff, reduceCtorEq, run_aaddr, run_stn, run_bld, bldV_nil, g1, g3, g4, hfa, hld, hjl, htog, htr]; rfl) ?_)
        | (refine W_cond (by simp (maxSteps := 1000000) (disch := first | decide | omega | assumption | exact plain_int _ _ | exact plain_ints _ | exact plain_bool _ | exact one_int _ _ | exact plain_des _ | exact plain_rows _) only [AM, initTm, Nat.reduceAdd, Nat.reduceEqDiff, reduceCtorEq, run_aaddr, run_stn, run_bld, bldV_nil, g1, g3, g4, hfa, hld, hjl, htog, htr]; rfl) ?_ ?_ <;> intro hcond <;> (try simp only [decide_eq_true_eq, decide_eq_false_iff_not, beq_iff_eq, beq_eq_false_iff_ne, ne_eq, reduceCtorEq, Bool.not_eq_true', Bool.not_eq_false', bne_iff_ne, bne_eq_false_iff_eq] at hcond) <;> (try (exfalso; omega)))
        | refine thenQ_n ?_
        | refine thenQ_e ?_
        | refine thenQ_r ?_
        | refine outQ_n ?_
        | refine outQ_r ?_
        | refine outQ_e ?_
        | refine outQ_d (by decide) ?_
      · exact ⟨.inr rfl, [_], rfl, false, by rw [tuple_one]; simp (maxSteps := 1000000) (disch := first | decide | omega | assumption | exact plain_int _ _ | exact plain_ints _ | exact plain_bool _ | exact one_int _ _ | exact plain_des _ | exact plain_rows _) only [AM, initTm, Nat.reduceAdd, Nat.reduceEqDiff, reduceCtorEq, run_aaddr, run_stn, run_bld, bldV_nil], fun h => (by cases h), fun hp => absurd (hp.one i j (by omega) (by omega)) (by omega)⟩
      · exact ⟨i - (j + 1), by omega, j + 1, _, rfl, by simp (maxSteps := 1000000) (disch := first | decide | omega | assumption | exact plain_int _ _ | exact plain_ints _ | exact plain_bool _ | exact one_int _ _ | exact plain_des _ | exact plain_rows _) only [AM, initTm, Nat.reduceAdd, Nat.reduceEqDiff, reduceCtorEq, run_aaddr, run_stn, run_bld, bldV_nil, g1], by simp (maxSteps := 1000000) (disch := first | decide | omega | assumption | exact plain_int _ _ | exact plain_ints _ | exact plain_bool _ | exact one_int _ _ | exact plain_des _ | exact plain_rows _) only [AM, initTm, Nat.reduceAdd, Nat.reduceEqDiff, reduceCtorEq, run_aaddr, run_stn, run_bld, bldV_nil, g3], by simp (maxSteps := 1000000) (disch := first | decide | omega | assumption | exact plain_int _ _ | exact plain_ints _ | exact plain_bool _ | exact one_int _ _ | exact plain_des _ | exact plain_rows _) only [AM, initTm, Nat.reduceAdd, Nat.reduceEqDiff, reduceCtorEq, run_aaddr, run_stn, run_bld, bldV_nil]; rfl, by omega, rfl, fun b hb => by
          by_cases e : b = j
          · subst e; omega
          · exact hxj b (by omega)⟩
    · repeat' first
        | refine W_seq ?_
        | refine W_skip ?_
        | refine W_exit ?_
        | refine W_ret ?_
        | refine W_block ?_
        | (refine W_ops (by simp (maxSteps := 1000000) (disch := first | decide | omega | assumption | exact plain_int _ _ | exact plain_ints _ | exact plain_bool _ | exact one_int _ _ | exact plain_des _ | exact plain_rows _) only [AM, initTm, Nat.reduceAdd, Nat.reduceEqDiff, reduceCtorEq, run_aaddr, run_stn, run_bld, bldV_nil, g1, g3, g4, hjl]; rfl) ?_)
        | (refine W_cond (by simp (maxSteps := 1000000) (disch := first | decide | omega | assumption | exact plain_int _ _ | exact plain_ints _ | exact plain_bool _ | exact one_int _ _ | exact plain_des _ | exact plain_rows _) only [AM, initTm, Nat.reduceAdd, Nat.reduceEqDiff, reduceCtorEq, run_aaddr, run_stn, run_bld, bldV_nil, g1, g3, g4, hjl]; rfl) ?_ ?_ <;> intro hcond <;> (try simp only [decide_eq_true_eq, decide_eq_false_iff_not, beq_iff_eq, beq_eq_false_iff_ne, ne_eq, reduceCtorEq, Bool.not_eq_true', Bool.not_eq_false', bne_iff_ne, bne_eq_false_iff_eq] at hcond) <;> (try (exfalso; omega)))
        | refine thenQ_n ?_
        | refine thenQ_e ?_
        | refine thenQ_r ?_
        | refine outQ_n ?_
        | refine outQ_r ?_
        | refine outQ_e ?_
        | refine outQ_d (by decide) ?_
      exact ⟨d.rows.length - (i + 1), by omega, i + 1, _, rfl, by simp (maxSteps := 1000000) (disch := first | decide | omega | assumption | exact plain_int _ _ | exact plain_ints _ | exact plain_bool _ | exact one_int _ _ | exact plain_des _ | exact plain_rows _) only [AM, initTm, Nat.reduceAdd, Nat.reduceEqDiff, reduceCtorEq, run_aaddr, run_stn, run_bld, bldV_nil, g1], by simp (maxSteps := 1000000) (disch := first | decide | omega | assumption | exact plain_int _ _ | exact plain_ints _ | exact plain_bool _ | exact one_int _ _ | exact plain_des _ | exact plain_rows _) only [AM, initTm, Nat.reduceAdd, Nat.reduceEqDiff, reduceCtorEq, run_aaddr, run_stn, run_bld, bldV_nil]; rfl, by omega, rfl, fun a b h1 h2 => by
        by_cases e : a = i
        · subst e; exact hxj b (by omega)
        · exact hx a b h1 (by omega)⟩
  · have hx1 : ∀ a b, b < a → a < d.rows.length → together (d.rw a) (d.rw b) = 1 := fun a b h1 h2 => hx a b h1 (by omega)
    have hpt := hg.pts
    clear hx g3
    refine W_loop (k := n) (fun k s => ∃ (x : Nat) (tm : Tm), s = ⟨tm, [⟨d.cells, 2, 24, .live⟩], 0⟩ ∧ tm.get 1 = .ptr 0 2 0 ∧ tm.get 6 = .int .i64 x ∧ x ≤ n ∧ k = n - x ∧ ∀ x' y : Nat, y < x' → x' < x → d.both x' y d.rows.length = 1) ⟨0, _, rfl, by simp (maxSteps := 1000000) (disch := first | decide | omega | assumption | exact plain_int _ _ | exact plain_ints _ | exact plain_bool _ | exact one_int _ _ | exact plain_des _ | exact plain_rows _) only [AM, initTm, Nat.reduceAdd, Nat.reduceEqDiff, reduceCtorEq, run_aaddr, run_stn, run_bld, bldV_nil, g1], by simp (maxSteps := 1000000) (disch := first | decide | omega | assumption | exact plain_int _ _ | exact plain_ints _ | exact plain_bool _ | exact one_int _ _ | exact plain_des _ | exact plain_rows _) only [AM, initTm, Nat.reduceAdd, Nat.reduceEqDiff, reduceCtorEq, run_aaddr, run_stn, run_bld, bldV_nil]; rfl, Nat.zero_le _, rfl, fun a b h1 h2 => by omega⟩ ?_
    clear g1 tm
    rintro k s ⟨x, tm, rfl, g1, g6, hxn, rfl, hx⟩
    repeat' first
      | refine W_seq ?_
      | refine W_skip ?_
      | refine W_exit ?_
      | refine W_ret ?_
      | refine W_block ?_
      | (refine W_ops (by simp (maxSteps := 1000000) (disch := first | decide | omega | assumption | exact plain_int _ _ | exact plain_ints _ | exact plain_bool _ | exact one_int _ _ | exact plain_des _ | exact plain_rows _) only [AM, initTm, Nat.reduceAdd, Nat.reduceEqDiff, reduceCtorEq, run_aaddr, run_stn, run_bld, bldV_nil, g1, g6, hfa, hld, hpt, hst4, List.length_cons, List.length_nil]; rfl) ?_)
      | (refine W_cond (by simp (maxSteps := 1000000) (disch := first | decide | omega | assumption | exact plain_int _ _ | exact plain_ints _ | exact plain_bool _ | exact one_int _ _ | exact plain_des _ | exact plain_rows _) only [AM, initTm, Nat.reduceAdd, Nat.reduceEqDiff, reduceCtorEq, run_aaddr, run_stn, run_bld, bldV_nil, g1, g6, hfa, hld, hpt, hst4, List.length_cons, List.length_nil]; rfl) ?_ ?_ <;> intro hcond <;> (try simp only [decide_eq_true_eq, decide_eq_false_iff_not, beq_iff_eq, beq_eq_false_iff_ne, ne_eq, reduceCtorEq, Bool.not_eq_true', Bool.not_eq_false', bne_iff_ne, bne_eq_false_iff_eq] at hcond) <;> (try (exfalso; omega)))
      | refine thenQ_n ?_
      | refine thenQ_e ?_
      | refine thenQ_r ?_
      | refine outQ_n ?_
      | refine outQ_r ?_
      | refine outQ_e ?_
      | refine outQ_d (by decide) ?_
    · refine W_loop (k := x) (fun k s => ∃ (y : Nat) (tm : Tm), s = ⟨tm, [⟨d.cells, 2, 24, .live⟩], 0⟩ ∧ tm.get 1 = .ptr 0 2 0 ∧ tm.get 6 = .int .i64 x ∧ tm.get 7 = .int .i64 y ∧ y ≤ x ∧ k = x - y ∧ ∀ y' : Nat, y' < y → d.both x y' d.rows.length = 1) ⟨0, _, rfl, by simp (maxSteps := 1000000) (disch := first | decide | omega | assumption | exact plain_int _ _ | exact plain_ints _ | exact plain_bool _ | exact one_int _ _ | exact plain_des _ | exact plain_rows _) only [AM, initTm, Nat.reduceAdd, Nat.reduceEqDiff, reduceCtorEq, run_aaddr, run_stn, run_bld, bldV_nil, g1], by simp (maxSteps := 1000000) (disch := first | decide | omega | assumption | exact plain_int _ _ | exact plain_ints _ | exact plain_bool _ | exact one_int _ _ | exact plain_des _ | exact plain_rows _) only [AM, initTm, Nat.reduceAdd, Nat.reduceEqDiff, reduceCtorEq, run_aaddr, run_stn, run_bld, bldV_nil, g6], by simp (maxSteps := 1000000) (disch := first | decide | omega | assumption | exact plain_int _ _ | exact plain_ints _ | exact plain_bool _ | exact one_int _ _ | exact plain_des _ | exact plain_rows _) only [AM, initTm, Nat.reduceAdd, Nat.reduceEqDiff, reduceCtorEq, run_aaddr, run_stn, run_bld, bldV_nil]; rfl, Nat.zero_le _, rfl, fun b h => by omega⟩ ?_
      rintro k s ⟨y, tm, rfl, g1, g6, g7, hy, rfl, hxy⟩
      by_cases hyl : (y : Int) < (x : Int)
      · repeat' first
          | refine W_seq ?_
          | refine W_skip ?_
          | refine W_exit ?_
          | refine W_ret ?_
          | refine W_block ?_
          | (refine W_ops (by simp (maxSteps := 1000000) (disch := first | decide | omega | assumption | exact plain_int _ _ | exact plain_ints _ | exact plain_bool _ | exact one_int _ _ | exact plain_des _ | exact plain_rows _) only [AM, initTm, Nat.reduceAdd, Nat.reduceEqDiff, reduceCtorEq, run_aaddr, run_stn, run_bld, bldV_nil, g1, g6, g7, hyl]; rfl) ?_)
          | (refine W_cond (by simp (maxSteps := 1000000) (disch := first | decide | omega | assumption | exact plain_int _ _ | exact plain_ints _ | exact plain_bool _ | exact one_int _ _ | exact plain_des _ | exact plain_rows _) only [AM, initTm, Nat.reduceAdd, Nat.reduceEqDiff, reduceCtorEq, run_aaddr, run_stn, run_bld, bldV_nil, g1, g6, g7, hyl]; rfl) ?_ ?_ <;> intro hcond <;> (try simp only [decide_eq_true_eq, decide_eq_false_iff_not, beq_iff_eq, beq_eq_false_iff_ne, ne_eq, reduceCtorEq, Bool.not_eq_true', Bool.not_eq_false', bne_iff_ne, bne_eq_false_iff_eq] at hcond) <;> (try (exfalso; omega)))
          | refine thenQ_n ?_
          | refine thenQ_e ?_
          | refine thenQ_r ?_
          | refine outQ_n ?_
          | refine outQ_r ?_
          | refine outQ_e ?_
          | refine outQ_d (by decide) ?_
        refine W_loop (k := d.rows.length) (fun k s => ∃ (i : Nat) (tm : Tm), s = ⟨tm, [⟨d.cells, 2, 24, .live⟩], 0⟩ ∧ tm.get 1 = .ptr 0 2 0 ∧ tm.get 6 = .int .i64 x ∧ tm.get 7 = .int .i64 y ∧ tm.get 8 = .int .i64 (d.both x y i : Nat) ∧ tm.get 9 = .int .i64 i ∧ i ≤ d.rows.length ∧ k = d.rows.length - i) ⟨0, _, rfl, by simp (maxSteps := 1000000) (disch := first | decide | omega | assumption | exact plain_int _ _ | exact plain_ints _ | exact plain_bool _ | exact one_int _ _ | exact plain_des _ | exact plain_rows _) only [AM, initTm, Nat.reduceAdd, Nat.reduceEqDiff, reduceCtorEq, run_aaddr, run_stn, run_bld, bldV_nil, g1], by simp (maxSteps := 1000000) (disch := first | decide | omega | assumption | exact plain_int _ _ | exact plain_ints _ | exact plain_bool _ | exact one_int _ _ | exact plain_des _ | exact plain_rows _) only [AM, initTm, Nat.reduceAdd, Nat.reduceEqDiff, reduceCtorEq, run_aaddr, run_stn, run_bld, bldV_nil, g6], by simp (maxSteps := 1000000) (disch := first | decide | omega | assumption | exact plain_int _ _ | exact plain_ints _ | exact plain_bool _ | exact one_int _ _ | exact plain_des _ | exact plain_rows _) only [AM, initTm, Nat.reduceAdd, Nat.reduceEqDiff, reduceCtorEq, run_aaddr, run_stn, run_bld, bldV_nil, g7], by simp (maxSteps := 1000000) (disch := first | decide | omega | assumption | exact plain_int _ _ | exact plain_ints _ | exact plain_bool _ | exact one_int _ _ | exact plain_des _ | exact plain_rows _) only [AM, initTm, Nat.reduceAdd, Nat.reduceEqDiff, reduceCtorEq, run_aaddr, run_stn, run_bld, bldV_nil]; rfl, by simp (maxSteps := 1000000) (disch := first | decide | omega | assumption | exact plain_int _ _ | exact plain_ints _ | exact plain_bool _ | exact one_int _ _ | exact plain_des _ | exact plain_rows _) only [AM, initTm, Nat.reduceAdd, Nat.reduceEqDiff, reduceCtorEq, run_aaddr, run_stn, run_bld, bldV_nil]; rfl, Nat.zero_le _, rfl⟩ ?_
        rintro k s ⟨i', tm, rfl, g1, g6, g7, g8, g9, hi', rfl⟩
        have hble := d.both_le x y i'
        by_cases hil : (i' : Int) < (d.rows.length : Int)
        · have hcall : ∀ st, doCall F (E G F) .pureV 32 [.lst 2 [.int .i64 (y : Int), .int .i64 (x : Int)], ints (d.rows.getD i' none)] st = some (.int .i64 (together [(y : Int), (x : Int)] (d.rw i') : Nat), st) := fun st => by
            have h1 := doCall_plain2 (F := F) (rec := E G F) (f := 32) (st := st) (plain_ints (some [(y : Int), (x : Int)])) (plain_ints (d.rows.getD i' none))
            rw [Together_spec (G := G) hT hL (some [(y : Int), (x : Int)]) (d.rows.getD i' none) (by simp) (hd.r i')] at h1
            exact h1
          have hsucc : d.both x y (i' + 1) = d.both x y i' + if together [(y : Int), (x : Int)] (d.rw i') = 2 then 1 else 0 := rfl
          have htl := together_le [(y : Int), (x : Int)] (d.rw i')
          simp only [List.length_cons, List.length_nil] at htl
          repeat' first
            | refine W_seq ?_
            | refine W_skip ?_
            | refine W_exit ?_
            | refine W_ret ?_
            | refine W_block ?_
            | (refine W_ops (by simp (maxSteps := 1000000) (disch := first | decide | omega | assumption | exact plain_int _ _ | exact plain_ints _ | exact plain_bool _ | exact one_int _ _ | exact plain_des _ | exact plain_rows _) only [AM, initTm, Nat.reduceAdd, Nat.reduceEqDiff, reduceCtorEq, run_aaddr, run_stn, run_bld, bldV_nil, g1, g6, g7, g8, g9, hfa, hld, hil, hcall]; rfl) ?_)
            | (refine W_cond (by simp (maxSteps := 1000000) (disch := first | decide | omega | assumption | exact plain_int _ _ | exact plain_ints _ | exact plain_bool _ | exact one_int _ _ | exact plain_des _ | exact plain_rows _) only [AM, initTm, Nat.reduceAdd, Nat.reduceEqDiff, reduceCtorEq, run_aaddr, run_stn, run_bld, bldV_nil, g1, g6, g7, g8, g9, hfa, hld, hil, hcall]; rfl) ?_ ?_ <;> intro hcond <;> (try simp only [decide_eq_true_eq, decide_eq_false_iff_not, beq_iff_eq, beq_eq_false_iff_ne, ne_eq, reduceCtorEq, Bool.not_eq_true', Bool.not_eq_false', bne_iff_ne, bne_eq_false_iff_eq] at hcond) <;> (try (exfalso; omega)))
            | refine thenQ_n ?_
            | refine thenQ_e ?_
            | refine thenQ_r ?_
            | refine outQ_n ?_
            | refine outQ_r ?_
            | refine outQ_e ?_
            | refine outQ_d (by decide) ?_
          · rw [if_pos (by omega)] at hsucc
            exact ⟨d.rows.length - (i' + 1), by omega, i' + 1, _, rfl, by simp (maxSteps := 1000000) (disch := first | decide | omega | assumption | exact plain_int _ _ | exact plain_ints _ | exact plain_bool _ | exact one_int _ _ | exact plain_des _ | exact plain_rows _) only [AM, initTm, Nat.reduceAdd, Nat.reduceEqDiff, reduceCtorEq, run_aaddr, run_stn, run_bld, bldV_nil, g1], by simp (maxSteps := 1000000) (disch := first | decide | omega | assumption | exact plain_int _ _ | exact plain_ints _ | exact plain_bool _ | exact one_int _ _ | exact plain_des _ | exact plain_rows _) only [AM, initTm, Nat.reduceAdd, Nat.reduceEqDiff, reduceCtorEq, run_aaddr, run_stn, run_bld, bldV_nil, g6], by simp (maxSteps := 1000000) (disch := first | decide | omega | assumption | exact plain_int _ _ | exact plain_ints _ | exact plain_bool _ | exact one_int _ _ | exact plain_des _ | exact plain_rows _) only [AM, initTm, Nat.reduceAdd, Nat.reduceEqDiff, reduceCtorEq, run_aaddr, run_stn, run_bld, bldV_nil, g7], by simp (maxSteps := 1000000) (disch := first | decide | omega | assumption | exact plain_int _ _ | exact plain_ints _ | exact plain_bool _ | exact one_int _ _ | exact plain_des _ | exact plain_rows _) only [AM, initTm, Nat.reduceAdd, Nat.reduceEqDiff, reduceCtorEq, run_aaddr, run_stn, run_bld, bldV_nil, hsucc]; rfl, by simp (maxSteps := 1000000) (disch := first | decide | omega | assumption | exact plain_int _ _ | exact plain_ints _ | exact plain_bool _ | exact one_int _ _ | exact plain_des _ | exact plain_rows _) only [AM, initTm, Nat.reduceAdd, Nat.reduceEqDiff, reduceCtorEq, run_aaddr, run_stn, run_bld, bldV_nil]; rfl, by omega, rfl⟩
          · rw [if_neg (by omega)] at hsucc
            exact ⟨d.rows.length - (i' + 1), by omega, i' + 1, _, rfl, by simp (maxSteps := 1000000) (disch := first | decide | omega | assumption | exact plain_int _ _ | exact plain_ints _ | exact plain_bool _ | exact one_int _ _ | exact plain_des _ | exact plain_rows _) only [AM, initTm, Nat.reduceAdd, Nat.reduceEqDiff, reduceCtorEq, run_aaddr, run_stn, run_bld, bldV_nil, g1], by simp (maxSteps := 1000000) (disch := first | decide | omega | assumption | exact plain_int _ _ | exact plain_ints _ | exact plain_bool _ | exact one_int _ _ | exact plain_des _ | exact plain_rows _) only [AM, initTm, Nat.reduceAdd, Nat.reduceEqDiff, reduceCtorEq, run_aaddr, run_stn, run_bld, bldV_nil, g6], by simp (maxSteps := 1000000) (disch := first | decide | omega | assumption | exact plain_int _ _ | exact plain_ints _ | exact plain_bool _ | exact one_int _ _ | exact plain_des _ | exact plain_rows _) only [AM, initTm, Nat.reduceAdd, Nat.reduceEqDiff, reduceCtorEq, run_aaddr, run_stn, run_bld, bldV_nil, g7], by simp (maxSteps := 1000000) (disch := first | decide | omega | assumption | exact plain_int _ _ | exact plain_ints _ | exact plain_bool _ | exact one_int _ _ | exact plain_des _ | exact plain_rows _) only [AM, initTm, Nat.reduceAdd, Nat.reduceEqDiff, reduceCtorEq, run_aaddr, run_stn, run_bld, bldV_nil, hsucc, g8, Nat.add_zero], by simp (maxSteps := 1000000) (disch := first | decide | omega | assumption | exact plain_int _ _ | exact plain_ints _ | exact plain_bool _ | exact one_int _ _ | exact plain_des _ | exact plain_rows _) only [AM, initTm, Nat.reduceAdd, Nat.reduceEqDiff, reduceCtorEq, run_aaddr, run_stn, run_bld, bldV_nil]; rfl, by omega, rfl⟩
        · have ei : i' = d.rows.length := by omega
          repeat' first
            | refine W_seq ?_
            | refine W_skip ?_
            | refine W_exit ?_
            | refine W_ret ?_
            | refine W_block ?_
            | (refine W_ops (by simp (maxSteps := 1000000) (disch := first | decide | omega | assumption | exact plain_int _ _ | exact plain_ints _ | exact plain_bool _ | exact one_int _ _ | exact plain_des _ | exact plain_rows _) only [AM, initTm, Nat.reduceAdd, Nat.reduceEqDiff, reduceCtorEq, run_aaddr, run_stn, run_bld, bldV_nil, g1, g6, g7, g8, g9, hfa, hld, hil]; rfl) ?_)
            | (refine W_cond (by simp (maxSteps := 1000000) (disch := first | decide | omega | assumption | exact plain_int _ _ | exact plain_ints _ | exact plain_bool _ | exact one_int _ _ | exact plain_des _ | exact plain_rows _) only [AM, initTm, Nat.reduceAdd, Nat.reduceEqDiff, reduceCtorEq, run_aaddr, run_stn, run_bld, bldV_nil, g1, g6, g7, g8, g9, hfa, hld, hil]; rfl) ?_ ?_ <;> intro hcond <;> (try simp only [decide_eq_true_eq, decide_eq_false_iff_not, beq_iff_eq, beq_eq_false_iff_ne, ne_eq, reduceCtorEq, Bool.not_eq_true', Bool.not_eq_false', bne_iff_ne, bne_eq_false_iff_eq] at hcond) <;> (try (exfalso; omega)))
            | refine thenQ_n ?_
            | refine thenQ_e ?_
            | refine thenQ_r ?_
            | refine outQ_n ?_
            | refine outQ_r ?_
            | refine outQ_e ?_
            | refine outQ_d (by decide) ?_
          · exact ⟨.inr rfl, [_], rfl, false, by rw [tuple_one]; simp (maxSteps := 1000000) (disch := first | decide | omega | assumption | exact plain_int _ _ | exact plain_ints _ | exact plain_bool _ | exact one_int _ _ | exact plain_des _ | exact plain_rows _) only [AM, initTm, Nat.reduceAdd, Nat.reduceEqDiff, reduceCtorEq, run_aaddr, run_stn, run_bld, bldV_nil], fun h => (by cases h), fun hp => absurd (hp.two x y (by omega) (by omega)) (by rw [← ei]; omega)⟩
          · exact ⟨x - (y + 1), by omega, y + 1, _, rfl, by simp (maxSteps := 1000000) (disch := first | decide | omega | assumption | exact plain_int _ _ | exact plain_ints _ | exact plain_bool _ | exact one_int _ _ | exact plain_des _ | exact plain_rows _) only [AM, initTm, Nat.reduceAdd, Nat.reduceEqDiff, reduceCtorEq, run_aaddr, run_stn, run_bld, bldV_nil, g1], by simp (maxSteps := 1000000) (disch := first | decide | omega | assumption | exact plain_int _ _ | exact plain_ints _ | exact plain_bool _ | exact one_int _ _ | exact plain_des _ | exact plain_rows _) only [AM, initTm, Nat.reduceAdd, Nat.reduceEqDiff, reduceCtorEq, run_aaddr, run_stn, run_bld, bldV_nil, g6], by simp (maxSteps := 1000000) (disch := first | decide | omega | assumption | exact plain_int _ _ | exact plain_ints _ | exact plain_bool _ | exact one_int _ _ | exact plain_des _ | exact plain_rows _) only [AM, initTm, Nat.reduceAdd, Nat.reduceEqDiff, reduceCtorEq, run_aaddr, run_stn, run_bld, bldV_nil]; rfl, by omega, rfl, fun y' hy' => by
              by_cases e : y' = y
              · subst e; rw [← ei]; omega
              · exact hxy y' (by omega)⟩
      · repeat' first
          | refine W_seq ?_
          | refine W_skip ?_
          | refine W_exit ?_
          | refine W_ret ?_
          | refine W_block ?_
          | (refine W_ops (by simp (maxSteps := 1000000) (disch := first | decide | omega | assumption | exact plain_int _ _ | exact plain_ints _ | exact plain_bool _ | exact one_int _ _ | exact plain_des _ | exact plain_rows _) only [AM, initTm, Nat.reduceAdd, Nat.reduceEqDiff, reduceCtorEq, run_aaddr, run_stn, run_bld, bldV_nil, g1, g6, g7, hyl]; rfl) ?_)
          | (refine W_cond (by simp (maxSteps := 1000000) (disch := first | decide | omega | assumption | exact plain_int _ _ | exact plain_ints _ | exact plain_bool _ | exact one_int _ _ | exact plain_des _ | exact plain_rows _) only [AM, initTm, Nat.reduceAdd, Nat.reduceEqDiff, reduceCtorEq, run_aaddr, run_stn, run_bld, bldV_nil, g1, g6, g7, hyl]; rfl) ?_ ?_ <;> intro hcond <;> (try simp only [decide_eq_true_eq, decide_eq_false_iff_not, beq_iff_eq, beq_eq_false_iff_ne, ne_eq, reduceCtorEq, Bool.not_eq_true', Bool.not_eq_false', bne_iff_ne, bne_eq_false_iff_eq] at hcond) <;> (try (exfalso; omega)))
          | refine thenQ_n ?_
          | refine thenQ_e ?_
          | refine thenQ_r ?_
          | refine outQ_n ?_
          | refine outQ_r ?_
          | refine outQ_e ?_
          | refine outQ_d (by decide) ?_
        exact ⟨n - (x + 1), by omega, x + 1, _, rfl, by simp (maxSteps := 1000000) (disch := first | decide | omega | assumption | exact plain_int _ _ | exact plain_ints _ | exact plain_bool _ | exact one_int _ _ | exact plain_des _ | exact plain_rows _) only [AM, initTm, Nat.reduceAdd, Nat.reduceEqDiff, reduceCtorEq, run_aaddr, run_stn, run_bld, bldV_nil, g1], by simp (maxSteps := 1000000) (disch := first | decide | omega | assumption | exact plain_int _ _ | exact plain_ints _ | exact plain_bool _ | exact one_int _ _ | exact plain_des _ | exact plain_rows _) only [AM, initTm, Nat.reduceAdd, Nat.reduceEqDiff, reduceCtorEq, run_aaddr, run_stn, run_bld, bldV_nil]; rfl, by omega, rfl, fun a b h1 h2 => by
          by_cases e : a = x
          · subst e; exact hxy b (by omega)
          · exact hx a b h1 (by omega)⟩
    · exact ⟨.inr rfl, [_], rfl, false, by rw [tuple_one]; simp (maxSteps := 1000000) (disch := first | decide | omega | assumption | exact plain_int _ _ | exact plain_ints _ | exact plain_bool _ | exact one_int _ _ | exact plain_des _ | exact plain_rows _) only [AM, initTm, Nat.reduceAdd, Nat.reduceEqDiff, reduceCtorEq, run_aaddr, run_stn, run_bld, bldV_nil], fun h => (by cases h), fun hp => absurd hp.four (by omega)⟩
    · have hx2 : ∀ x y : Nat, y < x → x < n → d.both x y d.rows.length = 1 := fun a b h1 h2 => hx a b h1 (by omega)
      refine W_loop (k := meas 0 1 2 3) (fun k s => ∃ (a b c e : Int) (tm : Tm), s = ⟨tm, [⟨d.cells, 2, 24, .live⟩, ⟨([a, b, c, e] : List Int).map (.int .i64), 1, 3, .live⟩], 0⟩ ∧ tm.get 1 = .ptr 0 2 0 ∧ tm.get 11 = .own 1 4 ∧ k = meas a b c e ∧ Four n a b c e ∧ ∀ t0 t1 t2 t3, Four n t0 t1 t2 t3 → Lex t0 t1 t2 t3 a b c e → Lin d [t0, t1, t2, t3]) ⟨0, 1, 2, 3, _, rfl, by simp (maxSteps := 1000000) (disch := first | decide | omega | assumption | exact plain_int _ _ | exact plain_ints _ | exact plain_bool _ | exact one_int _ _ | exact plain_des _ | exact plain_rows _) only [AM, initTm, Nat.reduceAdd, Nat.reduceEqDiff, reduceCtorEq, run_aaddr, run_stn, run_bld, bldV_nil, g1], by simp (maxSteps := 1000000) (disch := first | decide | omega | assumption | exact plain_int _ _ | exact plain_ints _ | exact plain_bool _ | exact one_int _ _ | exact plain_des _ | exact plain_rows _) only [AM, initTm, Nat.reduceAdd, Nat.reduceEqDiff, reduceCtorEq, run_aaddr, run_stn, run_bld, bldV_nil], rfl, by unfold Four; omega, fun t0 t1 t2 t3 h1 h2 => by unfold Four Lex at *; omega⟩ ?_
      clear g1 g6 hx tm
      rintro k s ⟨a, b, c, e, tm, rfl, g1, g11, rfl, hfo, hx⟩
      have hbx : HasInts [⟨d.cells, 2, 24, .live⟩, ⟨([a, b, c, e] : List Int).map (.int .i64), 1, 3, .live⟩] 1 .i64 3 [a, b, c, e] := rfl
      have hlin : ∀ tm rb, doCall F (E G F) .pureV 18 [d.av, .own 1 4] ⟨tm, [⟨d.cells, 2, 24, .live⟩, ⟨([a, b, c, e] : List Int).map (.int .i64), 1, 3, .live⟩], rb⟩ = some (.bool (d.bl.any fun b' => decide (2 < together [a, b, c, e] b')), ⟨tm, [⟨d.cells, 2, 24, .live⟩, ⟨([a, b, c, e] : List Int).map (.int .i64), 1, 3, .live⟩], rb⟩) := fun tm rb => by
        refine doCall_reifyV (xs := [d.av, ints (some [a, b, c, e])]) (by simp) ?_ (pcall_lined (G := G) hLi hT hL d hd (some [a, b, c, e]) (by simp))
        have h1 := (plain_des d).2 [⟨d.cells, 2, 24, .live⟩, ⟨([a, b, c, e] : List Int).map (.int .i64), 1, 3, .live⟩]
        have h2 : reify reifyDepth [⟨d.cells, 2, 24, .live⟩, ⟨([a, b, c, e] : List Int).map (.int .i64), 1, 3, .live⟩] (.own 1 4) = some (ints (some [a, b, c, e])) := reify_ownInts (l := [a, b, c, e]) hbx (by decide)
        rw [List.mapM_cons, List.mapM_cons]
        simp only at h1 h2 ⊢
        rw [h1, h2]; rfl
      simp only [List.map_cons, List.map_nil] at hlin
      cases hl : d.bl.any fun b' => decide (2 < together [a, b, c, e] b') with
      | false =>
        rw [hl] at hlin
        repeat' first
          | refine W_seq ?_
          | refine W_skip ?_
          | refine W_exit ?_
          | refine W_ret ?_
          | refine W_block ?_
          | (refine W_ops (by simp (maxSteps := 1000000) (disch := first | decide | omega | assumption | exact plain_int _ _ | exact plain_ints _ | exact plain_bool _ | exact one_int _ _ | exact plain_des _ | exact plain_rows _) only [AM, initTm, Nat.reduceAdd, Nat.reduceEqDiff, reduceCtorEq, run_aaddr, run_stn, run_bld, bldV_nil, g1, g11, hldn, hda, hlin]; rfl) ?_)
          | (refine W_cond (by simp (maxSteps := 1000000) (disch := first | decide | omega | assumption | exact plain_int _ _ | exact plain_ints _ | exact plain_bool _ | exact one_int _ _ | exact plain_des _ | exact plain_rows _) only [AM, initTm, Nat.reduceAdd, Nat.reduceEqDiff, reduceCtorEq, run_aaddr, run_stn, run_bld, bldV_nil, g1, g11, hldn, hda, hlin]; rfl) ?_ ?_ <;> intro hcond <;> (try simp only [decide_eq_true_eq, decide_eq_false_iff_not, beq_iff_eq, beq_eq_false_iff_ne, ne_eq, reduceCtorEq, Bool.not_eq_true', Bool.not_eq_false', bne_iff_ne, bne_eq_false_iff_eq] at hcond) <;> (try (exfalso; omega)))
          | refine thenQ_n ?_
          | refine thenQ_e ?_
          | refine thenQ_r ?_
          | refine outQ_n ?_
          | refine outQ_r ?_
          | refine outQ_e ?_
          | refine outQ_d (by decide) ?_
        unfold Four at hfo
        exact ⟨.inr rfl, [_], rfl, true, by rw [tuple_one]; simp (maxSteps := 1000000) (disch := first | decide | omega | assumption | exact plain_int _ _ | exact plain_ints _ | exact plain_bool _ | exact one_int _ _ | exact plain_des _ | exact plain_rows _) only [AM, initTm, Nat.reduceAdd, Nat.reduceEqDiff, reduceCtorEq, run_aaddr, run_stn, run_bld, bldV_nil], fun _ => ⟨hx1, hx2, by omega, a, b, c, e, hfo.1, hfo.2.1, hfo.2.2.1, hfo.2.2.2.1, hfo.2.2.2.2, by unfold Lin; rw [hl]; decide⟩, fun _ => rfl⟩
      | true =>
        rw [hl] at hlin
        have hr : ∀ x ∈ [a, b, c, e], 0 ≤ x ∧ x ≤ 1000000 := by
          unfold Four at hfo
          intro x hx
          simp only [List.mem_cons, List.mem_nil_iff, or_false] at hx
          omega
        rcases nexts n a b c e (by omega) hfo with ⟨i, a', b', c', e', hla, hne, hfo', hme, hlex⟩ | ⟨hno, hlex⟩
        · have hns := NextSet_yes (G := G) hN _ 1 [a, b, c, e] n hbx (by simp) (by omega) hr hla
          rw [hne] at hns
          simp only [List.length_cons, List.length_nil, Nat.zero_add, Nat.reduceAdd, List.set_cons_succ, List.set_cons_zero, List.map_cons, List.map_nil] at hns
          repeat' first
            | refine W_seq ?_
            | refine W_skip ?_
            | refine W_exit ?_
            | refine W_ret ?_
            | refine W_block ?_
            | (refine W_ops (by simp (maxSteps := 1000000) (disch := first | decide | omega | assumption | exact plain_int _ _ | exact plain_ints _ | exact plain_bool _ | exact one_int _ _ | exact plain_des _ | exact plain_rows _) only [AM, initTm, Nat.reduceAdd, Nat.reduceEqDiff, reduceCtorEq, run_aaddr, run_stn, run_bld, bldV_nil, g1, g11, hldn, hda, hlin, hfa, hld, hpt, hns]; rfl) ?_)
            | (refine W_cond (by simp (maxSteps := 1000000) (disch := first | decide | omega | assumption | exact plain_int _ _ | exact plain_ints _ | exact plain_bool _ | exact one_int _ _ | exact plain_des _ | exact plain_rows _) only [AM, initTm, Nat.reduceAdd, Nat.reduceEqDiff, reduceCtorEq, run_aaddr, run_stn, run_bld, bldV_nil, g1, g11, hldn, hda, hlin, hfa, hld, hpt, hns]; rfl) ?_ ?_ <;> intro hcond <;> (try simp only [decide_eq_true_eq, decide_eq_false_iff_not, beq_iff_eq, beq_eq_false_iff_ne, ne_eq, reduceCtorEq, Bool.not_eq_true', Bool.not_eq_false', bne_iff_ne, bne_eq_false_iff_eq] at hcond) <;> (try (exfalso; omega)))
            | refine thenQ_n ?_
            | refine thenQ_e ?_
            | refine thenQ_r ?_
            | refine outQ_n ?_
            | refine outQ_r ?_
            | refine outQ_e ?_
            | refine outQ_d (by decide) ?_
          exact ⟨meas a' b' c' e', hme, a', b', c', e', _, rfl, by simp (maxSteps := 1000000) (disch := first | decide | omega | assumption | exact plain_int _ _ | exact plain_ints _ | exact plain_bool _ | exact one_int _ _ | exact plain_des _ | exact plain_rows _) only [AM, initTm, Nat.reduceAdd, Nat.reduceEqDiff, reduceCtorEq, run_aaddr, run_stn, run_bld, bldV_nil, g1], by simp (maxSteps := 1000000) (disch := first | decide | omega | assumption | exact plain_int _ _ | exact plain_ints _ | exact plain_bool _ | exact one_int _ _ | exact plain_des _ | exact plain_rows _) only [AM, initTm, Nat.reduceAdd, Nat.reduceEqDiff, reduceCtorEq, run_aaddr, run_stn, run_bld, bldV_nil, g11], rfl, hfo', fun t0 t1 t2 t3 ht hlx => by
            rcases hlex t0 t1 t2 t3 ht hlx with h | ⟨rfl, rfl, rfl, rfl⟩
            · exact hx t0 t1 t2 t3 ht h
            · exact hl⟩
        · have hns := NextSet_no (G := G) hN _ 1 [a, b, c, e] n hbx (by simp) (by omega) hr hno
          simp only [List.length_cons, List.length_nil, Nat.zero_add, Nat.reduceAdd, List.map_cons, List.map_nil] at hns
          repeat' first
            | refine W_seq ?_
            | refine W_skip ?_
            | refine W_exit ?_
            | refine W_ret ?_
            | refine W_block ?_
            | (refine W_ops (by simp (maxSteps := 1000000) (disch := first | decide | omega | assumption | exact plain_int _ _ | exact plain_ints _ | exact plain_bool _ | exact one_int _ _ | exact plain_des _ | exact plain_rows _) only [AM, initTm, Nat.reduceAdd, Nat.reduceEqDiff, reduceCtorEq, run_aaddr, run_stn, run_bld, bldV_nil, g1, g11, hldn, hda, hlin, hfa, hld, hpt, hns]; rfl) ?_)
            | (refine W_cond (by simp (maxSteps := 1000000) (disch := first | decide | omega | assumption | exact plain_int _ _ | exact plain_ints _ | exact plain_bool _ | exact one_int _ _ | exact plain_des _ | exact plain_rows _) only [AM, initTm, Nat.reduceAdd, Nat.reduceEqDiff, reduceCtorEq, run_aaddr, run_stn, run_bld, bldV_nil, g1, g11, hldn, hda, hlin, hfa, hld, hpt, hns]; rfl) ?_ ?_ <;> intro hcond <;> (try simp only [decide_eq_true_eq, decide_eq_false_iff_not, beq_iff_eq, beq_eq_false_iff_ne, ne_eq, reduceCtorEq, Bool.not_eq_true', Bool.not_eq_false', bne_iff_ne, bne_eq_false_iff_eq] at hcond) <;> (try (exfalso; omega)))
            | refine thenQ_n ?_
            | refine thenQ_e ?_
            | refine thenQ_r ?_
            | refine outQ_n ?_
            | refine outQ_r ?_
            | refine outQ_e ?_
            | refine outQ_d (by decide) ?_
          refine ⟨.inr rfl, [_], rfl, false, by rw [tuple_one]; simp (maxSteps := 1000000) (disch := first | decide | omega | assumption | exact plain_int _ _ | exact plain_ints _ | exact plain_bool _ | exact one_int _ _ | exact plain_des _ | exact plain_rows _) only [AM, initTm, Nat.reduceAdd, Nat.reduceEqDiff, reduceCtorEq, run_aaddr, run_stn, run_bld, bldV_nil], fun h => (by cases h), fun hp => ?_⟩
          obtain ⟨t0, t1, t2, t3, h0, h1, h2, h3, h4, hnl⟩ := hp.free
          exfalso
          rcases hlex t0 t1 t2 t3 ⟨h0, h1, h2, h3, h4⟩ with h | ⟨rfl, rfl, rfl, rfl⟩
          · exact hnl (hx t0 t1 t2 t3 ⟨h0, h1, h2, h3, h4⟩ h)
          · exact hnl hl
end
end Go.Am
