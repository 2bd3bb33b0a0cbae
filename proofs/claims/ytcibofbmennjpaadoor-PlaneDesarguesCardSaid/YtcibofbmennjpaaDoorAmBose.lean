/- Planes in plain terms: how many points an arc has (Bose). No program in sight. -/
import Derived.Test.YtcibofbmennjpaaDoorAmPl13
set_option linter.unusedVariables false
set_option linter.unusedSimpArgs false
namespace Go.Am

theorem len_rel {α β : Type} [DecidableEq β] (rel : α → β → Prop) : ∀ (l : List α) (m : List β), l.Nodup → (∀ x ∈ l, ∃ y, y ∈ m ∧ rel x y) → (∀ x ∈ l, ∀ x' ∈ l, ∀ y, y ∈ m → rel x y → rel x' y → x = x') → l.length ≤ m.length
  | [], m, _, _, _ => Nat.zero_le _
  | x :: l, m, hn, h1, h2 => by
    obtain ⟨y, hy, hr⟩ := h1 x (by simp)
    obtain ⟨hx, hl⟩ := List.nodup_cons.1 hn
    have := len_rel rel l (m.erase y) hl (fun x' hx' => by
      obtain ⟨y', hy', hr'⟩ := h1 x' (by simp [hx'])
      refine ⟨y', (List.mem_erase_of_ne fun e => ?_).2 hy', hr'⟩
      subst e
      exact hx (by rw [h2 x (by simp) x' (by simp [hx']) y' hy hr hr']; exact hx')) (fun a ha b hb y' hy' => h2 a (by simp [ha]) b (by simp [hb]) y' (List.mem_of_mem_erase hy'))
    rw [List.length_erase_of_mem hy] at this
    have : 0 < m.length := List.length_pos_of_mem hy
    simp only [List.length_cons]
    omega
/-- As many: then each is met. -/
theorem len_onto {α β : Type} [DecidableEq β] (rel : α → β → Prop) (l : List α) (m : List β) (hl : l.Nodup) (hm : m.Nodup) (h1 : ∀ x ∈ l, ∃ y, y ∈ m ∧ rel x y) (h2 : ∀ x ∈ l, ∀ x' ∈ l, ∀ y, y ∈ m → rel x y → rel x' y → x = x') (he : m.length ≤ l.length) :
    ∀ y ∈ m, ∃ x, x ∈ l ∧ rel x y := by
  intro y hy
  apply Classical.byContradiction
  intro hno
  have := len_rel rel l (m.erase y) hl (fun x hx => by
    obtain ⟨y', hy', hr'⟩ := h1 x hx
    exact ⟨y', (List.mem_erase_of_ne (fun e => hno ⟨x, hx, by rw [← e]; exact hr'⟩)).2 hy', hr'⟩) (fun a ha b hb y' hy' => h2 a ha b hb y' (List.mem_of_mem_erase hy'))
  rw [List.length_erase_of_mem hy] at this
  have : 0 < m.length := List.length_pos_of_mem hy
  omega

theorem together_nil (b : List Int) : together [] b = 0 := rfl
theorem together_cons (x : Int) (a b : List Int) : together (x :: a) b = together a b + if x ∈ b then 1 else 0 := by
  unfold together
  rw [List.filter_cons]
  by_cases h : x ∈ b <;> simp [h]
theorem sum_one (m : List Nat) (f : Nat → Prop) [DecidablePred f] (hm : m.Nodup) (k : Nat) (hk : k ∈ m) (hf : ∀ i, i ∈ m → (f i ↔ i = k)) : (m.map fun i => if f i then 1 else 0).sum = 1 := by
  induction m with
  | nil => simp at hk
  | cons a m ih =>
    obtain ⟨h1, h2⟩ := List.nodup_cons.1 hm
    rw [List.map_cons, List.sum_cons]
    by_cases e : a = k
    · subst e
      have h0 : (m.map fun i => if f i then 1 else 0) = m.map fun _ => 0 := List.map_congr_left fun i hi => by
        rw [if_neg]
        intro h
        exact h1 ((hf i (by simp [hi])).1 h ▸ hi)
      rw [if_pos ((hf a (by simp)).2 rfl), h0]
      have : ∀ m : List Nat, (m.map fun _ => 0).sum = 0 := fun m => by induction m with
        | nil => rfl
        | cons a m ih => simp [ih]
      rw [this]
    · have hkm : k ∈ m := by
        rcases List.mem_cons.1 hk with h | h
        · exact absurd h.symm e
        · exact h
      rw [if_neg (fun h => e ((hf a (by simp)).1 h)), ih h2 hkm fun i hi => hf i (by simp [hi])]

/-- A plane's rows. -/
structure PP (n R : Nat) (r : Nat → List Int) : Prop where
  inn : ∀ i, ∀ p ∈ r i, 0 ≤ p ∧ p < n
  nodup : ∀ i, (r i).Nodup
  join : ∀ a b : Int, 0 ≤ a → a < n → 0 ≤ b → b < n → a ≠ b → ∃ i, i < R ∧ a ∈ r i ∧ b ∈ r i
  uj : ∀ a b : Int, a ≠ b → ∀ i j, i < R → j < R → a ∈ r i → b ∈ r i → a ∈ r j → b ∈ r j → i = j
  meet : ∀ i j, i < R → j < R → i ≠ j → ∃ x, x ∈ r i ∧ x ∈ r j
  quad : ∃ a b c e : Int, (0 ≤ a ∧ a < n) ∧ (0 ≤ b ∧ b < n) ∧ (0 ≤ c ∧ c < n) ∧ (0 ≤ e ∧ e < n) ∧ [a, b, c, e].Nodup ∧ ∀ i, i < R → ¬ (a ∈ r i ∧ b ∈ r i ∧ c ∈ r i) ∧ ¬ (a ∈ r i ∧ b ∈ r i ∧ e ∈ r i) ∧ ¬ (a ∈ r i ∧ c ∈ r i ∧ e ∈ r i) ∧ ¬ (b ∈ r i ∧ c ∈ r i ∧ e ∈ r i)

theorem PlaneP.pp {d : Des} {n : Nat} (hg : Good d n) (hp : PlaneP d n) : PP n d.rows.length d.rw := by
  have hu : d.Uniq n := (uniq_two d n).2 hp.two
  have key : ∀ a b : Int, 0 ≤ a → a < n → 0 ≤ b → b < n → a ≠ b → ∃ i, i < d.rows.length ∧ a ∈ d.rw i ∧ b ∈ d.rw i ∧ ∀ j, j < d.rows.length → a ∈ d.rw j → b ∈ d.rw j → j = i := by
    intro a b ha ha' hb hb' hne
    obtain ⟨x, rfl⟩ : ∃ x : Nat, a = x := ⟨a.toNat, by omega⟩
    obtain ⟨y, rfl⟩ : ∃ y : Nat, b = y := ⟨b.toNat, by omega⟩
    exact hu x y (by omega) (by omega) (fun e => hne (by rw [e]))
  refine ⟨hg.inn, hg.nodup, fun a b h1 h2 h3 h4 h5 => ?_, fun a b hne i j hi hj ai bi aj bj => ?_, fun i j hi hj hne => ?_, ?_⟩
  · obtain ⟨i, hi, h, h', _⟩ := key a b h1 h2 h3 h4 h5
    exact ⟨i, hi, h, h'⟩
  · have a1 := hg.inn i a ai
    have b1 := hg.inn i b bi
    obtain ⟨k, hk, _, _, hu'⟩ := key a b a1.1 a1.2 b1.1 b1.2 hne
    rw [hu' i hi ai bi, hu' j hj aj bj]
  · have h1 : together (d.rw i) (d.rw j) = 1 ∨ together (d.rw j) (d.rw i) = 1 := by
      rcases Nat.lt_or_gt_of_ne hne with h | h
      · exact .inr (hp.one j i h hj)
      · exact .inl (hp.one i j h hi)
    have h2 : ∀ a b : List Int, together a b = 1 → ∃ x, x ∈ a ∧ x ∈ b := by
      intro a b h
      unfold together at h
      obtain ⟨x, hx⟩ := List.exists_mem_of_length_pos (l := a.filter fun x => decide (x ∈ b)) (by omega)
      obtain ⟨h1, h2⟩ := List.mem_filter.1 hx
      exact ⟨x, h1, of_decide_eq_true h2⟩
    rcases h1 with h | h
    · exact h2 _ _ h
    · obtain ⟨x, h3, h4⟩ := h2 _ _ h
      exact ⟨x, h4, h3⟩
  · obtain ⟨a, b, c, e, h1, h2, h3, h4, h5, h6⟩ := hp.free
    refine ⟨a, b, c, e, by omega, by omega, by omega, by omega, ?_, fun i hi => ?_⟩
    · simp only [List.nodup_cons, List.mem_cons, List.not_mem_nil, or_false, not_or, List.nodup_nil, and_true, not_false_eq_true]
      omega
    · have h7 : ¬ 2 < together [a, b, c, e] (d.rw i) := fun h => h6 ((lin_iff ..).2 ⟨i, hi, h⟩)
      rw [together4] at h7
      exact ⟨fun h => h7 (.inl h), fun h => h7 (.inr (.inl h)), fun h => h7 (.inr (.inr (.inl h))), fun h => h7 (.inr (.inr (.inr h)))⟩

section
variable {n R : Nat} {r : Nat → List Int} (P : PP n R r)
/-- The rows through a point. -/
def thru (R : Nat) (r : Nat → List Int) (p : Int) : List Nat := (List.range R).filter fun i => decide (p ∈ r i)
theorem mem_thru {p : Int} {i : Nat} : i ∈ thru R r p ↔ i < R ∧ p ∈ r i := by simp [thru]
theorem thru_nodup (p : Int) : (thru R r p).Nodup := List.Pairwise.filter _ List.nodup_range
include P

theorem PP.thru_len {p : Int} {L : Nat} (hp : 0 ≤ p ∧ p < n) (hL : L < R) (h : p ∉ r L) : (thru R r p).length = (r L).length := by
  apply Nat.le_antisymm
  · refine len_rel (fun i x => x ∈ r i) _ _ (thru_nodup p) (fun i hi => ?_) (fun i hi j hj x hx h1 h2 => ?_)
    · obtain ⟨hi, hpi⟩ := mem_thru.1 hi
      obtain ⟨x, h1, h2⟩ := P.meet i L hi hL (fun e => h (e ▸ hpi))
      exact ⟨x, h2, h1⟩
    · obtain ⟨hi, hpi⟩ := mem_thru.1 hi
      obtain ⟨hj, hpj⟩ := mem_thru.1 hj
      exact P.uj p x (fun e => h (e ▸ hx)) i j hi hj hpi h1 hpj h2
  · refine len_rel (fun x i => x ∈ r i) _ _ (P.nodup L) (fun x hx => ?_) (fun x hx y hy i hi h1 h2 => ?_)
    · have hxr := P.inn L x hx
      obtain ⟨i, hi, h1, h2⟩ := P.join p x hp.1 hp.2 hxr.1 hxr.2 (fun e => h (e ▸ hx))
      exact ⟨i, mem_thru.2 ⟨hi, h1⟩, h2⟩
    · obtain ⟨hi, hpi⟩ := mem_thru.1 hi
      apply Classical.byContradiction
      intro hne
      exact h (P.uj x y hne i L hi hL h1 h2 hx hy ▸ hpi)

/-- Two lines with two points each of four: the crossing of two other joins is on neither. -/
theorem PP.off_pair {a b c e : Int} (ha : 0 ≤ a ∧ a < n) (hb : 0 ≤ b ∧ b < n) (hc : 0 ≤ c ∧ c < n) (he : 0 ≤ e ∧ e < n) (hac : a ≠ c) (hbe : b ≠ e)
    (hq : ∀ i, i < R → ¬ (a ∈ r i ∧ b ∈ r i ∧ c ∈ r i) ∧ ¬ (a ∈ r i ∧ b ∈ r i ∧ e ∈ r i) ∧ ¬ (a ∈ r i ∧ c ∈ r i ∧ e ∈ r i) ∧ ¬ (b ∈ r i ∧ c ∈ r i ∧ e ∈ r i))
    {L M : Nat} (hL : L < R) (hM : M < R) (aL : a ∈ r L) (bL : b ∈ r L) (cM : c ∈ r M) (eM : e ∈ r M) : ∃ x : Int, (0 ≤ x ∧ x < n) ∧ x ∉ r L ∧ x ∉ r M := by
  obtain ⟨i, hi, ai, ci⟩ := P.join a c ha.1 ha.2 hc.1 hc.2 hac
  obtain ⟨j, hj, bj, ej⟩ := P.join b e hb.1 hb.2 he.1 he.2 hbe
  have hij : i ≠ j := fun h => (hq i hi).1 ⟨ai, h ▸ bj, ci⟩
  obtain ⟨x, xi, xj⟩ := P.meet i j hi hj hij
  refine ⟨x, P.inn i x xi, fun xL => ?_, fun xM => ?_⟩
  · by_cases hxa : x = a
    · subst hxa; exact (hq j hj).2.1 ⟨xj, bj, ej⟩
    · have := P.uj x a hxa i L hi hL xi ai xL aL
      subst this
      exact (hq i hi).1 ⟨ai, bL, ci⟩
  · by_cases hxc : x = c
    · subst hxc; exact (hq j hj).2.2.2 ⟨bj, xj, ej⟩
    · have := P.uj x c hxc i M hi hM xi ci xM cM
      subst this
      exact (hq i hi).2.2.1 ⟨ai, cM, eM⟩
theorem PP.off_two {L M : Nat} (hL : L < R) (hM : M < R) : ∃ x : Int, (0 ≤ x ∧ x < n) ∧ x ∉ r L ∧ x ∉ r M := by
  obtain ⟨a, b, c, e, ha, hb, hc, he, hnd, hq⟩ := P.quad
  simp only [List.nodup_cons, List.mem_cons, List.not_mem_nil, or_false, not_or, List.nodup_nil, and_true, not_false_eq_true] at hnd
  obtain ⟨⟨ab, ac, ae⟩, ⟨bc, be⟩, ce⟩ := hnd
  have qL := hq L hL
  have qM := hq M hM
  by_cases oa : a ∉ r L ∧ a ∉ r M
  · exact ⟨a, ha, oa⟩
  by_cases ob : b ∉ r L ∧ b ∉ r M
  · exact ⟨b, hb, ob⟩
  by_cases oc : c ∉ r L ∧ c ∉ r M
  · exact ⟨c, hc, oc⟩
  by_cases oe : e ∉ r L ∧ e ∉ r M
  · exact ⟨e, he, oe⟩
  have perm1 : ∀ i, i < R → ¬ (a ∈ r i ∧ c ∈ r i ∧ b ∈ r i) ∧ ¬ (a ∈ r i ∧ c ∈ r i ∧ e ∈ r i) ∧ ¬ (a ∈ r i ∧ b ∈ r i ∧ e ∈ r i) ∧ ¬ (c ∈ r i ∧ b ∈ r i ∧ e ∈ r i) := fun i hi => by
    have := hq i hi
    refine ⟨fun h => this.1 ⟨h.1, h.2.2, h.2.1⟩, this.2.2.1, this.2.1, fun h => this.2.2.2 ⟨h.2.1, h.1, h.2.2⟩⟩
  have perm2 : ∀ i, i < R → ¬ (a ∈ r i ∧ e ∈ r i ∧ b ∈ r i) ∧ ¬ (a ∈ r i ∧ e ∈ r i ∧ c ∈ r i) ∧ ¬ (a ∈ r i ∧ b ∈ r i ∧ c ∈ r i) ∧ ¬ (e ∈ r i ∧ b ∈ r i ∧ c ∈ r i) := fun i hi => by
    have := hq i hi
    refine ⟨fun h => this.2.1 ⟨h.1, h.2.2, h.2.1⟩, fun h => this.2.2.1 ⟨h.1, h.2.2, h.2.1⟩, this.1, fun h => this.2.2.2 ⟨h.2.1, h.2.2, h.1⟩⟩
  by_cases aL : a ∈ r L <;> by_cases bL : b ∈ r L <;> by_cases cL : c ∈ r L <;> by_cases eL : e ∈ r L <;> simp only [aL, bL, cL, eL, not_true_eq_false, not_false_eq_true, true_and, and_true, false_and, and_false, Classical.not_not] at qL oa ob oc oe
  · exact P.off_pair ha hb hc he ac be hq hL hM aL bL oc oe
  · exact P.off_pair ha hc hb he ab ce perm1 hL hM aL cL ob oe
  · exact P.off_pair ha he hb hc ab (fun h => ce h.symm) perm2 hL hM aL eL ob oc
  · exact absurd ⟨ob, oc, oe⟩ qM.2.2.2
  · obtain ⟨x, hx, h1, h2⟩ := P.off_pair ha he hb hc ab (fun h => ce h.symm) perm2 hM hL oa oe bL cL
    exact ⟨x, hx, h2, h1⟩
  · obtain ⟨x, hx, h1, h2⟩ := P.off_pair ha hc hb he ab ce perm1 hM hL oa oc bL eL
    exact ⟨x, hx, h2, h1⟩
  · exact absurd ⟨oa, oc, oe⟩ qM.2.2.1
  · obtain ⟨x, hx, h1, h2⟩ := P.off_pair ha hb hc he ac be hq hM hL oa ob cL eL
    exact ⟨x, hx, h2, h1⟩
  · exact absurd ⟨oa, ob, oe⟩ qM.2.1
  · exact absurd ⟨oa, ob, oc⟩ qM.1
  · exact absurd ⟨oa, ob, oc⟩ qM.1

theorem PP.off_one {p : Int} (hp : 0 ≤ p ∧ p < n) : ∃ L, L < R ∧ p ∉ r L := by
  obtain ⟨a, b, c, e, ha, hb, hc, he, hnd, hq⟩ := P.quad
  simp only [List.nodup_cons, List.mem_cons, List.not_mem_nil, or_false, not_or, List.nodup_nil, and_true, not_false_eq_true] at hnd
  obtain ⟨⟨ab, ac, ae⟩, ⟨bc, be⟩, ce⟩ := hnd
  obtain ⟨i, hi, ai, bi⟩ := P.join a b ha.1 ha.2 hb.1 hb.2 ab
  by_cases pi : p ∈ r i
  · obtain ⟨j, hj, aj, cj⟩ := P.join a c ha.1 ha.2 hc.1 hc.2 ac
    by_cases pj : p ∈ r j
    · obtain ⟨k, hk, bk, ck⟩ := P.join b c hb.1 hb.2 hc.1 hc.2 bc
      refine ⟨k, hk, fun pk => ?_⟩
      have hij : i ≠ j := fun h => (hq i hi).1 ⟨ai, bi, h ▸ cj⟩
      have hpa : p = a := Classical.byContradiction fun h => hij (P.uj p a h i j hi hj pi ai pj aj)
      exact (hq k hk).1 ⟨hpa ▸ pk, bk, ck⟩
    · exact ⟨j, hj, pj⟩
  · exact ⟨i, hi, pi⟩
theorem PP.thru_all {p : Int} (hp : 0 ≤ p ∧ p < n) (hR : 0 < R) : (thru R r p).length = (r 0).length := by
  obtain ⟨L, hL, h⟩ := P.off_one hp
  rw [P.thru_len hp hL h]
  obtain ⟨x, hx, h1, h2⟩ := P.off_two hL hR
  rw [← P.thru_len hx hL h1, ← P.thru_len hx hR h2]

theorem PP.arc {l : List Int} (hl : l.Nodup) (hin : ∀ x ∈ l, 0 ≤ x ∧ x < n) (h2 : ∀ i, i < R → together l (r i) ≤ 2) (hR : 0 < R) {p : Int} (hp : p ∈ l) :
    l.length ≤ (r 0).length + 1 ∧ ((r 0).length + 1 ≤ l.length → ∀ i, i < R → p ∈ r i → together l (r i) = 2) := by
  have hle : (l.erase p).Nodup := hl.erase p
  have hne : ∀ x ∈ l.erase p, x ≠ p ∧ x ∈ l := fun x hx => ⟨fun e => by subst e; exact (List.Nodup.not_mem_erase hl) hx, List.mem_of_mem_erase hx⟩
  have a1 : ∀ x ∈ l.erase p, ∃ y, y ∈ thru R r p ∧ (fun x i => x ∈ r i) x y := fun x hx => by
    obtain ⟨h1, h3⟩ := hne x hx
    obtain ⟨i, hi, pi, xi⟩ := P.join p x (hin p hp).1 (hin p hp).2 (hin x h3).1 (hin x h3).2 (fun e => h1 e.symm)
    exact ⟨i, mem_thru.2 ⟨hi, pi⟩, xi⟩
  have a2 : ∀ x ∈ l.erase p, ∀ x' ∈ l.erase p, ∀ y, y ∈ thru R r p → (fun x i => x ∈ r i) x y → (fun x i => x ∈ r i) x' y → x = x' := fun x hx y hy i hi h3 h4 => by
    obtain ⟨hi, pi⟩ := mem_thru.1 hi
    apply Classical.byContradiction
    intro hxy
    have h5 := h2 i hi
    have : [p, x, y].length ≤ (l.filter fun z => decide (z ∈ r i)).length := nodup_sub (by
      simp only [List.nodup_cons, List.mem_cons, List.not_mem_nil, or_false, not_or, List.nodup_nil, and_true, not_false_eq_true]
      exact ⟨⟨fun e => (hne x hx).1 e.symm, fun e => (hne y hy).1 e.symm⟩, hxy⟩) (fun z hz => by
      simp only [List.mem_cons, List.not_mem_nil, or_false] at hz
      rcases hz with rfl | rfl | rfl
      · exact List.mem_filter.2 ⟨hp, decide_eq_true pi⟩
      · exact List.mem_filter.2 ⟨(hne z hx).2, decide_eq_true h3⟩
      · exact List.mem_filter.2 ⟨(hne z hy).2, decide_eq_true h4⟩)
    unfold together at h5
    simp only [List.length_cons, List.length_nil] at this
    omega
  have hlen := List.length_erase_of_mem hp
  have hpos : 0 < l.length := List.length_pos_of_mem hp
  have hb := len_rel (fun x i => x ∈ r i) _ _ hle a1 a2
  rw [P.thru_all (hin p hp) hR] at hb
  refine ⟨by omega, fun hge i hi pi => ?_⟩
  obtain ⟨x, hx, hxi⟩ := len_onto (fun x i => x ∈ r i) _ _ hle (thru_nodup p) a1 a2 (by rw [P.thru_all (hin p hp) hR]; omega) i (mem_thru.2 ⟨hi, pi⟩)
  apply Nat.le_antisymm (h2 i hi)
  exact nodup_sub (a := [p, x]) (by
    simp only [List.nodup_cons, List.mem_cons, List.not_mem_nil, or_false, not_or, List.nodup_nil, and_true, not_false_eq_true]
    exact fun e => (hne x hx).1 e.symm) (fun z hz => by
      simp only [List.mem_cons, List.not_mem_nil, or_false] at hz
      rcases hz with rfl | rfl
      · exact List.mem_filter.2 ⟨hp, decide_eq_true pi⟩
      · exact List.mem_filter.2 ⟨(hne z hx).2, decide_eq_true hxi⟩)

theorem PP.sum_arc {q : Int} (hq : 0 ≤ q ∧ q < n) : ∀ l : List Int, (∀ x ∈ l, 0 ≤ x ∧ x < n) → q ∉ l → ((thru R r q).map fun i => together l (r i)).sum = l.length
  | [], _, _ => by
    have : ∀ m : List Nat, (m.map fun i => together [] (r i)).sum = 0 := fun m => by induction m with
      | nil => rfl
      | cons a m ih => rw [List.map_cons, List.sum_cons, ih]; rfl
    rw [this]; rfl
  | x :: l, hin, hno => by
    have ih := PP.sum_arc hq l (fun y hy => hin y (by simp [hy])) (fun h => hno (by simp [h]))
    have hx := hin x (by simp)
    obtain ⟨k, hk, qk, xk⟩ := P.join q x hq.1 hq.2 hx.1 hx.2 (fun e => hno (by simp [e]))
    have h1 := sum_one (thru R r q) (fun i => x ∈ r i) (thru_nodup q) k (mem_thru.2 ⟨hk, qk⟩) (fun i hi => by
      obtain ⟨hi, qi⟩ := mem_thru.1 hi
      constructor
      · intro xi
        exact P.uj q x (fun e => hno (by simp [e])) i k hi hk qi xi qk xk
      · rintro rfl; exact xk)
    have h2 : ∀ m : List Nat, (m.map fun i => together (x :: l) (r i)).sum = (m.map fun i => together l (r i)).sum + (m.map fun i => if x ∈ r i then 1 else 0).sum := fun m => by
      induction m with
      | nil => rfl
      | cons a m ih => rw [List.map_cons, List.map_cons, List.map_cons, List.sum_cons, List.sum_cons, List.sum_cons, ih, together_cons]; omega
    rw [h2, ih, h1, List.length_cons]

/-- Bose's bound. -/
theorem PP.bose {l : List Int} (hl : l.Nodup) (hin : ∀ x ∈ l, 0 ≤ x ∧ x < n) (h2 : ∀ i, i < R → together l (r i) ≤ 2) (hR : 0 < R) :
    l.length ≤ (r 0).length + 1 ∧ ((r 0).length % 2 = 0 → l.length ≤ (r 0).length) := by
  cases hll : l with
  | nil => exact ⟨by simp, fun _ => by simp⟩
  | cons p t =>
    rw [← hll]
    have hp : p ∈ l := by rw [hll]; simp
    obtain ⟨hle, _⟩ := P.arc hl hin h2 hR hp
    refine ⟨hle, fun heven => ?_⟩
    apply Classical.byContradiction
    intro hgt
    have hfull : (r 0).length + 1 ≤ l.length := by omega
    have h3 : 3 ≤ (r 0).length := by
      obtain ⟨a, b, c, e, ha, hb, hc, he, hnd, hq⟩ := P.quad
      have := (P.arc (l := [a, b, c, e]) hnd (fun x hx => by
        simp only [List.mem_cons, List.not_mem_nil, or_false] at hx
        rcases hx with rfl | rfl | rfl | rfl
        · exact ha
        · exact hb
        · exact hc
        · exact he) (fun i hi => by
        have h7 : ¬ 2 < together [a, b, c, e] (r i) := fun h => by
          rw [together4] at h
          have := hq i hi
          rcases h with h | h | h | h
          · exact this.1 h
          · exact this.2.1 h
          · exact this.2.2.1 h
          · exact this.2.2.2 h
        omega) hR (p := a) (by simp)).1
      simp only [List.length_cons, List.length_nil] at this
      omega
    obtain ⟨q, hq0, hql⟩ : ∃ q, q ∈ r 0 ∧ q ∉ l := by
      apply Classical.byContradiction
      intro hno
      have := nodup_sub (a := r 0) (b := l.filter fun z => decide (z ∈ r 0)) (P.nodup 0) (fun z hz => List.mem_filter.2 ⟨Classical.byContradiction fun h => hno ⟨z, hz, h⟩, decide_eq_true hz⟩)
      have h4 := h2 0 hR
      unfold together at h4
      omega
    have hsum := P.sum_arc (P.inn 0 q hq0) l hin hql
    have hev : ∀ i, i < R → together l (r i) % 2 = 0 := by
      intro i hi
      by_cases h : ∃ x, x ∈ l ∧ x ∈ r i
      · obtain ⟨x, hx, hxi⟩ := h
        rw [(P.arc hl hin h2 hR hx).2 hfull i hi hxi]
      · have : together l (r i) = 0 := by
          unfold together
          rw [List.length_eq_zero_iff, List.filter_eq_nil_iff]
          intro x hx hxi
          exact h ⟨x, hx, of_decide_eq_true hxi⟩
        rw [this]
    have hs : ∀ m : List Nat, (∀ i ∈ m, i < R) → (m.map fun i => together l (r i)).sum % 2 = 0 := fun m hm => by
      induction m with
      | nil => rfl
      | cons a m ih =>
        rw [List.map_cons, List.sum_cons]
        have := hev a (hm a (by simp))
        have := ih fun i hi => hm i (by simp [hi])
        omega
    have := hs (thru R r q) fun i hi => (mem_thru.1 hi).1
    omega
end
end Go.Am
