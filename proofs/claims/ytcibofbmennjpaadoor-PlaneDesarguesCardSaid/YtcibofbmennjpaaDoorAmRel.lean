/- What an abstract value and an abstract state say of the model's value and world; how this is carried from world to world. -/
import Derived.Test.YtcibofbmennjpaaDoorAmCore
import Derived.WalkKit
set_option linter.unusedVariables false
namespace Go.Am
open Go.RowKit

/-- The relation of values. 'S': blocks that nobody writes any more; 'ρ': each box's block and capacity. -/
inductive RV (w : World) (S : Nat → Prop) (ρ : List (Nat × Nat)) (bx : List Box) : AV → Value → Prop
  | int (k : IntKind) (n : Int) : RV w S ρ bx (.int k n) (.int k n)
  | bool (b : Bool) : RV w S ρ bx (.bool b) (.bool b)
  | nil : RV w S ρ bx .nil (.slice none 0 0)
  | lst (n cap : Nat) (ao : Option Addr) (cs : List AV) (vs : List Value) (hl : vs.length = cs.length) (hn : n ≤ cap) (hm : cap ≤ maxLen)
      (hc : ∀ (j : Nat) (v : Value), vs[j]? = some v → ∃ a, ao = some a ∧ S a.block ∧ w.cell? (a.add j) = some v)
      (hr : ∀ (j : Nat) (c : AV) (v : Value), cs[j]? = some c → vs[j]? = some v → RV w S ρ bx c v) : RV w S ρ bx (.lst n cs) (.slice ao n cap)
  | own (id n : Nat) (v : Value) (b : Box) (hb : bx[id]? = some b) (hf : b.status ≠ .fresh) (hle : n * b.sz ≤ b.cs.length) (h1 : v.oneCell' = true)
      (h : b.cs.length = n * b.sz → ∃ g cap, ρ[id]? = some (g, cap) ∧ v = .slice (some ⟨g, 0, none⟩) n cap ∧ n ≤ cap) : RV w S ρ bx (.own id n) v
  | ptr (id len off : Nat) (v : Value) (b : Box) (hb : bx[id]? = some b) (hf : b.status ≠ .fresh) (hle : len ≤ b.cs.length) (h1 : v.oneCell' = true)
      (h : b.cs.length = len → ∃ g cap, ρ[id]? = some (g, cap) ∧ v = .pointer (some ⟨g, off, none⟩)) : RV w S ρ bx (.ptr id len off) v
  | rptr (a : Addr) (cs : List AV) (vs : List Value) (hl : vs.length = cs.length)
      (hc : ∀ (j : Nat) (v : Value), vs[j]? = some v → S a.block ∧ w.cell? (a.add j) = some v)
      (hr : ∀ (j : Nat) (c : AV) (v : Value), cs[j]? = some c → vs[j]? = some v → RV w S ρ bx c v) : RV w S ρ bx (.rptr cs) (.pointer (some a))
  | agg (cs : List AV) (vs : List Value) (hl : vs.length = cs.length)
      (hr : ∀ (j : Nat) (c : AV) (v : Value), cs[j]? = some c → vs[j]? = some v → RV w S ρ bx c v) : RV w S ρ bx (.agg cs) (.agg vs.toArray)
  | tup (cs : List AV) (vs : List Value) (hl : vs.length = cs.length)
      (hr : ∀ (j : Nat) (c : AV) (v : Value), cs[j]? = some c → vs[j]? = some v → RV w S ρ bx c v) : RV w S ρ bx (.tup cs) (.tuple vs.toArray)
  | clo (f : Nat) (cs : List AV) (vs : List Value) (hl : vs.length = cs.length)
      (hr : ∀ (j : Nat) (c : AV) (v : Value), cs[j]? = some c → vs[j]? = some v → RV w S ρ bx c v) : RV w S ρ bx (.clo f cs) (.func (.func f) #[] vs.toArray)
  | undef : RV w S ρ bx .undef Go.undef
  | any (v : Value) : RV w S ρ bx .any v

/-- Lists of values, one by one. -/
def RVL (w : World) (S : Nat → Prop) (ρ : List (Nat × Nat)) (bx : List Box) (cs : List AV) (vs : List Value) : Prop :=
  vs.length = cs.length ∧ ∀ (j : Nat) (c : AV) (v : Value), cs[j]? = some c → vs[j]? = some v → RV w S ρ bx c v

/-- What may have happened since. -/
structure Later (w : World) (S : Nat → Prop) (ρ : List (Nat × Nat)) (bx : List Box) (w' : World) (S' : Nat → Prop) (ρ' : List (Nat × Nat)) (bx' : List Box) : Prop where
  mono : ∀ g, S g → S' g
  heap : ∀ g, S g → w'.heap[g]? = w.heap[g]?
  size : w.heap.size ≤ w'.heap.size
  box : ∀ (id : Nat) (b : Box), bx[id]? = some b → b.status ≠ .fresh →
    ∃ b', bx'[id]? = some b' ∧ b'.status ≠ .fresh ∧ b'.sz = b.sz ∧ ((b'.cs.length = b.cs.length ∧ ρ'[id]? = ρ[id]?) ∨ b.cs.length < b'.cs.length)

section
variable {w w' : World} {S S' : Nat → Prop} {ρ ρ' : List (Nat × Nat)} {bx bx' : List Box}

theorem Addr.add_block (a : Addr) (n : Nat) : (a.add n).block = a.block := by unfold Addr.add; split <;> rfl
theorem Addr.add_add (a : Addr) (i j : Nat) : (a.add i).add j = a.add (i + j) := by
  unfold Addr.add
  by_cases hi : i = 0 <;> by_cases hj : j = 0 <;> simp [hi, hj, Nat.add_assoc]

theorem RV.later (h : Later w S ρ bx w' S' ρ' bx') {c : AV} {v : Value} (hv : RV w S ρ bx c v) : RV w' S' ρ' bx' c v := by
  induction hv with
  | int k n => exact .int k n
  | bool b => exact .bool b
  | nil => exact .nil
  | lst n cap ao cs vs hl hn hm hc hr ih =>
    refine .lst n cap ao cs vs hl hn hm (fun j v hj => ?_) ih
    obtain ⟨a, ha, hs, hcell⟩ := hc j v hj
    exact ⟨a, ha, h.mono _ hs, (World.cell?_of_block (by rw [Addr.add_block]; exact h.heap _ hs)).trans hcell⟩
  | own id n v b hb hf hle h1 hh =>
    obtain ⟨b', hb', hf', hsz, hcase⟩ := h.box id b hb hf
    refine .own id n v b' hb' hf' ?_ h1 (fun hlen => ?_)
    · rw [hsz]; rcases hcase with ⟨e, _⟩ | e <;> omega
    · rw [hsz] at hlen
      rcases hcase with ⟨e, er⟩ | e
      · rw [er]; exact hh (by omega)
      · omega
  | ptr id len off v b hb hf hle h1 hh =>
    obtain ⟨b', hb', hf', hsz, hcase⟩ := h.box id b hb hf
    refine .ptr id len off v b' hb' hf' ?_ h1 (fun hlen => ?_)
    · rcases hcase with ⟨e, _⟩ | e <;> omega
    · rcases hcase with ⟨e, er⟩ | e
      · rw [er]; exact hh (by omega)
      · omega
  | rptr a cs vs hl hc hr ih =>
    refine .rptr a cs vs hl (fun j v hj => ?_) ih
    obtain ⟨hs, hcell⟩ := hc j v hj
    exact ⟨h.mono _ hs, (World.cell?_of_block (by rw [Addr.add_block]; exact h.heap _ hs)).trans hcell⟩
  | agg cs vs hl hr ih => exact .agg cs vs hl ih
  | tup cs vs hl hr ih => exact .tup cs vs hl ih
  | clo f cs vs hl hr ih => exact .clo f cs vs hl ih
  | undef => exact .undef
  | any v => exact .any v

theorem Later.refl : Later w S ρ bx w S ρ bx := ⟨fun _ h => h, fun _ _ => rfl, Nat.le_refl _, fun id b hb hf => ⟨b, hb, hf, rfl, .inl ⟨rfl, rfl⟩⟩⟩

theorem Later.trans {w'' : World} {S'' : Nat → Prop} {ρ'' : List (Nat × Nat)} {bx'' : List Box} (h : Later w S ρ bx w' S' ρ' bx') (k : Later w' S' ρ' bx' w'' S'' ρ'' bx'') : Later w S ρ bx w'' S'' ρ'' bx'' := by
  refine ⟨fun g hg => k.mono g (h.mono g hg), fun g hg => (k.heap g (h.mono g hg)).trans (h.heap g hg), Nat.le_trans h.size k.size, fun id b hb hf => ?_⟩
  obtain ⟨b', hb', hf', hs', hc'⟩ := h.box id b hb hf
  obtain ⟨b'', hb'', hf'', hs'', hc''⟩ := k.box id b' hb' hf'
  refine ⟨b'', hb'', hf'', hs''.trans hs', ?_⟩
  rcases hc' with ⟨e1, e2⟩ | e1 <;> rcases hc'' with ⟨e3, e4⟩ | e3
  · exact .inl ⟨e3.trans e1, e4.trans e2⟩
  · exact .inr (by omega)
  · exact .inr (by omega)
  · exact .inr (by omega)

/-- A closed value's relation names no boxes. -/
theorem RV.closed {c : AV} {v : Value} (hv : RV w S ρ bx c v) : c.closed = true → ∀ (T : Nat → Prop) (ρ' : List (Nat × Nat)) (bx' : List Box), (∀ g, S g → T g) → RV w T ρ' bx' c v := by
  have key : ∀ {cs : List AV} {j : Nat} {c : AV}, AV.closedL cs = true → cs[j]? = some c → c.closed = true := by
    intro cs
    induction cs with
    | nil => intro j c _ h; simp at h
    | cons x xs ih =>
      intro j c hc h
      simp only [AV.closedL, Bool.and_eq_true] at hc
      cases j with
      | zero => simp at h; subst h; exact hc.1
      | succ j => exact ih hc.2 (by simpa using h)
  induction hv with
  | int k n => intro _ T ρ' bx' hT; exact .int k n
  | bool b => intro _ T ρ' bx' hT; exact .bool b
  | nil => intro _ T ρ' bx' hT; exact .nil
  | lst n cap ao cs vs hl hn hm hc hr ih =>
    intro hcl T ρ' bx' hT
    simp only [AV.closed] at hcl
    exact .lst n cap ao cs vs hl hn hm (fun j v hj => let ⟨a, ha, hs, hcell⟩ := hc j v hj; ⟨a, ha, hT _ hs, hcell⟩) (fun j c v h1 h2 => ih j c v h1 h2 (key hcl h1) T ρ' bx' hT)
  | own id n v b hb hf hle h1 hh => intro hcl; simp [AV.closed] at hcl
  | ptr id len off v b hb hf hle h1 hh => intro hcl; simp [AV.closed] at hcl
  | rptr a cs vs hl hc hr ih =>
    intro hcl T ρ' bx' hT
    simp only [AV.closed] at hcl
    exact .rptr a cs vs hl (fun j v hj => let ⟨hs, hcell⟩ := hc j v hj; ⟨hT _ hs, hcell⟩) (fun j c v h1 h2 => ih j c v h1 h2 (key hcl h1) T ρ' bx' hT)
  | agg cs vs hl hr ih => intro hcl T ρ' bx' hT; simp only [AV.closed] at hcl; exact .agg cs vs hl (fun j c v h1 h2 => ih j c v h1 h2 (key hcl h1) T ρ' bx' hT)
  | tup cs vs hl hr ih => intro hcl T ρ' bx' hT; simp only [AV.closed] at hcl; exact .tup cs vs hl (fun j c v h1 h2 => ih j c v h1 h2 (key hcl h1) T ρ' bx' hT)
  | clo f cs vs hl hr ih => intro hcl T ρ' bx' hT; simp only [AV.closed] at hcl; exact .clo f cs vs hl (fun j c v h1 h2 => ih j c v h1 h2 (key hcl h1) T ρ' bx' hT)
  | undef => intro _ T ρ' bx' hT; exact .undef
  | any v => intro hcl; simp [AV.closed] at hcl

theorem closedL_get {cs : List AV} (h : AV.closedL cs = true) : ∀ {j : Nat} {c : AV}, cs[j]? = some c → c.closed = true := by
  induction cs with
  | nil => intro j c h; simp at h
  | cons x xs ih =>
    simp only [AV.closedL, Bool.and_eq_true] at h
    intro j c hj
    cases j with
    | zero => simp at hj; subst hj; exact h.1
    | succ j => exact ih h.2 (by simpa using hj)

theorem RV.one {c : AV} {v : Value} (hv : RV w S ρ bx c v) (h : c.one = true) : v.oneCell' = true := by
  cases hv <;> first | rfl | assumption | simp [AV.one] at h

theorem RVL.get {cs : List AV} {vs : List Value} (h : RVL w S ρ bx cs vs) {j : Nat} {c : AV} (hj : cs[j]? = some c) : ∃ v, vs[j]? = some v ∧ RV w S ρ bx c v := by
  have hlt : j < vs.length := by rw [h.1]; exact (List.getElem?_eq_some_iff.1 hj).1
  exact ⟨vs[j], List.getElem?_eq_getElem hlt, h.2 j c _ hj (List.getElem?_eq_getElem hlt)⟩
theorem RVL.nil : RVL w S ρ bx [] [] := ⟨rfl, fun j c v h => by simp at h⟩
theorem RVL.cons {c : AV} {v : Value} {cs : List AV} {vs : List Value} (h : RV w S ρ bx c v) (hs : RVL w S ρ bx cs vs) : RVL w S ρ bx (c :: cs) (v :: vs) :=
  ⟨by simp [hs.1], fun j c' v' h1 h2 => by
    cases j with
    | zero => simp at h1 h2; subst h1; subst h2; exact h
    | succ j => exact hs.2 j c' v' (by simpa using h1) (by simpa using h2)⟩
theorem RVL.uncons {c : AV} {cs : List AV} {vs : List Value} (h : RVL w S ρ bx (c :: cs) vs) : ∃ v vs', vs = v :: vs' ∧ RV w S ρ bx c v ∧ RVL w S ρ bx cs vs' := by
  cases vs with
  | nil => have := h.1; simp at this
  | cons v vs' => exact ⟨v, vs', rfl, h.2 0 c v rfl rfl, by simpa using h.1, fun j c' v' h1 h2 => h.2 (j + 1) c' v' (by simpa using h1) (by simpa using h2)⟩
theorem RVL.append {cs cs' : List AV} {vs vs' : List Value} (h : RVL w S ρ bx cs vs) (h' : RVL w S ρ bx cs' vs') : RVL w S ρ bx (cs ++ cs') (vs ++ vs') := by
  refine ⟨by simp [h.1, h'.1], fun j c v h1 h2 => ?_⟩
  by_cases hj : j < cs.length
  · rw [List.getElem?_append_left hj] at h1
    rw [List.getElem?_append_left (by rw [h.1]; exact hj)] at h2
    exact h.2 j c v h1 h2
  · rw [List.getElem?_append_right (by omega)] at h1
    rw [List.getElem?_append_right (by rw [h.1]; omega), h.1] at h2
    exact h'.2 _ c v h1 h2
theorem RVL.take {cs : List AV} {vs : List Value} (h : RVL w S ρ bx cs vs) (n : Nat) : RVL w S ρ bx (cs.take n) (vs.take n) := by
  refine ⟨by simp [h.1], fun j c v h1 h2 => ?_⟩
  rw [List.getElem?_take] at h1 h2
  by_cases hj : j < n
  · simp only [hj, if_true] at h1 h2; exact h.2 j c v h1 h2
  · simp [hj] at h1
theorem RVL.drop {cs : List AV} {vs : List Value} (h : RVL w S ρ bx cs vs) (n : Nat) : RVL w S ρ bx (cs.drop n) (vs.drop n) := by
  refine ⟨by simp [h.1], fun j c v h1 h2 => ?_⟩
  rw [List.getElem?_drop] at h1 h2
  exact h.2 _ c v h1 h2
theorem RVL.later (hL : Later w S ρ bx w' S' ρ' bx') {cs : List AV} {vs : List Value} (h : RVL w S ρ bx cs vs) : RVL w' S' ρ' bx' cs vs :=
  ⟨h.1, fun j c v h1 h2 => (h.2 j c v h1 h2).later hL⟩

/-- The cells of a value. -/
theorem RV.cells_one {c : AV} {v : Value} (hv : RV w S ρ bx c v) (h : c.cells.all AV.one = true) : RVL w S ρ bx c.cells v.cells.toList ∧ ∀ u ∈ v.cells.toList, u.oneCell' = true := by
  have one : ∀ {x : AV} {u : Value}, RV w S ρ bx x u → x.one = true → x.cells = [x] → u.cells = #[u] → RVL w S ρ bx x.cells u.cells.toList ∧ ∀ y ∈ u.cells.toList, y.oneCell' = true := by
    intro x u hx h1 e1 e2
    rw [e1, e2]
    exact ⟨.cons hx .nil, by simp [hx.one h1]⟩
  have uc : ∀ {u : Value}, u.oneCell' = true → u.cells = #[u] := by intro u hu; cases u <;> first | rfl | (simp [Value.oneCell'] at hu)
  cases hv with
  | agg cs vs hl hr =>
    refine ⟨⟨by simpa [AV.cells, Value.cells] using hl, fun j c v h1 h2 => hr j c v h1 (by simpa [Value.cells] using h2)⟩, ?_⟩
    intro u hu
    simp only [Value.cells] at hu
    obtain ⟨j, hj⟩ := List.getElem?_of_mem hu
    have hlt : j < cs.length := by rw [← hl]; exact (List.getElem?_eq_some_iff.1 hj).1
    have h1 : cs[j]? = some cs[j] := List.getElem?_eq_getElem hlt
    refine (hr j _ u h1 hj).one ?_
    simp only [AV.cells, List.all_eq_true] at h
    exact h _ (List.mem_of_getElem? h1)
  | tup cs vs hl hr => simp [AV.cells, AV.one] at h
  | undef => simp [AV.cells, AV.one] at h
  | any v => simp [AV.cells, AV.one] at h
  | own id n v b hb hf hle h1 hh => exact one (.own id n v b hb hf hle h1 hh) rfl rfl (uc h1)
  | ptr id len off v b hb hf hle h1 hh => exact one (.ptr id len off v b hb hf hle h1 hh) rfl rfl (uc h1)
  | int k n => exact one (.int k n) rfl rfl rfl
  | bool b => exact one (.bool b) rfl rfl rfl
  | nil => exact one .nil rfl rfl rfl
  | lst n cap ao cs vs hl hn hm hc hr => exact one (.lst n cap ao cs vs hl hn hm hc hr) rfl rfl rfl
  | rptr a cs vs hl hc hr => exact one (.rptr a cs vs hl hc hr) rfl rfl rfl
  | clo f cs vs hl hr => exact one (.clo f cs vs hl hr) rfl rfl rfl
end

/-- A box's block holds what the box holds. -/
structure BoxOk (w : World) (S : Nat → Prop) (ρ : List (Nat × Nat)) (bx : List Box) (base : Nat) (id : Nat) (b : Box) (g cap : Nat) (cur : Array Value) : Prop where
  rho : ρ[id]? = some (g, cap)
  base : base ≤ g
  heap : w.heap[g]? = some (.cells cur b.e (0, 0))
  size : cur.size = cap * b.sz
  cap : cap ≤ maxLen
  fits : b.cs.length ≤ cur.size
  cells : ∀ (j : Nat) (c : AV), b.cs[j]? = some c → ∃ v, cur[j]? = some v ∧ v.oneCell' = true ∧ RV w S ρ bx c v
  live : b.status = .live → ¬ S g
  frozen : b.status = .frozen → S g

/-- The relation of states: 'w0', 'base': the world and the heap's size when the call began. -/
structure Rel (G : Nat → List AV) (nt : Nat) (w0 : World) (base : Nat) (S0 S : Nat → Prop) (ρ : List (Nat × Nat)) (st : St) (tmps : Array Value) (w : World) : Prop where
  below : Below base w0 w
  baseLe : base ≤ w.heap.size
  size : nt ≤ tmps.size
  rho : ρ.length = st.bx.length
  slt : ∀ g, S g → g < w.heap.size
  sbase : ∀ g, S g → S0 g ∨ base ≤ g
  box : ∀ (id : Nat) (b : Box), st.bx[id]? = some b → b.status ≠ .fresh → ∃ g cap cur, BoxOk w S ρ st.bx base id b g cap cur
  inj : ∀ (i j : Nat) (bi bj : Box) (x y : Nat × Nat), st.bx[i]? = some bi → st.bx[j]? = some bj → bi.status ≠ .fresh → bj.status ≠ .fresh → ρ[i]? = some x → ρ[j]? = some y → i ≠ j → x.1 ≠ y.1
  tm : ∀ t, RV w S ρ st.bx (st.tm.get t) (tmps.getD t undef)
  glob : ∀ g, RV w S ρ st.bx (.rptr (G g)) (.pointer (some ⟨g, 0, none⟩))

section
variable {G : Nat → List AV} {w0 w : World} {base : Nat} {S0 S : Nat → Prop} {ρ : List (Nat × Nat)} {st : St} {tmps : Array Value}

theorem beqf {a b : Nat} (h : ¬ a = b) : Nat.beq a b = false := by cases e : Nat.beq a b with
  | false => rfl
  | true => exact absurd (Nat.eq_of_beq_eq_true e) h
theorem beqt {a b : Nat} (h : a = b) : Nat.beq a b = true := by subst h; exact Nat.beq_refl a

theorem Tm.get_set_same {f : Nat} : ∀ (t : Tm) (k : Nat) (v : AV), k < 2 ^ f - 1 → (Tm.setF f t k v).getF f k = v := by
  induction f with
  | zero => intro t k v h; simp at h
  | succ f ih =>
    intro t k v h
    have hp : 2 ^ (f + 1) = 2 * 2 ^ f := by rw [Nat.pow_succ]; omega
    have hpos : 1 ≤ 2 ^ f := Nat.one_le_two_pow
    cases t with
    | e =>
      unfold Tm.setF
      by_cases h0 : k = 0
      · subst h0; simp [Tm.getF]
      · have e0 : Nat.beq k 0 = false := beqf h0
        by_cases h1 : k % 2 = 1
        · have e1 : Nat.beq (k % 2) 1 = true := beqt h1
          simp only [e0, e1, cond_true, cond_false, Tm.getF]
          exact ih .e (k / 2) v (by omega)
        · have e1 : Nat.beq (k % 2) 1 = false := beqf h1
          simp only [e0, e1, cond_false, Tm.getF]
          exact ih .e (k / 2 - 1) v (by omega)
    | n u l r =>
      unfold Tm.setF
      by_cases h0 : k = 0
      · subst h0; simp [Tm.getF]
      · have e0 : Nat.beq k 0 = false := beqf h0
        by_cases h1 : k % 2 = 1
        · have e1 : Nat.beq (k % 2) 1 = true := beqt h1
          simp only [e0, e1, cond_true, cond_false, Tm.getF]
          exact ih l (k / 2) v (by omega)
        · have e1 : Nat.beq (k % 2) 1 = false := beqf h1
          simp only [e0, e1, cond_false, Tm.getF]
          exact ih r (k / 2 - 1) v (by omega)

theorem Tm.getF_e {f : Nat} : ∀ (k : Nat), Tm.getF f .e k = .undef := by
  cases f <;> intro k <;> rfl

theorem Tm.get_set_ne {f : Nat} : ∀ (t : Tm) (k m : Nat) (v : AV), k ≠ m → (Tm.setF f t k v).getF f m = t.getF f m := by
  induction f with
  | zero => intro t k m v h; rfl
  | succ f ih =>
    intro t k m v h
    have key : ∀ (u : AV) (l r : Tm), (Tm.setF (f + 1) (.n u l r) k v).getF (f + 1) m = Tm.getF (f + 1) (.n u l r) m := by
      intro u l r
      unfold Tm.setF
      by_cases h0 : k = 0
      · subst h0
        have m0 : Nat.beq m 0 = false := beqf (by omega)
        simp [Tm.getF, m0]
      · have e0 : Nat.beq k 0 = false := beqf h0
        by_cases h1 : k % 2 = 1
        · have e1 : Nat.beq (k % 2) 1 = true := beqt h1
          simp only [e0, e1, cond_true, cond_false, Tm.getF]
          by_cases m0 : m = 0
          · subst m0; simp
          · have f0 : Nat.beq m 0 = false := beqf m0
            by_cases m1 : m % 2 = 1
            · have f1 : Nat.beq (m % 2) 1 = true := beqt m1
              simp only [f0, f1, cond_true, cond_false]
              exact ih l (k / 2) (m / 2) v (by omega)
            · have f1 : Nat.beq (m % 2) 1 = false := beqf m1
              simp only [f0, f1, cond_false]
        · have e1 : Nat.beq (k % 2) 1 = false := beqf h1
          simp only [e0, e1, cond_false, Tm.getF]
          by_cases m0 : m = 0
          · subst m0; simp
          · have f0 : Nat.beq m 0 = false := beqf m0
            by_cases m1 : m % 2 = 1
            · have f1 : Nat.beq (m % 2) 1 = true := beqt m1
              simp only [f0, f1, cond_true, cond_false]
            · have f1 : Nat.beq (m % 2) 1 = false := beqf m1
              simp only [f0, f1, cond_false]
              exact ih r (k / 2 - 1) (m / 2 - 1) v (by omega)
    cases t with
    | n u l r => exact key u l r
    | e =>
      have e1 : Tm.setF (f + 1) .e k v = Tm.setF (f + 1) (.n .undef .e .e) k v := by
        unfold Tm.setF
        cases Nat.beq k 0 <;> cases Nat.beq (k % 2) 1 <;> rfl
      rw [e1, key]
      simp only [Tm.getF]
      cases Nat.beq m 0 <;> cases Nat.beq (m % 2) 1 <;> simp [Tm.getF_e]

theorem Tm.get_set (t : Tm) (k : Nat) (v : AV) (m : Nat) (hk : k < 65535) : (t.set k v).get m = if k = m then v else t.get m := by
  by_cases h : k = m
  · subst h; rw [if_pos rfl]; exact Tm.get_set_same t k v (by simpa using hk)
  · rw [if_neg h]; exact Tm.get_set_ne t k m v h
end
end Go.Am
