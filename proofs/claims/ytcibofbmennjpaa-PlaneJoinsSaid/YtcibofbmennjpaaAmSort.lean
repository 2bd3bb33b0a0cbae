/- slices.Sort at []int, one step of the machine: by the shelf's contract. -/
import Derived.Test.YtcibofbmennjpaaAmW
import Derived.Sort.OwnSortedInts
set_option linter.unusedVariables false
set_option linter.unusedSimpArgs false
namespace Go.Am
open Go.RowKit Go.Sort

def twoArgs : Tm → Bool
  | .n _ (.n _ _ _) _ => true
  | _ => false
theorem two_set (t : Tm) (k : Nat) (v : AV) (h : twoArgs t = true) : twoArgs (t.set k v) = true := by
  cases t with
  | e => cases h
  | n a l r =>
    cases l with
    | e => cases h
    | n b l2 r2 =>
      unfold Tm.set
      rw [show (16 : Nat) = 14 + 1 + 1 from rfl]
      unfold Tm.setF
      cases Nat.beq k 0 with
      | true => rfl
      | false =>
        simp only [cond_false]
        cases Nat.beq (k % 2) 1 with
        | false => rfl
        | true =>
          simp only [cond_true]
          unfold Tm.setF
          cases Nat.beq (k / 2) 0 with
          | true => rfl
          | false =>
            simp only [cond_false]
            cases Nat.beq (k / 2 % 2) 1 <;> rfl
theorem two_init : ∀ (l : List AV) (k : Nat) (t : Tm), twoArgs t = true → twoArgs (initTm k l t) = true
  | [], _, _, h => h
  | v :: l, k, t, h => two_init l (k + 1) _ (two_set t k v h)
theorem one_arg {l : List AV} {v : AV} (h : initTm 0 l .e = .n v .e .e) : l = [v] := by
  cases l with
  | nil => cases h
  | cons a l =>
    cases l with
    | nil =>
      have : initTm 0 [a] .e = .n a .e .e := rfl
      rw [this] at h
      cases h; rfl
    | cons b l =>
      exfalso
      have : twoArgs (initTm 0 (a :: b :: l) .e) = true := two_init l 2 _ rfl
      rw [h] at this
      cases this

def toInts : List AV → Option (List Int)
  | [] => some []
  | .int .i64 n :: r => (toInts r).map (n :: ·)
  | _ :: _ => none
theorem toInts_map (l : List Int) : toInts (l.map (.int .i64)) = some l := by
  induction l with
  | nil => rfl
  | cons a l ih => rw [List.map_cons, toInts, ih]; rfl
theorem toInts_inv : ∀ {cs : List AV} {l : List Int}, toInts cs = some l → cs = l.map (.int .i64)
  | [], l, h => by cases h; rfl
  | c :: r, l, h => by
    unfold toInts at h
    split at h
    · rename_i hq; cases hq
    · rename_i n r' hr
      obtain ⟨l', hl, rfl⟩ := Option.map_eq_some_iff.1 h
      cases hr
      rw [toInts_inv hl]; rfl
    · cases h

def sorted (l : List Int) : List Int := l.mergeSort fun x y => decide (x ≤ y)
theorem sorted_length (l : List Int) : (sorted l).length = l.length := List.length_mergeSort l
theorem sorted_one (l : List Int) (x : Int) : sorted l = [x] ↔ l = [x] := by
  have hp : (sorted l).Perm l := List.mergeSort_perm l _
  constructor
  · intro h
    rw [h] at hp
    exact (List.perm_singleton.1 hp.symm)
  · intro h
    rw [h] at hp ⊢
    exact List.perm_singleton.1 hp

def sortBox (st : St) (id n : Nat) (b : Box) (o : Option (List Int)) : Option St := match o with
  | some l => if b.status = .live ∧ l.length = n ∧ b.sz = 1 ∧ n < 4611686018427387904 then some { st with bx := st.bx.set id { b with cs := (sorted l).map (.int .i64) } } else none
  | none => none
/-- The step: the one argument's box is sorted. -/
def sortSt (st : St) : Option St := match st.tm with
  | .n .nil .e .e => some st
  | .n (.own id n) .e .e => match st.bx[id]? with
    | some b => sortBox st id n b (toInts b.cs)
    | none => none
  | _ => none
def mfSort : MF := ⟨.prim sortSt, []⟩

section
variable {P : Program} {F : Nat → Option MF}

theorem sort_prim {f : Nat} (he : ∀ (args : Array Value) (w : World), (callFunc f args).run P w = .ok (.enter f args) w)
    (hs : ∀ (blk off cap : Nat) (zs : List Int) (w : World), Holds (Value.int .i64) w blk off zs.toArray → blk < w.heap.size → zs.length < 4611686018427387904 →
      Calls P f #[.slice (some ⟨blk, off, none⟩) zs.length cap] w fun e w' => e = .returned (.tuple #[]) ∧ ∃ n os, w' = grow (putRow (Value.int .i64) (Sort.ahead w n) blk off (zs.mergeSort fun x y => decide (x ≤ y)).toArray) os)
    (hz : ∀ (p : Option Addr) (cap : Nat) (w : World), Calls P f #[.slice p 0 cap] w fun e w' => e = .returned (.tuple #[]) ∧ w' = w) : Prim P F f mfSort := by
  refine ⟨he, ?_⟩
  intro G n w0 w base S0 S ρ xs bx args st1 rs hsz hR hrun
  have hrun' : ∃ st', sortSt ⟨initTm 0 xs .e, bx, 0⟩ = some st' ∧ st1 = st' ∧ rs = [] := by
    unfold runBody at hrun
    cases n with
    | zero => simp [aexec, mfSort] at hrun
    | succ n =>
      simp only [mfSort, aexec, step] at hrun
      cases hs : sortSt ⟨initTm 0 xs .e, bx, 0⟩ with
      | none => rw [hs] at hrun; simp at hrun
      | some st' =>
        rw [hs] at hrun
        simp only [Option.map_some, List.mapM_nil, Option.pure_def, Option.some.injEq, Prod.mk.injEq] at hrun
        exact ⟨st', rfl, hrun.1.symm, hrun.2.symm⟩
  obtain ⟨st', hst, rfl, rfl⟩ := hrun'
  unfold sortSt at hst
  simp only at hst
  have ha : ∀ v, xs = [v] → ∃ a, args = #[a] ∧ RV w S ρ bx v a := by
    intro v hv
    subst hv
    obtain ⟨l⟩ := args
    match l, hsz with
    | [a], _ => exact ⟨a, rfl, hR.tm 0⟩
  split at hst
  · rename_i htm
    obtain ⟨a, rfl, hv⟩ := ha _ (one_arg htm)
    cases hst
    cases hv
    refine (hz none 0 w).mono fun e w' ⟨h1, h2⟩ => ?_
    subst h2
    exact ⟨_, _, _, _, h1, hR, Later.refl, .tup _ _ rfl (fun j c v h => by simp at h)⟩
  · rename_i id k htm
    obtain ⟨a, rfl, hv⟩ := ha _ (one_arg htm)
    split at hst
    · rename_i b hb
      unfold sortBox at hst
      split at hst
      · rename_i l hl
        split at hst
        · rename_i hc
          obtain ⟨c1, c2, c3, c4⟩ := hc
          cases hst
          have hcs := toInts_inv hl
          have hblen : b.cs.length = k * b.sz := by rw [hcs, List.length_map, c2, c3, Nat.mul_one]
          obtain ⟨g, cap, cur, ok, rfl, hkc⟩ := own_inv hR hv hb (by rw [c1]; decide) hblen
          have hgl : g < w.heap.size := (Array.getElem?_eq_some_iff.1 ok.heap).1
          have hidl : id < bx.length := (List.getElem?_eq_some_iff.1 hb).1
          have hcur : cur.toList.take l.length = l.map (Value.int .i64) := by
            apply List.ext_getElem?
            intro j
            by_cases hj : j < l.length
            · rw [List.getElem?_take_of_lt hj, Array.getElem?_toList, List.getElem?_map, List.getElem?_eq_getElem hj]
              obtain ⟨v, h1, _, h3⟩ := ok.cells j (.int .i64 l[j]) (by rw [hcs, List.getElem?_map, List.getElem?_eq_getElem hj]; rfl)
              rw [h1]
              cases h3; rfl
            · rw [List.getElem?_take_eq_none (by omega), List.getElem?_eq_none (by simp; omega)]
          have hfit : l.length ≤ cur.size := by have := ok.fits; rw [hcs, List.length_map] at this; exact this
          rw [← c2]
          refine (hs g 0 cap l w (holds_of_blockI ok.heap hcur) hgl (by omega)).mono fun e w' ⟨h1, m, os, h2⟩ => ?_
          have hh := heap_sortedI (n := m) (os := os) (sorted l).toArray ok.heap
          have hg := grownBy_sortedI (w := w) (g := g) (n := m) (os := os) (sorted l).toArray
          rw [show (l.mergeSort fun x y => decide (x ≤ y)) = sorted l from rfl] at h2
          rw [← h2] at hh hg
          obtain ⟨q1, q2, q3, q4, q5⟩ := hg
          have htk := take_putCellsI cur (sorted l) (by rw [sorted_length]; exact hfit)
          obtain ⟨R', L'⟩ := hR.upd (w' := w') (ρ' := ρ) (bx' := bx.set id { b with cs := (sorted l).map (.int .i64) }) (id := id) (g' := g) (go := g) (cap' := cap) (b' := { b with cs := (sorted l).map (.int .i64) }) (cur' := putCells (Value.int .i64) 0 (sorted l).toArray cur)
            (by simp [hidl]) c1 ok.rho (fun k hk => ⟨by rw [List.getElem?_set_ne (Ne.symm hk)], rfl⟩) (by simp [hR.rho])
            (fun b0 hb0 => .inr (by rw [hb] at hb0; obtain rfl := Option.some.inj hb0; exact ⟨rfl, .inl ⟨by simp only; rw [hcs, List.length_map, List.length_map, sorted_length], rfl⟩⟩))
            q1 q2 q3 q4 (fun k hk hne _ => q5 k hk (fun e => hne (Option.some.inj e))) ok.base (ok.live c1) ok.base (ok.live c1) hh
            (by simp only [putCells, Array.size_mapIdx]; exact ok.size) ok.cap (by simp only [putCells, Array.size_mapIdx]; rw [List.length_map, sorted_length]; exact hfit)
            (fun j c hj => by
              simp only at hj
              rw [List.getElem?_map] at hj
              obtain ⟨x, hx, rfl⟩ := Option.map_eq_some_iff.1 hj
              have hjl : j < (sorted l).length := (List.getElem?_eq_some_iff.1 hx).1
              refine ⟨.int .i64 x, ?_, rfl, .int _ _⟩
              rw [← Array.getElem?_toList, ← List.getElem?_take_of_lt hjl, htk, List.getElem?_map, hx]; rfl)
            (fun k b2 x hk hb2 hf2 hx => ⟨fun e => hR.inj k id b2 b x (g, cap) hb2 hb hf2 (by rw [c1]; decide) hx ok.rho hk e, fun e => hR.inj k id b2 b x (g, cap) hb2 hb hf2 (by rw [c1]; decide) hx ok.rho hk e⟩)
          exact ⟨_, _, _, _, h1, R', L', .tup _ _ rfl (fun j c v h => by simp at h)⟩
        · cases hst
      · cases hst
    · cases hst
  · cases hst
end
end Go.Am
