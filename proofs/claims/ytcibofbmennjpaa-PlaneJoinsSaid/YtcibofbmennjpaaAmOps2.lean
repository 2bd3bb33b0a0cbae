/- Each instruction without a call does what the machine says: what makes or writes memory. -/
import Derived.Test.YtcibofbmennjpaaAmOps1
import Derived.Maps.AppendAt
import Derived.LoopN
set_option linter.unusedVariables false
namespace Go.Am
open Go.RowKit

section
variable {P : Program} {G : Nat → List AV} {nt : Nat} {w0 w : World} {base : Nat} {S0 S : Nat → Prop} {ρ : List (Nat × Nat)} {st : St} {tmps : Array Value} {ds : List Deferred}

/-- ONE BOX IS NEW OR HAS TURNED, in block g'. -/
theorem Rel.upd (R : Rel G nt w0 base S0 S ρ st tmps w) {w' : World} {ρ' : List (Nat × Nat)} {bx' : List Box} {id g' go cap' : Nat} {b' : Box} {cur' : Array Value}
    (hb' : bx'[id]? = some b') (hst : b'.status = .live) (hr' : ρ'[id]? = some (g', cap'))
    (hoth : ∀ k, k ≠ id → bx'[k]? = st.bx[k]? ∧ ρ'[k]? = ρ[k]?) (hlen : ρ'.length = bx'.length)
    (hold : ∀ b, st.bx[id]? = some b → b.status = .fresh ∨ (b'.sz = b.sz ∧ ((b'.cs.length = b.cs.length ∧ ρ'[id]? = ρ[id]?) ∨ b.cs.length < b'.cs.length)))
    (hos : w'.os = w.os) (htape : w'.tape = w.tape) (hout : w'.output = w.output) (hsize : w.heap.size ≤ w'.heap.size)
    (hblk : ∀ k, k < w.heap.size → k ≠ g' → k ≠ go → w'.heap[k]? = w.heap[k]?)
    (hbase : base ≤ g') (hS : ¬ S g') (hbaseo : base ≤ go) (hSo : ¬ S go) (hheap : w'.heap[g']? = some (.cells cur' b'.e (0, 0)))
    (hcs : cur'.size = cap' * b'.sz) (hcm : cap' ≤ maxLen) (hfit : b'.cs.length ≤ cur'.size)
    (hcell : ∀ (j : Nat) (c : AV), b'.cs[j]? = some c → ∃ v, cur'[j]? = some v ∧ v.oneCell' = true ∧ RV w S ρ st.bx c v)
    (hdis : ∀ (k : Nat) (b : Box) (x : Nat × Nat), k ≠ id → st.bx[k]? = some b → b.status ≠ .fresh → ρ[k]? = some x → x.1 ≠ g' ∧ x.1 ≠ go) :
    Rel G nt w0 base S0 S ρ' { st with bx := bx' } tmps w' ∧ Later w S ρ st.bx w' S ρ' bx' := by
  have L : Later w S ρ st.bx w' S ρ' bx' := by
    refine ⟨fun _ h => h, fun g hg => hblk g (R.slt g hg) (fun e => hS (e ▸ hg)) (fun e => hSo (e ▸ hg)), hsize, fun k b hb hf => ?_⟩
    by_cases hk : k = id
    · subst hk
      rcases hold b hb with h | ⟨h1, h2⟩
      · exact absurd h hf
      · exact ⟨b', hb', by rw [hst]; decide, h1, h2⟩
    · obtain ⟨e1, e2⟩ := hoth k hk
      exact ⟨b, by rw [e1]; exact hb, hf, rfl, .inl ⟨rfl, e2⟩⟩
  refine ⟨⟨?_, Nat.le_trans R.baseLe hsize, R.size, hlen, fun g hg => Nat.lt_of_lt_of_le (R.slt g hg) hsize, R.sbase, ?_, ?_, fun t => (R.tm t).later L, fun g => (R.glob g).later L⟩, L⟩
  · refine R.below.trans ⟨hos, htape, hout, hsize, fun k hk => hblk k (Nat.lt_of_lt_of_le hk R.baseLe) (by omega) (by omega)⟩
  · intro k b hb hf
    by_cases hk : k = id
    · subst hk
      have hb2 : bx'[k]? = some b := hb
      rw [hb'] at hb2
      obtain rfl := Option.some.inj hb2
      refine ⟨g', cap', cur', hr', hbase, hheap, hcs, hcm, hfit, fun j c hj => ?_, fun _ => hS, fun h => by rw [hst] at h; cases h⟩
      obtain ⟨v, h1, h2, h3⟩ := hcell j c hj
      exact ⟨v, h1, h2, h3.later L⟩
    · obtain ⟨e1, e2⟩ := hoth k hk
      have hb2 : st.bx[k]? = some b := by rw [← e1]; exact hb
      obtain ⟨g, cap, cur, ok⟩ := R.box k b hb2 hf
      have hgl : g < w.heap.size := (Array.getElem?_eq_some_iff.1 ok.heap).1
      have hne := hdis k b (g, cap) hk hb2 hf ok.rho
      refine ⟨g, cap, cur, by rw [e2]; exact ok.rho, ok.base, (hblk g hgl hne.1 hne.2).trans ok.heap, ok.size, ok.cap, ok.fits, fun j c hj => ?_, ok.live, ok.frozen⟩
      obtain ⟨v, h1, h2, h3⟩ := ok.cells j c hj
      exact ⟨v, h1, h2, h3.later L⟩
  · intro i j bi bj x y hi hj hfi hfj hx hy hij
    have aux : ∀ (k : Nat) (b : Box) (z : Nat × Nat), k ≠ id → bx'[k]? = some b → b.status ≠ .fresh → ρ'[k]? = some z → z.1 ≠ g' := by
      intro k b z hk hb hf hz
      obtain ⟨e1, e2⟩ := hoth k hk
      rw [e1] at hb
      rw [e2] at hz
      exact (hdis k b z hk hb hf hz).1
    by_cases hi' : i = id
    · subst hi'
      have hx2 : ρ'[i]? = some x := hx
      rw [hr'] at hx2
      obtain rfl := Option.some.inj hx2
      exact fun e => aux j bj y (fun e => hij e.symm) hj hfj hy e.symm
    · by_cases hj' : j = id
      · subst hj'
        have hy2 : ρ'[j]? = some y := hy
        rw [hr'] at hy2
        obtain rfl := Option.some.inj hy2
        exact aux i bi x hi' hi hfi hx
      · obtain ⟨e1, e2⟩ := hoth i hi'
        obtain ⟨e3, e4⟩ := hoth j hj'
        exact R.inj i j bi bj x y (by rw [← e1]; exact hi) (by rw [← e3]; exact hj) hfi hfj (by rw [← e2]; exact hx) (by rw [← e4]; exact hy) hij

/-- A NEW BOX. -/
theorem Rel.newBoxG (R : Rel G nt w0 base S0 S ρ st tmps w) {j : Option Nat} {b : Box} {id : Nat} {st' : St} (h : st.newBox j b = some (id, st')) (hl : b.status = .live)
    {w' : World} {g : Nat} {cur : Array Value} {cap : Nat} (hbg : base ≤ g) (hS : ¬ S g) (hdis : ∀ (k : Nat) (b : Box) (x : Nat × Nat), st.bx[k]? = some b → b.status ≠ .fresh → ρ[k]? = some x → x.1 ≠ g) (hos : w'.os = w.os) (htape : w'.tape = w.tape) (hout : w'.output = w.output) (hsize : w.heap.size ≤ w'.heap.size)
    (hblk : ∀ k, k < w.heap.size → w'.heap[k]? = w.heap[k]?) (hheap : w'.heap[g]? = some (.cells cur b.e (0, 0)))
    (hcs : cur.size = cap * b.sz) (hcm : cap ≤ maxLen) (hfit : b.cs.length ≤ cur.size)
    (hcell : ∀ (j : Nat) (c : AV), b.cs[j]? = some c → ∃ v, cur[j]? = some v ∧ v.oneCell' = true ∧ RV w S ρ st.bx c v) :
    ∃ ρ', Rel G nt w0 base S0 S ρ' st' tmps w' ∧ Later w S ρ st.bx w' S ρ' st'.bx ∧ st'.bx[id]? = some b ∧ ρ'[id]? = some (g, cap) := by
  unfold St.newBox at h
  split at h
  · simp only [Option.some.injEq, Prod.mk.injEq] at h
    obtain ⟨rfl, rfl⟩ := h
    have hb' : (st.bx ++ [b])[st.bx.length]? = some b := by simp
    have hr' : (ρ ++ [(g, cap)])[st.bx.length]? = some (g, cap) := by rw [← R.rho]; simp
    obtain ⟨R', L⟩ := R.upd (w' := w') (ρ' := ρ ++ [(g, cap)]) (bx' := st.bx ++ [b]) (id := st.bx.length) (g' := g) (go := g) (cap' := cap) (b' := b) (cur' := cur) hb' hl hr'
      (fun k hk => by
        refine ⟨?_, ?_⟩
        · by_cases hk' : k < st.bx.length
          · rw [List.getElem?_append_left hk']
          · rw [List.getElem?_append_right (by omega), List.getElem?_eq_none (by simp; omega), List.getElem?_eq_none (by omega)]
        · by_cases hk' : k < ρ.length
          · rw [List.getElem?_append_left hk']
          · have := R.rho
            rw [List.getElem?_append_right (by omega), List.getElem?_eq_none (by simp; omega), List.getElem?_eq_none (by omega)])
      (by simp [R.rho]) (fun b hb => by simp at hb) hos htape hout hsize (fun k hk _ _ => hblk k hk) hbg hS hbg hS hheap hcs hcm hfit hcell
      (fun k b x _ hb hf hx => ⟨hdis k b x hb hf hx, hdis k b x hb hf hx⟩)
    exact ⟨_, R', L, hb', hr'⟩
  · rename_i j
    split at h
    · rename_i b0 hb0
      split at h
      · rename_i hfr
        simp only [Option.some.injEq, Prod.mk.injEq] at h
        obtain ⟨rfl, rfl⟩ := h
        have hlt : st.rb + j < st.bx.length := (List.getElem?_eq_some_iff.1 hb0).1
        have hb' : (st.bx.set (st.rb + j) b)[st.rb + j]? = some b := by simp [hlt]
        have hlr : st.rb + j < ρ.length := by rw [R.rho]; exact hlt
        have hr' : (ρ.set (st.rb + j) (g, cap))[st.rb + j]? = some (g, cap) := by simp [hlr]
        obtain ⟨R', L⟩ := R.upd (w' := w') (ρ' := ρ.set (st.rb + j) (g, cap)) (bx' := st.bx.set (st.rb + j) b) (id := st.rb + j) (g' := g) (go := g) (cap' := cap) (b' := b) (cur' := cur) hb' hl hr'
          (fun k hk => ⟨by rw [List.getElem?_set_ne (Ne.symm hk)], by rw [List.getElem?_set_ne (Ne.symm hk)]⟩)
          (by simp [R.rho]) (fun b hb => by rw [hb0] at hb; obtain rfl := Option.some.inj hb; exact .inl hfr) hos htape hout hsize (fun k hk _ _ => hblk k hk) hbg hS hbg hS hheap hcs hcm hfit hcell
          (fun k b x _ hb hf hx => ⟨hdis k b x hb hf hx, hdis k b x hb hf hx⟩)
        exact ⟨_, R', L, hb', hr'⟩
      · exact absurd h (by simp)
    · exact absurd h (by simp)

theorem Rel.newBox (R : Rel G nt w0 base S0 S ρ st tmps w) {j : Option Nat} {b : Box} {id : Nat} {st' : St} (h : st.newBox j b = some (id, st')) (hl : b.status = .live)
    {w' : World} {g : Nat} {cur : Array Value} {cap : Nat} (hg : w.heap.size ≤ g) (hos : w'.os = w.os) (htape : w'.tape = w.tape) (hout : w'.output = w.output) (hsize : w.heap.size ≤ w'.heap.size)
    (hblk : ∀ k, k < w.heap.size → w'.heap[k]? = w.heap[k]?) (hheap : w'.heap[g]? = some (.cells cur b.e (0, 0)))
    (hcs : cur.size = cap * b.sz) (hcm : cap ≤ maxLen) (hfit : b.cs.length ≤ cur.size)
    (hcell : ∀ (j : Nat) (c : AV), b.cs[j]? = some c → ∃ v, cur[j]? = some v ∧ v.oneCell' = true ∧ RV w S ρ st.bx c v) :
    ∃ ρ', Rel G nt w0 base S0 S ρ' st' tmps w' ∧ Later w S ρ st.bx w' S ρ' st'.bx ∧ st'.bx[id]? = some b ∧ ρ'[id]? = some (g, cap) := by
  have hS : ¬ S g := fun hs => Nat.lt_irrefl _ (Nat.lt_of_lt_of_le (R.slt _ hs) hg)
  have hbg : base ≤ g := Nat.le_trans R.baseLe hg
  have hdis : ∀ (k : Nat) (b : Box) (x : Nat × Nat), st.bx[k]? = some b → b.status ≠ .fresh → ρ[k]? = some x → x.1 ≠ g := by
    intro k b x hb hf hx e
    obtain ⟨g2, cap, cur, ok⟩ := R.box k b hb hf
    rw [ok.rho] at hx
    obtain rfl := Option.some.inj hx
    have := (Array.getElem?_eq_some_iff.1 ok.heap).1
    simp at e
    omega
  exact R.newBoxG h hl hbg hS hdis hos htape hout hsize hblk hheap hcs hcm hfit hcell

/-- A block of cells, made. -/
theorem Rel.alloc (R : Rel G nt w0 base S0 S ρ st tmps w) {j : Option Nat} {b : Box} {id : Nat} {st' : St} (h : st.newBox j b = some (id, st')) (hl : b.status = .live)
    {cur : Array Value} {cap : Nat} (hcs : cur.size = cap * b.sz) (hcm : cap ≤ maxLen) (hfit : b.cs.length ≤ cur.size)
    (hcell : ∀ (j : Nat) (c : AV), b.cs[j]? = some c → ∃ v, cur[j]? = some v ∧ v.oneCell' = true ∧ RV w S ρ st.bx c v) :
    ∃ ρ', Rel G nt w0 base S0 S ρ' st' tmps (w.alloc (.cells cur b.e)) ∧ Later w S ρ st.bx (w.alloc (.cells cur b.e)) S ρ' st'.bx ∧ st'.bx[id]? = some b ∧ ρ'[id]? = some (w.heap.size, cap) :=
  R.newBox h hl (Nat.le_refl _) rfl rfl rfl (by show _ ≤ (w.heap.push _).size; rw [Array.size_push]; omega) (fun k hk => Below.heap_alloc w _ k hk) (heap_alloc_new w _) hcs hcm hfit hcell

theorem cells_of_RVL {bx : List Box} {cs : List AV} {cur : Array Value} (h : RVL w S ρ bx cs cur.toList) (h1 : ∀ u ∈ cur.toList, u.oneCell' = true) :
    ∀ (j : Nat) (c : AV), cs[j]? = some c → ∃ v, cur[j]? = some v ∧ v.oneCell' = true ∧ RV w S ρ bx c v := by
  intro j c hj
  obtain ⟨v, hv, hr⟩ := h.get hj
  exact ⟨v, by simpa using hv, h1 v (List.mem_of_getElem? hv), hr⟩

theorem sim_new (R : Rel G nt w0 base S0 S ρ st tmps w) (e : TypeId) (i : TypeInfo) (z : Value) (hi : P.info? e = some i) (hz : i.zero = some z) (h1 : z.cells.all (·.oneCell') = true) (j : Option Nat) {av : AV} {st' : St}
    (h : exI G (.new j e (z.cells.toList.map cV1)) st = some (av, st')) :
    Sim P G nt w0 base S0 S ρ st tmps w (do pure (.value (← Instr.alloc e true (.tuple #[])))) av st' := by
  simp only [exI, Option.map_eq_some_iff, Prod.mk.injEq] at h
  obtain ⟨⟨id, st1⟩, hn, rfl, rfl⟩ := h
  have hone : ∀ u ∈ z.cells.toList, u.oneCell' = true := fun u hu => (Array.all_eq_true_iff_forall_mem.1 h1) u (by simpa using hu)
  obtain ⟨ρ', R', L, hb, hr⟩ := R.alloc hn rfl (cur := z.cells) (cap := 1) (by simp) (by decide) (by simp) (cells_of_RVL (RVL_cV1 z.cells.toList) hone)
  refine ⟨.value (.pointer (some ⟨w.heap.size, 0, none⟩)), .pointer (some ⟨w.heap.size, 0, none⟩), _, S, ρ', ?_, rfl, R', ?_, L⟩
  · simp [Instr.alloc, zeroValue, typeInfo, hi, hz, newVar, newRow]
  · exact .ptr _ _ _ _ _ hb (by simp) (Nat.le_refl _) rfl (fun _ => ⟨_, _, hr, rfl⟩)

theorem sim_box (R : Rel G nt w0 base S0 S ρ st tmps w) (e : TypeId) (i : TypeInfo) (hi : P.info? e = some i) (j : Option Nat) (x : Operand) {av : AV} {st' : St}
    (h : exI G (.box j e i.size (cR x)) st = some (av, st')) :
    Sim P G nt w0 base S0 S ρ st tmps w (do pure (.value (← Instr.box e (Act.eval ⟨tmps, ds⟩ x)))) av st' := by
  simp only [exI] at h
  have hx := ev_RV (ds := ds) R x
  split at h
  · rename_i hc
    simp only [Option.map_eq_some_iff, Prod.mk.injEq] at h
    obtain ⟨⟨id, st1⟩, hn, rfl, rfl⟩ := h
    obtain ⟨hl, hone⟩ := hx.cells_one hc.2
    have hsz : (Act.eval ⟨tmps, ds⟩ x).cells.size = i.size := by rw [← Array.length_toList, hl.1, hc.1]
    obtain ⟨ρ', R', L, hb, hr⟩ := R.alloc hn rfl (cur := (Act.eval ⟨tmps, ds⟩ x).cells) (cap := 1) (by simp [hsz]) (by decide) (by simp [hsz, hc.1]) (cells_of_RVL hl hone)
    refine ⟨.value (.pointer (some ⟨w.heap.size, 0, none⟩)), .pointer (some ⟨w.heap.size, 0, none⟩), _, S, ρ', ?_, rfl, R', ?_, L⟩
    · simp [Instr.box, newVar, newRow]
    · exact .ptr _ _ _ _ _ hb (by simp) (by simp [hc.1]) rfl (fun _ => ⟨_, _, hr, rfl⟩)
  · exact absurd h (by simp)

theorem getElem?_putAt (l : List AV) (o : Nat) (vs : List AV) (hb : o + vs.length ≤ l.length) (j : Nat) : (putAt l o vs)[j]? = if j < o then l[j]? else if j < o + vs.length then vs[j - o]? else l[j]? := by
  unfold putAt
  rw [List.getElem?_append, List.getElem?_append]
  simp only [List.length_append, List.length_take, List.getElem?_take, List.getElem?_drop]
  have : min o l.length = o := by omega
  rw [this]
  by_cases h1 : j < o
  · have : j < o + vs.length := by omega
    simp [h1, this]
  · by_cases h2 : j < o + vs.length
    · simp [h1, h2]
    · simp only [h1, h2, if_false]
      congr 1
      omega
theorem length_putAt (l : List AV) (o : Nat) (vs : List AV) (hb : o + vs.length ≤ l.length) : (putAt l o vs).length = l.length := by
  unfold putAt
  simp
  omega

/-- Cells written at a pointer into a box. -/
theorem Rel.write (R : Rel G nt w0 base S0 S ρ st tmps w) {p : AV} {vp : Value} (hp : RV w S ρ st.bx p vp) {cs : List AV} {us : List Value} (hcs : RVL w S ρ st.bx cs us) {st' : St} (h : st.write p cs = some st') :
    ∃ (a : Addr) (w' : World), vp = .pointer (some a) ∧ (storeCells a us).run P w = .ok () w' ∧ Rel G nt w0 base S0 S ρ st' tmps w' ∧ Later w S ρ st.bx w' S ρ st'.bx := by
  unfold St.write at h
  split at h
  · rename_i id len off
    split at h
    · rename_i b hb
      split at h
      · rename_i hc
        obtain ⟨hst, hlen, hfit, hone⟩ := hc
        obtain rfl := Option.some.inj h
        obtain ⟨g, cap, cur, ok, rfl⟩ := ptr_inv R hp hb (by rw [hst]; decide) hlen
        have honev : ∀ u ∈ us, u.oneCell' = true := by
          intro u hu
          obtain ⟨j, hj⟩ := List.getElem?_of_mem hu
          have hlt : j < cs.length := by rw [← hcs.1]; exact (List.getElem?_eq_some_iff.1 hj).1
          have hcj : cs[j]? = some cs[j] := List.getElem?_eq_getElem hlt
          exact (hcs.2 j _ u hcj hj).one (List.all_eq_true.1 hone _ (List.mem_of_getElem? hcj))
        have hlu := hcs.1
        have hfits := ok.fits
        have hbig : off + 0 + us.length ≤ cur.size := by omega
        have hrun := run_storeCells_at P g off b.e us 0 cur w ok.heap hbig honev
        simp only [Nat.add_zero] at hrun
        refine ⟨_, _, rfl, hrun, ?_⟩
        have hsz2 : (cur.toList.take off ++ us ++ cur.toList.drop (off + us.length)).toArray.size = cur.size := by
          simp only [List.size_toArray, List.length_append, List.length_take, List.length_drop, Array.length_toList]; omega
        have hidl : id < st.bx.length := (List.getElem?_eq_some_iff.1 hb).1
        refine R.upd (id := id) (g' := g) (go := g) (cap' := cap) (b' := { b with cs := putAt b.cs off cs }) (cur' := (cur.toList.take off ++ us ++ cur.toList.drop (off + us.length)).toArray)
          (by simp [hidl]) hst ok.rho (fun k hk => ⟨by rw [List.getElem?_set_ne (Ne.symm hk)], rfl⟩) (by simp [R.rho])
          (fun b0 hb0 => .inr (by rw [hb] at hb0; obtain rfl := Option.some.inj hb0; exact ⟨rfl, .inl ⟨length_putAt _ _ _ (by omega), rfl⟩⟩))
          rfl rfl rfl (by simp) (fun k _ hk _ => setRow_other w g k _ hk) ok.base (ok.live hst) ok.base (ok.live hst) (setRow_heap w g cur _ b.e _ ok.heap) (by rw [hsz2]; exact ok.size) ok.cap
          (by rw [hsz2]; simp only; rw [length_putAt _ _ _ (by omega)]; exact ok.fits) ?_ ?_
        · intro j c hj
          simp only at hj
          rw [getElem?_putAt _ _ _ (by omega)] at hj
          have hget : (cur.toList.take off ++ us ++ cur.toList.drop (off + us.length)).toArray[j]? = if j < off then cur[j]? else if j < off + us.length then us[j - off]? else cur[j]? := by
            simp only [List.getElem?_toArray]
            rw [List.getElem?_append, List.getElem?_append]
            simp only [List.length_append, List.length_take, List.getElem?_take, List.getElem?_drop, Array.length_toList]
            have : min off cur.size = off := by omega
            rw [this]
            by_cases h1 : j < off
            · have : j < off + us.length := by omega
              simp [h1, this]
            · by_cases h2 : j < off + us.length
              · simp [h1, h2]
              · simp only [h1, h2, if_false, Array.getElem?_toList]
                congr 1
                omega
          rw [hget]
          by_cases h1 : j < off
          · simp only [h1, if_true] at hj ⊢
            exact ok.cells j c hj
          · by_cases h2 : j < off + cs.length
            · simp only [h1, h2, if_true, if_false] at hj
              have h2' : j < off + us.length := by omega
              simp only [h1, h2', if_true, if_false]
              obtain ⟨u, hu, hr⟩ := hcs.get hj
              exact ⟨u, hu, honev u (List.mem_of_getElem? hu), hr⟩
            · simp only [h1, h2, if_false] at hj
              have h2' : ¬ j < off + us.length := by omega
              simp only [h1, h2', if_false]
              exact ok.cells j c hj
        · intro k b2 x hk hb2 hf2 hx
          have := R.inj k id b2 b x (g, cap) hb2 hb hf2 (by rw [hst]; decide) hx ok.rho hk
          exact ⟨this, this⟩
      · exact absurd h (by simp)
    · exact absurd h (by simp)
  · exact absurd h (by simp)

theorem sim_st1 (R : Rel G nt w0 base S0 S ρ st tmps w) (t : TypeId) (i : TypeInfo) (hi : P.info? t = some i) (h1 : i.size = 1) (x y : Operand) {av : AV} {st' : St} (h : exI G (.st1 (cR x) (cR y)) st = some (av, st')) :
    Sim P G nt w0 base S0 S ρ st tmps w (do Instr.storeAt t (Act.eval ⟨tmps, ds⟩ x) (Act.eval ⟨tmps, ds⟩ y); pure .skip) av st' := by
  simp only [exI] at h
  have hx := ev_RV (ds := ds) R x
  have hy := ev_RV (ds := ds) R y
  split at h
  · rename_i hone
    simp only [Option.map_eq_some_iff, Prod.mk.injEq] at h
    obtain ⟨st1, hw, rfl, rfl⟩ := h
    have hcell : (Act.eval ⟨tmps, ds⟩ y).cells = #[Act.eval ⟨tmps, ds⟩ y] := by
      have := hy.one hone
      generalize Act.eval ⟨tmps, ds⟩ y = v at this ⊢
      cases v <;> first | rfl | (simp [Value.oneCell'] at this)
    obtain ⟨a, w', ev, hrun, R', L⟩ := R.write (P := P) hx (.cons hy .nil) hw
    refine ⟨.skip, undef, w', S, ρ, ?_, rfl, R', .undef, L⟩
    rw [ev]
    simp [Instr.storeAt, Instr.sureAddr, storeVar, hcell, run_sizeOf' hi, h1, hrun]
  · exact absurd h (by simp)

theorem sim_stn (R : Rel G nt w0 base S0 S ρ st tmps w) (t : TypeId) (i : TypeInfo) (hi : P.info? t = some i) (x y : Operand) {av : AV} {st' : St} (h : exI G (.stn i.size (cR x) (cR y)) st = some (av, st')) :
    Sim P G nt w0 base S0 S ρ st tmps w (do Instr.storeAt t (Act.eval ⟨tmps, ds⟩ x) (Act.eval ⟨tmps, ds⟩ y); pure .skip) av st' := by
  simp only [exI] at h
  have hx := ev_RV (ds := ds) R x
  have hy := ev_RV (ds := ds) R y
  split at h
  · rename_i cs e
    split at h
    · rename_i hlen
      rw [e] at hy
      obtain ⟨vs, ey, hvs⟩ := hy.agg_inv
      simp only [Option.map_eq_some_iff, Prod.mk.injEq] at h
      obtain ⟨st1, hw, rfl, rfl⟩ := h
      obtain ⟨a, w', ev, hrun, R', L⟩ := R.write (P := P) hx hvs hw
      refine ⟨.skip, undef, w', S, ρ, ?_, rfl, R', .undef, L⟩
      rw [ev, ey]
      have : vs.length = i.size := by rw [hvs.1, hlen]
      simp [Instr.storeAt, Instr.sureAddr, storeVar, Value.cells, run_sizeOf' hi, this, hrun]
    · exact absurd h (by simp)
  · exact absurd h (by simp)
end
end Go.Am
