/- Each instruction without a call does what the machine says: literals, places, append, make, slices. -/
import Derived.Test.YtcibofbmennjpaaAmOps2
set_option linter.unusedVariables false
namespace Go.Am
open Go.RowKit

section
variable {P : Program} {G : Nat → List AV} {nt : Nat} {w0 w : World} {base : Nat} {S0 S : Nat → Prop} {ρ : List (Nat × Nat)} {st : St} {tmps : Array Value} {ds : List Deferred}

theorem foldl_setCells (off : Nat) : ∀ (l : List Value) (k : Nat) (cells : Array Value), off + k + l.length ≤ cells.size →
    ((l.zipIdx k).foldl (fun (cs : Array Value) (x : Value × Nat) => cs.setIfInBounds (off + x.2) x.1) cells).toList = cells.toList.take (off + k) ++ l ++ cells.toList.drop (off + k + l.length)
  | [], k, cells, h => by simp
  | v :: l, k, cells, h => by
    simp only [List.length_cons] at h
    simp only [List.zipIdx_cons, List.foldl_cons]
    have ih := foldl_setCells off l (k + 1) (cells.setIfInBounds (off + k) v) (by simp; omega)
    rw [ih]
    simp only [Array.toList_setIfInBounds, List.length_cons]
    have := list_seg_step cells.toList (off + k) v l (by simp; omega)
    have e1 : off + (k + 1) = off + k + 1 := by omega
    rw [e1, this]

theorem fill_cells (off : Nat) (vs cells : Array Value) (h : off + vs.size ≤ cells.size) :
    (vs.zipIdx.foldl (fun (cs : Array Value) (x : Value × Nat) => cs.setIfInBounds (off + x.2) x.1) cells).toList = cells.toList.take off ++ vs.toList ++ cells.toList.drop (off + vs.size) := by
  have := foldl_setCells off vs.toList 0 cells (by simpa using h)
  simp only [Nat.add_zero, Array.length_toList] at this
  rw [← this, ← Array.foldl_toList]
  simp [Array.toList_zipIdx]

/-- The parts of a literal. -/
theorem fill_sim (hR : Rel G nt w0 base S0 S ρ st tmps w) (place : Nat → Option (Nat × Nat)) : ∀ (ps : List (Nat × Operand)) (ps' : List (Nat × Nat × R)) (zs : List AV) (cells : Array Value) (cs : List AV),
    cParts place ps = some ps' → RVL w S ρ st.bx zs cells.toList → (∀ u ∈ cells.toList, u.oneCell' = true) → fill (ps'.map fun (o, n, r) => (o, n, st.ev G r)) zs = some cs →
    ∃ cells', Instr.fill place cells (ps.map fun (i, x) => (i, Act.eval ⟨tmps, ds⟩ x)) = some cells' ∧ RVL w S ρ st.bx cs cells'.toList ∧ (∀ u ∈ cells'.toList, u.oneCell' = true)
  | [], ps', zs, cells, cs, h, hz, h1, hf => by
    simp only [cParts, List.mapM_nil] at h
    obtain rfl := Option.some.inj h
    simp only [List.map_nil, fill, Option.some.injEq] at hf
    subst hf
    exact ⟨cells, rfl, hz, h1⟩
  | (i, x) :: ps, ps', zs, cells, cs, h, hz, h1, hf => by
    simp only [cParts, List.mapM_cons] at h
    cases hp : place i with
    | none => simp [hp] at h
    | some on =>
      obtain ⟨o, n⟩ := on
      cases hr : cParts place ps with
      | none => simp only [cParts] at hr; simp [hp, hr] at h
      | some rest =>
        have hr' := hr
        simp only [cParts] at hr
        simp only [hp, hr, Option.map_some, Option.bind_eq_bind, Option.bind_some, Option.pure_def, Option.some.injEq] at h
        subst h
        simp only [List.map_cons, fill] at hf
        split at hf
        · rename_i hc
          have hx := ev_RV (ds := ds) hR x
          obtain ⟨hl, hone⟩ := hx.cells_one hc.2.2
          have hsz : (Act.eval ⟨tmps, ds⟩ x).cells.size = n := by rw [← Array.length_toList, hl.1, hc.1]
          have hzl := hz.1
          have hin : o + (Act.eval ⟨tmps, ds⟩ x).cells.size ≤ cells.size := by
            have := hc.2.1
            rw [hsz]; simp only [Array.length_toList] at hzl; omega
          have hfc := fill_cells o (Act.eval ⟨tmps, ds⟩ x).cells cells hin
          have hput : RVL w S ρ st.bx (putAt zs o (st.ev G (cR x)).cells) (((Act.eval ⟨tmps, ds⟩ x).cells.zipIdx.foldl (fun (cs : Array Value) (y : Value × Nat) => cs.setIfInBounds (o + y.2) y.1) cells)).toList := by
            rw [hfc]
            unfold putAt
            have hcl : (st.ev G (cR x)).cells.length = (Act.eval ⟨tmps, ds⟩ x).cells.size := by rw [hc.1, hsz]
            rw [hcl]
            exact ((hz.take o).append hl).append (hz.drop _)
          have hput1 : ∀ u ∈ (((Act.eval ⟨tmps, ds⟩ x).cells.zipIdx.foldl (fun (cs : Array Value) (y : Value × Nat) => cs.setIfInBounds (o + y.2) y.1) cells)).toList, u.oneCell' = true := by
            rw [hfc]
            intro u hu
            simp only [List.mem_append] at hu
            rcases hu with (hu | hu) | hu
            · exact h1 u (List.mem_of_mem_take hu)
            · exact hone u hu
            · exact h1 u (List.mem_of_mem_drop hu)
          obtain ⟨cells', he, hrl, hone'⟩ := fill_sim hR place ps rest _ _ cs hr' hput hput1 hf
          refine ⟨cells', ?_, hrl, hone'⟩
          simp only [List.map_cons, Instr.fill, hp]
          have hcond : ((Act.eval ⟨tmps, ds⟩ x).cells.size ≠ n || decide (o + (Act.eval ⟨tmps, ds⟩ x).cells.size > cells.size)) = false := by
            simp only [hsz, ne_eq, not_true_eq_false, decide_false, Bool.false_or, decide_eq_false_iff_not]
            rw [hsz] at hin; omega
          rw [if_neg (by simpa using hcond)]
          exact he
        · exact absurd hf (by simp)

theorem sim_bld_struct (hR : Rel G nt w0 base S0 S ρ st tmps w) (t : TypeId) (fs : Array Field) (i : TypeInfo) (z : Value) (pl : List (Nat × Nat)) (ht : P.underlying t = some (.struct fs)) (hi : P.info? t = some i) (hz : i.zero = some z)
    (hpl : places P t = some pl) (h1 : z.cells.all (·.oneCell') = true) (ps : Array (Nat × Operand)) (ps' : List (Nat × Nat × R)) (hps : cParts (pl[·]?) ps.toList = some ps') {av : AV} {st' : St}
    (h : exI G (.bld (z.cells.toList.map cV1) ps') st = some (av, st')) :
    Sim P G nt w0 base S0 S ρ st tmps w (do pure (.value (← Instr.build t (ps.map fun (i, x) => (i, Act.eval ⟨tmps, ds⟩ x))))) av st' := by
  simp only [exI, Option.map_eq_some_iff, Prod.mk.injEq] at h
  obtain ⟨cs, hf, rfl, rfl⟩ := h
  have hone : ∀ u ∈ z.cells.toList, u.oneCell' = true := fun u hu => (Array.all_eq_true_iff_forall_mem.1 h1) u (by simpa using hu)
  obtain ⟨cells', he, hrl, _⟩ := fill_sim (ds := ds) hR (pl[·]?) ps.toList ps' _ z.cells cs hps (RVL_cV1 z.cells.toList) hone hf
  have hmap : (fs.mapM fun f => do pure (f.offset, ← sizeOf f.type) : Sem (Array (Nat × Nat))).run P w = .ok pl.toArray w := by
    simp only [places, ht] at hpl
    have key : ∀ (l : List Field) (pl : List (Nat × Nat)), (l.mapM fun f => (P.info? f.type).map fun i => (f.offset, i.size)) = some pl → (l.mapM fun f => do pure (f.offset, ← sizeOf f.type) : Sem (List (Nat × Nat))).run P w = .ok pl w := by
      intro l
      induction l with
      | nil => intro pl h; simp only [List.mapM_nil] at h; obtain rfl := Option.some.inj h; rfl
      | cons f l ih =>
        intro pl h
        simp only [List.mapM_cons] at h ⊢
        cases hf : P.info? f.type with
        | none => simp [hf] at h
        | some fi =>
          cases hl : (l.mapM fun f => (P.info? f.type).map fun i => (f.offset, i.size)) with
          | none => simp [hf, hl] at h
          | some r =>
            simp only [hf, hl, Option.map_some, Option.bind_eq_bind, Option.bind_some, Option.pure_def, Option.some.injEq] at h
            subst h
            simp only [Sem.run_bind, run_sizeOf' hf, Result.andThen_ok, Sem.run_pure, ih r hl]
    have := key fs.toList pl hpl
    rw [Array.mapM_eq_mapM_toList]
    show (List.toArray <$> _ : Sem _).run P w = _
    rw [map_eq_pure_bind, Sem.run_bind, this]
    rfl
  have heq : (.agg cells' : Value) = .agg cells'.toList.toArray := by simp
  refine sim_same (v := .agg cells') hR ?_ (by rw [heq]; exact .agg _ _ hrl.1 hrl.2)
  have he2 : Instr.fill (pl.toArray[·]?) z.cells (ps.map fun (i, x) => (i, Act.eval ⟨tmps, ds⟩ x)).toList = some cells' := by
    simpa using he
  simp only [Instr.build, Sem.run_bind, Sem.run_pure, zeroValue, typeInfo, run_underlying ht, Result.andThen_ok]
  simp only [program, Sem.run, hi, hz, Result.andThen_ok, Sem.run_pure, hmap]
  rw [he2]
  rfl

theorem rep_get {α : Type} (z : List α) (n : Nat) : ∀ (j : Nat), (rep z n)[j]? = if j < n * z.length then z[j % z.length]? else none := by
  induction n with
  | zero => intro j; simp [rep]
  | succ n ih =>
    intro j
    simp only [rep]
    rw [List.getElem?_append]
    by_cases h : j < z.length
    · have h2 : j < (n + 1) * z.length := by rw [Nat.add_mul]; omega
      simp [h, h2, Nat.mod_eq_of_lt h]
    · rw [if_neg h, ih]
      have hm : j % z.length = (j - z.length) % z.length := by rw [Nat.mod_eq_sub_mod (by omega)]
      have hc : (j - z.length < n * z.length) ↔ (j < (n + 1) * z.length) := by rw [Nat.add_mul]; omega
      simp only [hm, hc]
theorem rep_length {α : Type} (z : List α) (n : Nat) : (rep z n).length = n * z.length := by
  induction n with
  | zero => simp [rep]
  | succ n ih => simp [rep, ih, Nat.add_mul]; omega
theorem RVL.rep {bx : List Box} {cs : List AV} {vs : List Value} (h : RVL w S ρ bx cs vs) (n : Nat) : RVL w S ρ bx (rep cs n) (rep vs n) := by
  induction n with
  | zero => exact .nil
  | succ n ih => exact h.append ih
theorem made_rep (z : Array Value) (n : Nat) (hz : 0 < z.size) : ((Array.range (n * z.size)).map (z[· % z.size]!)).toList = Am.rep z.toList n := by
  apply List.ext_getElem?
  intro j
  rw [rep_get]
  simp only [Array.toList_map, Array.toList_range, List.getElem?_map, Array.length_toList]
  by_cases h : j < n * z.size
  · rw [List.getElem?_range h]
    have hlt : j % z.size < z.size := Nat.mod_lt _ hz
    simp [h, hlt]
  · rw [List.getElem?_eq_none (by simpa using h)]
    simp [h]

theorem sim_blds (hR : Rel G nt w0 base S0 S ρ st tmps w) (t e : TypeId) (i : TypeInfo) (z : Value) (ht : P.underlying t = some (.slice e)) (hi : P.info? e = some i) (hz : i.zero = some z) (hzs : z.cells.size = i.size) (h0 : 0 < i.size)
    (j : Option Nat) (own : Bool) (len : Nat) (hbig : len * i.size ≤ 16777216) (h1 : z.cells.all (·.oneCell') = true) (ps : Array (Nat × Operand)) (ps' : List (Nat × Nat × R))
    (hps : cParts (fun k => some (k * i.size, i.size)) ps.toList = some ps') {av : AV} {st' : St} (h : exI G (.blds j own e i.size len (rep (z.cells.toList.map cV1) len) ps') st = some (av, st')) :
    Sim P G nt w0 base S0 S ρ st tmps w (do pure (.value (← Instr.buildSlice t len (ps.map fun (i, x) => (i, Act.eval ⟨tmps, ds⟩ x))))) av st' := by
  have hone : ∀ u ∈ z.cells.toList, u.oneCell' = true := fun u hu => (Array.all_eq_true_iff_forall_mem.1 h1) u (by simpa using hu)
  simp only [exI] at h
  split at h
  case h_2 => exact absurd h (by simp)
  rename_i cs hf
  split at h
  case isFalse => exact absurd h (by simp)
  rename_i hlen
  have hrep := made_rep z.cells len (by omega)
  rw [hzs] at hrep
  have hone2 : ∀ u ∈ ((Array.range (len * i.size)).map (z.cells[· % z.cells.size]!)).toList, u.oneCell' = true := by
    rw [hzs, hrep]
    intro u hu
    obtain ⟨k, hk⟩ := List.getElem?_of_mem hu
    rw [rep_get] at hk
    split at hk
    · exact hone u (List.mem_of_getElem? hk)
    · cases hk
  obtain ⟨cells', he, hrl, hone'⟩ := fill_sim (ds := ds) hR (fun k => some (k * i.size, i.size)) ps.toList ps' _ ((Array.range (len * i.size)).map (z.cells[· % z.cells.size]!)) cs hps
    (by rw [hzs, hrep]; exact (RVL_cV1 z.cells.toList).rep len) hone2 hf
  have hcs : cells'.size = len * i.size := by rw [← Array.length_toList, hrl.1, hlen]
  have hmax : len ≤ maxLen := by
    have : len * 1 ≤ len * i.size := Nat.mul_le_mul_left _ h0
    unfold maxLen; omega
  have hrun : (do pure (.value (← Instr.buildSlice t len (ps.map fun (i, x) => (i, Act.eval ⟨tmps, ds⟩ x)))) : Sem Next).run P w = .ok (.value (.slice (some ⟨w.heap.size, 0, none⟩) len len)) (w.alloc (.cells cells' e)) := by
    have he2 : Instr.fill (fun k => some (k * i.size, i.size)) ((Array.range (len * i.size)).map (z.cells[· % z.cells.size]!)) (ps.map fun (i, x) => (i, Act.eval ⟨tmps, ds⟩ x)).toList = some cells' := by
      simpa using he
    have hnb : ¬ (len * i.size > 2 ^ 24) := by omega
    by_cases hl0 : len * i.size = 0
    · have hz0 : (Array.range (len * i.size)).map (z.cells[· % z.cells.size]!) = (Array.range (len * i.size)).map ((#[] : Array Value)[· % (#[] : Array Value).size]!) := by rw [hl0]; simp
      rw [hz0] at he2
      simp only [Instr.buildSlice, Sem.run_bind, run_underlying ht, run_sizeOf' hi, Result.andThen_ok, hnb, if_false, if_pos hl0, Sem.run_pure]
      rw [he2]
      rfl
    · simp only [Instr.buildSlice, Sem.run_bind, run_underlying ht, run_sizeOf' hi, Result.andThen_ok, hnb, if_false, hl0, Sem.run_pure, Sem.run_bind]
      have hzv : (zeroValue e).run P w = .ok z w := by simp [zeroValue, typeInfo, hi, hz]
      simp only [hzv, Result.andThen_ok]
      rw [he2]
      rfl
  split at h
  · rename_i how
    simp only [Option.map_eq_some_iff, Prod.mk.injEq] at h
    obtain ⟨⟨id, st1⟩, hn, rfl, rfl⟩ := h
    obtain ⟨ρ', R', L, hb, hr⟩ := hR.alloc hn rfl (cur := cells') (cap := len) (by simp [hcs]) hmax (by simp [hcs, hlen]) (cells_of_RVL hrl hone')
    refine ⟨.value (.slice (some ⟨w.heap.size, 0, none⟩) len len), .slice (some ⟨w.heap.size, 0, none⟩) len len, _, S, ρ', hrun, rfl, R', ?_, L⟩
    exact .own _ _ _ _ hb (by simp) (by simp [hlen]) rfl (fun _ => ⟨_, _, hr, rfl, Nat.le_refl _⟩)
  · split at h
    · rename_i hcl
      simp only [Option.some.injEq, Prod.mk.injEq] at h
      obtain ⟨rfl, rfl⟩ := h
      have L : Later w S ρ st.bx (w.alloc (.cells cells' e)) (fun g => S g ∨ g = w.heap.size) ρ st.bx :=
        ⟨fun _ h => .inl h, fun g hg => Below.heap_alloc w _ g (hR.slt g hg), by show _ ≤ (w.heap.push _).size; rw [Array.size_push]; omega, fun id b hb hf => ⟨b, hb, hf, rfl, .inl ⟨rfl, rfl⟩⟩⟩
      refine ⟨.value (.slice (some ⟨w.heap.size, 0, none⟩) len len), .slice (some ⟨w.heap.size, 0, none⟩) len len, _, (fun g => S g ∨ g = w.heap.size), ρ, hrun, rfl, ?_, ?_, L⟩
      · have hsz : (w.alloc (.cells cells' e)).heap.size = w.heap.size + 1 := by show (w.heap.push _).size = _; rw [Array.size_push]
        refine ⟨hR.below.alloc hR.baseLe _, by rw [hsz]; have := hR.baseLe; omega, hR.size, hR.rho, fun g hg => ?_, fun g hg => hg.elim (hR.sbase g) (fun e => .inr (e ▸ hR.baseLe)), fun id b hb hf => ?_, hR.inj, fun t => (hR.tm t).later L, fun g => (hR.glob g).later L⟩
        · rw [hsz]; rcases hg with hg | rfl
          · have := hR.slt g hg; omega
          · omega
        · obtain ⟨g, cap, cur, ok⟩ := hR.box id b hb hf
          have hgl : g < w.heap.size := (Array.getElem?_eq_some_iff.1 ok.heap).1
          refine ⟨g, cap, cur, ok.rho, ok.base, (Below.heap_alloc w _ g hgl).trans ok.heap, ok.size, ok.cap, ok.fits, fun j c hj => ?_, fun hl hs => ?_, fun hl => .inl (ok.frozen hl)⟩
          · obtain ⟨v, h1, h2, h3⟩ := ok.cells j c hj
            exact ⟨v, h1, h2, h3.later L⟩
          · rcases hs with hs | hs
            · exact ok.live hl hs
            · omega
      · refine .lst len len _ cs cells'.toList hrl.1 (Nat.le_refl _) hmax (fun k v hk => ⟨⟨w.heap.size, 0, none⟩, rfl, .inr rfl, ?_⟩) (fun k c v h1 h2 => (hrl.2 k c v h1 h2).later L)
        have e1 : (⟨w.heap.size, 0, none⟩ : Addr).add k = ⟨w.heap.size, k, none⟩ := by unfold Addr.add; split <;> simp_all
        rw [e1, cell_of_row _ _ k cells' e (0, 0) (heap_alloc_new w _)]
        simpa using hk
    · exact absurd h (by simp)

theorem sim_bld_array (hR : Rel G nt w0 base S0 S ρ st tmps w) (t e : TypeId) (n : Nat) (i ie : TypeInfo) (z : Value) (ht : P.underlying t = some (.array n e)) (hi : P.info? t = some i) (hz : i.zero = some z) (hie : P.info? e = some ie)
    (h1 : z.cells.all (·.oneCell') = true) (ps : Array (Nat × Operand)) (ps' : List (Nat × Nat × R)) (hps : cParts (fun k => some (k * ie.size, ie.size)) ps.toList = some ps') {av : AV} {st' : St}
    (h : exI G (.bld (z.cells.toList.map cV1) ps') st = some (av, st')) :
    Sim P G nt w0 base S0 S ρ st tmps w (do pure (.value (← Instr.build t (ps.map fun (i, x) => (i, Act.eval ⟨tmps, ds⟩ x))))) av st' := by
  simp only [exI, Option.map_eq_some_iff, Prod.mk.injEq] at h
  obtain ⟨cs, hf, rfl, rfl⟩ := h
  have hone : ∀ u ∈ z.cells.toList, u.oneCell' = true := fun u hu => (Array.all_eq_true_iff_forall_mem.1 h1) u (by simpa using hu)
  obtain ⟨cells', he, hrl, _⟩ := fill_sim (ds := ds) hR (fun k => some (k * ie.size, ie.size)) ps.toList ps' _ z.cells cs hps (RVL_cV1 z.cells.toList) hone hf
  have heq : (.agg cells' : Value) = .agg cells'.toList.toArray := by simp
  refine sim_same (v := .agg cells') hR ?_ (by rw [heq]; exact .agg _ _ hrl.1 hrl.2)
  have he2 : Instr.fill (fun k => some (k * ie.size, ie.size)) z.cells (ps.map fun (i, x) => (i, Act.eval ⟨tmps, ds⟩ x)).toList = some cells' := by
    simpa using he
  have hzv : (zeroValue t).run P w = .ok z w := by simp [zeroValue, typeInfo, hi, hz]
  simp only [Instr.build, Sem.run_bind, Sem.run_pure, hzv, run_underlying ht, run_sizeOf' hie, Result.andThen_ok]
  rw [he2]
  rfl
end
end Go.Am
