/- Each instruction without a call does what the machine says: literals, places, append, make, slices. -/
import Derived.Test.YtcibofbmennjpaaDoorAmOps2
set_option linter.unusedVariables false

namespace Go.Am

open Go.RowKit

section
variable {P : Program} {G : Nat → List AV} {nt : Nat} {w0 w : World} {base : Nat} {S0 S : Nat → Prop} {ρ : List (Nat × Nat)} {st : St} {tmps : Array Value} {ds : List Deferred}

theorem foldl_setCells (off : Nat) : ∀ (l : List Value) (k : Nat) (cells : Array Value), off + k + l.length ≤ cells.size →
    ((l.zipIdx k).foldl (fun (cs : Array Value) (x : Value × Nat) => cs.setIfInBounds (off + x.2) x.1) cells).toList = cells.toList.take (off + k) ++ l ++ cells.toList.drop (off + k + l.length)
  | [], k, cells, h => by simp
  | v :: l, k, cells, h => by
    simp only [List.length_cons] at h
    simp only [List.zipIdx_cons, List.foldl_cons]
    have ih := foldl_setCells off l (k + 1) (cells.setIfInBounds (off + k) v) (by simp; omega)
    rw [ih]
    simp only [Array.toList_setIfInBounds, List.length_cons]
    have := list_seg_step cells.toList (off + k) v l (by simp; omega)
    have e1 : off + (k + 1) = off + k + 1 := by omega
    rw [e1, this]

theorem fill_cells (off : Nat) (vs cells : Array Value) (h : off + vs.size ≤ cells.size) :
    (vs.zipIdx.foldl (fun (cs : Array Value) (x : Value × Nat) => cs.setIfInBounds (off + x.2) x.1) cells).toList = cells.toList.take off ++ vs.toList ++ cells.toList.drop (off + vs.size) := by
  have := foldl_setCells off vs.toList 0 cells (by simpa using h)
  simp only [Nat.add_zero, Array.length_toList] at this
  rw [← this, ← Array.foldl_toList]
  simp [Array.toList_zipIdx]

/-- The parts of a literal. -/
theorem fill_sim (hR : Rel G nt w0 base S0 S ρ st tmps w) (place : Nat → Option (Nat × Nat)) : ∀ (ps : List (Nat × Operand)) (ps' : List (Nat × Nat × R)) (zs : List AV) (cells : Array Value) (cs : List AV),
    cParts place ps = some ps' → RVL w S ρ st.bx zs cells.toList → (∀ u ∈ cells.toList, u.oneCell' = true) → fill (ps'.map fun (o, n, r) => (o, n, st.ev G r)) zs = some cs →
    ∃ cells', Instr.fill place cells (ps.map fun (i, x) => (i, Act.eval ⟨tmps, ds⟩ x)) = some cells' ∧ RVL w S ρ st.bx cs cells'.toList ∧ (∀ u ∈ cells'.toList, u.oneCell' = true)
  | [], ps', zs, cells, cs, h, hz, h1, hf => by
    simp only [cParts, List.mapM_nil] at h
    obtain rfl := Option.some.inj h
    simp only [List.map_nil, fill, Option.some.injEq] at hf
    subst hf
    exact ⟨cells, rfl, hz, h1⟩
  | (i, x) :: ps, ps', zs, cells, cs, h, hz, h1, hf => by
    simp only [cParts, List.mapM_cons] at h
    cases hp : place i with
    | none => simp [hp] at h
    | some on =>
      obtain ⟨o, n⟩ := on
      cases hr : cParts place ps with
      | none => simp only [cParts] at hr; simp [hp, hr] at h
      | some rest =>
        have hr' := hr
        simp only [cParts] at hr
        simp only [hp, hr, Option.map_some, Option.bind_eq_bind, Option.bind_some, Option.pure_def, Option.some.injEq] at h
        subst h
        simp only [List.map_cons, fill] at hf
        split at hf
        · rename_i hc
          have hx := ev_RV (ds := ds) hR x
          obtain ⟨hl, hone⟩ := hx.cells_one hc.2.2
          have hsz : (Act.eval ⟨tmps, ds⟩ x).cells.size = n := by rw [← Array.length_toList, hl.1, hc.1]
          have hzl := hz.1
          have hin : o + (Act.eval ⟨tmps, ds⟩ x).cells.size ≤ cells.size := by
            have := hc.2.1
            rw [hsz]; simp only [Array.length_toList] at hzl; omega
          have hfc := fill_cells o (Act.eval ⟨tmps, ds⟩ x).cells cells hin
          have hput : RVL w S ρ st.bx (putAt zs o (st.ev G (cR x)).cells) (((Act.eval ⟨tmps, ds⟩ x).cells.zipIdx.foldl (fun (cs : Array Value) (y : Value × Nat) => cs.setIfInBounds (o + y.2) y.1) cells)).toList := by
            rw [hfc]
            unfold putAt
            have hcl : (st.ev G (cR x)).cells.length = (Act.eval ⟨tmps, ds⟩ x).cells.size := by rw [hc.1, hsz]
            rw [hcl]
            exact ((hz.take o).append hl).append (hz.drop _)
          have hput1 : ∀ u ∈ (((Act.eval ⟨tmps, ds⟩ x).cells.zipIdx.foldl (fun (cs : Array Value) (y : Value × Nat) => cs.setIfInBounds (o + y.2) y.1) cells)).toList, u.oneCell' = true := by
            rw [hfc]
            intro u hu
            simp only [List.mem_append] at hu
            rcases hu with (hu | hu) | hu
            · exact h1 u (List.mem_of_mem_take hu)
            · exact hone u hu
            · exact h1 u (List.mem_of_mem_drop hu)
          obtain ⟨cells', he, hrl, hone'⟩ := fill_sim hR place ps rest _ _ cs hr' hput hput1 hf
          refine ⟨cells', ?_, hrl, hone'⟩
          simp only [List.map_cons, Instr.fill, hp]
          have hcond : ((Act.eval ⟨tmps, ds⟩ x).cells.size ≠ n || decide (o + (Act.eval ⟨tmps, ds⟩ x).cells.size > cells.size)) = false := by
            simp only [hsz, ne_eq, not_true_eq_false, decide_false, Bool.false_or, decide_eq_false_iff_not]
            rw [hsz] at hin; omega
          rw [if_neg (by simpa using hcond)]
          exact he
        · exact absurd hf (by simp)

theorem sim_bld_struct (hR : Rel G nt w0 base S0 S ρ st tmps w) (t : TypeId) (fs : Array Field) (i : TypeInfo) (z : Value) (pl : List (Nat × Nat)) (ht : P.underlying t = some (.struct fs)) (hi : P.info? t = some i) (hz : i.zero = some z)
    (hpl : places P t = some pl) (h1 : z.cells.all (·.oneCell') = true) (ps : Array (Nat × Operand)) (ps' : List (Nat × Nat × R)) (hps : cParts (pl[·]?) ps.toList = some ps') {av : AV} {st' : St}
    (h : exI G (.bld (z.cells.toList.map cV1) ps') st = some (av, st')) :
    Sim P G nt w0 base S0 S ρ st tmps w (do pure (.value (← Instr.build t (ps.map fun (i, x) => (i, Act.eval ⟨tmps, ds⟩ x))))) av st' := by
  simp only [exI, Option.map_eq_some_iff, Prod.mk.injEq] at h
  obtain ⟨cs, hf, rfl, rfl⟩ := h
  have hone : ∀ u ∈ z.cells.toList, u.oneCell' = true := fun u hu => (Array.all_eq_true_iff_forall_mem.1 h1) u (by simpa using hu)
  obtain ⟨cells', he, hrl, _⟩ := fill_sim (ds := ds) hR (pl[·]?) ps.toList ps' _ z.cells cs hps (RVL_cV1 z.cells.toList) hone hf
  have hmap : (fs.mapM fun f => do pure (f.offset, ← sizeOf f.type) : Sem (Array (Nat × Nat))).run P w = .ok pl.toArray w := by
    simp only [places, ht] at hpl
    have key : ∀ (l : List Field) (pl : List (Nat × Nat)), (l.mapM fun f => (P.info? f.type).map fun i => (f.offset, i.size)) = some pl → (l.mapM fun f => do pure (f.offset, ← sizeOf f.type) : Sem (List (Nat × Nat))).run P w = .ok pl w := by
      intro l
      induction l with
      | nil => intro pl h; simp only [List.mapM_nil] at h; obtain rfl := Option.some.inj h; rfl
      | cons f l ih =>
        intro pl h
        simp only [List.mapM_cons] at h ⊢
        cases hf : P.info? f.type with
        | none => simp [hf] at h
        | some fi =>
          cases hl : (l.mapM fun f => (P.info? f.type).map fun i => (f.offset, i.size)) with
          | none => simp [hf, hl] at h
          | some r =>
            simp only [hf, hl, Option.map_some, Option.bind_eq_bind, Option.bind_some, Option.pure_def, Option.some.injEq] at h
            subst h
            simp only [Sem.run_bind, run_sizeOf' hf, Result.andThen_ok, Sem.run_pure, ih r hl]
    have := key fs.toList pl hpl
    rw [Array.mapM_eq_mapM_toList]
    show (List.toArray <$> _ : Sem _).run P w = _
    rw [map_eq_pure_bind, Sem.run_bind, this]
    rfl
  have heq : (.agg cells' : Value) = .agg cells'.toList.toArray := by simp
  refine sim_same (v := .agg cells') hR ?_ (by rw [heq]; exact .agg _ _ hrl.1 hrl.2)
  have he2 : Instr.fill (pl.toArray[·]?) z.cells (ps.map fun (i, x) => (i, Act.eval ⟨tmps, ds⟩ x)).toList = some cells' := by
    simpa using he
  simp only [Instr.build, Sem.run_bind, Sem.run_pure, zeroValue, typeInfo, run_underlying ht, Result.andThen_ok]
  simp only [program, Sem.run, hi, hz, Result.andThen_ok, Sem.run_pure, hmap]
  rw [he2]
  rfl

theorem rep_get {α : Type} (z : List α) (n : Nat) : ∀ (j : Nat), (rep z n)[j]? = if j < n * z.length then z[j % z.length]? else none := by
  induction n with
  | zero => intro j; simp [rep]
  | succ n ih =>
    intro j
    simp only [rep]
    rw [List.getElem?_append]
    by_cases h : j < z.length
    · have h2 : j < (n + 1) * z.length := by rw [Nat.add_mul]; omega
      simp [h, h2, Nat.mod_eq_of_lt h]
    · rw [if_neg h, ih]
      have hm : j % z.length = (j - z.length) % z.length := by rw [Nat.mod_eq_sub_mod (by omega)]
      have hc : (j - z.length < n * z.length) ↔ (j < (n + 1) * z.length) := by rw [Nat.add_mul]; omega
      simp only [hm, hc]
theorem rep_length {α : Type} (z : List α) (n : Nat) : (rep z n).length = n * z.length := by
  induction n with
  | zero => simp [rep]
  | succ n ih => simp [rep, ih, Nat.add_mul]; omega
theorem RVL.rep {bx : List Box} {cs : List AV} {vs : List Value} (h : RVL w S ρ bx cs vs) (n : Nat) : RVL w S ρ bx (rep cs n) (rep vs n) := by
  induction n with
  | zero => exact .nil
  | succ n ih => exact h.append ih
theorem made_rep (z : Array Value) (n : Nat) (hz : 0 < z.size) : ((Array.range (n * z.size)).map (z[· % z.size]!)).toList = Am.rep z.toList n := by
  apply List.ext_getElem?
  intro j
  rw [rep_get]
  simp only [Array.toList_map, Array.toList_range, List.getElem?_map, Array.length_toList]
  by_cases h : j < n * z.size
  · rw [List.getElem?_range h]
    have hlt : j % z.size < z.size := Nat.mod_lt _ hz
    simp [h, hlt]
  · rw [List.getElem?_eq_none (by simpa using h)]
    simp [h]

theorem sim_blds (hR : Rel G nt w0 base S0 S ρ st tmps w) (t e : TypeId) (i : TypeInfo) (z : Value) (ht : P.underlying t = some (.slice e)) (hi : P.info? e = some i) (hz : i.zero = some z) (hzs : z.cells.size = i.size) (h0 : 0 < i.size)
    (j : Option Nat) (own : Bool) (len : Nat) (hbig : len * i.size ≤ 16777216) (h1 : z.cells.all (·.oneCell') = true) (ps : Array (Nat × Operand)) (ps' : List (Nat × Nat × R))
    (hps : cParts (fun k => some (k * i.size, i.size)) ps.toList = some ps') {av : AV} {st' : St} (h : exI G (.blds j own e i.size len (rep (z.cells.toList.map cV1) len) ps') st = some (av, st')) :
    Sim P G nt w0 base S0 S ρ st tmps w (do pure (.value (← Instr.buildSlice t len (ps.map fun (i, x) => (i, Act.eval ⟨tmps, ds⟩ x))))) av st' := by
  have hone : ∀ u ∈ z.cells.toList, u.oneCell' = true := fun u hu => (Array.all_eq_true_iff_forall_mem.1 h1) u (by simpa using hu)
  simp only [exI] at h
  split at h
  case h_2 => exact absurd h (by simp)
  rename_i cs hf
  split at h
  case isFalse => exact absurd h (by simp)
  rename_i hlen
  have hrep := made_rep z.cells len (by omega)
  rw [hzs] at hrep
  have hone2 : ∀ u ∈ ((Array.range (len * i.size)).map (z.cells[· % z.cells.size]!)).toList, u.oneCell' = true := by
    rw [hzs, hrep]
    intro u hu
    obtain ⟨k, hk⟩ := List.getElem?_of_mem hu
    rw [rep_get] at hk
    split at hk
    · exact hone u (List.mem_of_getElem? hk)
    · cases hk
  obtain ⟨cells', he, hrl, hone'⟩ := fill_sim (ds := ds) hR (fun k => some (k * i.size, i.size)) ps.toList ps' _ ((Array.range (len * i.size)).map (z.cells[· % z.cells.size]!)) cs hps
    (by rw [hzs, hrep]; exact (RVL_cV1 z.cells.toList).rep len) hone2 hf
  have hcs : cells'.size = len * i.size := by rw [← Array.length_toList, hrl.1, hlen]
  have hmax : len ≤ maxLen := by
    have : len * 1 ≤ len * i.size := Nat.mul_le_mul_left _ h0
    unfold maxLen; omega
  have hrun : (do pure (.value (← Instr.buildSlice t len (ps.map fun (i, x) => (i, Act.eval ⟨tmps, ds⟩ x)))) : Sem Next).run P w = .ok (.value (.slice (some ⟨w.heap.size, 0, none⟩) len len)) (w.alloc (.cells cells' e)) := by
    have he2 : Instr.fill (fun k => some (k * i.size, i.size)) ((Array.range (len * i.size)).map (z.cells[· % z.cells.size]!)) (ps.map fun (i, x) => (i, Act.eval ⟨tmps, ds⟩ x)).toList = some cells' := by
      simpa using he
    have hnb : ¬ (len * i.size > 2 ^ 24) := by omega
    by_cases hl0 : len * i.size = 0
    · have hz0 : (Array.range (len * i.size)).map (z.cells[· % z.cells.size]!) = (Array.range (len * i.size)).map ((#[] : Array Value)[· % (#[] : Array Value).size]!) := by rw [hl0]; simp
      rw [hz0] at he2
      simp only [Instr.buildSlice, Sem.run_bind, run_underlying ht, run_sizeOf' hi, Result.andThen_ok, hnb, if_false, if_pos hl0, Sem.run_pure]
      rw [he2]
      rfl
    · simp only [Instr.buildSlice, Sem.run_bind, run_underlying ht, run_sizeOf' hi, Result.andThen_ok, hnb, if_false, hl0, Sem.run_pure, Sem.run_bind]
      have hzv : (zeroValue e).run P w = .ok z w := by simp [zeroValue, typeInfo, hi, hz]
      simp only [hzv, Result.andThen_ok]
      rw [he2]
      rfl
  split at h
  · rename_i how
    simp only [Option.map_eq_some_iff, Prod.mk.injEq] at h
    obtain ⟨⟨id, st1⟩, hn, rfl, rfl⟩ := h
    obtain ⟨ρ', R', L, hb, hr⟩ := hR.alloc hn rfl (cur := cells') (cap := len) (by simp [hcs]) hmax (by simp [hcs, hlen]) (cells_of_RVL hrl hone')
    refine ⟨.value (.slice (some ⟨w.heap.size, 0, none⟩) len len), .slice (some ⟨w.heap.size, 0, none⟩) len len, _, S, ρ', hrun, rfl, R', ?_, L⟩
    exact .own _ _ _ _ hb (by simp) (by simp [hlen]) rfl (fun _ => ⟨_, _, hr, rfl, Nat.le_refl _⟩)
  · split at h
    · rename_i hcl
      simp only [Option.some.injEq, Prod.mk.injEq] at h
      obtain ⟨rfl, rfl⟩ := h
      have L : Later w S ρ st.bx (w.alloc (.cells cells' e)) (fun g => S g ∨ g = w.heap.size) ρ st.bx :=
        ⟨fun _ h => .inl h, fun g hg => Below.heap_alloc w _ g (hR.slt g hg), by show _ ≤ (w.heap.push _).size; rw [Array.size_push]; omega, fun id b hb hf => ⟨b, hb, hf, rfl, .inl ⟨rfl, rfl⟩⟩⟩
      refine ⟨.value (.slice (some ⟨w.heap.size, 0, none⟩) len len), .slice (some ⟨w.heap.size, 0, none⟩) len len, _, (fun g => S g ∨ g = w.heap.size), ρ, hrun, rfl, ?_, ?_, L⟩
      · have hsz : (w.alloc (.cells cells' e)).heap.size = w.heap.size + 1 := by show (w.heap.push _).size = _; rw [Array.size_push]
        refine ⟨hR.below.alloc hR.baseLe _, by rw [hsz]; have := hR.baseLe; omega, hR.size, hR.rho, fun g hg => ?_, fun g hg => hg.elim (hR.sbase g) (fun e => .inr (e ▸ hR.baseLe)), fun id b hb hf => ?_, hR.inj, fun t => (hR.tm t).later L, fun g => (hR.glob g).later L⟩
        · rw [hsz]; rcases hg with hg | rfl
          · have := hR.slt g hg; omega
          · omega
        · obtain ⟨g, cap, cur, ok⟩ := hR.box id b hb hf
          have hgl : g < w.heap.size := (Array.getElem?_eq_some_iff.1 ok.heap).1
          refine ⟨g, cap, cur, ok.rho, ok.base, (Below.heap_alloc w _ g hgl).trans ok.heap, ok.size, ok.cap, ok.fits, fun j c hj => ?_, fun hl hs => ?_, fun hl => .inl (ok.frozen hl)⟩
          · obtain ⟨v, h1, h2, h3⟩ := ok.cells j c hj
            exact ⟨v, h1, h2, h3.later L⟩
          · rcases hs with hs | hs
            · exact ok.live hl hs
            · omega
      · refine .lst len len _ cs cells'.toList hrl.1 (Nat.le_refl _) hmax (fun k v hk => ⟨⟨w.heap.size, 0, none⟩, rfl, .inr rfl, ?_⟩) (fun k c v h1 h2 => (hrl.2 k c v h1 h2).later L)
        have e1 : (⟨w.heap.size, 0, none⟩ : Addr).add k = ⟨w.heap.size, k, none⟩ := by unfold Addr.add; split <;> simp_all
        rw [e1, cell_of_row _ _ k cells' e (0, 0) (heap_alloc_new w _)]
        simpa using hk
    · exact absurd h (by simp)

theorem sim_bld_array (hR : Rel G nt w0 base S0 S ρ st tmps w) (t e : TypeId) (n : Nat) (i ie : TypeInfo) (z : Value) (ht : P.underlying t = some (.array n e)) (hi : P.info? t = some i) (hz : i.zero = some z) (hie : P.info? e = some ie)
    (h1 : z.cells.all (·.oneCell') = true) (ps : Array (Nat × Operand)) (ps' : List (Nat × Nat × R)) (hps : cParts (fun k => some (k * ie.size, ie.size)) ps.toList = some ps') {av : AV} {st' : St}
    (h : exI G (.bld (z.cells.toList.map cV1) ps') st = some (av, st')) :
    Sim P G nt w0 base S0 S ρ st tmps w (do pure (.value (← Instr.build t (ps.map fun (i, x) => (i, Act.eval ⟨tmps, ds⟩ x))))) av st' := by
  simp only [exI, Option.map_eq_some_iff, Prod.mk.injEq] at h
  obtain ⟨cs, hf, rfl, rfl⟩ := h
  have hone : ∀ u ∈ z.cells.toList, u.oneCell' = true := fun u hu => (Array.all_eq_true_iff_forall_mem.1 h1) u (by simpa using hu)
  obtain ⟨cells', he, hrl, _⟩ := fill_sim (ds := ds) hR (fun k => some (k * ie.size, ie.size)) ps.toList ps' _ z.cells cs hps (RVL_cV1 z.cells.toList) hone hf
  have heq : (.agg cells' : Value) = .agg cells'.toList.toArray := by simp
  refine sim_same (v := .agg cells') hR ?_ (by rw [heq]; exact .agg _ _ hrl.1 hrl.2)
  have he2 : Instr.fill (fun k => some (k * ie.size, ie.size)) z.cells (ps.map fun (i, x) => (i, Act.eval ⟨tmps, ds⟩ x)).toList = some cells' := by
    simpa using he
  have hzv : (zeroValue t).run P w = .ok z w := by simp [zeroValue, typeInfo, hi, hz]
  simp only [Instr.build, Sem.run_bind, Sem.run_pure, hzv, run_underlying ht, run_sizeOf' hie, Result.andThen_ok]
  rw [he2]
  rfl
end

end Go.Am

/- Each instruction without a call does what the machine says: indexes, fields, append, make, slice expressions. -/
set_option linter.unusedVariables false

namespace Go.Am

open Go.RowKit

section
variable {P : Program} {G : Nat → List AV} {nt : Nat} {w0 w : World} {base : Nat} {S0 S : Nat → Prop} {ρ : List (Nat × Nat)} {st : St} {tmps : Array Value} {ds : List Deferred}

theorem add_row (g o n : Nat) : (⟨g, o, none⟩ : Addr).add n = ⟨g, o + n, none⟩ := by unfold Addr.add; split <;> simp_all

theorem sim_iaddr (hR : Rel G nt w0 base S0 S ρ st tmps w) (t e : TypeId) (ie : TypeInfo) (ht : P.underlying t = some (.slice e)) (hi : P.info? e = some ie) (x i : Operand) {av : AV} {st' : St}
    (h : exI G (.iaddr ie.size (cR x) (cR i)) st = some (av, st')) :
    Sim P G nt w0 base S0 S ρ st tmps w (do pure (.value (← Instr.indexAt t (Act.eval ⟨tmps, ds⟩ x) (Act.eval ⟨tmps, ds⟩ i)))) av st' := by
  simp only [exI] at h
  have hx := ev_RV (ds := ds) hR x
  have hi2 := ev_RV (ds := ds) hR i
  generalize Act.eval ⟨tmps, ds⟩ x = vx at hx ⊢
  generalize Act.eval ⟨tmps, ds⟩ i = vi at hi2 ⊢
  have fin : ∀ (a : Addr) (n cap : Nat) (k : IntKind) (q : Int), 0 ≤ q ∧ q < n → (do pure (Next.value (← Instr.indexAt t (.slice (some a) n cap) (.int k q))) : Sem Next).run P w = .ok (.value (.pointer (some (a.add (q.toNat * ie.size))))) w := by
    intro a n cap k q hq
    simp [Instr.indexAt, asIntOf, run_underlying ht, hq, run_sizeOf' hi]
  split at h
  · rename_i n cs k q e1 e2
    rw [e1] at hx
    rw [e2] at hi2
    obtain rfl := hi2.int_inv
    split at h
    · rename_i hc
      simp only [Option.some.injEq, Prod.mk.injEq] at h
      obtain ⟨rfl, rfl⟩ := h
      cases hx with
      | lst n cap ao cs vs hl hn hm hcell hr =>
        cases ao with
        | none =>
          exfalso
          have h1 : q.toNat * ie.size < n * ie.size := Nat.mul_lt_mul_of_pos_right (by omega) hc.2.2.2
          have hlt : q.toNat * ie.size < vs.length := by omega
          obtain ⟨a, ha, _⟩ := hcell _ _ (List.getElem?_eq_getElem hlt)
          cases ha
        | some a =>
          refine sim_same hR (fin a n cap k q ⟨hc.1, hc.2.1⟩) (.rptr _ _ (vs.drop (q.toNat * ie.size)) (by simp [hl]) (fun j u hj => ?_) (fun j c v h1 h2 => ?_))
          · rw [List.getElem?_drop] at hj
            obtain ⟨a', ha, hs, hcl⟩ := hcell _ _ hj
            obtain rfl := Option.some.inj ha
            rw [Addr.add_block, Addr.add_add]
            exact ⟨hs, hcl⟩
          · rw [List.getElem?_drop] at h1 h2
            exact hr _ c v h1 h2
    · exact absurd h (by simp)
  · rename_i id n k q e1 e2
    rw [e1] at hx
    rw [e2] at hi2
    obtain rfl := hi2.int_inv
    split at h
    · rename_i b hb
      split at h
      · rename_i hc
        simp only [Option.some.injEq, Prod.mk.injEq] at h
        obtain ⟨rfl, rfl⟩ := h
        obtain ⟨g, cap, cur, ok, rfl, hn⟩ := own_inv hR hx hb hc.2.2.1 hc.2.2.2.1
        refine sim_same hR (fin _ n cap k q ⟨hc.1, hc.2.1⟩) ?_
        rw [add_row, Nat.zero_add]
        have hl : b.cs.length = n * ie.size := by rw [hc.2.2.2.1, hc.2.2.2.2]
        exact .ptr _ _ _ _ b hb hc.2.2.1 (by omega) rfl (fun _ => ⟨g, cap, ok.rho, rfl⟩)
      · exact absurd h (by simp)
    · exact absurd h (by simp)
  · exact absurd h (by simp)

theorem sim_aaddr (hR : Rel G nt w0 base S0 S ρ st tmps w) (t e : TypeId) (len : Nat) (ie : TypeInfo) (ht : P.underlying t = some (.array len e)) (hi : P.info? e = some ie) (x i : Operand) {av : AV} {st' : St}
    (h : exI G (.aaddr len ie.size (cR x) (cR i)) st = some (av, st')) :
    Sim P G nt w0 base S0 S ρ st tmps w (do pure (.value (← Instr.indexAt t (Act.eval ⟨tmps, ds⟩ x) (Act.eval ⟨tmps, ds⟩ i)))) av st' := by
  simp only [exI] at h
  have hx := ev_RV (ds := ds) hR x
  have hi2 := ev_RV (ds := ds) hR i
  generalize Act.eval ⟨tmps, ds⟩ x = vx at hx ⊢
  generalize Act.eval ⟨tmps, ds⟩ i = vi at hi2 ⊢
  have fin : ∀ (a : Addr) (k : IntKind) (q : Int), 0 ≤ q ∧ q < len → (do pure (Next.value (← Instr.indexAt t (.pointer (some a)) (.int k q))) : Sem Next).run P w = .ok (.value (.pointer (some (a.add (q.toNat * ie.size))))) w := by
    intro a k q hq
    simp [Instr.indexAt, asIntOf, run_underlying ht, hq, run_sizeOf' hi, Instr.sureAddr]
  split at h
  · rename_i cs k q e1 e2
    rw [e1] at hx
    rw [e2] at hi2
    obtain rfl := hi2.int_inv
    split at h
    · rename_i hc
      simp only [Option.some.injEq, Prod.mk.injEq] at h
      obtain ⟨rfl, rfl⟩ := h
      obtain ⟨a, vs, rfl, hvs, hcl⟩ := hx.rptr_inv
      refine sim_same hR (fin a k q hc) (.rptr _ _ (vs.drop (q.toNat * ie.size)) (hvs.drop _).1 (fun j u hj => ?_) (hvs.drop _).2)
      rw [List.getElem?_drop] at hj
      rw [Addr.add_block, Addr.add_add]
      exact hcl _ u hj
    · exact absurd h (by simp)
  · rename_i id l o k q e1 e2
    rw [e1] at hx
    rw [e2] at hi2
    obtain rfl := hi2.int_inv
    split at h
    · rename_i hc
      simp only [Option.some.injEq, Prod.mk.injEq] at h
      obtain ⟨rfl, rfl⟩ := h
      obtain ⟨g, cap, hr, rfl⟩ := ptr_valid hx hc.2.2
      refine sim_same hR (fin _ k q ⟨hc.1, hc.2.1⟩) ?_
      rw [add_row]
      exact ptr_mk hc.2.2 hr
    · exact absurd h (by simp)
  · exact absurd h (by simp)

theorem sim_fld1 (hR : Rel G nt w0 base S0 S ρ st tmps w) (t : TypeId) (fs : Array Field) (f : Nat) (fd : Field) (d : TypeDesc) (ht : P.underlying t = some (.struct fs)) (hf : fs[f]? = some fd) (hd : P.underlying fd.type = some d) (hda : descAgg d = false)
    (x : Operand) {av : AV} {st' : St} (h : exI G (.fld1 fd.offset (cR x)) st = some (av, st')) :
    Sim P G nt w0 base S0 S ρ st tmps w (do pure (.value (← Instr.field t (Act.eval ⟨tmps, ds⟩ x) f))) av st' := by
  simp only [exI] at h
  have hx := ev_RV (ds := ds) hR x
  generalize Act.eval ⟨tmps, ds⟩ x = vx at hx ⊢
  split at h
  · rename_i cs e
    rw [e] at hx
    split at h
    · rename_i c hc
      simp only [Option.some.injEq, Prod.mk.injEq] at h
      obtain ⟨rfl, rfl⟩ := h
      obtain ⟨vs, rfl, hvs⟩ := hx.agg_inv
      obtain ⟨v, hv, hr⟩ := hvs.get hc
      refine sim_same hR ?_ hr
      simp [Instr.field, run_underlying ht, hf, Go.part, asAgg, run_isAgg hd, hda, hv]
    · exact absurd h (by simp)
  · exact absurd h (by simp)

theorem seg_inv {cs : List AV} {o n : Nat} {r : List AV} (h : seg cs o n = some r) {vs : List Value} {bx : List Box} (hv : RVL w S ρ bx cs vs) :
    o + n ≤ vs.length ∧ RVL w S ρ bx r (vs.toArray.extract o (o + n)).toList := by
  unfold seg at h
  split at h
  · rename_i hc
    obtain rfl := Option.some.inj h
    refine ⟨by rw [hv.1]; exact hc, ?_⟩
    have : (vs.toArray.extract o (o + n)).toList = (vs.drop o).take n := by
      simp [List.extract_eq_take_drop]
    rw [this]
    exact (hv.drop o).take n
  · exact absurd h (by simp)

theorem sim_fldn (hR : Rel G nt w0 base S0 S ρ st tmps w) (t : TypeId) (fs : Array Field) (f : Nat) (fd : Field) (d : TypeDesc) (i : TypeInfo) (ht : P.underlying t = some (.struct fs)) (hf : fs[f]? = some fd) (hd : P.underlying fd.type = some d) (hda : descAgg d = true)
    (hi : P.info? fd.type = some i) (x : Operand) {av : AV} {st' : St} (h : exI G (.fldn fd.offset i.size (cR x)) st = some (av, st')) :
    Sim P G nt w0 base S0 S ρ st tmps w (do pure (.value (← Instr.field t (Act.eval ⟨tmps, ds⟩ x) f))) av st' := by
  simp only [exI] at h
  have hx := ev_RV (ds := ds) hR x
  generalize Act.eval ⟨tmps, ds⟩ x = vx at hx ⊢
  split at h
  · rename_i cs e
    rw [e] at hx
    simp only [Option.map_eq_some_iff, Prod.mk.injEq] at h
    obtain ⟨r, hp, rfl, rfl⟩ := h
    obtain ⟨vs, rfl, hvs⟩ := hx.agg_inv
    obtain ⟨_, hrl⟩ := seg_inv hp hvs
    refine sim_same (v := .agg (vs.toArray.extract fd.offset (fd.offset + i.size))) hR ?_ ?_
    · simp only [Instr.field, Sem.run_bind, run_underlying ht, Result.andThen_ok, hf, asAgg, Go.part, run_isAgg hd, hda, if_true, run_sizeOf' hi, Sem.run_pure]
    · have := RV.agg r _ hrl.1 hrl.2
      simpa using this
  · exact absurd h (by simp)

theorem sim_idx1 (hR : Rel G nt w0 base S0 S ρ st tmps w) (t e : TypeId) (len : Nat) (d : TypeDesc) (ie : TypeInfo) (ht : P.underlying t = some (.array len e)) (hd : P.underlying e = some d) (hda : descAgg d = false) (hi : P.info? e = some ie) (h1 : ie.size = 1)
    (x i : Operand) {av : AV} {st' : St} (h : exI G (.idx1 len (cR x) (cR i)) st = some (av, st')) :
    Sim P G nt w0 base S0 S ρ st tmps w (do pure (.value (← Instr.index t (Act.eval ⟨tmps, ds⟩ x) (Act.eval ⟨tmps, ds⟩ i)))) av st' := by
  simp only [exI] at h
  have hx := ev_RV (ds := ds) hR x
  have hi2 := ev_RV (ds := ds) hR i
  generalize Act.eval ⟨tmps, ds⟩ x = vx at hx ⊢
  generalize Act.eval ⟨tmps, ds⟩ i = vi at hi2 ⊢
  split at h
  · rename_i cs k q e1 e2
    rw [e1] at hx
    rw [e2] at hi2
    obtain rfl := hi2.int_inv
    split at h
    · rename_i hc
      split at h
      · rename_i c hcc
        simp only [Option.some.injEq, Prod.mk.injEq] at h
        obtain ⟨rfl, rfl⟩ := h
        obtain ⟨vs, rfl, hvs⟩ := hx.agg_inv
        obtain ⟨v, hv, hr⟩ := hvs.get hcc
        refine sim_same hR ?_ hr
        simp [Instr.index, asIntOf, run_underlying ht, hc, Go.part, run_isAgg hd, hda, run_sizeOf' hi, h1, hv]
      · exact absurd h (by simp)
    · exact absurd h (by simp)
  · exact absurd h (by simp)

theorem sim_idxn (hR : Rel G nt w0 base S0 S ρ st tmps w) (t e : TypeId) (len : Nat) (d : TypeDesc) (ie : TypeInfo) (ht : P.underlying t = some (.array len e)) (hd : P.underlying e = some d) (hda : descAgg d = true) (hi : P.info? e = some ie)
    (x i : Operand) {av : AV} {st' : St} (h : exI G (.idxn len ie.size (cR x) (cR i)) st = some (av, st')) :
    Sim P G nt w0 base S0 S ρ st tmps w (do pure (.value (← Instr.index t (Act.eval ⟨tmps, ds⟩ x) (Act.eval ⟨tmps, ds⟩ i)))) av st' := by
  simp only [exI] at h
  have hx := ev_RV (ds := ds) hR x
  have hi2 := ev_RV (ds := ds) hR i
  generalize Act.eval ⟨tmps, ds⟩ x = vx at hx ⊢
  generalize Act.eval ⟨tmps, ds⟩ i = vi at hi2 ⊢
  split at h
  · rename_i cs k q e1 e2
    rw [e1] at hx
    rw [e2] at hi2
    obtain rfl := hi2.int_inv
    split at h
    · rename_i hc
      simp only [Option.map_eq_some_iff, Prod.mk.injEq] at h
      obtain ⟨r, hp, rfl, rfl⟩ := h
      obtain ⟨vs, rfl, hvs⟩ := hx.agg_inv
      obtain ⟨_, hrl⟩ := seg_inv hp hvs
      refine sim_same (v := .agg (vs.toArray.extract (q.toNat * ie.size) (q.toNat * ie.size + ie.size))) hR ?_ ?_
      · simp only [Instr.index, asIntOf, Sem.run_bind, Sem.run_pure, run_underlying ht, Result.andThen_ok, hc, and_self, if_true, Go.part, run_isAgg hd, hda, run_sizeOf' hi]
      · have := RV.agg r _ hrl.1 hrl.2
        simpa using this
    · exact absurd h (by simp)
  · exact absurd h (by simp)

theorem sim_min2 (hR : Rel G nt w0 base S0 S ρ st tmps w) (ts : Array TypeId) (ty : TypeId) (x y : Operand) {av : AV} {st' : St} (h : exI G (.min2 (cR x) (cR y)) st = some (av, st')) :
    Sim P G nt w0 base S0 S ρ st tmps w (do pure (.value (← Builtin.min_ ts ty #[Act.eval ⟨tmps, ds⟩ x, Act.eval ⟨tmps, ds⟩ y]))) av st' := by
  simp only [exI] at h
  have hx := ev_RV (ds := ds) hR x
  have hy := ev_RV (ds := ds) hR y
  generalize Act.eval ⟨tmps, ds⟩ x = vx at hx ⊢
  generalize Act.eval ⟨tmps, ds⟩ y = vy at hy ⊢
  split at h
  · rename_i a b e1 e2
    rw [e1] at hx
    rw [e2] at hy
    obtain rfl := hx.int_inv
    obtain rfl := hy.int_inv
    simp only [Option.some.injEq, Prod.mk.injEq] at h
    obtain ⟨rfl, rfl⟩ := h
    refine sim_same (v := .int .i64 (if b < a then b else a)) hR ?_ (.int _ _)
    by_cases hba : b < a <;> simp [Builtin.min_, Builtin.min2, hba]
  · exact absurd h (by simp)
end

end Go.Am

/- Each instruction without a call does what the machine says: append, make, slice expressions. -/
set_option linter.unusedVariables false

namespace Go.Am

open Go.RowKit

section
variable {P : Program} {G : Nat → List AV} {nt : Nat} {w0 w : World} {base : Nat} {S0 S : Nat → Prop} {ρ : List (Nat × Nat)} {st : St} {tmps : Array Value} {ds : List Deferred}

/-- The cells of a slice that is read. -/
theorem slice_inv (hR : Rel G nt w0 base S0 S ρ st tmps w) {sz : Nat} {x : AV} {v : Value} (hx : RV w S ρ st.bx x v) {m : Nat} {news : List AV} (h : st.slice sz x = some (m, news)) :
    ∃ (ao : Option Addr) (cap : Nat) (us : List Value), v = .slice ao m cap ∧ m ≤ cap ∧ RVL w S ρ st.bx news us ∧ news.length = m * sz ∧ (∀ (j : Nat) (u : Value), us[j]? = some u → ∃ a, ao = some a ∧ w.cell? (a.add j) = some u) := by
  unfold St.slice at h
  split at h
  · simp only [Option.some.injEq, Prod.mk.injEq] at h
    obtain ⟨rfl, rfl⟩ := h
    obtain rfl := hx.nil_inv
    exact ⟨none, 0, [], rfl, Nat.le_refl _, .nil, by simp, fun j u hj => by simp at hj⟩
  · rename_i n cs
    split at h
    · rename_i hc
      simp only [Option.some.injEq, Prod.mk.injEq] at h
      obtain ⟨rfl, rfl⟩ := h
      cases hx with
      | lst n cap ao cs vs hl hn hm hcell hr => exact ⟨ao, cap, vs, rfl, hn, ⟨hl, hr⟩, hc, fun j u hj => let ⟨a, ha, _, hcl⟩ := hcell j u hj; ⟨a, ha, hcl⟩⟩
    · exact absurd h (by simp)
  · rename_i id n
    split at h
    · rename_i b hb
      split at h
      · rename_i hc
        simp only [Option.some.injEq, Prod.mk.injEq] at h
        obtain ⟨rfl, rfl⟩ := h
        obtain ⟨g, cap, cur, ok, rfl, hn⟩ := own_inv hR hx hb hc.1 hc.2.1
        obtain ⟨h1, h2⟩ := ok.shown
        refine ⟨some ⟨g, 0, none⟩, cap, _, rfl, hn, h1, by rw [hc.2.1, hc.2.2], fun j u hj => ⟨_, rfl, ?_⟩⟩
        rw [add_row, Nat.zero_add]
        exact h2 j u hj
      · exact absurd h (by simp)
    · exact absurd h (by simp)
  · exact absurd h (by simp)

theorem run_append_zero (t ty e : TypeId) (i : TypeInfo) (ht : P.underlying t = some (.slice e)) (hi : P.info? e = some i) (b a : Option Addr) (n cap c : Nat) (hn : n ≤ cap) :
    (Builtin.append_ #[t, t] ty #[.slice b n cap, .slice a 0 c]).run P w = .ok (.slice b n cap) w := by
  have hf : (Builtin.firstCells i.size 0 (.slice a 0 c)).run P w = .ok #[] w := by
    cases a with
    | none => rfl
    | some a => simp [Builtin.firstCells, loadCells, loadCellsFrom]
  cases b with
  | none => simp [Builtin.append_, run_underlying ht, run_sizeOf' hi, Builtin.lenOf, hn, hf]
  | some b => simp [Builtin.append_, run_underlying ht, run_sizeOf' hi, Builtin.lenOf, hn, hf, storeCells]

theorem ones {bx : List Box} {cs : List AV} {us : List Value} (h : RVL w S ρ bx cs us) (h1 : cs.all AV.one = true) : ∀ u ∈ us, u.oneCell' = true := by
  intro u hu
  obtain ⟨j, hj⟩ := List.getElem?_of_mem hu
  have hlt : j < cs.length := by rw [← h.1]; exact (List.getElem?_eq_some_iff.1 hj).1
  have hcj : cs[j]? = some cs[j] := List.getElem?_eq_getElem hlt
  exact (h.2 j _ u hcj hj).one (List.all_eq_true.1 h1 _ (List.mem_of_getElem? hcj))

theorem cells_take {bx : List Box} {cs : List AV} {us : List Value} {cur : Array Value} (hrl : RVL w S ρ bx cs us) (h1 : ∀ u ∈ us, u.oneCell' = true) (ht : cur.toList.take us.length = us) :
    ∀ (j : Nat) (c : AV), cs[j]? = some c → ∃ v, cur[j]? = some v ∧ v.oneCell' = true ∧ RV w S ρ bx c v := by
  intro j c hj
  obtain ⟨v, hv, hr⟩ := hrl.get hj
  have hlt : j < us.length := (List.getElem?_eq_some_iff.1 hv).1
  refine ⟨v, ?_, h1 v (List.mem_of_getElem? hv), hr⟩
  rw [← ht, List.getElem?_take, if_pos hlt] at hv
  simpa using hv

theorem sim_app (hR : Rel G nt w0 base S0 S ρ st tmps w) (t ty e : TypeId) (i : TypeInfo) (z : Value) (ht : P.underlying t = some (.slice e)) (hi : P.info? e = some i) (hz : i.zero = some z) (hzs : z.cells.size = i.size) (h0 : 0 < i.size)
    (j : Option Nat) (s x : Operand) {av : AV} {st' : St} (h : exI G (.app j e i.size i.bytes (cR s) (cR x)) st = some (av, st')) :
    Sim P G nt w0 base S0 S ρ st tmps w (do pure (.value (← Builtin.append_ #[t, t] ty #[Act.eval ⟨tmps, ds⟩ s, Act.eval ⟨tmps, ds⟩ x]))) av st' := by
  simp only [exI] at h
  have hs := ev_RV (ds := ds) hR s
  have hx := ev_RV (ds := ds) hR x
  generalize Act.eval ⟨tmps, ds⟩ s = vs at hs ⊢
  generalize Act.eval ⟨tmps, ds⟩ x = vx at hx ⊢
  split at h
  case h_1 => exact absurd h (by simp)
  rename_i m news hsl
  obtain ⟨ao, c, us, rfl, hmc, hrl, hnl, hcell⟩ := slice_inv hR hx hsl
  have hul : us.length = m * i.size := by rw [hrl.1, hnl]
  have addr : 0 < m → ∃ a, ao = some a ∧ ∀ (j : Nat) (u : Value), us[j]? = some u → w.cell? (a.add j) = some u := by
    intro hm
    have hlt : 0 < us.length := by rw [hul]; exact Nat.mul_pos hm h0
    obtain ⟨a, ha, _⟩ := hcell 0 _ (List.getElem?_eq_getElem hlt)
    refine ⟨a, ha, fun j u hj => ?_⟩
    obtain ⟨a', ha', hc⟩ := hcell j u hj
    rw [ha] at ha'
    obtain rfl := Option.some.inj ha'
    exact hc
  split at h
  · rename_i es
    rw [es] at hs
    obtain rfl := hs.nil_inv
    split at h
    · rename_i hm
      subst hm
      simp only [Option.some.injEq, Prod.mk.injEq] at h
      obtain ⟨rfl, rfl⟩ := h
      exact sim_same hR (by rw [Sem.run_bind, run_append_zero t ty e i ht hi none ao 0 0 c (Nat.le_refl _)]; rfl) .nil
    · rename_i hm
      split at h
      · rename_i hc
        simp only [Option.map_eq_some_iff, Prod.mk.injEq] at h
        obtain ⟨⟨id, st1⟩, hn, rfl, rfl⟩ := h
        obtain ⟨a, rfl, hca⟩ := addr (by omega)
        have h1 := ones hrl hc.2.2
        obtain ⟨v', w', hrun, hown, hgr, _, hblk⟩ := run_append_own_at (P := P) w base t ty e i z i.size i.bytes ht hi hz rfl rfl hzs h0 (.slice none 0 0) 0 [] (World.ownsRow_nil w base e i.size)
          a m c us hul hca h1 (by simp only [maxLen]; omega) (by rw [Nat.zero_add]; exact hc.1) hR.baseLe
        rw [Nat.zero_add, List.nil_append] at hown
        rcases hown.2 with ⟨rfl, hz⟩ | ⟨g', cap', cur', rfl, hbg, hg, hnc, hcm, hcs, htake⟩
        · omega
        · have hgw : g' = w.heap.size := by
            rcases hblk with hb | hb
            · simp [Value.ownBlock] at hb
            · simpa [Value.ownBlock] using hb
          subst hgw
          have hfit : m * i.size ≤ cap' * i.size := Nat.mul_le_mul_right _ hnc
          obtain ⟨ρ', R', L, hb, hr⟩ := hR.newBox hn rfl (Nat.le_refl _) hgr.os hgr.tape hgr.output hgr.size (fun k hk => hgr.block k hk (by simp [Value.ownBlock])) hg hcs hcm (by rw [hcs]; simp only; omega)
            (cells_take hrl h1 (by rw [hul]; exact htake))
          refine ⟨.value (.slice (some ⟨w.heap.size, 0, none⟩) m cap'), .slice (some ⟨w.heap.size, 0, none⟩) m cap', w', S, ρ', by rw [Sem.run_bind, hrun]; rfl, rfl, R', ?_, L⟩
          exact .own _ _ _ _ hb (by simp) (by simp only; omega) rfl (fun _ => ⟨_, _, hr, rfl, hnc⟩)
      · exact absurd h (by simp)
  · rename_i id n es
    rw [es] at hs
    split at h
    · rename_i b hb
      split at h
      · rename_i hc
        obtain ⟨hst, hlen, hsz, hbe, hbytes, hmax, hone⟩ := hc
        simp only [Option.some.injEq, Prod.mk.injEq] at h
        obtain ⟨rfl, rfl⟩ := h
        have hf : b.status ≠ .fresh := by rw [hst]; decide
        obtain ⟨g, cap, cur, ok, rfl, hncap⟩ := own_inv hR hs hb hf hlen
        have h1 := ones hrl hone
        have hidl : id < st.bx.length := (List.getElem?_eq_some_iff.1 hb).1
        by_cases hm : m = 0
        · subst hm
          have hn0 : news = [] := List.eq_nil_of_length_eq_zero (by simpa using hnl)
          subst hn0
          have hset : st.bx.set id { b with cs := b.cs ++ [] } = st.bx := by
            have : ({ b with cs := b.cs ++ [] } : Box) = b := by cases b; simp
            rw [this]
            apply List.ext_getElem?
            intro k
            rw [List.getElem?_set]
            split
            · rename_i hk; subst hk; rw [hb]
            · rfl
          rw [hset]
          exact sim_same hR (by rw [Sem.run_bind, run_append_zero t ty e i ht hi _ ao n cap c hncap]; rfl) hs
        · obtain ⟨a, rfl, hca⟩ := addr (by omega)
          have hfits : n * i.size ≤ cur.size := by rw [ok.size, hsz]; exact Nat.mul_le_mul_right _ hncap
          have hxl : (cur.toList.take (n * i.size)).length = n * i.size := by simp [hfits]
          have hown0 : w.ownsRow base e i.size (.slice (some ⟨g, 0, none⟩) n cap) n (cur.toList.take (n * i.size)) :=
            ⟨hxl, .inr ⟨g, cap, cur, rfl, ok.base, by rw [← hbe]; exact ok.heap, hncap, ok.cap, by rw [← hsz]; exact ok.size, rfl⟩⟩
          obtain ⟨v', w', hrun, hown, hgr, _, hblk⟩ := run_append_own_at (P := P) w base t ty e i z i.size i.bytes ht hi hz rfl rfl hzs h0 _ n _ hown0
            a m c us hul hca h1 (by simp only [maxLen]; omega) hbytes hR.baseLe
          rcases hown.2 with ⟨rfl, hz⟩ | ⟨g', cap', cur', rfl, hbg, hg, hnc, hcm, hcs, htake⟩
          · omega
          · have hgw : g' = g ∨ g' = w.heap.size := by
              rcases hblk with hb | hb
              · left; simpa [Value.ownBlock] using hb
              · right; simpa [Value.ownBlock] using hb
            have hsh := ok.shown
            have hbl : b.cs.length = n * i.size := by rw [hlen, hsz]
            have hrl2 : RVL w S ρ st.bx (b.cs ++ news) (cur.toList.take (n * i.size) ++ us) := by
              have := hsh.1
              rw [hbl] at this
              exact this.append hrl
            have hone2 : ∀ u ∈ cur.toList.take (n * i.size) ++ us, u.oneCell' = true := by
              intro u hu
              rcases List.mem_append.1 hu with hu | hu
              · obtain ⟨k, hk⟩ := List.getElem?_of_mem hu
                have hkl : k < b.cs.length := by rw [hbl, ← hxl]; exact (List.getElem?_eq_some_iff.1 hk).1
                obtain ⟨y, hy, hy1, _⟩ := ok.cells k _ (List.getElem?_eq_getElem hkl)
                rw [List.getElem?_take] at hk
                split at hk
                · simp only [Array.getElem?_toList] at hk
                  rw [hy] at hk
                  obtain rfl := Option.some.inj hk
                  exact hy1
                · cases hk
              · exact h1 u hu
            have hxus : (cur.toList.take (n * i.size) ++ us).length = (n + m) * i.size := by rw [List.length_append, hxl, hul, Nat.add_mul]
            have hfit : (n + m) * i.size ≤ cap' * i.size := Nat.mul_le_mul_right _ hnc
            have hidr : id < ρ.length := by rw [hR.rho]; exact hidl
            have hgl : g < w.heap.size := (Array.getElem?_eq_some_iff.1 ok.heap).1
            have hnl' : 0 < news.length := by rw [hnl]; exact Nat.mul_pos (by omega) h0
            have hoth : ∀ (k : Nat) (b2 : Box) (y : Nat × Nat), k ≠ id → st.bx[k]? = some b2 → b2.status ≠ .fresh → ρ[k]? = some y → y.1 ≠ g ∧ y.1 < w.heap.size := by
              intro k b2 y hk hb2 hf2 hy
              refine ⟨hR.inj k id b2 b y (g, cap) hb2 hb hf2 hf hy ok.rho hk, ?_⟩
              obtain ⟨g2, cap2, cur2, ok2⟩ := hR.box k b2 hb2 hf2
              rw [ok2.rho] at hy
              obtain rfl := Option.some.inj hy
              exact (Array.getElem?_eq_some_iff.1 ok2.heap).1
            have hSg' : ¬ S g' := by
              rcases hgw with rfl | rfl
              · exact ok.live hst
              · exact fun hs => Nat.lt_irrefl _ (hR.slt _ hs)
            have hr' : (ρ.set id (g', cap'))[id]? = some (g', cap') := by simp [hidr]
            have hb' : (st.bx.set id { b with cs := b.cs ++ news })[id]? = some { b with cs := b.cs ++ news } := by simp [hidl]
            obtain ⟨R', L⟩ := hR.upd (w' := w') (ρ' := ρ.set id (g', cap')) (bx' := st.bx.set id { b with cs := b.cs ++ news }) (id := id) (g' := g') (go := g) (cap' := cap') (b' := { b with cs := b.cs ++ news }) (cur' := cur')
              hb' hst hr' (fun k hk => ⟨by rw [List.getElem?_set_ne (Ne.symm hk)], by rw [List.getElem?_set_ne (Ne.symm hk)]⟩) (by simp [hR.rho])
              (fun b0 hb0 => .inr (by rw [hb] at hb0; obtain rfl := Option.some.inj hb0; exact ⟨rfl, .inr (by simp only [List.length_append]; omega)⟩))
              hgr.os hgr.tape hgr.output hgr.size (fun k hk _ hk2 => hgr.block k hk (by simp only [Value.ownBlock]; intro e; exact hk2 (Option.some.inj e)))
              hbg hSg' ok.base (ok.live hst) (by simp only [hbe]; exact hg) (by simp only [hsz]; exact hcs) hcm (by simp only [List.length_append]; rw [hbl, hnl, ← Nat.add_mul, hcs]; exact hfit)
              (cells_take hrl2 hone2 (by rw [hxus]; exact htake))
              (fun k b2 y hk hb2 hf2 hy => by
                obtain ⟨q1, q2⟩ := hoth k b2 y hk hb2 hf2 hy
                refine ⟨?_, q1⟩
                rcases hgw with rfl | rfl
                · exact q1
                · omega)
            refine ⟨.value (.slice (some ⟨g', 0, none⟩) (n + m) cap'), .slice (some ⟨g', 0, none⟩) (n + m) cap', w', S, _, by rw [Sem.run_bind, hrun]; rfl, rfl, R', ?_, L⟩
            exact .own _ _ _ _ hb' (by simp only; exact hf) (by simp only [List.length_append]; rw [hsz, hbl, hnl, Nat.add_mul]; exact Nat.le_refl _) rfl (fun _ => ⟨_, _, hr', rfl, hnc⟩)
      · exact absurd h (by simp)
    · exact absurd h (by simp)
  · exact absurd h (by simp)

theorem sim_mk (hR : Rel G nt w0 base S0 S ρ st tmps w) (t e : TypeId) (i : TypeInfo) (z : Value) (ht : P.underlying t = some (.slice e)) (hi : P.info? e = some i) (hz : i.zero = some z) (hzs : z.cells.size = i.size) (h0 : 0 < i.size)
    (h1 : z.cells.all (·.oneCell') = true) (j : Option Nat) (l c : Operand) {av : AV} {st' : St} (h : exI G (.mk j e i.size i.bytes (z.cells.toList.map cV1) (cR l) (cR c)) st = some (av, st')) :
    Sim P G nt w0 base S0 S ρ st tmps w (do pure (.value (← Instr.makeSlice t (Act.eval ⟨tmps, ds⟩ l) (Act.eval ⟨tmps, ds⟩ c)))) av st' := by
  simp only [exI] at h
  have hl := ev_RV (ds := ds) hR l
  have hc := ev_RV (ds := ds) hR c
  generalize Act.eval ⟨tmps, ds⟩ l = vl at hl ⊢
  generalize Act.eval ⟨tmps, ds⟩ c = vc at hc ⊢
  have hone : ∀ u ∈ z.cells.toList, u.oneCell' = true := fun u hu => (Array.all_eq_true_iff_forall_mem.1 h1) u (by simpa using hu)
  split at h
  · rename_i a b e1 e2
    rw [e1] at hl
    rw [e2] at hc
    obtain rfl := hl.int_inv
    obtain rfl := hc.int_inv
    split at h
    · rename_i hq
      obtain ⟨ha, rfl, hby, hmx, hzl⟩ := hq
      simp only [Option.map_eq_some_iff, Prod.mk.injEq] at h
      obtain ⟨⟨id, st1⟩, hn, rfl, rfl⟩ := h
      have hrun := run_make (P := P) w t e i z ht hi hz .i64 .i64 a a ha (Int.le_refl _) (by rw [Int.mul_comm]; omega) (by omega)
      have hrep := made_rep z.cells a.toNat (by omega)
      rw [hzs] at hrep
      have hmade : (madeCells z.cells (a.toNat * i.size)).toList = rep z.cells.toList a.toNat := by
        unfold madeCells; rw [hzs]; exact hrep
      have hsize : (madeCells z.cells (a.toNat * i.size)).size = a.toNat * i.size := size_madeCells _ _
      have hone2 : ∀ u ∈ (madeCells z.cells (a.toNat * i.size)).toList, u.oneCell' = true := by
        rw [hmade]
        intro u hu
        obtain ⟨k, hk⟩ := List.getElem?_of_mem hu
        rw [rep_get] at hk
        split at hk
        · exact hone u (List.mem_of_getElem? hk)
        · cases hk
      obtain ⟨ρ', R', L, hb, hr⟩ := hR.alloc hn rfl (cur := madeCells z.cells (a.toNat * i.size)) (cap := a.toNat) hsize (by simp only [maxLen]; omega)
        (by rw [hsize]; simp only; rw [rep_length]; simp [hzs]) (cells_of_RVL (by rw [hmade]; exact (RVL_cV1 z.cells.toList).rep _) hone2)
      refine ⟨.value (.slice (some ⟨w.heap.size, 0, none⟩) a.toNat a.toNat), .slice (some ⟨w.heap.size, 0, none⟩) a.toNat a.toNat, _, S, ρ', by rw [Sem.run_bind, hrun]; rfl, rfl, R', ?_, L⟩
      exact .own _ _ _ _ hb (by simp) (by simp only; rw [rep_length]; simp [hzs]) rfl (fun _ => ⟨_, _, hr, rfl, Nat.le_refl _⟩)
    · exact absurd h (by simp)
  · exact absurd h (by simp)

/-- A box that is written no more. -/
theorem Rel.freeze (hR : Rel G nt w0 base S0 S ρ st tmps w) {id : Nat} {b : Box} {g cap : Nat} {cur : Array Value} (hb : st.bx[id]? = some b) (hf : b.status ≠ .fresh) (ok : BoxOk w S ρ st.bx base id b g cap cur) :
    Rel G nt w0 base S0 (fun k => S k ∨ k = g) ρ { st with bx := st.bx.set id { b with status := .frozen } } tmps w ∧
    Later w S ρ st.bx w (fun k => S k ∨ k = g) ρ (st.bx.set id { b with status := .frozen }) := by
  have hidl : id < st.bx.length := (List.getElem?_eq_some_iff.1 hb).1
  have hgl : g < w.heap.size := (Array.getElem?_eq_some_iff.1 ok.heap).1
  have hget : ∀ k, (st.bx.set id { b with status := .frozen })[k]? = if k = id then some { b with status := .frozen } else st.bx[k]? := by
    intro k
    rw [List.getElem?_set]
    by_cases hk : id = k
    · subst hk; simp [hidl]
    · simp [hk, Ne.symm hk]
  have L : Later w S ρ st.bx w (fun k => S k ∨ k = g) ρ (st.bx.set id { b with status := .frozen }) := by
    refine ⟨fun _ h => .inl h, fun _ _ => rfl, Nat.le_refl _, fun k b2 hb2 hf2 => ?_⟩
    by_cases hk : k = id
    · subst hk
      rw [hb] at hb2
      obtain rfl := Option.some.inj hb2
      exact ⟨{ b with status := .frozen }, by rw [hget, if_pos rfl], by simp, rfl, .inl ⟨rfl, rfl⟩⟩
    · exact ⟨b2, by rw [hget, if_neg hk]; exact hb2, hf2, rfl, .inl ⟨rfl, rfl⟩⟩
  have nf : ∀ (k : Nat) (b2 : Box), (st.bx.set id { b with status := .frozen })[k]? = some b2 → b2.status ≠ .fresh → ∃ b3, st.bx[k]? = some b3 ∧ b3.status ≠ .fresh := by
    intro k b2 hb2 hf2
    rw [hget] at hb2
    split at hb2
    · rename_i hk; subst hk; exact ⟨b, hb, hf⟩
    · exact ⟨b2, hb2, hf2⟩
  refine ⟨⟨hR.below, hR.baseLe, hR.size, by simp [hR.rho], fun k hk => ?_, fun k hk => hk.elim (hR.sbase k) (fun e => .inr (e ▸ ok.base)), fun k b2 hb2 hf2 => ?_, fun i j bi bj x y hi hj hfi hfj hx hy hij => ?_, fun t => (hR.tm t).later L, fun g => (hR.glob g).later L⟩, L⟩
  · rcases hk with hk | rfl
    · exact hR.slt k hk
    · exact hgl
  · simp only at hb2
    rw [hget] at hb2
    split at hb2
    · rename_i hk
      subst hk
      obtain rfl := Option.some.inj hb2
      refine ⟨g, cap, cur, ok.rho, ok.base, ok.heap, ok.size, ok.cap, ok.fits, fun j c hj => ?_, fun h => (by simp at h), fun _ => .inr rfl⟩
      obtain ⟨v, h1, h2, h3⟩ := ok.cells j c hj
      exact ⟨v, h1, h2, h3.later L⟩
    · rename_i hk
      obtain ⟨g2, cap2, cur2, ok2⟩ := hR.box k b2 hb2 hf2
      refine ⟨g2, cap2, cur2, ok2.rho, ok2.base, ok2.heap, ok2.size, ok2.cap, ok2.fits, fun j c hj => ?_, fun hl hs => ?_, fun hl => .inl (ok2.frozen hl)⟩
      · obtain ⟨v, h1, h2, h3⟩ := ok2.cells j c hj
        exact ⟨v, h1, h2, h3.later L⟩
      · rcases hs with hs | hs
        · exact ok2.live hl hs
        · exact hR.inj k id b2 b _ _ hb2 hb hf2 hf ok2.rho ok.rho hk hs
  · obtain ⟨b1, h1, f1⟩ := nf i bi hi hfi
    obtain ⟨b2, h2, f2⟩ := nf j bj hj hfj
    exact hR.inj i j b1 b2 x y h1 h2 f1 f2 hx hy hij

theorem bound_inv (hR : Rel G nt w0 base S0 S ρ st tmps w) (r : Option Operand) (dflt k : Nat) (h : bound G st dflt (r.map cR) = some k) :
    match r with
    | none => k = dflt
    | some x => ∃ kk, Act.eval ⟨tmps, ds⟩ x = .int kk (k : Int) := by
  cases r with
  | none => simpa [bound] using h.symm
  | some x =>
    simp only [bound, Option.map_some] at h
    have hx := ev_RV (ds := ds) hR x
    split at h
    · rename_i kk n e
      rw [e] at hx
      split at h
      · rename_i hn
        obtain rfl := Option.some.inj h
        exact ⟨kk, by rw [hx.int_inv]; congr 1; omega⟩
      · exact absurd h (by simp)
    · exact absurd h (by simp)

theorem run_sliceBounds (hR : Rel G nt w0 base S0 S ρ st tmps w) (isSlice : Bool) (len cap : Nat) (lo hi : Option Operand) (l h : Nat) (hl : bound G st 0 (lo.map cR) = some l) (hh : bound G st len (hi.map cR) = some h) (h1 : l ≤ h) (h2 : h ≤ cap) :
    (Instr.sliceBounds isSlice len cap (lo.map (Act.eval ⟨tmps, ds⟩)) (hi.map (Act.eval ⟨tmps, ds⟩)) none).run P w = .ok (l, h, cap) w := by
  have b1 := bound_inv (ds := ds) hR lo 0 l hl
  have b2 := bound_inv (ds := ds) hR hi len h hh
  have sb : ∀ (k : IntKind) (a y : Nat) (code : BoundsCode), a ≤ y → (Instr.sliceBound (.int k (a : Int)) y code).run P w = .ok a w := by
    intro k a y code hay
    simp [Instr.sliceBound, asIntOf, hay]
  unfold Instr.sliceBounds
  cases lo with
  | none =>
    simp only at b1
    cases hi with
    | none => simp only at b2; subst b1; subst b2; simp
    | some y => simp only at b2; obtain ⟨k2, e2⟩ := b2; subst b1; simp [e2, sb _ _ _ _ h2]
  | some x =>
    simp only at b1
    obtain ⟨k1, e1⟩ := b1
    cases hi with
    | none => simp only at b2; subst b2; simp [e1, sb _ _ _ _ h1]
    | some y => simp only at b2; obtain ⟨k2, e2⟩ := b2; simp [e1, e2, sb _ _ _ _ h2, sb _ _ _ _ h1]

theorem RVL.seg {bx : List Box} {cs : List AV} {vs : List Value} (h : RVL w S ρ bx cs vs) (o n : Nat) : RVL w S ρ bx ((cs.drop o).take n) ((vs.drop o).take n) := (h.drop o).take n

theorem closedL_RVL {bx : List Box} {cs : List AV} {vs : List Value} (h : RVL w S ρ bx cs vs) (hc : AV.closedL cs = true) (T : Nat → Prop) (ρ' : List (Nat × Nat)) (bx' : List Box) (hT : ∀ g, S g → T g) : RVL w T ρ' bx' cs vs :=
  ⟨h.1, fun j c v h1 h2 => (h.2 j c v h1 h2).closed (closedL_get hc h1) T ρ' bx' hT⟩

/-- A persistent slice out of cells that are persistent. -/
theorem lst_mk {T : Nat → Prop} {bx : List Box} {n cap : Nat} {a : Addr} {cs : List AV} {vs : List Value} (hn : n ≤ cap) (hm : cap ≤ maxLen) (hrl : RVL w T ρ bx cs vs)
    (hT : cs ≠ [] → T a.block) (hc : ∀ (j : Nat) (u : Value), vs[j]? = some u → w.cell? (a.add j) = some u) : RV w T ρ bx (.lst n cs) (.slice (some a) n cap) :=
  .lst n cap (some a) cs vs hrl.1 hn hm (fun j v hj => ⟨a, rfl, hT (by rintro rfl; have := hrl.1; simp at this; subst this; simp at hj), hc j v hj⟩) hrl.2

theorem sim_slc (hR : Rel G nt w0 base S0 S ρ st tmps w) (t e : TypeId) (i : TypeInfo) (ht : P.underlying t = some (.slice e)) (hi : P.info? e = some i) (x : Operand) (lo hi' : Option Operand) {av : AV} {st' : St}
    (h : exI G (.slc i.size (cR x) (lo.map cR) (hi'.map cR)) st = some (av, st')) :
    Sim P G nt w0 base S0 S ρ st tmps w (do pure (.value (← Instr.sliceAt t (Act.eval ⟨tmps, ds⟩ x) (lo.map (Act.eval ⟨tmps, ds⟩)) (hi'.map (Act.eval ⟨tmps, ds⟩)) none))) av st' := by
  simp only [exI] at h
  have hx := ev_RV (ds := ds) hR x
  generalize Act.eval ⟨tmps, ds⟩ x = vx at hx ⊢
  have fin : ∀ (ao : Option Addr) (n cap l hh : Nat), (Instr.sliceBounds true n cap (lo.map (Act.eval ⟨tmps, ds⟩)) (hi'.map (Act.eval ⟨tmps, ds⟩)) none).run P w = .ok (l, hh, cap) w →
      (do pure (Next.value (← Instr.sliceAt t (.slice ao n cap) (lo.map (Act.eval ⟨tmps, ds⟩)) (hi'.map (Act.eval ⟨tmps, ds⟩)) none)) : Sem Next).run P w =
        .ok (.value (.slice (if cap = l then ao else ao.map (·.add (l * i.size))) (hh - l) (cap - l))) w := by
    intro ao n cap l hh hb
    simp [Instr.sliceAt, Instr.slice, run_underlying ht, run_sizeOf' hi, hb]
  split at h
  case h_1 => exact absurd h (by simp)
  rename_i l hl
  split at h
  · rename_i e1
    rw [e1] at hx
    obtain rfl := hx.nil_inv
    split at h
    · rename_i hc
      obtain ⟨rfl, h0⟩ := hc
      simp only [Option.some.injEq, Prod.mk.injEq] at h
      obtain ⟨rfl, rfl⟩ := h
      have hb := run_sliceBounds (P := P) (ds := ds) hR true 0 0 lo hi' 0 0 hl h0 (Nat.le_refl _) (Nat.le_refl _)
      exact sim_same hR (fin none 0 0 0 0 hb) .nil
    · exact absurd h (by simp)
  · rename_i n cs e1
    rw [e1] at hx
    split at h
    · rename_i hh hhi
      split at h
      · rename_i hc
        simp only [Option.some.injEq, Prod.mk.injEq] at h
        obtain ⟨rfl, rfl⟩ := h
        cases hx with
        | lst n cap ao cs vs hlv hn hm hcell hr =>
          have hb := run_sliceBounds (P := P) (ds := ds) hR true n cap lo hi' l hh hl hhi hc.1 (by omega)
          refine sim_same hR (fin ao n cap l hh hb) ?_
          have hrl : RVL w S ρ st.bx cs vs := ⟨hlv, hr⟩
          refine .lst _ _ _ _ ((vs.drop (l * i.size)).take ((hh - l) * i.size)) (hrl.seg _ _).1 (by omega) (by omega) (fun j v hj => ?_) (hrl.seg _ _).2
          rw [List.getElem?_take] at hj
          split at hj
          · rename_i hjl
            rw [List.getElem?_drop] at hj
            obtain ⟨a, rfl, hs, hcl⟩ := hcell _ _ hj
            have hne : ¬ cap = l := by
              intro e
              have : hh - l = 0 := by omega
              rw [this] at hjl
              simp at hjl
            rw [if_neg hne]
            exact ⟨_, rfl, by rw [Addr.add_block]; exact hs, by rw [Addr.add_add]; exact hcl⟩
          · cases hj
      · exact absurd h (by simp)
    · exact absurd h (by simp)
  · rename_i id n e1
    rw [e1] at hx
    split at h
    · rename_i hh b hhi hb0
      split at h
      · rename_i hc
        obtain ⟨h1, h2, hf, hlen, hsz, hcl⟩ := hc
        simp only [Option.some.injEq, Prod.mk.injEq] at h
        obtain ⟨rfl, rfl⟩ := h
        obtain ⟨g, cap, cur, ok, rfl, hn⟩ := own_inv hR hx hb0 hf hlen
        have hb := run_sliceBounds (P := P) (ds := ds) hR true n cap lo hi' l hh hl hhi h1 (by omega)
        obtain ⟨R', L⟩ := hR.freeze hb0 hf ok
        obtain ⟨s1, s2⟩ := ok.shown
        refine ⟨_, _, w, _, ρ, fin _ n cap l hh hb, rfl, R', ?_, L⟩
        have s3 := (closedL_RVL s1 hcl (fun k => S k ∨ k = g) ρ (st.bx.set id { b with status := .frozen }) (fun _ h => .inl h)).seg (l * i.size) ((hh - l) * i.size)
        have hcm := ok.cap
        by_cases hcap : cap = l
        · have h0 : hh - l = 0 := by omega
          have e0 : (b.cs.drop (l * i.size)).take ((hh - l) * i.size) = [] := by rw [h0]; simp
          rw [e0, h0]
          exact .lst _ _ _ [] [] rfl (by omega) (by omega) (fun j v hj => by simp at hj) (fun j c v hj => by simp at hj)
        · rw [if_neg hcap]
          refine lst_mk (by omega) (by omega) s3 (fun _ => .inr (by rw [Addr.add_block])) (fun j u hj => ?_)
          rw [List.getElem?_take] at hj
          split at hj
          · rw [List.getElem?_drop] at hj
            rw [Addr.add_add, add_row, Nat.zero_add]
            exact s2 _ u hj
          · cases hj
      · exact absurd h (by simp)
    · exact absurd h (by simp)
  · exact absurd h (by simp)

theorem sim_slca (hR : Rel G nt w0 base S0 S ρ st tmps w) (t e : TypeId) (n : Nat) (i : TypeInfo) (ht : P.underlying t = some (.array n e)) (hi : P.info? e = some i) (x : Operand) (lo hi' : Option Operand) {av : AV} {st' : St}
    (h : exI G (.slca n i.size (cR x) (lo.map cR) (hi'.map cR)) st = some (av, st')) :
    Sim P G nt w0 base S0 S ρ st tmps w (do pure (.value (← Instr.sliceAt t (Act.eval ⟨tmps, ds⟩ x) (lo.map (Act.eval ⟨tmps, ds⟩)) (hi'.map (Act.eval ⟨tmps, ds⟩)) none))) av st' := by
  simp only [exI] at h
  have hx := ev_RV (ds := ds) hR x
  generalize Act.eval ⟨tmps, ds⟩ x = vx at hx ⊢
  split at h
  case h_2 => exact absurd h (by simp)
  rename_i l hh hl hhi
  split at h
  · rename_i id len off e1
    rw [e1] at hx
    split at h
    · rename_i b hb0
      split at h
      · rename_i hc
        obtain ⟨h1, h2, hf, hlen, hfit, hnm, hcl⟩ := hc
        simp only [Option.some.injEq, Prod.mk.injEq] at h
        obtain ⟨rfl, rfl⟩ := h
        obtain ⟨g, cap, cur, ok, rfl⟩ := ptr_inv hR hx hb0 hf hlen
        have hb := run_sliceBounds (P := P) (ds := ds) hR false n n lo hi' l hh hl hhi h1 h2
        obtain ⟨R', L⟩ := hR.freeze hb0 hf ok
        obtain ⟨s1, s2⟩ := ok.shown
        have s3 := (closedL_RVL s1 hcl (fun k => S k ∨ k = g) ρ (st.bx.set id { b with status := .frozen }) (fun _ h => .inl h)).seg (off + l * i.size) ((hh - l) * i.size)
        refine ⟨.value (.slice (some (if n = l then ⟨g, off, none⟩ else (⟨g, off, none⟩ : Addr).add (l * i.size))) (hh - l) (n - l)), _, w, _, ρ, ?_, rfl, R', ?_, L⟩
        · simp [Instr.sliceAt, run_underlying ht, run_sizeOf' hi, hb, Instr.sureAddr]
        · by_cases hcap : n = l
          · have h0 : hh - l = 0 := by omega
            have e0 : (b.cs.drop (off + l * i.size)).take ((hh - l) * i.size) = [] := by rw [h0]; simp
            rw [e0, h0]
            exact .lst _ _ _ [] [] rfl (by omega) (by simp only [maxLen]; omega) (fun j v hj => by simp at hj) (fun j c v hj => by simp at hj)
          · rw [if_neg hcap]
            refine lst_mk (by omega) (by simp only [maxLen]; omega) s3 (fun _ => .inr (by rw [Addr.add_block])) (fun j u hj => ?_)
            rw [List.getElem?_take] at hj
            split at hj
            · rw [List.getElem?_drop] at hj
              rw [Addr.add_add, add_row]
              have := s2 _ u hj
              rw [← this]
              congr 2
              omega
            · cases hj
      · exact absurd h (by simp)
    · exact absurd h (by simp)
  · exact absurd h (by simp)
end

end Go.Am

