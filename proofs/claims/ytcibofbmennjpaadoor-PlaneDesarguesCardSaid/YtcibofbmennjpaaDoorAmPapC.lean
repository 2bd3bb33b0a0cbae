/- Joins, crossings and rows of the planes up to order 5, on the machine. -/
import Derived.Test.YtcibofbmennjpaaDoorAmFdH
import Derived.Test.YtcibofbmennjpaaDoorAmGeo
import Derived.Test.YtcibofbmennjpaaDoorAmBose
import Derived.Test.YtcibofbmennjpaaDoorAmPl15
set_option linter.unusedVariables false
set_option linter.unusedSimpArgs false
namespace Go.Am

theorem PQ.geo {q n : Nat} {rows : List (List Int)} (h : PQ q n rows) : ∃ T P, GeoAll q n rows T P := by
  cases h
  · exact ⟨T2, P2, geoAll2⟩
  · exact ⟨T3, P3, geoAll3⟩
  · exact ⟨T4, P4, geoAll4⟩
  · exact ⟨T5, P5, geoAll5⟩

section
variable {q n T P : Nat} {rows : List (List Int)}
theorem PQ.pp (hp : PQ q n rows) : PP n n fun i => rows.getD i [] := by
  obtain ⟨hg, hP⟩ := hp.planeL.planeP
  have h := hP.pp hg
  have hR : (Des.mk n (rowsO rows)).rows.length = n := by rw [rowsO_len, hp.rows_len]
  rw [hR] at h
  have e : (Des.mk n (rowsO rows)).rw = fun i => rows.getD i [] := by funext i; exact rowsO_rw n rows i
  rw [e] at h
  exact h
theorem jn_uniq (hp : PQ q n rows) (g : GeoAll q n rows T P) {a b i : Nat} (ha : a < n) (hb : b < n) (hne : a ≠ b) (hi : i < n) (h1 : (a : Int) ∈ rows.getD i []) (h2 : (b : Int) ∈ rows.getD i []) : i = jn T a b := by
  obtain ⟨m1, m2⟩ := g.geo.jmem a ha b hb hne
  exact hp.pp.uj a b (by omega) i (jn T a b) hi (g.geo.jlt a ha b hb hne) h1 h2 m1 m2
theorem mt_uniq (hp : PQ q n rows) (g : GeoAll q n rows T P) {l m : Nat} (hl : l < n) (hm : m < n) (hne : l ≠ m) {x : Int} (h1 : x ∈ rows.getD l []) (h2 : x ∈ rows.getD m []) : x = (jn T l m : Nat) := by
  obtain ⟨m1, m2⟩ := g.geo.mmem l hl m hm hne
  apply Classical.byContradiction
  intro h
  exact hne (hp.pp.uj x _ h l m hl hm h1 m1 h2 m2)

theorem pD_len (hp : PQ q n rows) : (pD n rows).rows.length = n := by unfold pD; rw [rowsO_len, hp.rows_len]
theorem pD_row (i : Nat) : (((pD n rows).rows.getD i none).getD []) = rows.getD i [] := rowsO_rw n rows i

theorem Join_any (hp : PQ q n rows) (g : GeoAll q n rows T P) (p r : Int) : ∃ c e, pcall tabD (E GP tabD) 33 [(pD n rows).av, .int .i64 p, .int .i64 r] = some (.val (.tup [.int .i64 c, .int .i64 e]), false) ∧
    ((e ≠ 0 ∧ (p < 0 ∨ (n : Int) ≤ p ∨ r < 0 ∨ (n : Int) ≤ r ∨ p = r)) ∨ (e = 0 ∧ ∃ a b : Nat, p = a ∧ r = b ∧ a < n ∧ b < n ∧ a ≠ b ∧ c = (jn T a b : Nat))) := by
  obtain ⟨v, hv, c, e, rfl, o, f, hord, hh⟩ := Join_spec (G := GP) tabD_Tbl (pD n rows) hp.ok p r
  obtain ⟨_, rfl⟩ := hord.one hp.ord
  refine ⟨c, e, hv, ?_⟩
  rcases hh with ⟨h, _⟩ | ⟨_, hh⟩
  · exact absurd rfl h
  have hpts : (pD n rows).points = n := rfl
  have hlen := pD_len hp
  have key : ¬ (p < 0 ∨ (n : Int) ≤ p ∨ r < 0 ∨ (n : Int) ≤ r) → p ≠ r → ∃ a b : Nat, p = a ∧ r = b ∧ a < n ∧ b < n ∧ a ≠ b := fun h1 h2 => ⟨p.toNat, r.toNat, by omega, by omega, by omega, by omega, by omega⟩
  rcases hh with ⟨h1, _, rfl⟩ | ⟨_, h2, _, rfl⟩ | ⟨h1, h2, h3⟩
  · rw [hpts] at h1; exact .inl ⟨by decide, by omega⟩
  · exact .inl ⟨by decide, by omega⟩
  · rw [hpts] at h1
    obtain ⟨a, b, rfl, rfl, ha, hb, hne⟩ := key h1 h2
    refine .inr ?_
    rcases h3 with ⟨i, hi, rfl, rfl, ⟨m1, m2⟩, _⟩ | ⟨_, _, h4⟩
    · rw [hlen] at hi
      rw [pD_row] at m1 m2
      exact ⟨rfl, a, b, rfl, rfl, ha, hb, hne, by rw [← jn_uniq hp g ha hb hne hi m1 m2]⟩
    · obtain ⟨m1, m2⟩ := g.geo.jmem a ha b hb hne
      exact absurd ⟨by rw [pD_row]; exact m1, by rw [pD_row]; exact m2⟩ (h4 (jn T a b) (by rw [hlen]; exact g.geo.jlt a ha b hb hne))
theorem Meet_any (hp : PQ q n rows) (g : GeoAll q n rows T P) (p r : Int) : ∃ c e, pcall tabD (E GP tabD) 30 [(pD n rows).av, .int .i64 p, .int .i64 r] = some (.val (.tup [.int .i64 c, .int .i64 e]), false) ∧
    ((e ≠ 0 ∧ (p < 0 ∨ (n : Int) ≤ p ∨ r < 0 ∨ (n : Int) ≤ r ∨ p = r)) ∨ (e = 0 ∧ ∃ a b : Nat, p = a ∧ r = b ∧ a < n ∧ b < n ∧ a ≠ b ∧ c = (jn T a b : Nat))) := by
  obtain ⟨v, hv, c, e, rfl, o, f, hord, hh⟩ := Meet_spec (G := GP) tabD_Tbl (pD n rows) hp.ok p r
  obtain ⟨_, rfl⟩ := hord.one hp.ord
  refine ⟨c, e, hv, ?_⟩
  rcases hh with ⟨h, _⟩ | ⟨_, hh⟩
  · exact absurd rfl h
  have hlen := pD_len hp
  have key : ¬ (p < 0 ∨ (n : Int) ≤ p ∨ r < 0 ∨ (n : Int) ≤ r) → p ≠ r → ∃ a b : Nat, p = a ∧ r = b ∧ a < n ∧ b < n ∧ a ≠ b := fun h1 h2 => ⟨p.toNat, r.toNat, by omega, by omega, by omega, by omega, by omega⟩
  rcases hh with ⟨h1, _, rfl⟩ | ⟨_, h2, _, rfl⟩ | ⟨h1, h2, h3⟩
  · rw [hlen] at h1; exact .inl ⟨by decide, by omega⟩
  · exact .inl ⟨by decide, by omega⟩
  · rw [hlen] at h1
    obtain ⟨a, b, rfl, rfl, ha, hb, hne⟩ := key h1 h2
    have ra : (pD n rows).row (a : Int) = rows.getD a [] := pD_row a
    have rb : (pD n rows).row (b : Int) = rows.getD b [] := pD_row b
    rw [ra, rb] at h3
    refine .inr ?_
    rcases h3 with ⟨i, hi, rfl, rfl, m2, _⟩ | ⟨_, _, h4⟩
    · exact ⟨rfl, a, b, rfl, rfl, ha, hb, hne, mt_uniq hp g ha hb hne (getD_mem hi) m2⟩
    · obtain ⟨m1, m2⟩ := g.geo.mmem a ha b hb hne
      obtain ⟨j, hj, e⟩ := List.mem_iff_getElem.1 m1
      have e2 : ∀ (r : List Int) (hj : j < r.length), r.getD j 0 = r[j] := fun r hj => by rw [List.getD_eq_getElem?_getD, List.getElem?_eq_getElem hj]; rfl
      refine absurd ?_ (h4 j hj)
      rw [e2 _ hj, e]
      exact m2
theorem Join_lit (hp : PQ q n rows) (g : GeoAll q n rows T P) {a b : Nat} (ha : a < n) (hb : b < n) (hne : a ≠ b) : pcall tabD (E GP tabD) 33 [(pD n rows).av, .int .i64 a, .int .i64 b] = some (.val (.tup [.int .i64 (jn T a b : Nat), .int .i64 0]), false) := by
  obtain ⟨c, e, h, h1⟩ := Join_any hp g a b
  rcases h1 with ⟨_, h1⟩ | ⟨rfl, a', b', ea, eb, _, _, _, rfl⟩
  · exfalso; omega
  · rw [h, show a' = a by omega, show b' = b by omega]
theorem Meet_lit (hp : PQ q n rows) (g : GeoAll q n rows T P) {a b : Nat} (ha : a < n) (hb : b < n) (hne : a ≠ b) : pcall tabD (E GP tabD) 30 [(pD n rows).av, .int .i64 a, .int .i64 b] = some (.val (.tup [.int .i64 (jn T a b : Nat), .int .i64 0]), false) := by
  obtain ⟨c, e, h, h1⟩ := Meet_any hp g a b
  rcases h1 with ⟨_, h1⟩ | ⟨rfl, a', b', ea, eb, _, _, _, rfl⟩
  · exfalso; omega
  · rw [h, show a' = a by omega, show b' = b by omega]

theorem doCall_5 {F : Nat → Option MF} {rec : Rec} {f : Nat} {a b c d e : AV} {st : St} (h1 : Plain a) (h2 : Plain b) (h3 : Plain c) (h4 : Plain d) (h5 : Plain e) : doCall F rec .pureV f [a, b, c, d, e] st = callV (pcall F rec f [a, b, c, d, e]) st := doCall_plain (by simp) (by simp [h1, h2, h3, h4, h5])
theorem doCall_4 {F : Nat → Option MF} {rec : Rec} {f : Nat} {a b c d : AV} {st : St} (h1 : Plain a) (h2 : Plain b) (h3 : Plain c) (h4 : Plain d) : doCall F rec .pureV f [a, b, c, d] st = callV (pcall F rec f [a, b, c, d]) st := doCall_plain (by simp) (by simp [h1, h2, h3, h4])

theorem cross_lit (hp : PQ q n rows) (g : GeoAll q n rows T P) {a b x y : Nat} (ha : a < n) (hb : b < n) (hx : x < n) (hy : y < n) (hab : a ≠ b) (hxy : x ≠ y) (hne : jn T a b ≠ jn T x y) :
    pcall tabD (E GP tabD) 31 [(pD n rows).av, .int .i64 a, .int .i64 b, .int .i64 x, .int .i64 y] = some (.val (.int .i64 (jn T (jn T a b) (jn T x y) : Nat)), false) := by
  have j1 := Join_lit hp g ha hb hab
  have j2 := Join_lit hp g hx hy hxy
  have j3 := Meet_lit hp g (g.geo.jlt a ha b hb hab) (g.geo.jlt x hx y hy hxy) hne
  generalize pD n rows = d at *
  have c1 : ∀ st, doCall tabD (E GP tabD) .pureV 33 [d.av, .int .i64 a, .int .i64 b] st = some (.tup [.int .i64 (jn T a b : Nat), .int .i64 0], st) := fun st => by
    rw [doCall_plain3 (plain_des d) (plain_int _ _) (plain_int _ _), j1]; rfl
  have c2 : ∀ st, doCall tabD (E GP tabD) .pureV 33 [d.av, .int .i64 x, .int .i64 y] st = some (.tup [.int .i64 (jn T x y : Nat), .int .i64 0], st) := fun st => by
    rw [doCall_plain3 (plain_des d) (plain_int _ _) (plain_int _ _), j2]; rfl
  have c3 : ∀ st, doCall tabD (E GP tabD) .pureV 30 [d.av, .int .i64 (jn T a b : Nat), .int .i64 (jn T x y : Nat)] st = some (.tup [.int .i64 (jn T (jn T a b) (jn T x y) : Nat), .int .i64 0], st) := fun st => by
    rw [doCall_plain3 (plain_des d) (plain_int _ _) (plain_int _ _), j3]; rfl
  have hdc : d.av.cells = d.cells := rfl
  have hd1 := d.cells_one
  have hd2 : d.cells.length = 2 := rfl
  have hda : AV.agg d.cells = d.av := rfl
  have hH : ∀ x, Has (⟨d.cells, 2, 39, .live⟩ :: x) 0 d.cells := fun x => ⟨_, rfl, rfl, by simp⟩
  have hldn := fun x tm rb => (hH x).ldn tm rb 2 rfl
  have x0 : ∀ (a b : AV), [a, b][0]? = some a := fun _ _ => rfl
  have x1 : ∀ (a b : AV), [a, b][1]? = some b := fun _ _ => rfl
  refine pcall_val (F := tabD) (mf := mf31) rfl (v := .int .i64 (jn T (jn T a b) (jn T x y) : Nat)) (fun _ _ h => by cases h) ?_ (fun _ => rfl) (fun _ => rfl)
  unfold mf31
  simp only
  repeat' first
    | refine W_seq ?_
    | refine W_skip ?_
    | refine W_exit ?_
    | refine W_ret ?_
    | refine W_block ?_
    | (refine W_ops (by simp (maxSteps := 1000000) (disch := first | decide | omega | assumption | exact plain_int _ _ | exact plain_ints _ | exact plain_bool _ | exact one_int _ _ | exact plain_des _ | exact plain_rows _) only [AM, initTm, Nat.reduceAdd, Nat.reduceEqDiff, reduceCtorEq, run_aaddr, run_stn, run_bld, bldV_nil, hdc, hd1, hd2, hda, run_ldn, hldn, c1, c2, c3, x0, x1, bne_self_eq_false, List.length_cons, List.length_nil]; rfl) ?_)
    | (refine W_cond (by simp (maxSteps := 1000000) (disch := first | decide | omega | assumption | exact plain_int _ _ | exact plain_ints _ | exact plain_bool _ | exact one_int _ _ | exact plain_des _ | exact plain_rows _) only [AM, initTm, Nat.reduceAdd, Nat.reduceEqDiff, reduceCtorEq, run_aaddr, run_stn, run_bld, bldV_nil, hdc, hd1, hd2, hda, run_ldn, hldn, c1, c2, c3, x0, x1, bne_self_eq_false, List.length_cons, List.length_nil]; rfl) ?_ ?_ <;> intro hcond <;> (try simp only [decide_eq_true_eq, decide_eq_false_iff_not, beq_iff_eq, beq_eq_false_iff_ne, ne_eq, reduceCtorEq, Bool.not_eq_true', Bool.not_eq_false', bne_iff_ne, bne_eq_false_iff_eq] at hcond) <;> (try (exfalso; omega)))
    | refine thenQ_n ?_
    | refine thenQ_e ?_
    | refine thenQ_r ?_
    | refine outQ_n ?_
    | refine outQ_r ?_
    | refine outQ_e ?_
    | refine outQ_d (by decide) ?_
  refine ⟨.inr rfl, [_], rfl, ?_⟩
  rw [tuple_one]
  simp (maxSteps := 1000000) (disch := first | decide | omega | assumption | exact plain_int _ _ | exact plain_ints _ | exact plain_bool _ | exact one_int _ _ | exact plain_des _ | exact plain_rows _) only [AM, initTm, Nat.reduceAdd, Nat.reduceEqDiff, reduceCtorEq, run_aaddr, run_stn, run_bld, bldV_nil]
end

section
variable {G : Nat → List AV} {F : Nat → Option MF} {rec : Rec}
theorem inLine_spec (hF : F 32 = some mf32) (hL : F 25 = some mf25) (d : Des) (hd : d.Ok) (a b c : Int) :
    ∃ v, pcall F (E G F) 32 [d.av, .int .i64 a, .int .i64 b, .int .i64 c] = some (.val v, false) ∧ ∃ r, v = .bool r ∧ (r = true ↔ ∃ i, i < d.rows.length ∧ a ∈ (d.rows.getD i none).getD [] ∧ b ∈ (d.rows.getD i none).getD [] ∧ c ∈ (d.rows.getD i none).getD []) := by
  have hH : Has [⟨d.cells, 2, 39, .live⟩] 0 d.cells := Has.new _ _ _
  have hfa := fun tm rb o off => hH.faddr tm rb 2 o off rfl
  have hld := fun tm rb off => hH.ld1 tm rb 2 off rfl
  have hdn := hd.n
  refine pcall_ex hF (fun v ⟨r, e, _⟩ => e ▸ ⟨fun _ _ h => (by cases h), fun _ => rfl, fun _ => rfl⟩) ?_
  unfold mf32
  simp only
  repeat' first
    | refine W_seq ?_
    | refine W_skip ?_
    | refine W_exit ?_
    | refine W_ret ?_
    | refine W_block ?_
    | (refine W_ops (by simp (maxSteps := 1000000) (disch := first | decide | omega | assumption | exact plain_int _ _ | exact plain_ints _ | exact plain_bool _ | exact one_int _ _ | exact plain_des _ | exact plain_rows _) only [AM, initTm, Nat.reduceAdd, Nat.reduceEqDiff, reduceCtorEq, run_aaddr, run_stn, run_bld, bldV_nil, hfa, hld]; rfl) ?_)
    | (refine W_cond (by simp (maxSteps := 1000000) (disch := first | decide | omega | assumption | exact plain_int _ _ | exact plain_ints _ | exact plain_bool _ | exact one_int _ _ | exact plain_des _ | exact plain_rows _) only [AM, initTm, Nat.reduceAdd, Nat.reduceEqDiff, reduceCtorEq, run_aaddr, run_stn, run_bld, bldV_nil, hfa, hld]; rfl) ?_ ?_ <;> intro hcond <;> (try simp only [decide_eq_true_eq, decide_eq_false_iff_not, beq_iff_eq, beq_eq_false_iff_ne, ne_eq, reduceCtorEq, Bool.not_eq_true', Bool.not_eq_false', bne_iff_ne, bne_eq_false_iff_eq] at hcond) <;> (try (exfalso; omega)))
    | refine thenQ_n ?_
    | refine thenQ_e ?_
    | refine thenQ_r ?_
    | refine outQ_n ?_
    | refine outQ_r ?_
    | refine outQ_e ?_
    | refine outQ_d (by decide) ?_
  refine W_loop (k := d.rows.length) (fun k s => ∃ (i : Nat) (tm : Tm), s = ⟨tm, [⟨d.cells, 2, 39, .live⟩], 0⟩ ∧ tm.get 1 = .int .i64 a ∧ tm.get 2 = .int .i64 b ∧ tm.get 3 = .int .i64 c ∧ tm.get 4 = .ptr 0 2 0 ∧ tm.get 9 = .int .i64 i ∧ i ≤ d.rows.length ∧ k = d.rows.length - i ∧ ∀ j, j < i → ¬ (a ∈ (d.rows.getD j none).getD [] ∧ b ∈ (d.rows.getD j none).getD [] ∧ c ∈ (d.rows.getD j none).getD [])) ⟨0, _, rfl, by simp (maxSteps := 1000000) (disch := first | decide | omega | assumption | exact plain_int _ _ | exact plain_ints _ | exact plain_bool _ | exact one_int _ _ | exact plain_des _ | exact plain_rows _) only [AM, initTm, Nat.reduceAdd, Nat.reduceEqDiff, reduceCtorEq, run_aaddr, run_stn, run_bld, bldV_nil], by simp (maxSteps := 1000000) (disch := first | decide | omega | assumption | exact plain_int _ _ | exact plain_ints _ | exact plain_bool _ | exact one_int _ _ | exact plain_des _ | exact plain_rows _) only [AM, initTm, Nat.reduceAdd, Nat.reduceEqDiff, reduceCtorEq, run_aaddr, run_stn, run_bld, bldV_nil], by simp (maxSteps := 1000000) (disch := first | decide | omega | assumption | exact plain_int _ _ | exact plain_ints _ | exact plain_bool _ | exact one_int _ _ | exact plain_des _ | exact plain_rows _) only [AM, initTm, Nat.reduceAdd, Nat.reduceEqDiff, reduceCtorEq, run_aaddr, run_stn, run_bld, bldV_nil], by simp (maxSteps := 1000000) (disch := first | decide | omega | assumption | exact plain_int _ _ | exact plain_ints _ | exact plain_bool _ | exact one_int _ _ | exact plain_des _ | exact plain_rows _) only [AM, initTm, Nat.reduceAdd, Nat.reduceEqDiff, reduceCtorEq, run_aaddr, run_stn, run_bld, bldV_nil], by simp (maxSteps := 1000000) (disch := first | decide | omega | assumption | exact plain_int _ _ | exact plain_ints _ | exact plain_bool _ | exact one_int _ _ | exact plain_des _ | exact plain_rows _) only [AM, initTm, Nat.reduceAdd, Nat.reduceEqDiff, reduceCtorEq, run_aaddr, run_stn, run_bld, bldV_nil]; rfl, Nat.zero_le _, rfl, fun j hj => by omega⟩ ?_
  rintro k s ⟨i, tm, rfl, g1, g2, g3, g4, g9, hi, rfl, hx⟩
  have hla := Lies_spec (G := G) hL (d.rows.getD i none) a (hd.r i)
  have hlb := Lies_spec (G := G) hL (d.rows.getD i none) b (hd.r i)
  have hlc := Lies_spec (G := G) hL (d.rows.getD i none) c (hd.r i)
  by_cases hlt : (i : Int) < (d.rows.length : Int)
  · by_cases ha : a ∈ (d.rows.getD i none).getD []
    · by_cases hb : b ∈ (d.rows.getD i none).getD []
      · by_cases hc : c ∈ (d.rows.getD i none).getD []
        · repeat' first
            | refine W_seq ?_
            | refine W_skip ?_
            | refine W_exit ?_
            | refine W_ret ?_
            | refine W_block ?_
            | (refine W_ops (by simp (maxSteps := 1000000) (disch := first | decide | omega | assumption | exact plain_int _ _ | exact plain_ints _ | exact plain_bool _ | exact one_int _ _ | exact plain_des _ | exact plain_rows _) only [AM, initTm, Nat.reduceAdd, Nat.reduceEqDiff, reduceCtorEq, run_aaddr, run_stn, run_bld, bldV_nil, g1, g2, g3, g4, g9, hfa, hld, hlt, hla, hlb, hlc, ha, hb, hc]; rfl) ?_)
            | (refine W_cond (by simp (maxSteps := 1000000) (disch := first | decide | omega | assumption | exact plain_int _ _ | exact plain_ints _ | exact plain_bool _ | exact one_int _ _ | exact plain_des _ | exact plain_rows _) only [AM, initTm, Nat.reduceAdd, Nat.reduceEqDiff, reduceCtorEq, run_aaddr, run_stn, run_bld, bldV_nil, g1, g2, g3, g4, g9, hfa, hld, hlt, hla, hlb, hlc, ha, hb, hc]; rfl) ?_ ?_ <;> intro hcond <;> (try simp only [decide_eq_true_eq, decide_eq_false_iff_not, beq_iff_eq, beq_eq_false_iff_ne, ne_eq, reduceCtorEq, Bool.not_eq_true', Bool.not_eq_false', bne_iff_ne, bne_eq_false_iff_eq] at hcond) <;> (try (exfalso; omega)))
            | refine thenQ_n ?_
            | refine thenQ_e ?_
            | refine thenQ_r ?_
            | refine outQ_n ?_
            | refine outQ_r ?_
            | refine outQ_e ?_
            | refine outQ_d (by decide) ?_
          refine ⟨.inr rfl, [_], rfl, true, ?_, ?_⟩
          · rw [tuple_one]; simp (maxSteps := 1000000) (disch := first | decide | omega | assumption | exact plain_int _ _ | exact plain_ints _ | exact plain_bool _ | exact one_int _ _ | exact plain_des _ | exact plain_rows _) only [AM, initTm, Nat.reduceAdd, Nat.reduceEqDiff, reduceCtorEq, run_aaddr, run_stn, run_bld, bldV_nil]
          · exact ⟨fun _ => ⟨i, by omega, ha, hb, hc⟩, fun _ => rfl⟩
        · repeat' first
            | refine W_seq ?_
            | refine W_skip ?_
            | refine W_exit ?_
            | refine W_ret ?_
            | refine W_block ?_
            | (refine W_ops (by simp (maxSteps := 1000000) (disch := first | decide | omega | assumption | exact plain_int _ _ | exact plain_ints _ | exact plain_bool _ | exact one_int _ _ | exact plain_des _ | exact plain_rows _) only [AM, initTm, Nat.reduceAdd, Nat.reduceEqDiff, reduceCtorEq, run_aaddr, run_stn, run_bld, bldV_nil, g1, g2, g3, g4, g9, hfa, hld, hlt, hla, hlb, hlc, ha, hb, hc]; rfl) ?_)
            | (refine W_cond (by simp (maxSteps := 1000000) (disch := first | decide | omega | assumption | exact plain_int _ _ | exact plain_ints _ | exact plain_bool _ | exact one_int _ _ | exact plain_des _ | exact plain_rows _) only [AM, initTm, Nat.reduceAdd, Nat.reduceEqDiff, reduceCtorEq, run_aaddr, run_stn, run_bld, bldV_nil, g1, g2, g3, g4, g9, hfa, hld, hlt, hla, hlb, hlc, ha, hb, hc]; rfl) ?_ ?_ <;> intro hcond <;> (try simp only [decide_eq_true_eq, decide_eq_false_iff_not, beq_iff_eq, beq_eq_false_iff_ne, ne_eq, reduceCtorEq, Bool.not_eq_true', Bool.not_eq_false', bne_iff_ne, bne_eq_false_iff_eq] at hcond) <;> (try (exfalso; omega)))
            | refine thenQ_n ?_
            | refine thenQ_e ?_
            | refine thenQ_r ?_
            | refine outQ_n ?_
            | refine outQ_r ?_
            | refine outQ_e ?_
            | refine outQ_d (by decide) ?_
          exact ⟨d.rows.length - (i + 1), by omega, i + 1, _, rfl, by simp (maxSteps := 1000000) (disch := first | decide | omega | assumption | exact plain_int _ _ | exact plain_ints _ | exact plain_bool _ | exact one_int _ _ | exact plain_des _ | exact plain_rows _) only [AM, initTm, Nat.reduceAdd, Nat.reduceEqDiff, reduceCtorEq, run_aaddr, run_stn, run_bld, bldV_nil, g1], by simp (maxSteps := 1000000) (disch := first | decide | omega | assumption | exact plain_int _ _ | exact plain_ints _ | exact plain_bool _ | exact one_int _ _ | exact plain_des _ | exact plain_rows _) only [AM, initTm, Nat.reduceAdd, Nat.reduceEqDiff, reduceCtorEq, run_aaddr, run_stn, run_bld, bldV_nil, g2], by simp (maxSteps := 1000000) (disch := first | decide | omega | assumption | exact plain_int _ _ | exact plain_ints _ | exact plain_bool _ | exact one_int _ _ | exact plain_des _ | exact plain_rows _) only [AM, initTm, Nat.reduceAdd, Nat.reduceEqDiff, reduceCtorEq, run_aaddr, run_stn, run_bld, bldV_nil, g3], by simp (maxSteps := 1000000) (disch := first | decide | omega | assumption | exact plain_int _ _ | exact plain_ints _ | exact plain_bool _ | exact one_int _ _ | exact plain_des _ | exact plain_rows _) only [AM, initTm, Nat.reduceAdd, Nat.reduceEqDiff, reduceCtorEq, run_aaddr, run_stn, run_bld, bldV_nil, g4], by simp (maxSteps := 1000000) (disch := first | decide | omega | assumption | exact plain_int _ _ | exact plain_ints _ | exact plain_bool _ | exact one_int _ _ | exact plain_des _ | exact plain_rows _) only [AM, initTm, Nat.reduceAdd, Nat.reduceEqDiff, reduceCtorEq, run_aaddr, run_stn, run_bld, bldV_nil]; rfl, by omega, rfl, fun m hm' => by
            by_cases e : m = i
            · subst e; exact fun h => hc h.2.2
            · exact hx m (by omega)⟩
      · repeat' first
          | refine W_seq ?_
          | refine W_skip ?_
          | refine W_exit ?_
          | refine W_ret ?_
          | refine W_block ?_
          | (refine W_ops (by simp (maxSteps := 1000000) (disch := first | decide | omega | assumption | exact plain_int _ _ | exact plain_ints _ | exact plain_bool _ | exact one_int _ _ | exact plain_des _ | exact plain_rows _) only [AM, initTm, Nat.reduceAdd, Nat.reduceEqDiff, reduceCtorEq, run_aaddr, run_stn, run_bld, bldV_nil, g1, g2, g3, g4, g9, hfa, hld, hlt, hla, hlb, hlc, ha, hb]; rfl) ?_)
          | (refine W_cond (by simp (maxSteps := 1000000) (disch := first | decide | omega | assumption | exact plain_int _ _ | exact plain_ints _ | exact plain_bool _ | exact one_int _ _ | exact plain_des _ | exact plain_rows _) only [AM, initTm, Nat.reduceAdd, Nat.reduceEqDiff, reduceCtorEq, run_aaddr, run_stn, run_bld, bldV_nil, g1, g2, g3, g4, g9, hfa, hld, hlt, hla, hlb, hlc, ha, hb]; rfl) ?_ ?_ <;> intro hcond <;> (try simp only [decide_eq_true_eq, decide_eq_false_iff_not, beq_iff_eq, beq_eq_false_iff_ne, ne_eq, reduceCtorEq, Bool.not_eq_true', Bool.not_eq_false', bne_iff_ne, bne_eq_false_iff_eq] at hcond) <;> (try (exfalso; omega)))
          | refine thenQ_n ?_
          | refine thenQ_e ?_
          | refine thenQ_r ?_
          | refine outQ_n ?_
          | refine outQ_r ?_
          | refine outQ_e ?_
          | refine outQ_d (by decide) ?_
        exact ⟨d.rows.length - (i + 1), by omega, i + 1, _, rfl, by simp (maxSteps := 1000000) (disch := first | decide | omega | assumption | exact plain_int _ _ | exact plain_ints _ | exact plain_bool _ | exact one_int _ _ | exact plain_des _ | exact plain_rows _) only [AM, initTm, Nat.reduceAdd, Nat.reduceEqDiff, reduceCtorEq, run_aaddr, run_stn, run_bld, bldV_nil, g1], by simp (maxSteps := 1000000) (disch := first | decide | omega | assumption | exact plain_int _ _ | exact plain_ints _ | exact plain_bool _ | exact one_int _ _ | exact plain_des _ | exact plain_rows _) only [AM, initTm, Nat.reduceAdd, Nat.reduceEqDiff, reduceCtorEq, run_aaddr, run_stn, run_bld, bldV_nil, g2], by simp (maxSteps := 1000000) (disch := first | decide | omega | assumption | exact plain_int _ _ | exact plain_ints _ | exact plain_bool _ | exact one_int _ _ | exact plain_des _ | exact plain_rows _) only [AM, initTm, Nat.reduceAdd, Nat.reduceEqDiff, reduceCtorEq, run_aaddr, run_stn, run_bld, bldV_nil, g3], by simp (maxSteps := 1000000) (disch := first | decide | omega | assumption | exact plain_int _ _ | exact plain_ints _ | exact plain_bool _ | exact one_int _ _ | exact plain_des _ | exact plain_rows _) only [AM, initTm, Nat.reduceAdd, Nat.reduceEqDiff, reduceCtorEq, run_aaddr, run_stn, run_bld, bldV_nil, g4], by simp (maxSteps := 1000000) (disch := first | decide | omega | assumption | exact plain_int _ _ | exact plain_ints _ | exact plain_bool _ | exact one_int _ _ | exact plain_des _ | exact plain_rows _) only [AM, initTm, Nat.reduceAdd, Nat.reduceEqDiff, reduceCtorEq, run_aaddr, run_stn, run_bld, bldV_nil]; rfl, by omega, rfl, fun m hm' => by
            by_cases e : m = i
            · subst e; exact fun h => hb h.2.1
            · exact hx m (by omega)⟩
    · repeat' first
        | refine W_seq ?_
        | refine W_skip ?_
        | refine W_exit ?_
        | refine W_ret ?_
        | refine W_block ?_
        | (refine W_ops (by simp (maxSteps := 1000000) (disch := first | decide | omega | assumption | exact plain_int _ _ | exact plain_ints _ | exact plain_bool _ | exact one_int _ _ | exact plain_des _ | exact plain_rows _) only [AM, initTm, Nat.reduceAdd, Nat.reduceEqDiff, reduceCtorEq, run_aaddr, run_stn, run_bld, bldV_nil, g1, g2, g3, g4, g9, hfa, hld, hlt, hla, hlb, hlc, ha]; rfl) ?_)
        | (refine W_cond (by simp (maxSteps := 1000000) (disch := first | decide | omega | assumption | exact plain_int _ _ | exact plain_ints _ | exact plain_bool _ | exact one_int _ _ | exact plain_des _ | exact plain_rows _) only [AM, initTm, Nat.reduceAdd, Nat.reduceEqDiff, reduceCtorEq, run_aaddr, run_stn, run_bld, bldV_nil, g1, g2, g3, g4, g9, hfa, hld, hlt, hla, hlb, hlc, ha]; rfl) ?_ ?_ <;> intro hcond <;> (try simp only [decide_eq_true_eq, decide_eq_false_iff_not, beq_iff_eq, beq_eq_false_iff_ne, ne_eq, reduceCtorEq, Bool.not_eq_true', Bool.not_eq_false', bne_iff_ne, bne_eq_false_iff_eq] at hcond) <;> (try (exfalso; omega)))
        | refine thenQ_n ?_
        | refine thenQ_e ?_
        | refine thenQ_r ?_
        | refine outQ_n ?_
        | refine outQ_r ?_
        | refine outQ_e ?_
        | refine outQ_d (by decide) ?_
      exact ⟨d.rows.length - (i + 1), by omega, i + 1, _, rfl, by simp (maxSteps := 1000000) (disch := first | decide | omega | assumption | exact plain_int _ _ | exact plain_ints _ | exact plain_bool _ | exact one_int _ _ | exact plain_des _ | exact plain_rows _) only [AM, initTm, Nat.reduceAdd, Nat.reduceEqDiff, reduceCtorEq, run_aaddr, run_stn, run_bld, bldV_nil, g1], by simp (maxSteps := 1000000) (disch := first | decide | omega | assumption | exact plain_int _ _ | exact plain_ints _ | exact plain_bool _ | exact one_int _ _ | exact plain_des _ | exact plain_rows _) only [AM, initTm, Nat.reduceAdd, Nat.reduceEqDiff, reduceCtorEq, run_aaddr, run_stn, run_bld, bldV_nil, g2], by simp (maxSteps := 1000000) (disch := first | decide | omega | assumption | exact plain_int _ _ | exact plain_ints _ | exact plain_bool _ | exact one_int _ _ | exact plain_des _ | exact plain_rows _) only [AM, initTm, Nat.reduceAdd, Nat.reduceEqDiff, reduceCtorEq, run_aaddr, run_stn, run_bld, bldV_nil, g3], by simp (maxSteps := 1000000) (disch := first | decide | omega | assumption | exact plain_int _ _ | exact plain_ints _ | exact plain_bool _ | exact one_int _ _ | exact plain_des _ | exact plain_rows _) only [AM, initTm, Nat.reduceAdd, Nat.reduceEqDiff, reduceCtorEq, run_aaddr, run_stn, run_bld, bldV_nil, g4], by simp (maxSteps := 1000000) (disch := first | decide | omega | assumption | exact plain_int _ _ | exact plain_ints _ | exact plain_bool _ | exact one_int _ _ | exact plain_des _ | exact plain_rows _) only [AM, initTm, Nat.reduceAdd, Nat.reduceEqDiff, reduceCtorEq, run_aaddr, run_stn, run_bld, bldV_nil]; rfl, by omega, rfl, fun m hm' => by
            by_cases e : m = i
            · subst e; exact fun h => ha h.1
            · exact hx m (by omega)⟩
  · repeat' first
      | refine W_seq ?_
      | refine W_skip ?_
      | refine W_exit ?_
      | refine W_ret ?_
      | refine W_block ?_
      | (refine W_ops (by simp (maxSteps := 1000000) (disch := first | decide | omega | assumption | exact plain_int _ _ | exact plain_ints _ | exact plain_bool _ | exact one_int _ _ | exact plain_des _ | exact plain_rows _) only [AM, initTm, Nat.reduceAdd, Nat.reduceEqDiff, reduceCtorEq, run_aaddr, run_stn, run_bld, bldV_nil, g1, g2, g3, g4, g9, hfa, hld, hlt]; rfl) ?_)
      | (refine W_cond (by simp (maxSteps := 1000000) (disch := first | decide | omega | assumption | exact plain_int _ _ | exact plain_ints _ | exact plain_bool _ | exact one_int _ _ | exact plain_des _ | exact plain_rows _) only [AM, initTm, Nat.reduceAdd, Nat.reduceEqDiff, reduceCtorEq, run_aaddr, run_stn, run_bld, bldV_nil, g1, g2, g3, g4, g9, hfa, hld, hlt]; rfl) ?_ ?_ <;> intro hcond <;> (try simp only [decide_eq_true_eq, decide_eq_false_iff_not, beq_iff_eq, beq_eq_false_iff_ne, ne_eq, reduceCtorEq, Bool.not_eq_true', Bool.not_eq_false', bne_iff_ne, bne_eq_false_iff_eq] at hcond) <;> (try (exfalso; omega)))
      | refine thenQ_n ?_
      | refine thenQ_e ?_
      | refine thenQ_r ?_
      | refine outQ_n ?_
      | refine outQ_r ?_
      | refine outQ_e ?_
      | refine outQ_d (by decide) ?_
    refine ⟨.inr rfl, [_], rfl, false, ?_, ?_⟩
    · rw [tuple_one]; simp (maxSteps := 1000000) (disch := first | decide | omega | assumption | exact plain_int _ _ | exact plain_ints _ | exact plain_bool _ | exact one_int _ _ | exact plain_des _ | exact plain_rows _) only [AM, initTm, Nat.reduceAdd, Nat.reduceEqDiff, reduceCtorEq, run_aaddr, run_stn, run_bld, bldV_nil]
    · exact ⟨fun h => (by cases h), fun ⟨j, hj, h⟩ => absurd h (hx j (by omega))⟩
end

section
variable {q n T P : Nat} {rows : List (List Int)}
/-- In the planes: three points on a line, by the table. -/
theorem inLine_lit (hp : PQ q n rows) (g : GeoAll q n rows T P) (a b c : Int) : ∃ r, pcall tabD (E GP tabD) 32 [(pD n rows).av, .int .i64 a, .int .i64 b, .int .i64 c] = some (.val (.bool r), false) ∧ (r = true ↔ ∃ i, i < n ∧ a ∈ rows.getD i [] ∧ b ∈ rows.getD i [] ∧ c ∈ rows.getD i []) := by
  obtain ⟨v, hv, r, rfl, hr⟩ := inLine_spec (G := GP) (F := tabD) rfl rfl (pD n rows) hp.ok a b c
  refine ⟨r, hv, hr.trans ?_⟩
  rw [pD_len hp]
  simp only [pD_row]
theorem line_of (hp : PQ q n rows) (g : GeoAll q n rows T P) {a : Nat} (ha : a < n) : ∃ i, i < n ∧ (a : Int) ∈ rows.getD i [] := by
  have h2 := hp.q_le
  have hn := hp.planeL.four
  by_cases h : a = 0
  · exact ⟨_, g.geo.jlt a ha 1 (by omega) (by omega), (g.geo.jmem a ha 1 (by omega) (by omega)).1⟩
  · exact ⟨_, g.geo.jlt a ha 0 (by omega) h, (g.geo.jmem a ha 0 (by omega) h).1⟩
theorem col_line (hp : PQ q n rows) (g : GeoAll q n rows T P) {a b c : Nat} (ha : a < n) (hb : b < n) (hc : c < n) (h : Col T a b c) : ∃ i, i < n ∧ (a : Int) ∈ rows.getD i [] ∧ (b : Int) ∈ rows.getD i [] ∧ (c : Int) ∈ rows.getD i [] := by
  have two : ∀ {x y : Nat}, x < n → y < n → ∃ i, i < n ∧ (x : Int) ∈ rows.getD i [] ∧ (y : Int) ∈ rows.getD i [] := fun {x y} hx hy => by
    by_cases e : x = y
    · subst e
      obtain ⟨i, hi, h⟩ := line_of hp g hx
      exact ⟨i, hi, h, h⟩
    · exact ⟨_, g.geo.jlt x hx y hy e, g.geo.jmem x hx y hy e⟩
  rcases h with rfl | rfl | rfl | h
  · obtain ⟨i, hi, h1, h2⟩ := two ha hc
    exact ⟨i, hi, h1, h1, h2⟩
  · obtain ⟨i, hi, h1, h2⟩ := two ha hb
    exact ⟨i, hi, h1, h2, h1⟩
  · obtain ⟨i, hi, h1, h2⟩ := two ha hb
    exact ⟨i, hi, h1, h2, h2⟩
  · by_cases e1 : a = b
    · subst e1
      obtain ⟨i, hi, h1, h2⟩ := two ha hc
      exact ⟨i, hi, h1, h1, h2⟩
    · by_cases e2 : a = c
      · subst e2
        obtain ⟨i, hi, h1, h2⟩ := two ha hb
        exact ⟨i, hi, h1, h2, h1⟩
      · obtain ⟨m1, m2⟩ := g.geo.jmem a ha b hb e1
        obtain ⟨m3, m4⟩ := g.geo.jmem a ha c hc e2
        rw [← h] at m3 m4
        exact ⟨_, g.geo.jlt a ha b hb e1, m1, m2, m4⟩

/-- A row of the design. -/
theorem pD_some (hp : PQ q n rows) {l : Nat} (hl : l < n) : (pD n rows).rows.getD l none = some (rows.getD l []) ∧ (rows.getD l []).length = q + 1 ∧ ∀ k, k < q + 1 → ∃ y : Nat, (rows.getD l []).getD k 0 = y ∧ y < n ∧ (y : Int) ∈ rows.getD l [] := by
  have hlen := hp.rows_len
  have hm : rows.getD l [] ∈ rows := by rw [List.getD_eq_getElem?_getD, List.getElem?_eq_getElem (by omega)]; exact List.getElem_mem _
  have hr := hp.row_len _ hm
  refine ⟨?_, hr, fun k hk => ?_⟩
  · unfold pD
    rw [rowsO_rows, List.getD_eq_getElem?_getD, List.getElem?_map, List.getElem?_eq_getElem (by omega)]
    rw [List.getD_eq_getElem?_getD, List.getElem?_eq_getElem (by omega)] at hr ⊢
    simp only [Option.map_some, Option.getD_some] at hr ⊢
    cases hrr : rows[l]'(by omega) with
    | nil => rw [hrr] at hr; simp at hr
    | cons a t => rfl
  · have hk' := getD_mem (l := rows.getD l []) (i := k) (by omega)
    have := hp.planeL.inn _ hm
    have h2 := this.2 _ hk'
    refine ⟨((rows.getD l []).getD k 0).toNat, by omega, by omega, ?_⟩
    rw [Int.toNat_of_nonneg h2.1]
    exact hk'
theorem tmod_bd (a : Int) (s : Nat) (hs : 0 < s) : -(s : Int) < a.tmod s ∧ a.tmod s < s := by
  constructor
  · have h := Int.tmod_lt_of_pos (-a) (b := (s : Int)) (by omega)
    rw [Int.neg_tmod] at h
    omega
  · exact Int.tmod_lt_of_pos a (by omega)
end

section
variable {G : Nat → List AV} {F : Nat → Option MF} {rec : Rec}
/-- 'Lies' of a row in a box. -/
theorem Lies_row (hF : F 25 = some mf25) {bx : List Box} {lo hi : Nat} {c : AV} {r : List Int} (h : RowAt bx lo hi c r) (hr : r.length < 1000) (y : Int) (tm : Tm) (rb : Nat) :
    doCall F (E G F) .pureV 25 [c, .int .i64 y] ⟨tm, bx, rb⟩ = some (.bool (decide (y ∈ r)), ⟨tm, bx, rb⟩) := by
  have hl := Lies_spec (G := G) hF (optL r) y (by rw [optL_getD]; omega)
  rw [optL_getD] at hl
  unfold doCall
  rw [if_neg (by simp only [List.length_cons, List.length_nil]; omega)]
  have hm : [c, AV.int .i64 y].mapM (reify reifyDepth bx) = some [ints (optL r), .int .i64 y] := by
    rw [List.mapM_cons, show reifyDepth = 6 + 2 from rfl, h.reify 6]; rfl
  simp only [hm, hl]
  rfl
end
end Go.Am
