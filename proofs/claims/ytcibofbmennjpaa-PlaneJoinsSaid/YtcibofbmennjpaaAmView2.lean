/- More steps as equations: literals, append, slices of one's own, calls in the other ways. -/
import Derived.Test.YtcibofbmennjpaaAmView
set_option linter.unusedVariables false
set_option linter.unusedSimpArgs false
namespace Go.Am

section
variable {G : Nat → List AV} {F : Nat → Option MF} {rec : Rec}

def bldF (ps : List (Nat × Nat × AV)) (z : List AV) (n : Nat) : Option (List AV) := match fill ps z with
  | some cs => if cs.length = n ∧ AV.closedL cs = true then some cs else none
  | none => none
theorem run_bldsF (j : Option Nat) (e : TypeId) (sz len : Nat) (z : List AV) (ps : List (Nat × Nat × R)) (st : St) :
    runI G F rec (.blds j false e sz len z ps) st = bnd (bldF (ps.map fun p => (p.1, p.2.1, st.ev G p.2.2)) z (len * sz)) fun cs => some (.lst len cs, st) := by
  simp only [runI, exI, bldF]
  cases hf : fill (ps.map fun p => (p.1, p.2.1, st.ev G p.2.2)) z with
  | none => simp only [hf]; rfl
  | some cs =>
    simp only [hf]
    by_cases h1 : cs.length = len * sz
    · by_cases h2 : AV.closedL cs = true
      · simp [h1, h2, bnd_some]
      · simp [h1, h2, bnd_none]
    · simp [h1, bnd_none]
theorem bldF_1 (k : IntKind) (a : Int) (z : AV) (n : Nat) (hn : n = 1) : bldF [(0, 1, .int k a)] [z] n = some [.int k a] := by subst hn; rfl
theorem bldF_2 (k k' : IntKind) (a b : Int) (z z' : AV) (n : Nat) (hn : n = 2) : bldF [(0, 1, .int k a), (1, 1, .int k' b)] [z, z'] n = some [.int k a, .int k' b] := by subst hn; rfl

def appV (st : St) (j : Option Nat) (e : TypeId) (sz bytes : Nat) (s x : AV) : Option (AV × St) :=
    match st.slice sz x with
    | none => none
    | some (m, news) =>
      match s with
      | .nil =>
        if m = 0 then some (.nil, st)
        else if m * bytes ≤ 140737488355328 ∧ m ≤ 9223372036854775807 ∧ news.all AV.one then (st.newBox j ⟨news, sz, e, .live⟩).map fun (id, st) => (.own id m, st) else none
      | .own id n =>
        match st.bx[id]? with
        | some b =>
          if b.status = .live ∧ b.cs.length = n * b.sz ∧ b.sz = sz ∧ b.e = e ∧ (n + m) * bytes ≤ 140737488355328 ∧ n + m ≤ 9223372036854775807 ∧ news.all AV.one
          then some (.own id (n + m), { st with bx := st.bx.set id { b with cs := b.cs ++ news } })
          else none
        | none => none
      | _ => none
theorem run_app (j : Option Nat) (e : TypeId) (sz bytes : Nat) (s x : R) (st : St) : runI G F rec (.app j e sz bytes s x) st = appV st j e sz bytes (st.ev G s) (st.ev G x) := rfl
/-- One more, to nil. -/
theorem appV_nil1 (tm : Tm) (bx : List Box) (rb : Nat) (e : TypeId) (bytes : Nat) (c : AV) (hc : c.one = true) (hb : bytes ≤ 140737488355328) :
    appV ⟨tm, bx, rb⟩ none e 1 bytes .nil (.lst 1 [c]) = some (.own bx.length 1, ⟨tm, bx ++ [⟨[c], 1, e, .live⟩], rb⟩) := by
  simp [appV, St.slice, St.newBox, hc, hb]
/-- One more, to a slice of one's own. -/
theorem appV_own1 (tm : Tm) (bx : List Box) (rb : Nat) (e : TypeId) (bytes : Nat) (c : AV) (id n : Nat) (cs : List AV) (hbx : bx[id]? = some ⟨cs, 1, e, .live⟩) (hn : cs.length = n) (hc : c.one = true) (hb : (n + 1) * bytes ≤ 140737488355328) (hm : n + 1 ≤ 9223372036854775807) :
    appV ⟨tm, bx, rb⟩ none e 1 bytes (.own id n) (.lst 1 [c]) = some (.own id (n + 1), ⟨tm, bx.set id ⟨cs ++ [c], 1, e, .live⟩, rb⟩) := by
  simp [appV, St.slice, hbx, hn, hc, hb, hm]

/-- A slice that grows by one: nil first, then a box of its own, the first of the frame's. -/
def grown (e : TypeId) (cs : List AV) : AV × List Box := match cs with
  | [] => (.nil, [])
  | _ => (.own 0 cs.length, [⟨cs, 1, e, .live⟩])
theorem appV_grown (tm : Tm) (rb : Nat) (e : TypeId) (bytes : Nat) (c : AV) (cs : List AV) (hc : c.one = true) (hb : (cs.length + 1) * bytes ≤ 140737488355328) (hm : cs.length + 1 ≤ 9223372036854775807) :
    appV ⟨tm, (grown e cs).2, rb⟩ none e 1 bytes (grown e cs).1 (.lst 1 [c]) = some ((grown e (cs ++ [c])).1, ⟨tm, (grown e (cs ++ [c])).2, rb⟩) := by
  cases cs with
  | nil => exact appV_nil1 tm [] rb e bytes c hc (by simpa using hb)
  | cons a cs =>
    have := appV_own1 tm [⟨a :: cs, 1, e, .live⟩] rb e bytes c 0 (a :: cs).length (a :: cs) rfl rfl hc hb hm
    rw [show (grown e (a :: cs)).2 = [⟨a :: cs, 1, e, .live⟩] from rfl, show (grown e (a :: cs)).1 = .own 0 (a :: cs).length from rfl, this]
    simp [grown]

theorem one_int (k : IntKind) (n : Int) : (AV.int k n).one = true := rfl

theorem mapM_reify_ints (bx : List Box) (k : IntKind) (l : List Int) : (l.map (AV.int k)).mapM (reify reifyDepth bx) = some (l.map (AV.int k)) := by
  induction l with
  | nil => rfl
  | cons a l ih => rw [List.map_cons, List.mapM_cons, ih]; rfl
theorem alias_ints (bx : List Box) (k : IntKind) (l : List Int) : (l.map (AV.int k)).any (alias reifyDepth bx) = false := by
  induction l with
  | nil => rfl
  | cons a l ih => rw [List.map_cons, List.any_cons, ih]; rfl

/-- Ints, handed back. -/
def resOf (e : TypeId) (k : IntKind) (l : List Int) : Res := match l with
  | [] => .val .nil
  | a :: r => .own (a :: r).length ((a :: r).map (.int k)) 1 e
/-- A function that hands back a slice of ints of its own. -/
theorem pcall_grown {f : Nat} {mf : MF} (hf : F f = some mf) {args : List AV} {k : IntKind} {l : List Int} {e : TypeId}
    (h : W G F mf.body ⟨initTm 0 args .e, [], 0⟩ fun ex s => (ex = .normal ∨ ex = .ret) ∧ ∃ rs, mf.res.mapM (rvar s) = some rs ∧ tuple rs = (grown e (l.map (.int k))).1 ∧ s.bx = (grown e (l.map (.int k))).2) :
    pcall F (E G F) f args = some (resOf e k l, false) := by
  obtain ⟨s, rs, h1, h2, h3⟩ := runBody_W h
  unfold pcall
  rw [hf]
  simp only [h1, h2]
  cases l with
  | nil => rfl
  | cons a l =>
    simp only [grown, List.map_cons, h3, List.getElem?_cons_zero]
    rw [if_pos ⟨trivial, by simp⟩]
    have m := mapM_reify_ints (([⟨.int k a :: l.map (.int k), 1, e, .live⟩] : List Box).set 0 freshBox) k (a :: l)
    have al := alias_ints (([⟨.int k a :: l.map (.int k), 1, e, .live⟩] : List Box).set 0 freshBox) k (a :: l)
    rw [List.map_cons] at m al
    rw [m, al]
    simp [resOf]

/-- What a call hands on that may hand back a slice of its own. -/
def callP (x : Option (Res × Bool)) (st : St) : Option (AV × St) := match x with
  | some (.val v, _) => some (v, st)
  | some (.own n cs sz e, _) => (st.newBox none ⟨cs, sz, e, .live⟩).map fun p => (.own p.1 n, p.2)
  | none => none
theorem callP_val (v : AV) (al : Bool) (st : St) : callP (some (.val v, al)) st = some (v, st) := rfl
theorem callP_own (n : Nat) (cs : List AV) (sz : Nat) (e : TypeId) (al : Bool) (tm : Tm) (bx : List Box) (rb : Nat) : callP (some (.own n cs sz e, al)) ⟨tm, bx, rb⟩ = some (.own bx.length n, ⟨tm, bx ++ [⟨cs, sz, e, .live⟩], rb⟩) := rfl
theorem doCall_pureP {f : Nat} {args : List AV} {st : St} (hl : args.length < 65535) (hp : ∀ v ∈ args, Plain v) : doCall F rec .pure f args st = callP (pcall F rec f args) st := by
  have hm : args.mapM (reify reifyDepth st.bx) = some args := by
    clear hl
    induction args with
    | nil => rfl
    | cons a l ih => rw [List.mapM_cons, (hp a (by simp)).2 st.bx, ih fun v hv => hp v (by simp [hv])]; rfl
  have hc : AV.closedL args = true := by
    clear hl hm
    induction args with
    | nil => rfl
    | cons a l ih => simp [AV.closedL, (hp a (by simp)).1, ih fun v hv => hp v (by simp [hv])]
  unfold doCall
  rw [if_neg (by omega)]
  simp only [hm, hc]
  cases pcall F rec f args with
  | none => rfl
  | some p =>
    obtain ⟨r, al⟩ := p
    cases r with
    | val v => simp [callP]
    | own n cs sz e => simp only [callP, Bool.not_true, Bool.and_false, Bool.false_eq_true, if_false]
theorem doCall_pureP1 {f : Nat} {a : AV} {st : St} (h1 : Plain a) : doCall F rec .pure f [a] st = callP (pcall F rec f [a]) st := doCall_pureP (by simp) (by simp [h1])

/-- A call that works on the caller's boxes. -/
theorem doCall_shared_of {f : Nat} {mf : MF} (hf : F f = some mf) {args : List AV} {st : St} {v : AV} {bx' : List Box} (hl : args.length < 65535)
    (h : W G F mf.body ⟨initTm 0 args .e, st.bx, 0⟩ fun ex s => (ex = .normal ∨ ex = .ret) ∧ ∃ rs, mf.res.mapM (rvar s) = some rs ∧ tuple rs = v ∧ s.bx = bx') :
    doCall F (E G F) .shared f args st = some (v, { st with bx := bx' }) := by
  obtain ⟨s, rs, h1, h2, h3⟩ := runBody_W h
  unfold doCall
  rw [if_neg (by omega)]
  simp only [hf, h1, h2, h3]

/-- A call that only reads the caller's boxes. -/
theorem doCall_quiet_of {f : Nat} {mf : MF} (hf : F f = some mf) {args : List AV} {st : St} {v : AV} (hl : args.length < 65535) (hv : v.scalar = true)
    (h : W G F mf.body ⟨initTm 0 args .e, st.bx.map Box.freeze, 0⟩ fun ex s => (ex = .normal ∨ ex = .ret) ∧ ∃ rs, mf.res.mapM (rvar s) = some rs ∧ tuple rs = v) :
    doCall F (E G F) .quiet f args st = some (v, st) := by
  obtain ⟨s, rs, h1, h2⟩ := runBody_W h
  unfold doCall
  rw [if_neg (by omega)]
  simp only [hf, h1, h2, hv, if_true]
end
end Go.Am
