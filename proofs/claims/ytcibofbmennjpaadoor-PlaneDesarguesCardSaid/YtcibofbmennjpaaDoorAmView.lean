/- The machine's steps as equations for 'simp'. -/
import Derived.Test.YtcibofbmennjpaaDoorAmW
import Derived.Laws.BitsLemmas
set_option linter.unusedVariables false
namespace Go.Am

/-- 'bind' whose second part is let alone until the first is known. -/
def bnd {α β : Type} (x : Option α) (f : α → Option β) : Option β := x.bind f
theorem bnd_some {α β : Type} (a : α) (f : α → Option β) : bnd (some a) f = f a := rfl
theorem bnd_none {α β : Type} (f : α → Option β) : bnd none f = none := rfl

section
variable {G : Nat → List AV} {F : Nat → Option MF} {rec : Rec}

theorem execs_nil (st : St) : execs G F rec [] st = some st := rfl
/-- The instructions that follow, when the value is known. -/
def contE (G : Nat → List AV) (F : Nat → Option MF) (rec : Rec) (d : Option Nat) (l : List I) (x : Option (AV × St)) : Option St := x.bind fun p => execs G F rec l (p.2.put d p.1)
theorem contE_some (d : Option Nat) (l : List I) (v : AV) (st : St) : contE G F rec d l (some (v, st)) = execs G F rec l (st.put d v) := rfl
theorem execs_cons (d : Option Nat) (mi : MI) (l : List I) (st : St) : execs G F rec (⟨d, none, mi⟩ :: l) st = contE G F rec d l (runI G F rec mi st) := by
  simp only [execs, exec1, contE]
  cases runI G F rec mi st <;> rfl
def guarded (v : AV) (want : Bool) : Option Bool := match v with
  | .bool b => some (b == want)
  | .undef => some false
  | _ => none
theorem guarded_bool (b want : Bool) : guarded (.bool b) want = some (b == want) := rfl
theorem guarded_undef (want : Bool) : guarded .undef want = some false := rfl
/-- A guarded instruction and what follows. -/
def contG (G : Nat → List AV) (F : Nat → Option MF) (rec : Rec) (b : Option Bool) (d : Option Nat) (mi : MI) (l : List I) (st : St) : Option St := match b with
  | some true => contE G F rec d l (runI G F rec mi st)
  | some false => execs G F rec l (st.put d .undef)
  | none => none
theorem contG_true (d : Option Nat) (mi : MI) (l : List I) (st : St) : contG G F rec (some true) d mi l st = contE G F rec d l (runI G F rec mi st) := rfl
theorem contG_false (d : Option Nat) (mi : MI) (l : List I) (st : St) : contG G F rec (some false) d mi l st = execs G F rec l (st.put d .undef) := rfl
theorem execs_cons_g (d : Option Nat) (t : Nat) (want : Bool) (mi : MI) (l : List I) (st : St) : execs G F rec (⟨d, some (t, want), mi⟩ :: l) st = contG G F rec (guarded (st.tm.get t) want) d mi l st := by
  simp only [execs, exec1, contG, contE, guarded]
  cases st.tm.get t <;> try rfl
  rename_i b
  simp only
  cases (b == want) with
  | true => simp only [cond_true]; cases runI G F rec mi st <;> rfl
  | false => rfl

theorem ev_t (st : St) (n : Nat) : st.ev G (.t n) = st.tm.get n := rfl
theorem ev_c (st : St) (v : AV) : st.ev G (.c v) = v := rfl
theorem ev_g (st : St) (n : Nat) : st.ev G (.g n) = .rptr (G n) := rfl
theorem put_s (tm : Tm) (bx : List Box) (rb d : Nat) (v : AV) : St.put ⟨tm, bx, rb⟩ (some d) v = ⟨tm.set d v, bx, rb⟩ := rfl
theorem put_n (st : St) (v : AV) : st.put none v = st := rfl

section ops
variable (st : St) (x y z : R)
theorem run_mov : runI G F rec (.mov x) st = some (st.ev G x, st) := rfl
def pickV (c a b : AV) : Option AV := match c with
  | .bool t => some (bif t then a else b)
  | _ => none
theorem pickV_bool (t : Bool) (a b : AV) : pickV (.bool t) a b = some (bif t then a else b) := rfl
theorem run_pick : runI G F rec (.pick x y z) st = bnd (pickV (st.ev G x) (st.ev G y) (st.ev G z)) fun v => some (v, st) := by
  simp only [runI, exI, pickV]
  cases st.ev G x <;> rfl
theorem run_binI (op : BinOp) : runI G F rec (.bin op x y) st = bnd (abin op (st.ev G x) (st.ev G y)) fun v => some (v, st) := by
  simp only [runI, exI, bnd]
  cases abin op _ _ <;> rfl
def notV : AV → Option AV
  | .bool t => some (.bool (!t))
  | _ => none
theorem notV_bool (t : Bool) : notV (.bool t) = some (.bool (!t)) := rfl
theorem run_not : runI G F rec (.not x) st = bnd (notV (st.ev G x)) fun v => some (v, st) := by
  simp only [runI, exI, notV]
  cases st.ev G x <;> rfl
def convV (k : IntKind) : AV → Option AV
  | .int _ n => some (.int k (k.wrap n))
  | _ => none
theorem convV_int (k k' : IntKind) (n : Int) : convV k (.int k' n) = some (.int k (k.wrap n)) := rfl
theorem run_conv (k : IntKind) : runI G F rec (.conv k x) st = bnd (convV k (st.ev G x)) fun v => some (v, st) := by
  simp only [runI, exI, convV]
  cases st.ev G x <;> rfl
def ld1V (st : St) (v : AV) : Option AV := match st.at_ v with
  | some (c :: _) => some c
  | _ => none
theorem run_ld1 : runI G F rec (.ld1 x) st = bnd (ld1V st (st.ev G x)) fun v => some (v, st) := by
  simp only [runI, exI, ld1V, bnd]
  rcases st.at_ (st.ev G x) with _ | (_ | ⟨c, cs⟩) <;> rfl
def ldnV (st : St) (n : Nat) (v : AV) : Option AV := match st.at_ v with
  | some cs => if n ≤ cs.length then some (.agg (cs.take n)) else none
  | _ => none
theorem run_ldn (n : Nat) : runI G F rec (.ldn n x) st = bnd (ldnV st n (st.ev G x)) fun v => some (v, st) := by
  simp only [runI, exI, ldnV, bnd]
  rcases st.at_ (st.ev G x) with _ | cs
  · rfl
  · simp only; split <;> rfl
theorem run_st1 : runI G F rec (.st1 x y) st = if (st.ev G y).one then bnd (st.write (st.ev G x) [st.ev G y]) fun s => some (.undef, s) else none := by
  simp only [runI, exI, bnd]
  split
  · cases st.write _ _ <;> rfl
  · rfl
def faddrV (st : St) (off : Nat) : AV → Option AV
  | .ptr id len o => if st.valid id len then some (.ptr id len (o + off)) else none
  | .rptr cs => some (.rptr (cs.drop off))
  | _ => none
theorem run_faddr (off : Nat) : runI G F rec (.faddr off x) st = bnd (faddrV st off (st.ev G x)) fun v => some (v, st) := by
  simp only [runI, exI, faddrV]
  cases st.ev G x <;> try rfl
  simp only
  split <;> rfl
def lenV (st : St) : AV → Option Int
  | .nil => some 0
  | .lst n _ => some n
  | .own id n => match st.bx[id]? with
    | some b => if b.status ≠ .fresh ∧ b.cs.length = n * b.sz then some n else none
    | none => none
  | _ => none
theorem run_len : runI G F rec (.len x) st = bnd (lenV st (st.ev G x)) fun n => some (.int .i64 n, st) := by
  simp only [runI, exI, lenV]
  cases st.ev G x <;> try rfl
  rename_i id n
  simp only
  cases st.bx[id]? with
  | none => rfl
  | some b => simp only; split <;> rfl
def iaddrV (st : St) (sz : Nat) (x i : AV) : Option AV := match x, i with
  | .lst n cs, .int _ k => if 0 ≤ k ∧ k < n ∧ cs.length = n * sz ∧ 0 < sz then some (.rptr (cs.drop (k.toNat * sz))) else none
  | .own id n, .int _ k =>
    match st.bx[id]? with
    | some b => if 0 ≤ k ∧ k < n ∧ b.status ≠ .fresh ∧ b.cs.length = n * b.sz ∧ b.sz = sz then some (.ptr id (n * sz) (k.toNat * sz)) else none
    | none => none
  | _, _ => none
theorem run_iaddr (sz : Nat) : runI G F rec (.iaddr sz x y) st = bnd (iaddrV st sz (st.ev G x) (st.ev G y)) fun v => some (v, st) := by
  simp only [runI, exI, iaddrV]
  cases st.ev G x <;> try rfl
  · cases st.ev G y <;> try rfl
    simp only; split <;> rfl
  · cases st.ev G y <;> try rfl
    rename_i id n k i
    simp only
    cases st.bx[id]? with
    | none => rfl
    | some b => simp only; split <;> rfl
def extV (i : Nat) : AV → Option AV
  | .tup vs => vs[i]?
  | _ => none
theorem run_ext (i : Nat) : runI G F rec (.ext x i) st = bnd (extV i (st.ev G x)) fun v => some (v, st) := by
  simp only [runI, exI, extV]
  cases st.ev G x <;> try rfl
  rename_i vs
  simp only
  cases vs[i]? <;> rfl
def eqaV (neg : Bool) : AV → AV → Option AV
  | .bool a, .bool b => some (.bool (bif neg then !(a == b) else (a == b)))
  | _, _ => none
theorem run_eqa (neg : Bool) : runI G F rec (.eqa neg x y) st = bnd (eqaV neg (st.ev G x) (st.ev G y)) fun v => some (v, st) := by
  simp only [runI, exI, eqaV]
  cases st.ev G x <;> try rfl
  cases st.ev G y <;> rfl
theorem run_new (j : Option Nat) (e : TypeId) (cs : List AV) : runI G F rec (.new j e cs) st = bnd (st.newBox j ⟨cs, cs.length, e, .live⟩) fun p => some (.ptr p.1 cs.length 0, p.2) := by
  simp only [runI, exI, bnd]
  cases st.newBox _ _ <;> rfl
theorem run_box (j : Option Nat) (e : TypeId) (sz : Nat) : runI G F rec (.box j e sz x) st =
    if (st.ev G x).cells.length = sz ∧ (st.ev G x).cells.all AV.one then bnd (st.newBox j ⟨(st.ev G x).cells, sz, e, .live⟩) fun p => some (.ptr p.1 sz 0, p.2) else none := by
  simp only [runI, exI, bnd]
  split
  · cases st.newBox _ _ <;> rfl
  · rfl
theorem run_fn (f : Nat) (cap : List R) : runI G F rec (.fn f cap) st = some (.clo f (cap.map (st.ev G)), st) := rfl
theorem run_call (f : Nat) (l : List R) (m : Mode) : runI G F rec (.call f l m) st = doCall F rec m f (l.map (st.ev G)) st := rfl
end ops

theorem i64w {n : Int} (h1 : -9223372036854775808 ≤ n) (h2 : n ≤ 9223372036854775807) : IntKind.i64.wrap n = n := by rw [IntKind.wrap_i64]; omega

/-- A slice that is read: nil, or its cells. -/
def sl : Option (List AV) → AV
  | none => .nil
  | some cs => .lst cs.length cs
theorem lenV_sl (st : St) (o : Option (List AV)) : lenV st (sl o) = some ((o.getD []).length : Int) := by cases o <;> rfl
theorem iaddrV_sl (st : St) (o : Option (List AV)) (k : IntKind) (i : Int) : iaddrV st 1 (sl o) (.int k i) = if 0 ≤ i ∧ i < ((o.getD []).length : Int) then some (.rptr ((o.getD []).drop i.toNat)) else none := by
  cases o with
  | none => simp only [sl, iaddrV, Option.getD_none, List.length_nil]; rw [if_neg (by omega)]
  | some cs => simp [sl, iaddrV]
theorem ld1V_rptr (st : St) (cs : List AV) : ld1V st (.rptr cs) = cs.head? := by cases cs <;> rfl

/-- Ints. -/
def ints (o : Option (List Int)) : AV := sl (o.map fun l => l.map (.int .i64))
theorem ints_getD (o : Option (List Int)) : (o.map fun l => l.map (AV.int .i64)).getD [] = (o.getD []).map (AV.int .i64) := by cases o <;> rfl
theorem lenV_ints (st : St) (o : Option (List Int)) : lenV st (ints o) = some ((o.getD []).length : Int) := by unfold ints; rw [lenV_sl, ints_getD]; simp
theorem iaddrV_ints (st : St) (o : Option (List Int)) (k : IntKind) (i : Int) : iaddrV st 1 (ints o) (.int k i) = if 0 ≤ i ∧ i < ((o.getD []).length : Int) then some (.rptr (((o.getD []).drop i.toNat).map (AV.int .i64))) else none := by
  unfold ints; rw [iaddrV_sl, ints_getD]; simp
theorem head_drop_map (l : List Int) (i : Nat) (h : i < l.length) : ((l.drop i).map (AV.int .i64)).head? = some (.int .i64 l[i]) := by
  rw [List.head?_map, List.head?_drop, List.getElem?_eq_getElem h]; rfl
theorem eqaV_bool (neg a b : Bool) : eqaV neg (.bool a) (.bool b) = some (.bool (bif neg then !(a == b) else (a == b))) := rfl
theorem extV_tup (i : Nat) (vs : List AV) : extV i (.tup vs) = vs[i]? := rfl
theorem iaddrV_ints_pos (st : St) (o : Option (List Int)) (k : IntKind) (i : Int) (h : 0 ≤ i ∧ i < ((o.getD []).length : Int)) : iaddrV st 1 (ints o) (.int k i) = some (.rptr (((o.getD []).drop i.toNat).map (AV.int .i64))) := by
  rw [iaddrV_ints, if_pos h]
theorem iaddrV_sl_pos (st : St) (o : Option (List AV)) (k : IntKind) (i : Int) (h : 0 ≤ i ∧ i < ((o.getD []).length : Int)) : iaddrV st 1 (sl o) (.int k i) = some (.rptr ((o.getD []).drop i.toNat)) := by
  rw [iaddrV_sl, if_pos h]
theorem head_drop_n (l : List Int) (i : Nat) (h : i < l.length) : ((l.drop i).map (AV.int .i64)).head? = some (.int .i64 (l.getD i 0)) := by
  rw [head_drop_map l i h, List.getD_eq_getElem?_getD, List.getElem?_eq_getElem h]; rfl
theorem head_drop_ints (l : List Int) (i : Int) (h : i.toNat < l.length) : ((l.drop i.toNat).map (AV.int .i64)).head? = some (.int .i64 (l.getD i.toNat 0)) := by
  rw [head_drop_map l i.toNat h, List.getD_eq_getElem?_getD, List.getElem?_eq_getElem h]; rfl
theorem abin_add (k : IntKind) (a b : Int) : abin .add (.int k a) (.int k b) = some (.int k (k.wrap (a + b))) := by simp [abin]
theorem abin_sub (k : IntKind) (a b : Int) : abin .sub (.int k a) (.int k b) = some (.int k (k.wrap (a - b))) := by simp [abin]
theorem abin_mul (k : IntKind) (a b : Int) : abin .mul (.int k a) (.int k b) = some (.int k (k.wrap (a * b))) := by simp [abin]
theorem abin_lss (k : IntKind) (a b : Int) : abin .lss (.int k a) (.int k b) = some (.bool (decide (a < b))) := by simp [abin]
theorem abin_leq (k : IntKind) (a b : Int) : abin .leq (.int k a) (.int k b) = some (.bool (decide (a ≤ b))) := by simp [abin]
theorem abin_gtr (k : IntKind) (a b : Int) : abin .gtr (.int k a) (.int k b) = some (.bool (decide (a > b))) := by simp [abin]
theorem abin_geq (k : IntKind) (a b : Int) : abin .geq (.int k a) (.int k b) = some (.bool (decide (a ≥ b))) := by simp [abin]
theorem abin_eql (k : IntKind) (a b : Int) : abin .eql (.int k a) (.int k b) = some (.bool (a == b)) := by simp [abin]
theorem abin_neq (k : IntKind) (a b : Int) : abin .neq (.int k a) (.int k b) = some (.bool (a != b)) := by simp [abin]
theorem tuple_one (v : AV) : tuple [v] = v := rfl

/-- A value that is its own closed tree. -/
def Plain (v : AV) : Prop := v.closed = true ∧ ∀ bx, reify reifyDepth bx v = some v
theorem plain_int (k : IntKind) (n : Int) : Plain (.int k n) := ⟨rfl, fun _ => rfl⟩
theorem plain_bool (b : Bool) : Plain (.bool b) := ⟨rfl, fun _ => rfl⟩
theorem closedL_ints (l : List Int) : AV.closedL (l.map (AV.int .i64)) = true := by
  induction l with
  | nil => rfl
  | cons a l ih => simp [AV.closedL, AV.closed, ih]
theorem plain_sl {o : Option (List AV)} (h : AV.closedL (o.getD []) = true) : Plain (sl o) := by
  cases o with
  | none => exact ⟨rfl, fun _ => rfl⟩
  | some cs =>
    have hc : (sl (some cs)).closed = true := h
    exact ⟨hc, fun bx => by show (if (AV.lst cs.length cs).closed then some (AV.lst cs.length cs) else none) = _; rw [show (AV.lst cs.length cs).closed = true from hc]; rfl⟩
theorem plain_ints (o : Option (List Int)) : Plain (ints o) := plain_sl (by rw [ints_getD]; exact closedL_ints _)

/-- What a call in a heap of its own hands on. -/
def callV (x : Option (Res × Bool)) (st : St) : Option (AV × St) := match x with
  | some (.val v, _) => some (v, st)
  | _ => none
theorem callV_some (v : AV) (al : Bool) (st : St) : callV (some (.val v, al)) st = some (v, st) := rfl
theorem doCall_plain {f : Nat} {args : List AV} {st : St} (hl : args.length < 65535) (hp : ∀ v ∈ args, Plain v) : doCall F rec .pureV f args st = callV (pcall F rec f args) st := by
  have hm : args.mapM (reify reifyDepth st.bx) = some args := by
    clear hl
    induction args with
    | nil => rfl
    | cons a l ih => rw [List.mapM_cons, (hp a (by simp)).2 st.bx, ih fun v hv => hp v (by simp [hv])]; rfl
  have hc : AV.closedL args = true := by
    clear hl hm
    induction args with
    | nil => rfl
    | cons a l ih => simp [AV.closedL, (hp a (by simp)).1, ih fun v hv => hp v (by simp [hv])]
  unfold doCall
  rw [if_neg (by omega)]
  simp only [hm, hc]
  cases pcall F rec f args with
  | none => rfl
  | some p =>
    obtain ⟨r, al⟩ := p
    cases r with
    | val v => simp [callV]
    | own n cs sz e => rfl
theorem doCall_plain1 {f : Nat} {a : AV} {st : St} (h1 : Plain a) : doCall F rec .pureV f [a] st = callV (pcall F rec f [a]) st := doCall_plain (by simp) (by simp [h1])
theorem doCall_plain2 {f : Nat} {a b : AV} {st : St} (h1 : Plain a) (h2 : Plain b) : doCall F rec .pureV f [a, b] st = callV (pcall F rec f [a, b]) st := doCall_plain (by simp) (by simp [h1, h2])
theorem doCall_plain3 {f : Nat} {a b c : AV} {st : St} (h1 : Plain a) (h2 : Plain b) (h3 : Plain c) : doCall F rec .pureV f [a, b, c] st = callV (pcall F rec f [a, b, c]) st := doCall_plain (by simp) (by simp [h1, h2, h3])
theorem thenQ_n {K : St → Prop} {Q : Ex → St → Prop} {s : St} (h : K s) : thenQ K Q .normal s := h
theorem thenQ_e {K : St → Prop} {Q : Ex → St → Prop} {s : St} {i : Nat} (h : Q (.exit i) s) : thenQ K Q (.exit i) s := h
theorem thenQ_r {K : St → Prop} {Q : Ex → St → Prop} {s : St} (h : Q .ret s) : thenQ K Q .ret s := h
theorem outQ_n {id : Nat} {Q : Ex → St → Prop} {s : St} (h : Q .normal s) : outQ id Q .normal s := h
theorem outQ_r {id : Nat} {Q : Ex → St → Prop} {s : St} (h : Q .ret s) : outQ id Q .ret s := h
theorem outQ_e {id : Nat} {Q : Ex → St → Prop} {s : St} (h : Q .normal s) : outQ id Q (.exit id) s := by rw [outQ_exit, if_pos rfl]; exact h
theorem outQ_d {id i : Nat} {Q : Ex → St → Prop} {s : St} (hn : i ≠ id) (h : Q (.exit i) s) : outQ id Q (.exit i) s := by rw [outQ_exit, if_neg hn]; exact h
end
end Go.Am
