/- The abstract machine: values, state, instructions, interpreter. No program, no memory of the model: plain computable functions. -/
import GoSem.Dispatch
import GoSem.Machine.Return
import Derived.Laws.Sem
set_option linter.unusedVariables false
namespace Go.Am

/-- Abstract values. 'lst': a slice that nobody writes any more, by its cells. 'own': the slice that covers box id, n elements. 'ptr': a pointer into a box that had len cells. 'rptr': a pointer from which cells may be read. -/
inductive AV where
  | int (k : IntKind) (n : Int)
  | bool (b : Bool)
  | nil
  | lst (n : Nat) (cs : List AV)
  | own (id n : Nat)
  | ptr (id len off : Nat)
  | rptr (cs : List AV)
  | agg (cs : List AV)
  | tup (vs : List AV)
  | clo (f : Nat) (cap : List AV)
  | undef
  | any
  deriving Inhabited, Repr

inductive Status where
  | fresh | live | frozen
  deriving DecidableEq, Repr

structure Box where
  cs : List AV
  sz : Nat
  e : TypeId
  status : Status
  deriving Repr

def freshBox : Box := ⟨[], 0, 0, .fresh⟩

/-- Slots, by the bits of their number. -/
inductive Tm where
  | e
  | n (v : AV) (l r : Tm)
  deriving Repr

def Tm.getF : Nat → Tm → Nat → AV
  | 0, _, _ => .undef
  | _ + 1, .e, _ => .undef
  | f + 1, .n v l r, k => bif Nat.beq k 0 then v else bif Nat.beq (k % 2) 1 then getF f l (k / 2) else getF f r (k / 2 - 1)
def Tm.get (t : Tm) (k : Nat) : AV := t.getF 16 k
def Tm.setF : Nat → Tm → Nat → AV → Tm
  | 0, t, _, _ => t
  | f + 1, .e, k, v => bif Nat.beq k 0 then .n v .e .e else bif Nat.beq (k % 2) 1 then .n .undef (setF f .e (k / 2) v) .e else .n .undef .e (setF f .e (k / 2 - 1) v)
  | f + 1, .n u l r, k, v => bif Nat.beq k 0 then .n v l r else bif Nat.beq (k % 2) 1 then .n u (setF f l (k / 2) v) r else .n u l (setF f r (k / 2 - 1) v)
def Tm.set (t : Tm) (k : Nat) (v : AV) : Tm := t.setF 16 k v

structure St where
  tm : Tm
  bx : List Box
  rb : Nat      -- the region's first reserved box
  deriving Repr

inductive R where
  | t (n : Nat)
  | c (v : AV)
  | g (n : Nat)
  deriving Repr, Inhabited

inductive Mode where
  | pure | pureV | quiet | shared
  deriving DecidableEq, Repr, Inhabited

inductive MI where
  | mov (x : R)
  | nilc (x : R)
  | pick (c a b : R)
  | bin (op : BinOp) (x y : R)
  | not (x : R)
  | conv (k : IntKind) (x : R)
  | ld1 (x : R)
  | ldn (n : Nat) (x : R)
  | st1 (x v : R)
  | stn (n : Nat) (x v : R)
  | new (j : Option Nat) (e : TypeId) (cs : List AV)
  | box (j : Option Nat) (e : TypeId) (sz : Nat) (x : R)
  | bld (cs : List AV) (parts : List (Nat × Nat × R))
  | blds (j : Option Nat) (own : Bool) (e : TypeId) (sz len : Nat) (cs : List AV) (parts : List (Nat × Nat × R))
  | faddr (off : Nat) (x : R)
  | iaddr (sz : Nat) (x i : R)
  | aaddr (len sz : Nat) (x i : R)
  | fld1 (off : Nat) (x : R)
  | fldn (off n : Nat) (x : R)
  | idx1 (len : Nat) (x i : R)
  | idxn (len sz : Nat) (x i : R)
  | ext (x : R) (i : Nat)
  | len (x : R)
  | alen (n : Nat)
  | app (j : Option Nat) (e : TypeId) (sz bytes : Nat) (s x : R)
  | mk (j : Option Nat) (e : TypeId) (sz bytes : Nat) (zero : List AV) (l c : R)
  | slc (sz : Nat) (x : R) (lo hi : Option R)
  | slca (n sz : Nat) (x : R) (lo hi : Option R)
  | fn (f : Nat) (cap : List R)
  | call (f : Nat) (args : List R) (m : Mode)
  | callv (x : R) (args : List R) (m : Mode)
  | min2 (x y : R)
  | max2 (x y : R)
  | eqa (neg : Bool) (x y : R)
  | eqarr (n : Nat) (k : IntKind) (neg : Bool) (x y : R)
  deriving Repr, Inhabited

structure I where
  d : Option Nat
  g : Option (Nat × Bool)
  i : MI
  deriving Repr

inductive MC where
  | skip
  | ops (m : Nat) (l : List I)
  | opsD (m : Nat) (l : List I) (prs : List (Nat × Nat))
  | seq (a b : MC)
  | cond (c : R) (a b : MC)
  | block (id : Nat) (a : MC)
  | loop (a : MC)
  | exit (id : Nat)
  | ret
  | prim (g : St → Option St)
  deriving Inhabited

inductive RVar where
  | tmp (t : Nat)
  | cell1 (t : Nat)
  | celln (t n : Nat)
  deriving Repr

structure MF where
  body : MC
  res : List RVar

inductive Ex where
  | normal
  | exit (id : Nat)
  | ret
  deriving DecidableEq, Repr

/-- What a call gives: a closed value, or a slice of fresh memory by its cells. -/
inductive Res where
  | val (v : AV)
  | own (n : Nat) (cs : List AV) (sz : Nat) (e : TypeId)
  deriving Repr

section eval
variable (G : Nat → List AV)

def St.ev (st : St) : R → AV
  | .t n => st.tm.get n
  | .c v => v
  | .g n => .rptr (G n)
end eval

def abin (op : BinOp) (x y : AV) : Option AV :=
  match x, y with
  | .int k a, .int k' b =>
    match op with
    | .shl => if b < 0 then none else some (.int k (k.wrap (a * 2 ^ (min b.toNat k.bits))))
    | .shr => if b < 0 then none else some (.int k (a.fdiv (2 ^ (min b.toNat k.bits))))
    | .add => if k = k' then some (.int k (k.wrap (a + b))) else none
    | .sub => if k = k' then some (.int k (k.wrap (a - b))) else none
    | .mul => if k = k' then some (.int k (k.wrap (a * b))) else none
    | .quo => if k = k' then if b = 0 then none else some (.int k (k.wrap (a.tdiv b))) else none
    | .rem => if k = k' then if b = 0 then none else some (.int k (a.tmod b)) else none
    | .and => if k = k' then some (.int k (k.wrap ((BitVec.ofInt k.bits a &&& BitVec.ofInt k.bits b).toNat : Int))) else none
    | .or => if k = k' then some (.int k (k.wrap ((BitVec.ofInt k.bits a ||| BitVec.ofInt k.bits b).toNat : Int))) else none
    | .xor => if k = k' then some (.int k (k.wrap ((BitVec.ofInt k.bits a ^^^ BitVec.ofInt k.bits b).toNat : Int))) else none
    | .andNot => if k = k' then some (.int k (k.wrap ((BitVec.ofInt k.bits a &&& ~~~ (BitVec.ofInt k.bits b)).toNat : Int))) else none
    | .eql => if k = k' then some (.bool (a == b)) else none
    | .neq => if k = k' then some (.bool (a != b)) else none
    | .lss => if k = k' then some (.bool (decide (a < b))) else none
    | .leq => if k = k' then some (.bool (decide (a ≤ b))) else none
    | .gtr => if k = k' then some (.bool (decide (a > b))) else none
    | .geq => if k = k' then some (.bool (decide (a ≥ b))) else none
  | _, _ => none

/-- Cells of a value. -/
def AV.cells : AV → List AV
  | .agg cs => cs
  | v => [v]

/-- Ints of one kind. -/
def kInts (k : IntKind) : List AV → Option (List Int)
  | [] => some []
  | .int k' n :: r => if k' = k then (kInts k r).map (n :: ·) else none
  | _ :: _ => none

/-- May the value stand in one cell? -/
def AV.one : AV → Bool
  | .agg _ | .tup _ | .undef | .any => false
  | _ => true

/-- Write cells into a list from a place on. -/
def putAt (l : List AV) (o : Nat) (vs : List AV) : List AV := l.take o ++ vs ++ l.drop (o + vs.length)

def St.newBox (st : St) (j : Option Nat) (b : Box) : Option (Nat × St) :=
  match j with
  | none => some (st.bx.length, { st with bx := st.bx ++ [b] })
  | some j =>
    match st.bx[st.rb + j]? with
    | some b' => if b'.status = .fresh then some (st.rb + j, { st with bx := st.bx.set (st.rb + j) b }) else none
    | none => none

/-- The cells of a slice, to be read: n elements of sz cells. -/
def St.slice (st : St) (sz : Nat) : AV → Option (Nat × List AV)
  | .nil => some (0, [])
  | .lst n cs => if cs.length = n * sz then some (n, cs) else none
  | .own id n =>
    match st.bx[id]? with
    | some b => if b.status ≠ .fresh ∧ b.cs.length = n * b.sz ∧ b.sz = sz then some (n, b.cs) else none
    | none => none
  | _ => none

/-- Cells readable at a pointer. -/
def St.at_ (st : St) : AV → Option (List AV)
  | .rptr cs => some cs
  | .ptr id len off =>
    match st.bx[id]? with
    | some b => if b.status ≠ .fresh ∧ b.cs.length = len then some (b.cs.drop off) else none
    | none => none
  | _ => none

/-- Does a pointer into box id, that had len cells, still point there? -/
def St.valid (st : St) (id len : Nat) : Bool :=
  match st.bx[id]? with
  | some b => decide (b.status ≠ .fresh) && Nat.beq b.cs.length len
  | none => false

/-- Write cells at a pointer. -/
def St.write (st : St) (p : AV) (vs : List AV) : Option St :=
  match p with
  | .ptr id len off =>
    match st.bx[id]? with
    | some b => if b.status = .live ∧ b.cs.length = len ∧ off + vs.length ≤ len ∧ vs.all AV.one
        then some { st with bx := st.bx.set id { b with cs := putAt b.cs off vs } } else none
    | none => none
  | _ => none

mutual
/-- Holds no reference into boxes. -/
def AV.closed : AV → Bool
  | .int _ _ | .bool _ | .nil | .undef => true
  | .lst _ cs => closedL cs
  | .agg cs => closedL cs
  | .tup vs => closedL vs
  | .clo _ cap => closedL cap
  | .rptr cs => closedL cs
  | .own _ _ | .ptr _ _ _ | .any => false
def AV.closedL : List AV → Bool
  | [] => true
  | v :: vs => v.closed && closedL vs
end

/-- The value as a closed tree: own slices by their cells. -/
def reify : Nat → List Box → AV → Option AV
  | 0, _, _ => none
  | f + 1, bx, v =>
    match v with
    | .own id n =>
      match bx[id]? with
      | some b => if b.status ≠ .fresh ∧ b.cs.length = n * b.sz then (b.cs.mapM (reify f bx)).map (.lst n ·) else none
      | none => none
    | .agg cs => (cs.mapM (reify f bx)).map .agg
    | .tup cs => (cs.mapM (reify f bx)).map .tup
    | .clo g cs => (cs.mapM (reify f bx)).map (.clo g ·)
    | .ptr _ _ _ | .any => none
    | v => if v.closed then some v else none

/-- May the value share memory that was there before (a slice or pointer that is no box's)? -/
def alias : Nat → List Box → AV → Bool
  | 0, _, _ => true
  | f + 1, bx, v =>
    match v with
    | .own id _ => match bx[id]? with
      | some b => b.cs.any (alias f bx)
      | none => true
    | .agg cs | .tup cs => cs.any (alias f bx)
    | .clo _ cs => cs.any (alias f bx)
    | .int _ _ | .bool _ | .nil | .undef => false
    | _ => true

def reifyDepth : Nat := 8

def seg (l : List AV) (o n : Nat) : Option (List AV) := if o + n ≤ l.length then some ((l.drop o).take n) else none

def fill : List (Nat × Nat × AV) → List AV → Option (List AV)
  | [], l => some l
  | (o, n, v) :: ps, l => if v.cells.length = n ∧ o + n ≤ l.length ∧ v.cells.all AV.one then fill ps (putAt l o v.cells) else none

def rep {α : Type} (z : List α) : Nat → List α
  | 0 => []
  | n + 1 => z ++ rep z n

section step
variable (G : Nat → List AV)

/-- A bound of a slice expression. -/
def bound (st : St) (dflt : Nat) : Option R → Option Nat
  | none => some dflt
  | some r => match st.ev G r with
    | .int _ k => if 0 ≤ k then some k.toNat else none
    | _ => none

/-- An instruction without a call: the value and the state behind it. -/
def exI (i : MI) (st : St) : Option (AV × St) :=
  match i with
  | .mov x => some (st.ev G x, st)
  | .nilc x => match st.ev G x with
    | .ptr a b c => if st.valid a b then some (.ptr a b c, st) else none
    | .rptr cs => some (.rptr cs, st)
    | .clo f cs => some (.clo f cs, st)
    | _ => none
  | .pick c a b => match st.ev G c with
    | .bool t => some (bif t then st.ev G a else st.ev G b, st)
    | _ => none
  | .bin op x y => (abin op (st.ev G x) (st.ev G y)).map (·, st)
  | .not x => match st.ev G x with
    | .bool t => some (.bool (!t), st)
    | _ => none
  | .conv k x => match st.ev G x with
    | .int _ n => some (.int k (k.wrap n), st)
    | _ => none
  | .ld1 x => match st.at_ (st.ev G x) with
    | some (c :: _) => some (c, st)
    | _ => none
  | .ldn n x => match st.at_ (st.ev G x) with
    | some cs => if n ≤ cs.length then some (.agg (cs.take n), st) else none
    | _ => none
  | .st1 x v => if (st.ev G v).one then (st.write (st.ev G x) [st.ev G v]).map (.undef, ·) else none
  | .stn n x v => match st.ev G v with
    | .agg cs => if cs.length = n then (st.write (st.ev G x) cs).map (.undef, ·) else none
    | _ => none
  | .new j e cs => (st.newBox j ⟨cs, cs.length, e, .live⟩).map fun (id, st) => (.ptr id cs.length 0, st)
  | .box j e sz x =>
    if (st.ev G x).cells.length = sz ∧ (st.ev G x).cells.all AV.one then
      (st.newBox j ⟨(st.ev G x).cells, sz, e, .live⟩).map fun (id, st) => (.ptr id sz 0, st)
    else none
  | .bld z ps => (fill (ps.map fun (o, n, r) => (o, n, st.ev G r)) z).map (.agg ·, st)
  | .blds j own e sz len z ps =>
    match fill (ps.map fun (o, n, r) => (o, n, st.ev G r)) z with
    | some cs =>
      if cs.length = len * sz then
        if own then (st.newBox j ⟨cs, sz, e, .live⟩).map fun (id, st) => (.own id len, st)
        else if AV.closedL cs then some (.lst len cs, st) else none
      else none
    | none => none
  | .faddr off x => match st.ev G x with
    | .ptr id len o => if st.valid id len then some (.ptr id len (o + off), st) else none
    | .rptr cs => some (.rptr (cs.drop off), st)
    | _ => none
  | .iaddr sz x i => match st.ev G x, st.ev G i with
    | .lst n cs, .int _ k => if 0 ≤ k ∧ k < n ∧ cs.length = n * sz ∧ 0 < sz then some (.rptr (cs.drop (k.toNat * sz)), st) else none
    | .own id n, .int _ k =>
      match st.bx[id]? with
      | some b => if 0 ≤ k ∧ k < n ∧ b.status ≠ .fresh ∧ b.cs.length = n * b.sz ∧ b.sz = sz then some (.ptr id (n * sz) (k.toNat * sz), st) else none
      | none => none
    | _, _ => none
  | .aaddr len sz x i => match st.ev G x, st.ev G i with
    | .rptr cs, .int _ k => if 0 ≤ k ∧ k < len then some (.rptr (cs.drop (k.toNat * sz)), st) else none
    | .ptr id l o, .int _ k => if 0 ≤ k ∧ k < len ∧ st.valid id l = true then some (.ptr id l (o + k.toNat * sz), st) else none
    | _, _ => none
  | .fld1 off x => match st.ev G x with
    | .agg cs => match cs[off]? with
      | some c => some (c, st)
      | none => none
    | _ => none
  | .fldn off n x => match st.ev G x with
    | .agg cs => (seg cs off n).map (.agg ·, st)
    | _ => none
  | .idx1 len x i => match st.ev G x, st.ev G i with
    | .agg cs, .int _ k => if 0 ≤ k ∧ k < len then match cs[k.toNat]? with
      | some c => some (c, st)
      | none => none
      else none
    | _, _ => none
  | .idxn len sz x i => match st.ev G x, st.ev G i with
    | .agg cs, .int _ k => if 0 ≤ k ∧ k < len then (seg cs (k.toNat * sz) sz).map (.agg ·, st) else none
    | _, _ => none
  | .ext x i => match st.ev G x with
    | .tup vs => match vs[i]? with
      | some v => some (v, st)
      | none => none
    | _ => none
  | .len x => match st.ev G x with
    | .nil => some (.int .i64 0, st)
    | .lst n _ => some (.int .i64 n, st)
    | .own id n =>
      match st.bx[id]? with
      | some b => if b.status ≠ .fresh ∧ b.cs.length = n * b.sz then some (.int .i64 n, st) else none
      | none => none
    | _ => none
  | .alen n => some (.int .i64 n, st)
  | .app j e sz bytes s x =>
    match st.slice sz (st.ev G x) with
    | none => none
    | some (m, news) =>
      match st.ev G s with
      | .nil =>
        if m = 0 then some (.nil, st)
        else if m * bytes ≤ 140737488355328 ∧ m ≤ 9223372036854775807 ∧ news.all AV.one then (st.newBox j ⟨news, sz, e, .live⟩).map fun (id, st) => (.own id m, st) else none
      | .own id n =>
        match st.bx[id]? with
        | some b =>
          if b.status = .live ∧ b.cs.length = n * b.sz ∧ b.sz = sz ∧ b.e = e ∧ (n + m) * bytes ≤ 140737488355328 ∧ n + m ≤ 9223372036854775807 ∧ news.all AV.one
          then some (.own id (n + m), { st with bx := st.bx.set id { b with cs := b.cs ++ news } })
          else none
        | none => none
      | _ => none
  | .mk j e sz bytes zero l c => match st.ev G l, st.ev G c with
    | .int .i64 a, .int .i64 b =>
      if 0 ≤ a ∧ a = b ∧ a * bytes ≤ 140737488355328 ∧ a ≤ 9223372036854775807 ∧ zero.length = sz then
        (st.newBox j ⟨rep zero a.toNat, sz, e, .live⟩).map fun (id, st) => (.own id a.toNat, st)
      else none
    | _, _ => none
  | .slc sz x lo hi =>
    match bound G st 0 lo with
    | none => none
    | some l => match st.ev G x with
      | .nil => if l = 0 ∧ bound G st 0 hi = some 0 then some (.nil, st) else none
      | .lst n cs => match bound G st n hi with
        | some h => if l ≤ h ∧ h ≤ n ∧ cs.length = n * sz then some (.lst (h - l) ((cs.drop (l * sz)).take ((h - l) * sz)), st) else none
        | none => none
      | .own id n => match bound G st n hi, st.bx[id]? with
        | some h, some b => if l ≤ h ∧ h ≤ n ∧ b.status ≠ .fresh ∧ b.cs.length = n * b.sz ∧ b.sz = sz ∧ AV.closedL b.cs
            then some (.lst (h - l) ((b.cs.drop (l * sz)).take ((h - l) * sz)), { st with bx := st.bx.set id { b with status := .frozen } }) else none
        | _, _ => none
      | _ => none
  | .slca n sz x lo hi =>
    match bound G st 0 lo, bound G st n hi with
    | some l, some h => match st.ev G x with
      | .ptr id len off => match st.bx[id]? with
        | some b => if l ≤ h ∧ h ≤ n ∧ b.status ≠ .fresh ∧ b.cs.length = len ∧ off + n * sz ≤ len ∧ n ≤ 9223372036854775807 ∧ AV.closedL b.cs
            then some (.lst (h - l) ((b.cs.drop (off + l * sz)).take ((h - l) * sz)), { st with bx := st.bx.set id { b with status := .frozen } }) else none
        | none => none
      | _ => none
    | _, _ => none
  | .fn f cap => some (.clo f (cap.map (st.ev G)), st)
  | .min2 x y => match st.ev G x, st.ev G y with
    | .int .i64 a, .int .i64 b => some (.int .i64 (if b < a then b else a), st)
    | _, _ => none
  | .max2 x y => match st.ev G x, st.ev G y with
    | .int .i64 a, .int .i64 b => some (.int .i64 (if b > a then b else a), st)
    | _, _ => none
  | .eqa neg x y => match st.ev G x, st.ev G y with
    | .bool a, .bool b => some (.bool (bif neg then !(a == b) else (a == b)), st)
    | _, _ => none
  | .eqarr n k neg x y => match st.ev G x, st.ev G y with
    | .agg a, .agg b => match kInts k a, kInts k b with
      | some l, some m => if l.length = n ∧ m.length = n then some (.bool (bif neg then !(l == m) else (l == m)), st) else none
      | _, _ => none
    | _, _ => none
  | .call _ _ _ | .callv _ _ _ => none

variable (F : Nat → Option MF) (rec : MC → St → Option (Ex × St))

def initTm : Nat → List AV → Tm → Tm
  | _, [], t => t
  | k, v :: vs, t => initTm (k + 1) vs (t.set k v)

/-- The results of a frame. -/
def rvar (st : St) : RVar → Option AV
  | .tmp t => some (st.tm.get t)
  | .cell1 t => match st.at_ (st.tm.get t) with
    | some (c :: _) => some c
    | _ => none
  | .celln t n => match st.at_ (st.tm.get t) with
    | some cs => if n ≤ cs.length then some (.agg (cs.take n)) else none
    | none => none

def runBody (fn : MF) (st : St) : Option (St × List AV) :=
  match rec fn.body st with
  | some (.normal, st') | some (.ret, st') => (fn.res.mapM (rvar st')).map (st', ·)
  | _ => none

def tuple : List AV → AV
  | [v] => v
  | vs => .tup vs

/-- A call in a heap of its own: arguments and result are closed. -/
def pcall (f : Nat) (args : List AV) : Option (Res × Bool) :=
  match F f with
  | none => none
  | some fn =>
    match runBody rec fn ⟨initTm 0 args .e, [], 0⟩ with
    | none => none
    | some (st, rs) =>
      match tuple rs with
      | .own id n =>
        match st.bx[id]? with
        | some b => if b.status = .live ∧ b.cs.length = n * b.sz then
            (b.cs.mapM (reify reifyDepth (st.bx.set id freshBox))).map fun cs => (.own n cs b.sz b.e, b.cs.any (alias reifyDepth (st.bx.set id freshBox))) else none
        | none => none
      | v => (reify reifyDepth st.bx v).map fun r => (.val r, alias reifyDepth st.bx v)

mutual
def AV.scalar : AV → Bool
  | .int _ _ | .bool _ => true
  | .tup vs => scalarL vs
  | .agg vs => scalarL vs
  | _ => false
def AV.scalarL : List AV → Bool
  | [] => true
  | v :: vs => v.scalar && scalarL vs
end

def Box.freeze (b : Box) : Box := match b.status with
  | .live => { b with status := .frozen }
  | _ => b

/-- A call: in one of four ways. -/
def doCall (m : Mode) (f : Nat) (args : List AV) (st : St) : Option (AV × St) :=
  if 65535 ≤ args.length then none else
  match m with
  | .pure =>
    match args.mapM (reify reifyDepth st.bx) with
    | none => none
    | some as =>
      match pcall F rec f as with
      | none => none
      | some (.val v, al) => if al && !AV.closedL args then none else some (v, st)
      | some (.own n cs sz e, al) => if al && !AV.closedL args then none else (st.newBox none ⟨cs, sz, e, .live⟩).map fun (id, st) => (.own id n, st)
  | .pureV =>
    match args.mapM (reify reifyDepth st.bx) with
    | none => none
    | some as =>
      match pcall F rec f as with
      | some (.val v, al) => if al && !AV.closedL args then none else some (v, st)
      | _ => none
  | .quiet =>
    match F f with
    | none => none
    | some fn =>
      match runBody rec fn ⟨initTm 0 args .e, st.bx.map Box.freeze, 0⟩ with
      | none => none
      | some (_, rs) => if (tuple rs).scalar then some (tuple rs, st) else none
  | .shared =>
    match F f with
    | none => none
    | some fn =>
      match runBody rec fn ⟨initTm 0 args .e, st.bx, 0⟩ with
      | none => none
      | some (st', rs) => some (tuple rs, { st with bx := st'.bx })

def St.put (st : St) (d : Option Nat) (v : AV) : St :=
  match d with
  | some d => { st with tm := st.tm.set d v }
  | none => st

/-- An instruction: its value, the state behind it. -/
def runI (i : MI) (st : St) : Option (AV × St) :=
  match i with
  | .call f args m => doCall F rec m f (args.map (st.ev G)) st
  | .callv x args m =>
    match st.ev G x with
    | .clo f cap => doCall F rec m f (args.map (st.ev G) ++ cap) st
    | _ => none
  | mi => exI G mi st

def exec1 (i : I) (st : St) : Option St :=
  match i.g with
  | none => (runI G F rec i.i st).map fun p => p.2.put i.d p.1
  | some (t, want) =>
    match st.tm.get t with
    | .bool b => bif b == want then (runI G F rec i.i st).map fun p => p.2.put i.d p.1 else some (st.put i.d .undef)
    | .undef => some (st.put i.d .undef)
    | _ => none

/-- What an instruction reads and writes of the boxes; 'none': all. -/
structure Fp where
  r : Option (List Nat)
  w : Option (List Nat)
  deriving Repr, Inhabited, DecidableEq

def idsOf : AV → List Nat
  | .own id _ => [id]
  | .ptr id _ _ => [id]
  | _ => []

def jw (st : St) (j : Option Nat) : Option (List Nat) := j.map fun j => [st.rb + j]

def fpI (i : MI) (st : St) : Fp :=
  match i with
  | .nilc x | .ld1 x | .ldn _ x | .faddr _ x | .iaddr _ x _ | .aaddr _ _ x _ | .len x => ⟨some (idsOf (st.ev G x)), some []⟩
  | .st1 x _ | .stn _ x _ => ⟨some [], some (idsOf (st.ev G x))⟩
  | .new j _ _ | .box j _ _ _ | .mk j _ _ _ _ _ _ => ⟨some [], jw st j⟩
  | .blds j own _ _ _ _ _ => bif own then ⟨some [], jw st j⟩ else ⟨some [], some []⟩
  | .app j _ _ _ s x => ⟨some (idsOf (st.ev G x)), match st.ev G s with
    | .own id _ => some [id]
    | _ => jw st j⟩
  | .slc _ x _ _ | .slca _ _ x _ _ => ⟨some [], some (idsOf (st.ev G x))⟩
  | .call _ args .pureV => bif AV.closedL (args.map (st.ev G)) then ⟨some [], some []⟩ else ⟨none, some []⟩
  | .call _ _ .quiet | .callv _ _ .pureV | .callv _ _ .quiet => ⟨none, some []⟩
  | .call _ _ _ | .callv _ _ _ => ⟨none, none⟩
  | _ => ⟨some [], some []⟩

def hit : Option (List Nat) → Option (List Nat) → Bool
  | some [], _ => false
  | _, some [] => false
  | some a, some b => a.any b.contains
  | _, _ => true

def Fp.apart (x y : Fp) : Bool := x.w.isSome && y.w.isSome && !hit x.w y.r && !hit x.w y.w && !hit x.r y.w

def execsF : List I → St → Option (St × List Fp)
  | [], st => some (st, [])
  | i :: l, st => match exec1 G F rec i st with
    | some st' => (execsF l st').map fun p => (p.1, fpI G i.i st :: p.2)
    | none => none

def execs : List I → St → Option St
  | [], st => some st
  | i :: l, st => match exec1 G F rec i st with
    | some st' => execs l st'
    | none => none

def step : MC → St → Option (Ex × St)
  | .skip, st => some (.normal, st)
  | .ops m l, st =>
    match m with
    | 0 => (execs G F rec l st).map (.normal, ·)
    | m => (execs G F rec l { st with bx := st.bx ++ List.replicate m freshBox, rb := st.bx.length }).map (.normal, ·)
  | .opsD m l prs, st =>
    match execsF G F rec l { st with bx := st.bx ++ List.replicate m freshBox, rb := st.bx.length } with
    | some (st', fps) => if prs.all fun p => (fps.getD p.1 ⟨none, none⟩).apart (fps.getD p.2 ⟨none, none⟩) then some (.normal, st') else none
    | none => none
  | .seq a b, st =>
    match step a st with
    | some (.normal, st') => step b st'
    | r => r
  | .cond c a b, st =>
    match st.ev G c with
    | .bool t => bif t then step a st else step b st
    | _ => none
  | .block id a, st =>
    match step a st with
    | some (.exit i, st') => if i = id then some (.normal, st') else some (.exit i, st')
    | r => r
  | .loop a, st =>
    match step a st with
    | some (.normal, st') => rec (.loop a) st'
    | r => r
  | .exit id, st => some (.exit id, st)
  | .ret, st => some (.ret, st)
  | .prim g, st => (g st).map (.normal, ·)
end step

def aexec (G : Nat → List AV) (F : Nat → Option MF) : Nat → MC → St → Option (Ex × St)
  | 0, _, _ => none
  | n + 1, c, st => step G F (aexec G F n) c st

end Go.Am
