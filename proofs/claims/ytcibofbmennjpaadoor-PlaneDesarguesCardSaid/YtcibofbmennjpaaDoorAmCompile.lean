/- From the model's code to the machine's compact code. -/
import Derived.Test.YtcibofbmennjpaaDoorAmCore
import Derived.ChangeKeysEq
set_option linter.unusedVariables false
namespace Go.Am

def cV1 : Value → AV
  | .int k n => .int k n
  | .bool b => .bool b
  | .slice none 0 0 => .nil
  | .tuple vs => if vs.size = 0 then .undef else .any
  | _ => .any
def cV : Value → AV
  | .agg cs => .agg (cs.toList.map cV1)
  | v => cV1 v
def cR : Operand → R
  | .tmp t => .t t
  | .const v => .c (cV v)
  | .global g => .g g
  | .func f => .c (.clo f [])

/-- Every cell is one: over a list, which the kernel runs through in no time. -/
def oneCells (a : Array Value) : Bool := a.toList.all (·.oneCell')
theorem oneCells_eq (a : Array Value) : oneCells a = a.all (·.oneCell') := by unfold oneCells; simp

/-- What an operation may be told: its reserved box, is a literal a row of its own, how a call is made. -/
structure Hint where
  j : Option Nat := none
  own : Bool := true
  m : Mode := .pureV

def descAgg : TypeDesc → Bool
  | .struct _ | .array _ _ => true
  | _ => false

def places (P : Program) (t : TypeId) : Option (List (Nat × Nat)) :=
  match P.underlying t with
  | some (.struct fs) => fs.toList.mapM fun f => (P.info? f.type).map fun i => (f.offset, i.size)
  | _ => none

def cParts (place : Nat → Option (Nat × Nat)) (ps : List (Nat × Operand)) : Option (List (Nat × Nat × R)) :=
  ps.mapM fun (i, r) => (place i).map fun (o, n) => (o, n, cR r)

def cOp (P : Program) (h : Hint) (o : Oper) : Option MI :=
  match o.op with
  | .move x | .assign x => some (.mov (cR x))
  | .nilCheck x => some (.nilc (cR x))
  | .pick c a b => some (.pick (cR c) (cR a) (cR b))
  | .binOp op xt x y _ =>
    match P.underlying xt with
    | some (.int _) => some (.bin op (cR x) (cR y))
    | some .bool => match op with
      | .eql => some (.eqa false (cR x) (cR y))
      | .neq => some (.eqa true (cR x) (cR y))
      | _ => none
    | some (.array n e) => match P.underlying e, P.info? e with
      | some (.int k), some i => if P.cellsOf e = 1 ∧ P.plainKey e = true ∧ P.eqGuardType P.depth xt = false then match op with
        | .eql => some (.eqarr n k false (cR x) (cR y))
        | .neq => some (.eqarr n k true (cR x) (cR y))
        | _ => none
        else none
      | _, _ => none
    | _ => none
  | .unOp .not _ x => some (.not (cR x))
  | .convert s d x =>
    match P.underlying s, P.underlying d with
    | some (.int _), some (.int k) => some (.conv k (cR x))
    | _, _ => none
  | .load t x =>
    match P.underlying t, P.info? t with
    | some d, some i => if descAgg d then some (.ldn i.size (cR x)) else some (.ld1 (cR x))
    | _, _ => none
  | .store t x v =>
    match P.underlying t, P.info? t with
    | some d, some i => if descAgg d then some (.stn i.size (cR x) (cR v)) else if i.size = 1 then some (.st1 (cR x) (cR v)) else none
    | _, _ => none
  | .alloc e =>
    match P.info? e with
    | some i => match i.zero with
      | some z => if oneCells z.cells then some (.new h.j e (z.cells.toList.map cV1)) else none
      | none => none
    | none => none
  | .box e x =>
    match P.info? e with
    | some i => some (.box h.j e i.size (cR x))
    | none => none
  | .build t ps =>
    match P.underlying t, P.info? t with
    | some (.struct fs), some i => match i.zero, places P t with
      | some z, some pl => if oneCells z.cells then (cParts (pl[·]?) ps.toList).map fun ps => .bld (z.cells.toList.map cV1) ps else none
      | _, _ => none
    | some (.array _ e), some i => match i.zero, P.info? e with
      | some z, some ie => if oneCells z.cells then (cParts (fun k => some (k * ie.size, ie.size)) ps.toList).map fun ps => .bld (z.cells.toList.map cV1) ps else none
      | _, _ => none
    | _, _ => none
  | .buildSlice t len ps =>
    match P.underlying t with
    | some (.slice e) => match P.info? e with
      | some i => match i.zero with
        | some z => if z.cells.size = i.size ∧ 0 < i.size ∧ len * i.size ≤ 16777216 ∧ oneCells z.cells then
            (cParts (fun k => some (k * i.size, i.size)) ps.toList).map fun ps => .blds h.j h.own e i.size len (rep (z.cells.toList.map cV1) len) ps else none
        | none => none
      | none => none
    | _ => none
  | .fieldAddr s x f =>
    match P.underlying s with
    | some (.struct fs) => match fs[f]? with
      | some fd => match P.info? fd.type with
        | some i => if i.size = 0 then none else some (.faddr fd.offset (cR x))
        | none => none
      | none => none
    | _ => none
  | .indexAddr t x i =>
    match P.underlying t with
    | some (.slice e) => match P.info? e with
      | some ie => some (.iaddr ie.size (cR x) (cR i))
      | none => none
    | some (.array len e) => match P.info? e with
      | some ie => some (.aaddr len ie.size (cR x) (cR i))
      | none => none
    | _ => none
  | .field t x f =>
    match P.underlying t with
    | some (.struct fs) => match fs[f]? with
      | some fd => match P.underlying fd.type, P.info? fd.type with
        | some d, some i => if descAgg d then some (.fldn fd.offset i.size (cR x)) else some (.fld1 fd.offset (cR x))
        | _, _ => none
      | none => none
    | _ => none
  | .index t x i =>
    match P.underlying t with
    | some (.array len e) => match P.underlying e, P.info? e with
      | some d, some ie => if descAgg d then some (.idxn len ie.size (cR x) (cR i)) else if ie.size = 1 then some (.idx1 len (cR x) (cR i)) else none
      | _, _ => none
    | _ => none
  | .extract t i => some (.ext (cR t) i)
  | .makeFunc (.func f) first cap => if first.size = 0 then some (.fn f (cap.toList.map cR)) else none
  | .makeSlice t l c =>
    match P.underlying t with
    | some (.slice e) => match P.info? e with
      | some i => match i.zero with
        | some z => if z.cells.size = i.size ∧ 0 < i.size ∧ oneCells z.cells then some (.mk h.j e i.size i.bytes (z.cells.toList.map cV1) (cR l) (cR c)) else none
        | none => none
      | none => none
    | _ => none
  | .slice t x lo hi none =>
    match P.underlying t with
    | some (.slice e) => match P.info? e with
      | some i => some (.slc i.size (cR x) (lo.map cR) (hi.map cR))
      | none => none
    | some (.array n e) => match P.info? e with
      | some i => some (.slca n i.size (cR x) (lo.map cR) (hi.map cR))
      | none => none
    | _ => none
  | .call c =>
    match c.callee with
    | .builtin .len =>
      match c.argTypes.toList, c.args.toList with
      | [t], [x] => match P.underlying t with
        | some (.slice _) => some (.len (cR x))
        | some (.array n _) => some (.alen n)
        | _ => none
      | _, _ => none
    | .builtin .append =>
      match c.argTypes.toList, c.args.toList with
      | [t, t'], [s, x] => if t = t' then match P.underlying t with
        | some (.slice e) => match P.info? e with
          | some i => match i.zero with
            | some z => if z.cells.size = i.size ∧ 0 < i.size then some (.app h.j e i.size i.bytes (cR s) (cR x)) else none
            | none => none
          | none => none
        | _ => none
        else none
      | _, _ => none
    | .builtin .min =>
      match c.args.toList with
      | [x, y] => some (.min2 (cR x) (cR y))
      | _ => none
    | .builtin .max =>
      match c.args.toList with
      | [x, y] => some (.max2 (cR x) (cR y))
      | _ => none
    | .value (.func f) => some (.call f (c.args.toList.map cR) h.m)
    | .value x => some (.callv (cR x) (c.args.toList.map cR) h.m)
    | _ => none
  | _ => none

/-- The slots that an instruction reads. -/
def R.slots : R → List Nat
  | .t n => [n]
  | _ => []
def MI.reads : MI → List R
  | .mov x | .nilc x | .not x | .conv _ x | .ld1 x | .ldn _ x | .box _ _ _ x | .faddr _ x | .fld1 _ x | .fldn _ _ x | .ext x _ | .len x => [x]
  | .pick a b c => [a, b, c]
  | .bin _ x y | .st1 x y | .stn _ x y | .iaddr _ x y | .aaddr _ _ x y | .idx1 _ x y | .idxn _ _ x y | .app _ _ _ _ x y | .mk _ _ _ _ _ x y | .min2 x y | .max2 x y | .eqa _ x y | .eqarr _ _ _ x y => [x, y]
  | .new _ _ _ | .alen _ => []
  | .bld _ ps | .blds _ _ _ _ _ _ ps => ps.map fun (_, _, r) => r
  | .slc _ x lo hi | .slca _ _ x lo hi => x :: (lo.toList ++ hi.toList)
  | .fn _ l => l
  | .call _ l _ => l
  | .callv x l _ => x :: l
def I.slots (i : I) : List Nat := (i.i.reads.flatMap R.slots) ++ (i.g.toList.map (·.1))

/-- What an instruction does with the boxes: nothing; reads; makes one at its reserved place; makes or writes. -/
inductive Cls where
  | none | reads | makes | writes
  deriving DecidableEq
def MI.cls : MI → Cls
  | .mov _ | .pick _ _ _ | .bin _ _ _ | .not _ | .conv _ _ | .bld _ _ | .fld1 _ _ | .fldn _ _ _ | .idx1 _ _ _ | .idxn _ _ _ _ | .ext _ _ | .alen _
  | .fn _ _ | .min2 _ _ | .max2 _ _ | .eqa _ _ _ | .eqarr _ _ _ _ _ => .none
  | .ld1 _ | .ldn _ _ | .iaddr _ _ _ | .len _ | .nilc _ | .faddr _ _ | .aaddr _ _ _ _ => .reads
  | .blds _ false _ _ _ _ _ => .none
  | .blds (some _) true _ _ _ _ _ | .new (some _) _ _ | .box (some _) _ _ _ | .mk (some _) _ _ _ _ _ _ => .makes
  | .call _ _ .pureV | .call _ _ .quiet | .callv _ _ .pureV | .callv _ _ .quiet => .reads
  | _ => .writes

/-- May two instructions of a region change places, as to slots? -/
def slotFree (x y : I) : Bool :=
  (match x.d with | some d => !y.slots.contains d && y.d != some d | none => true) &&
  (match y.d with | some d => !x.slots.contains d | none => true)

/-- As to boxes, by their classes? -/
def clsFree (x y : I) : Bool :=
  match x.i.cls, y.i.cls with
  | .none, _ | _, .none => true
  | .reads, .reads => true
  | _, _ => false

/-- What must stand before each operation: bits. -/
def forceN {α : Type} (n : Nat) (k : Nat → α) : α := match n with
  | 0 => k 0
  | m + 1 => k (m + 1)
theorem forceN_eq {α : Type} (n : Nat) (k : Nat → α) : forceN n k = k n := by cases n <;> rfl
def edgeMask (acc : List Nat) (o : Oper) : Nat := o.after.toList.foldl (fun m e => bif Region.binds .any e then m ||| (1 <<< e.on ||| acc.getD e.on 0) else m) 0
def masks : List Oper → List Nat → List Nat
  | [], acc => acc
  | o :: l, acc => forceN (edgeMask acc o) fun m => masks l (acc ++ [m])

/-- The edges lead back; every pair that they do not order may change places, or is one of the pairs that are looked at as they run. -/
def drawOk (ops : Array Oper) (l : List I) (prs : List (Nat × Nat)) : Bool :=
  let b := masks ops.toList []
  (List.range ops.size).all fun j =>
    (match ops[j]? with | some o => o.after.toList.all fun e => !Region.binds .any e || decide (e.on < j) | none => false) &&
    (List.range j).all fun i => (b.getD j 0).testBit i || (match l[i]?, l[j]? with | some x, some y => slotFree x y && (clsFree x y || prs.contains (i, j)) | _, _ => false)

/-- The pairs that must be looked at as they run. -/
def drawPrs (ops : Array Oper) (l : List I) : List (Nat × Nat) :=
  let b := masks ops.toList []
  (List.range ops.size).flatMap fun j => (List.range j).filterMap fun i =>
    if (b.getD j 0).testBit i then none else match l[i]?, l[j]? with
      | some x, some y => if clsFree x y then none else some (i, j)
      | _, _ => none

abbrev Hints := Nat → Nat → Hint

def dstOk (nt : Nat) : Option Nat → Bool
  | some d => decide (d < nt)
  | none => true

def cGuard (nt : Nat) (ops : Array Oper) : Option (Nat × Bool) → Option (Option (Nat × Bool))
  | none => some none
  | some (g, want) =>
    match (ops[g]?).bind (·.dst) with
    | some s => if s < nt then some (some (s, want)) else none
    | none => none

def cOps (P : Program) (nt : Nat) (hs : Nat → Hint) (ops : Array Oper) : Nat → List Oper → Option (List I)
  | _, [] => some []
  | k, o :: rest =>
    match cOp P (hs k) o, cGuard nt ops o.guard, cOps P nt hs ops (k + 1) rest with
    | some mi, some g, some l => if dstOk nt o.dst then some (⟨o.dst, g, mi⟩ :: l) else none
    | _, _, _ => none

/-- How many boxes a region reserves: the hints' greatest, one more. -/
def reserved (hs : Nat → Hint) (n : Nat) : Nat := (List.range n).foldl (fun m k => match (hs k).j with | some j => max m (j + 1) | none => m) 0

def cCode (P : Program) (nt : Nat) (H : Hints) : Code → Option MC
  | .skip => some .skip
  | .region id ops draw =>
    match cOps P nt (H id) ops 0 ops.toList with
    | some l =>
      if draw then
        if P.follows .mixedOrders then
          match drawPrs ops l with
          | [] => if drawOk ops l [] then some (.ops (reserved (H id) ops.size) l) else none
          | p :: ps => if drawOk ops l (p :: ps) then some (.opsD (reserved (H id) ops.size) l (p :: ps)) else none
        else none
      else some (.ops (reserved (H id) ops.size) l)
    | none => none
  | .seq a b => match cCode P nt H a, cCode P nt H b with
    | some x, some y => some (.seq x y)
    | _, _ => none
  | .cond c a b => match cCode P nt H a, cCode P nt H b with
    | some x, some y => some (.cond (cR c) x y)
    | _, _ => none
  | .block id a => (cCode P nt H a).map (.block id ·)
  | .loop a => (cCode P nt H a).map .loop
  | .exit id => some (.exit id)
  | .ret => some .ret
  | _ => none

def cRes (P : Program) : ResultVar → Option RVar
  | .tmp t => some (.tmp t)
  | .cell a t =>
    match P.underlying t, P.info? t with
    | some d, some i => if descAgg d then some (.celln a i.size) else some (.cell1 a)
    | _, _ => none

/-- A function. -/
def cFn (P : Program) (H : Hints) (fn : Func) : Option MF :=
  match fn.body with
  | none => none
  | some c =>
    if fn.ntmps < 65535 ∧ fn.name ≠ "runtime.NumGoroutine" then
      match cCode P fn.ntmps H c, fn.results.toList.mapM (cRes P) with
      | some m, some rs => some ⟨m, rs⟩
      | _, _ => none
    else none

end Go.Am
