/-
  NARROWER THAN 'FOR EVERY INPUT', by the rows' own cells (each row's printed sentence says how): TopBose: laid · TopCodes: laid · TopPaley: laid · PlaneFields: laid · PlanePappus: laid · PlaneDesargues: laid · PlaneBose: laid.
  DERIVED. THE GIVEN ROWS OF THIS SEAT. 7 by the template 'for every input the law returns true; each argument reads behind the call as it read before'; 0 by the template 'total and deterministic' (their statements: YtcibofbmennjpaaDoorTotals.lean).
  GIVEN WITH THE SEED: the statements are not yours to turn. If you find one false, say at which input.
  Laid BY PROGRAM, IN A SANDBOX (cutbox-rows.mjs): the forced cells as the released guide's own fill.sh prints them over the translation 4c327a1ea87cc320… (all of the seat's roots in one cut). By AI agents, Wed Nov 11 2026. No macro, syntax, notation, axiom, sorry.
-/
import Derived.Test.YtcibofbmennjpaaDoorChecked
import GoSem.Claim
import GoSem.ClaimJoined
import GoSem.ClaimMapViews
import Derived.JoinedTies
import Derived.KernelRfl
namespace Go.Proofs.YtcibofbmennjpaaDoor
/- THE CELL 'sum', in the pinned program and in every row, IS THE sha256 OF THE DUMP (.gsa) THAT YtcibofbmennjpaaDoorProg.lean LOADS. Nothing in Lean hashes anything: it is a label: what it is worth is what the hold of that sum in a sandbox is worth. -/
noncomputable def Tryd.pinned : Pinned := { name := "ytcibofbmennjpaadoor", sum := "4c327a1ea87cc3201a224710e648df8808e657ad9975b57185aeeae156fa74b7", checked := Tryd.checked }
namespace Rows
def none {H : Type} : Left H := { results := [], args := [] }

/- WHAT THE LISTED PACKAGE-LEVEL VARIABLES READ AS WHEN THE CALL BEGINS. Each datum BY PROGRAM (the guide's laid-datum.mjs) off the statement by which the dump's own 'gosem.cut.vars' lays the variable. In a bare row this is a premise. The card (YtcibofbmennjpaaDoorCards.lean) ties it to the program's text. -/
def laid_parterre_field_primes {H : Type} : DataW H := .agg [.lit (.int .i64 2), .lit (.int .i64 3), .lit (.int .i64 5), .lit (.int .i64 7), .lit (.int .i64 11), .lit (.int .i64 13), .lit (.int .i64 17), .lit (.int .i64 19), .lit (.int .i64 23), .lit (.int .i64 29), .lit (.int .i64 31), .lit (.int .i64 37), .lit (.int .i64 41), .lit (.int .i64 43), .lit (.int .i64 47), .lit (.int .i64 53), .lit (.int .i64 59), .lit (.int .i64 61)]

/-- 'parterretop.TopBose': WHATEVER THE INPUT: true; the input reads as it did. -/
def topBoseSpec : ChangeSpec := { name := "topBose", fn := fun _ => fun
  | [d] => { results := [.lit (.bool true)], args := [d] }
  | _ => none }
def topBoseRow : OpenClaim := { program := "ytcibofbmennjpaadoor", sum := "4c327a1ea87cc3201a224710e648df8808e657ad9975b57185aeeae156fa74b7", func := "parterre/parterretop.TopBose", spec := "topBose", unfollowed := true, recurses := true, named := ["parterre/field.primes"], plainKeys := false, apart := false, laid := [("parterre/field.primes", laid_parterre_field_primes)] }
def TopBoseSaid : Prop := topBoseRow.holds Tryd.pinned (OpenSpec.ofChange topBoseSpec)

/-- ITS FALSE NEIGHBOUR: 'it returns false'. Refute it at one input. -/
def topBoseWrong : ChangeSpec := { name := "topBose", fn := fun _ => fun
  | [d] => { results := [.lit (.bool false)], args := [d] }
  | _ => none }
def TopBoseWrongFalsely : Prop := topBoseRow.holds Tryd.pinned (OpenSpec.ofChange topBoseWrong)

/-- 'parterretop.TopCodes': WHATEVER THE INPUT: true; the input reads as it did. -/
def topCodesSpec : ChangeSpec := { name := "topCodes", fn := fun _ => fun
  | [d1, d2, d3] => { results := [.lit (.bool true)], args := [d1, d2, d3] }
  | _ => none }
def topCodesRow : OpenClaim := { program := "ytcibofbmennjpaadoor", sum := "4c327a1ea87cc3201a224710e648df8808e657ad9975b57185aeeae156fa74b7", func := "parterre/parterretop.TopCodes", spec := "topCodes", unfollowed := true, recurses := true, named := ["parterre/field.primes"], plainKeys := false, apart := false, laid := [("parterre/field.primes", laid_parterre_field_primes)] }
def TopCodesSaid : Prop := topCodesRow.holds Tryd.pinned (OpenSpec.ofChange topCodesSpec)

/-- ITS FALSE NEIGHBOUR: 'it returns false'. Refute it at one input. -/
def topCodesWrong : ChangeSpec := { name := "topCodes", fn := fun _ => fun
  | [d1, d2, d3] => { results := [.lit (.bool false)], args := [d1, d2, d3] }
  | _ => none }
def TopCodesWrongFalsely : Prop := topCodesRow.holds Tryd.pinned (OpenSpec.ofChange topCodesWrong)

/-- 'parterretop.TopPaley': WHATEVER THE INPUT: true; the input reads as it did. -/
def topPaleySpec : ChangeSpec := { name := "topPaley", fn := fun _ => fun
  | [d1, d2] => { results := [.lit (.bool true)], args := [d1, d2] }
  | _ => none }
def topPaleyRow : OpenClaim := { program := "ytcibofbmennjpaadoor", sum := "4c327a1ea87cc3201a224710e648df8808e657ad9975b57185aeeae156fa74b7", func := "parterre/parterretop.TopPaley", spec := "topPaley", unfollowed := true, recurses := true, named := ["parterre/field.primes"], plainKeys := false, apart := false, laid := [("parterre/field.primes", laid_parterre_field_primes)] }
def TopPaleySaid : Prop := topPaleyRow.holds Tryd.pinned (OpenSpec.ofChange topPaleySpec)

/-- ITS FALSE NEIGHBOUR: 'it returns false'. Refute it at one input. -/
def topPaleyWrong : ChangeSpec := { name := "topPaley", fn := fun _ => fun
  | [d1, d2] => { results := [.lit (.bool false)], args := [d1, d2] }
  | _ => none }
def TopPaleyWrongFalsely : Prop := topPaleyRow.holds Tryd.pinned (OpenSpec.ofChange topPaleyWrong)

/-- 'parterrelaw3.PlaneFields': WHATEVER THE INPUT: true; the input reads as it did. -/
def planeFieldsSpec : ChangeSpec := { name := "planeFields", fn := fun _ => fun
  | [d] => { results := [.lit (.bool true)], args := [d] }
  | _ => none }
def planeFieldsRow : OpenClaim := { program := "ytcibofbmennjpaadoor", sum := "4c327a1ea87cc3201a224710e648df8808e657ad9975b57185aeeae156fa74b7", func := "parterre/parterrelaw3.PlaneFields", spec := "planeFields", unfollowed := true, recurses := true, named := ["parterre/field.primes"], plainKeys := false, apart := false, laid := [("parterre/field.primes", laid_parterre_field_primes)] }
def PlaneFieldsSaid : Prop := planeFieldsRow.holds Tryd.pinned (OpenSpec.ofChange planeFieldsSpec)

/-- ITS FALSE NEIGHBOUR: 'it returns false'. Refute it at one input. -/
def planeFieldsWrong : ChangeSpec := { name := "planeFields", fn := fun _ => fun
  | [d] => { results := [.lit (.bool false)], args := [d] }
  | _ => none }
def PlaneFieldsWrongFalsely : Prop := planeFieldsRow.holds Tryd.pinned (OpenSpec.ofChange planeFieldsWrong)

/-- 'parterrelaw3.PlanePappus': WHATEVER THE INPUT: true; the input reads as it did. -/
def planePappusSpec : ChangeSpec := { name := "planePappus", fn := fun _ => fun
  | [d1, d2, d3, d4] => { results := [.lit (.bool true)], args := [d1, d2, d3, d4] }
  | _ => none }
def planePappusRow : OpenClaim := { program := "ytcibofbmennjpaadoor", sum := "4c327a1ea87cc3201a224710e648df8808e657ad9975b57185aeeae156fa74b7", func := "parterre/parterrelaw3.PlanePappus", spec := "planePappus", unfollowed := true, recurses := true, named := ["parterre/field.primes"], plainKeys := false, apart := false, laid := [("parterre/field.primes", laid_parterre_field_primes)] }
def PlanePappusSaid : Prop := planePappusRow.holds Tryd.pinned (OpenSpec.ofChange planePappusSpec)

/-- ITS FALSE NEIGHBOUR: 'it returns false'. Refute it at one input. -/
def planePappusWrong : ChangeSpec := { name := "planePappus", fn := fun _ => fun
  | [d1, d2, d3, d4] => { results := [.lit (.bool false)], args := [d1, d2, d3, d4] }
  | _ => none }
def PlanePappusWrongFalsely : Prop := planePappusRow.holds Tryd.pinned (OpenSpec.ofChange planePappusWrong)

/-- 'parterrelaw3.PlaneDesargues': WHATEVER THE INPUT: true; the input reads as it did. -/
def planeDesarguesSpec : ChangeSpec := { name := "planeDesargues", fn := fun _ => fun
  | [d1, d2, d3, d4] => { results := [.lit (.bool true)], args := [d1, d2, d3, d4] }
  | _ => none }
def planeDesarguesRow : OpenClaim := { program := "ytcibofbmennjpaadoor", sum := "4c327a1ea87cc3201a224710e648df8808e657ad9975b57185aeeae156fa74b7", func := "parterre/parterrelaw3.PlaneDesargues", spec := "planeDesargues", unfollowed := true, recurses := true, named := ["parterre/field.primes"], plainKeys := false, apart := false, laid := [("parterre/field.primes", laid_parterre_field_primes)] }
def PlaneDesarguesSaid : Prop := planeDesarguesRow.holds Tryd.pinned (OpenSpec.ofChange planeDesarguesSpec)

/-- ITS FALSE NEIGHBOUR: 'it returns false'. Refute it at one input. -/
def planeDesarguesWrong : ChangeSpec := { name := "planeDesargues", fn := fun _ => fun
  | [d1, d2, d3, d4] => { results := [.lit (.bool false)], args := [d1, d2, d3, d4] }
  | _ => none }
def PlaneDesarguesWrongFalsely : Prop := planeDesarguesRow.holds Tryd.pinned (OpenSpec.ofChange planeDesarguesWrong)

/-- 'parterrelaw3.PlaneBose': WHATEVER THE INPUT: true; the input reads as it did. -/
def planeBoseSpec : ChangeSpec := { name := "planeBose", fn := fun _ => fun
  | [d1, d2, d3] => { results := [.lit (.bool true)], args := [d1, d2, d3] }
  | _ => none }
def planeBoseRow : OpenClaim := { program := "ytcibofbmennjpaadoor", sum := "4c327a1ea87cc3201a224710e648df8808e657ad9975b57185aeeae156fa74b7", func := "parterre/parterrelaw3.PlaneBose", spec := "planeBose", unfollowed := true, recurses := true, named := ["parterre/field.primes"], plainKeys := false, apart := false, laid := [("parterre/field.primes", laid_parterre_field_primes)] }
def PlaneBoseSaid : Prop := planeBoseRow.holds Tryd.pinned (OpenSpec.ofChange planeBoseSpec)

/-- ITS FALSE NEIGHBOUR: 'it returns false'. Refute it at one input. -/
def planeBoseWrong : ChangeSpec := { name := "planeBose", fn := fun _ => fun
  | [d1, d2, d3] => { results := [.lit (.bool false)], args := [d1, d2, d3] }
  | _ => none }
def PlaneBoseWrongFalsely : Prop := planeBoseRow.holds Tryd.pinned (OpenSpec.ofChange planeBoseWrong)

/- THE SECOND FORM. 'bulk': how many values and letters a reading holds, each counted each time it is reached (what is shared counts as often as it is met; a slice's spare places count too). A statement '..UptoSaid' is the law's where the arguments, and the package variables that the reading takes, are together of bulk at most 1048576: NARROWER than '..Said'. Prove '..Said' where nothing that the law and all that it calls make is longer than what came in: it says more and counts as full. Else prove '..UptoSaid'. A law counts once. -/
mutual
def uptoBulk {H : Type} : DataW H → Nat
  | .lit (.string bytes) => bytes.length + 1
  | .lit _ => 1
  | .nil => 1
  | .ptr d => uptoBulk d + 1
  | .slice elems spare => uptoBulkAll elems + uptoBulkAll spare + 1
  | .agg parts => uptoBulkAll parts + 1
  | .iface _ d => uptoBulk d + 1
  | .map entries => uptoBulkEntries entries + 1
  | .held _ => 1
def uptoBulkAll {H : Type} : List (DataW H) → Nat
  | [] => 0
  | d :: r => uptoBulk d + uptoBulkAll r
def uptoBulkEntries {H : Type} : List (Lit × DataW H) → Nat
  | [] => 0
  | x :: r => uptoBulkEntry x + uptoBulkEntries r
def uptoBulkEntry {H : Type} : Lit × DataW H → Nat
  | (.string bytes, d) => bytes.length + uptoBulk d + 1
  | (_, d) => uptoBulk d + 1
 end
def uptoSmall : (H : Type) → List (DataW H) → Bool := fun _ ds => decide (uptoBulkAll ds ≤ 1048576)
def OpenSpec.upto (s : _root_.Go.ChangeSpec) : _root_.Go.OpenSpec := { _root_.Go.OpenSpec.ofChange s with cond := some uptoSmall }

/-- 'parterretop.TopBose', WHERE WHAT IT READS IS OF BULK AT MOST 1048576: true; the input reads as it did. -/
def topBoseUptoRow : OpenClaim := { program := "ytcibofbmennjpaadoor", sum := "4c327a1ea87cc3201a224710e648df8808e657ad9975b57185aeeae156fa74b7", func := "parterre/parterretop.TopBose", spec := "topBose", unfollowed := true, recurses := true, named := ["parterre/field.primes"], plainKeys := false, apart := false, laid := [("parterre/field.primes", laid_parterre_field_primes)], narrowed := true }
def TopBoseUptoSaid : Prop := topBoseUptoRow.holds Tryd.pinned (OpenSpec.upto topBoseSpec)

/-- 'parterretop.TopCodes', WHERE WHAT IT READS IS OF BULK AT MOST 1048576: true; the input reads as it did. -/
def topCodesUptoRow : OpenClaim := { program := "ytcibofbmennjpaadoor", sum := "4c327a1ea87cc3201a224710e648df8808e657ad9975b57185aeeae156fa74b7", func := "parterre/parterretop.TopCodes", spec := "topCodes", unfollowed := true, recurses := true, named := ["parterre/field.primes"], plainKeys := false, apart := false, laid := [("parterre/field.primes", laid_parterre_field_primes)], narrowed := true }
def TopCodesUptoSaid : Prop := topCodesUptoRow.holds Tryd.pinned (OpenSpec.upto topCodesSpec)

/-- 'parterretop.TopPaley', WHERE WHAT IT READS IS OF BULK AT MOST 1048576: true; the input reads as it did. -/
def topPaleyUptoRow : OpenClaim := { program := "ytcibofbmennjpaadoor", sum := "4c327a1ea87cc3201a224710e648df8808e657ad9975b57185aeeae156fa74b7", func := "parterre/parterretop.TopPaley", spec := "topPaley", unfollowed := true, recurses := true, named := ["parterre/field.primes"], plainKeys := false, apart := false, laid := [("parterre/field.primes", laid_parterre_field_primes)], narrowed := true }
def TopPaleyUptoSaid : Prop := topPaleyUptoRow.holds Tryd.pinned (OpenSpec.upto topPaleySpec)

/-- 'parterrelaw3.PlaneFields', WHERE WHAT IT READS IS OF BULK AT MOST 1048576: true; the input reads as it did. -/
def planeFieldsUptoRow : OpenClaim := { program := "ytcibofbmennjpaadoor", sum := "4c327a1ea87cc3201a224710e648df8808e657ad9975b57185aeeae156fa74b7", func := "parterre/parterrelaw3.PlaneFields", spec := "planeFields", unfollowed := true, recurses := true, named := ["parterre/field.primes"], plainKeys := false, apart := false, laid := [("parterre/field.primes", laid_parterre_field_primes)], narrowed := true }
def PlaneFieldsUptoSaid : Prop := planeFieldsUptoRow.holds Tryd.pinned (OpenSpec.upto planeFieldsSpec)

/-- 'parterrelaw3.PlanePappus', WHERE WHAT IT READS IS OF BULK AT MOST 1048576: true; the input reads as it did. -/
def planePappusUptoRow : OpenClaim := { program := "ytcibofbmennjpaadoor", sum := "4c327a1ea87cc3201a224710e648df8808e657ad9975b57185aeeae156fa74b7", func := "parterre/parterrelaw3.PlanePappus", spec := "planePappus", unfollowed := true, recurses := true, named := ["parterre/field.primes"], plainKeys := false, apart := false, laid := [("parterre/field.primes", laid_parterre_field_primes)], narrowed := true }
def PlanePappusUptoSaid : Prop := planePappusUptoRow.holds Tryd.pinned (OpenSpec.upto planePappusSpec)

/-- 'parterrelaw3.PlaneDesargues', WHERE WHAT IT READS IS OF BULK AT MOST 1048576: true; the input reads as it did. -/
def planeDesarguesUptoRow : OpenClaim := { program := "ytcibofbmennjpaadoor", sum := "4c327a1ea87cc3201a224710e648df8808e657ad9975b57185aeeae156fa74b7", func := "parterre/parterrelaw3.PlaneDesargues", spec := "planeDesargues", unfollowed := true, recurses := true, named := ["parterre/field.primes"], plainKeys := false, apart := false, laid := [("parterre/field.primes", laid_parterre_field_primes)], narrowed := true }
def PlaneDesarguesUptoSaid : Prop := planeDesarguesUptoRow.holds Tryd.pinned (OpenSpec.upto planeDesarguesSpec)

/-- 'parterrelaw3.PlaneBose', WHERE WHAT IT READS IS OF BULK AT MOST 1048576: true; the input reads as it did. -/
def planeBoseUptoRow : OpenClaim := { program := "ytcibofbmennjpaadoor", sum := "4c327a1ea87cc3201a224710e648df8808e657ad9975b57185aeeae156fa74b7", func := "parterre/parterrelaw3.PlaneBose", spec := "planeBose", unfollowed := true, recurses := true, named := ["parterre/field.primes"], plainKeys := false, apart := false, laid := [("parterre/field.primes", laid_parterre_field_primes)], narrowed := true }
def PlaneBoseUptoSaid : Prop := planeBoseUptoRow.holds Tryd.pinned (OpenSpec.upto planeBoseSpec)

end Rows
end Go.Proofs.YtcibofbmennjpaaDoor
