/-
  DERIVED. GIVEN WITH THE SEED: THE CARDS: each row of YtcibofbmennjpaaDoorRows.lean that lists a variable, with what it lists TIED to the program's text (the seventh form; the later family's looks); each row that meets fmt, with fmt's text TOLD by the authors' own Lean function (tested against real Go, not proved from fmt's source: count such statements apart). THE CARD IS WHAT COUNTS. Prove the row's statement (the work); the ties are given (YtcibofbmennjpaaDoorTie.lean); close each card by the builder's one call (the guide's Derived/Test/ToyasCard.lean, 'card_holds'). Laid BY PROGRAM, IN A SANDBOX (cutbox-door.mjs). By AI agents, Wed Nov 11 2026. No macro, syntax, notation, axiom, sorry.
-/
import Derived.Test.YtcibofbmennjpaaDoorRows
import GoSem.ClaimSeven
namespace Go.Proofs.YtcibofbmennjpaaDoor
namespace Rows

/-- THE TIED CARD OF 'parterretop.TopBose'. -/
def topBoseCard : Claim7 := { stood := { row := topBoseRow, standIns := [], harness := (true, "d9e86c7c36db621720d6c0ffdde7445653afba415cdcff97792e82de95d8a739"), looks := false }, kinds := [], alts := [], laidByText := true, laidKinds := [.data], laidTests := true, laidLooks := .later }
def TopBoseCardSaid : Prop := Claim7.holds Tryd.pinned (.plain (OpenSpec.ofChange topBoseSpec)) topBoseCard

/-- THE TIED CARD OF 'parterretop.TopCodes'. -/
def topCodesCard : Claim7 := { stood := { row := topCodesRow, standIns := [], harness := (true, "d9e86c7c36db621720d6c0ffdde7445653afba415cdcff97792e82de95d8a739"), looks := false }, kinds := [], alts := [], laidByText := true, laidKinds := [.data], laidTests := true, laidLooks := .later }
def TopCodesCardSaid : Prop := Claim7.holds Tryd.pinned (.plain (OpenSpec.ofChange topCodesSpec)) topCodesCard

/-- THE TIED CARD OF 'parterretop.TopPaley'. -/
def topPaleyCard : Claim7 := { stood := { row := topPaleyRow, standIns := [], harness := (true, "d9e86c7c36db621720d6c0ffdde7445653afba415cdcff97792e82de95d8a739"), looks := false }, kinds := [], alts := [], laidByText := true, laidKinds := [.data], laidTests := true, laidLooks := .later }
def TopPaleyCardSaid : Prop := Claim7.holds Tryd.pinned (.plain (OpenSpec.ofChange topPaleySpec)) topPaleyCard

/-- THE TIED CARD OF 'parterrelaw3.PlaneFields'. -/
def planeFieldsCard : Claim7 := { stood := { row := planeFieldsRow, standIns := [], harness := (true, "d9e86c7c36db621720d6c0ffdde7445653afba415cdcff97792e82de95d8a739"), looks := false }, kinds := [], alts := [], laidByText := true, laidKinds := [.data], laidTests := true, laidLooks := .later }
def PlaneFieldsCardSaid : Prop := Claim7.holds Tryd.pinned (.plain (OpenSpec.ofChange planeFieldsSpec)) planeFieldsCard

/-- THE TIED CARD OF 'parterrelaw3.PlanePappus'. -/
def planePappusCard : Claim7 := { stood := { row := planePappusRow, standIns := [], harness := (true, "d9e86c7c36db621720d6c0ffdde7445653afba415cdcff97792e82de95d8a739"), looks := false }, kinds := [], alts := [], laidByText := true, laidKinds := [.data], laidTests := true, laidLooks := .later }
def PlanePappusCardSaid : Prop := Claim7.holds Tryd.pinned (.plain (OpenSpec.ofChange planePappusSpec)) planePappusCard

/-- THE TIED CARD OF 'parterrelaw3.PlaneDesargues'. -/
def planeDesarguesCard : Claim7 := { stood := { row := planeDesarguesRow, standIns := [], harness := (true, "d9e86c7c36db621720d6c0ffdde7445653afba415cdcff97792e82de95d8a739"), looks := false }, kinds := [], alts := [], laidByText := true, laidKinds := [.data], laidTests := true, laidLooks := .later }
def PlaneDesarguesCardSaid : Prop := Claim7.holds Tryd.pinned (.plain (OpenSpec.ofChange planeDesarguesSpec)) planeDesarguesCard

/-- THE TIED CARD OF 'parterrelaw3.PlaneBose'. -/
def planeBoseCard : Claim7 := { stood := { row := planeBoseRow, standIns := [], harness := (true, "d9e86c7c36db621720d6c0ffdde7445653afba415cdcff97792e82de95d8a739"), looks := false }, kinds := [], alts := [], laidByText := true, laidKinds := [.data], laidTests := true, laidLooks := .later }
def PlaneBoseCardSaid : Prop := Claim7.holds Tryd.pinned (.plain (OpenSpec.ofChange planeBoseSpec)) planeBoseCard

/-- THE SECOND FORM's CARD OF 'parterretop.TopBose'. -/
def topBoseUptoCard : Claim7 := { stood := { row := topBoseUptoRow, standIns := [], harness := (true, "d9e86c7c36db621720d6c0ffdde7445653afba415cdcff97792e82de95d8a739"), looks := false }, kinds := [], alts := [], laidByText := true, laidKinds := [.data], laidTests := true, laidLooks := .later }
def TopBoseUptoCardSaid : Prop := Claim7.holds Tryd.pinned (.plain (OpenSpec.upto topBoseSpec)) topBoseUptoCard

/-- THE SECOND FORM's CARD OF 'parterretop.TopCodes'. -/
def topCodesUptoCard : Claim7 := { stood := { row := topCodesUptoRow, standIns := [], harness := (true, "d9e86c7c36db621720d6c0ffdde7445653afba415cdcff97792e82de95d8a739"), looks := false }, kinds := [], alts := [], laidByText := true, laidKinds := [.data], laidTests := true, laidLooks := .later }
def TopCodesUptoCardSaid : Prop := Claim7.holds Tryd.pinned (.plain (OpenSpec.upto topCodesSpec)) topCodesUptoCard

/-- THE SECOND FORM's CARD OF 'parterretop.TopPaley'. -/
def topPaleyUptoCard : Claim7 := { stood := { row := topPaleyUptoRow, standIns := [], harness := (true, "d9e86c7c36db621720d6c0ffdde7445653afba415cdcff97792e82de95d8a739"), looks := false }, kinds := [], alts := [], laidByText := true, laidKinds := [.data], laidTests := true, laidLooks := .later }
def TopPaleyUptoCardSaid : Prop := Claim7.holds Tryd.pinned (.plain (OpenSpec.upto topPaleySpec)) topPaleyUptoCard

/-- THE SECOND FORM's CARD OF 'parterrelaw3.PlaneFields'. -/
def planeFieldsUptoCard : Claim7 := { stood := { row := planeFieldsUptoRow, standIns := [], harness := (true, "d9e86c7c36db621720d6c0ffdde7445653afba415cdcff97792e82de95d8a739"), looks := false }, kinds := [], alts := [], laidByText := true, laidKinds := [.data], laidTests := true, laidLooks := .later }
def PlaneFieldsUptoCardSaid : Prop := Claim7.holds Tryd.pinned (.plain (OpenSpec.upto planeFieldsSpec)) planeFieldsUptoCard

/-- THE SECOND FORM's CARD OF 'parterrelaw3.PlanePappus'. -/
def planePappusUptoCard : Claim7 := { stood := { row := planePappusUptoRow, standIns := [], harness := (true, "d9e86c7c36db621720d6c0ffdde7445653afba415cdcff97792e82de95d8a739"), looks := false }, kinds := [], alts := [], laidByText := true, laidKinds := [.data], laidTests := true, laidLooks := .later }
def PlanePappusUptoCardSaid : Prop := Claim7.holds Tryd.pinned (.plain (OpenSpec.upto planePappusSpec)) planePappusUptoCard

/-- THE SECOND FORM's CARD OF 'parterrelaw3.PlaneDesargues'. -/
def planeDesarguesUptoCard : Claim7 := { stood := { row := planeDesarguesUptoRow, standIns := [], harness := (true, "d9e86c7c36db621720d6c0ffdde7445653afba415cdcff97792e82de95d8a739"), looks := false }, kinds := [], alts := [], laidByText := true, laidKinds := [.data], laidTests := true, laidLooks := .later }
def PlaneDesarguesUptoCardSaid : Prop := Claim7.holds Tryd.pinned (.plain (OpenSpec.upto planeDesarguesSpec)) planeDesarguesUptoCard

/-- THE SECOND FORM's CARD OF 'parterrelaw3.PlaneBose'. -/
def planeBoseUptoCard : Claim7 := { stood := { row := planeBoseUptoRow, standIns := [], harness := (true, "d9e86c7c36db621720d6c0ffdde7445653afba415cdcff97792e82de95d8a739"), looks := false }, kinds := [], alts := [], laidByText := true, laidKinds := [.data], laidTests := true, laidLooks := .later }
def PlaneBoseUptoCardSaid : Prop := Claim7.holds Tryd.pinned (.plain (OpenSpec.upto planeBoseSpec)) planeBoseUptoCard
end Rows
end Go.Proofs.YtcibofbmennjpaaDoor
