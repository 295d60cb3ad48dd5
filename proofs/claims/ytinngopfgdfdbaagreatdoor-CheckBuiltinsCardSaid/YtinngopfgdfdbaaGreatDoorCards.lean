/-
  DERIVED. GIVEN WITH THE SEED: THE CARDS: each row of YtinngopfgdfdbaaGreatDoorRows.lean that lists a variable, with what it lists TIED to the program's text (the seventh form; the later family's looks); each row that meets fmt, with fmt's text TOLD by the authors' own Lean function (tested against real Go, not proved from fmt's source: count such statements apart). THE CARD IS WHAT COUNTS. Prove the row's statement (the work); the ties are given (YtinngopfgdfdbaaGreatDoorTie.lean); close each card by the builder's one call (the guide's Derived/Test/ToyasCard.lean, 'card_holds'). Laid BY PROGRAM, IN A SANDBOX (cutbox-door.mjs). By AI agents, Wed Nov 11 2026. No macro, syntax, notation, axiom, sorry.
-/
import Derived.Test.YtinngopfgdfdbaaGreatDoorRows
import GoSem.ClaimSeven
namespace Go.Proofs.YtinngopfgdfdbaaGreatDoor
namespace Rows

/-- THE TIED CARD OF 'derricklaw05.CheckOperators'. -/
def checkOperatorsCard : Claim7 := { stood := { row := checkOperatorsRow, standIns := [], harness := (true, "1a71034be52de22d81d2c84103ac720d2401aff8a24305a04f0ffc3ae1485d87"), looks := true }, kinds := [], alts := [], laidByText := true, laidKinds := [.data, .data, .data, .handle, .sentinel, .sentinel], laidTests := true, laidLooks := .later }
def CheckOperatorsCardSaid : Prop := Claim7.holds Tryz.pinned (.plain (OpenSpec.ofChange checkOperatorsSpec)) checkOperatorsCard

/-- THE TIED CARD OF 'derricklaw05.CheckFits'. -/
def checkFitsCard : Claim7 := { stood := { row := checkFitsRow, standIns := [], harness := (true, "1a71034be52de22d81d2c84103ac720d2401aff8a24305a04f0ffc3ae1485d87"), looks := true }, kinds := [], alts := [], laidByText := true, laidKinds := [.data, .data, .data, .handle, .sentinel, .sentinel], laidTests := true, laidLooks := .later }
def CheckFitsCardSaid : Prop := Claim7.holds Tryz.pinned (.plain (OpenSpec.ofChange checkFitsSpec)) checkFitsCard

/-- THE TIED CARD OF 'derricklaw05.CheckScopes'. -/
def checkScopesCard : Claim7 := { stood := { row := checkScopesRow, standIns := [], harness := (true, "1a71034be52de22d81d2c84103ac720d2401aff8a24305a04f0ffc3ae1485d87"), looks := true }, kinds := [], alts := [], laidByText := true, laidKinds := [.data, .data, .data, .handle, .sentinel, .sentinel], laidTests := true, laidLooks := .later }
def CheckScopesCardSaid : Prop := Claim7.holds Tryz.pinned (.plain (OpenSpec.ofChange checkScopesSpec)) checkScopesCard

/-- THE TIED CARD OF 'derricklaw05.CheckEnds'. -/
def checkEndsCard : Claim7 := { stood := { row := checkEndsRow, standIns := [], harness := (true, "1a71034be52de22d81d2c84103ac720d2401aff8a24305a04f0ffc3ae1485d87"), looks := true }, kinds := [], alts := [], laidByText := true, laidKinds := [.data, .data, .data, .handle, .sentinel, .sentinel], laidTests := true, laidLooks := .later }
def CheckEndsCardSaid : Prop := Claim7.holds Tryz.pinned (.plain (OpenSpec.ofChange checkEndsSpec)) checkEndsCard

/-- THE TIED CARD OF 'derricklaw05.CheckJumps'. -/
def checkJumpsCard : Claim7 := { stood := { row := checkJumpsRow, standIns := [], harness := (true, "1a71034be52de22d81d2c84103ac720d2401aff8a24305a04f0ffc3ae1485d87"), looks := true }, kinds := [], alts := [], laidByText := true, laidKinds := [.data, .data, .data, .handle, .sentinel, .sentinel], laidTests := true, laidLooks := .later }
def CheckJumpsCardSaid : Prop := Claim7.holds Tryz.pinned (.plain (OpenSpec.ofChange checkJumpsSpec)) checkJumpsCard

/-- THE TIED CARD OF 'derricklaw05.CheckCounts'. -/
def checkCountsCard : Claim7 := { stood := { row := checkCountsRow, standIns := [], harness := (true, "1a71034be52de22d81d2c84103ac720d2401aff8a24305a04f0ffc3ae1485d87"), looks := true }, kinds := [], alts := [], laidByText := true, laidKinds := [.data, .data, .data, .handle, .sentinel, .sentinel], laidTests := true, laidLooks := .later }
def CheckCountsCardSaid : Prop := Claim7.holds Tryz.pinned (.plain (OpenSpec.ofChange checkCountsSpec)) checkCountsCard

/-- THE TIED CARD OF 'derricklaw05.CheckNames'. -/
def checkNamesCard : Claim7 := { stood := { row := checkNamesRow, standIns := [], harness := (true, "1a71034be52de22d81d2c84103ac720d2401aff8a24305a04f0ffc3ae1485d87"), looks := true }, kinds := [], alts := [], laidByText := true, laidKinds := [.data, .data, .data, .handle, .sentinel, .sentinel], laidTests := true, laidLooks := .later }
def CheckNamesCardSaid : Prop := Claim7.holds Tryz.pinned (.plain (OpenSpec.ofChange checkNamesSpec)) checkNamesCard

/-- THE TIED CARD OF 'derricklaw05.CheckBuiltins'. -/
def checkBuiltinsCard : Claim7 := { stood := { row := checkBuiltinsRow, standIns := [], harness := (true, "1a71034be52de22d81d2c84103ac720d2401aff8a24305a04f0ffc3ae1485d87"), looks := true }, kinds := [], alts := [], laidByText := true, laidKinds := [.data, .data, .data, .handle, .sentinel, .sentinel], laidTests := true, laidLooks := .later }
def CheckBuiltinsCardSaid : Prop := Claim7.holds Tryz.pinned (.plain (OpenSpec.ofChange checkBuiltinsSpec)) checkBuiltinsCard

/-- THE SECOND FORM's CARD OF 'derricklaw05.CheckOperators'. -/
def checkOperatorsUptoCard : Claim7 := { stood := { row := checkOperatorsUptoRow, standIns := [], harness := (true, "1a71034be52de22d81d2c84103ac720d2401aff8a24305a04f0ffc3ae1485d87"), looks := true }, kinds := [], alts := [], laidByText := true, laidKinds := [.data, .data, .data, .handle, .sentinel, .sentinel], laidTests := true, laidLooks := .later }
def CheckOperatorsUptoCardSaid : Prop := Claim7.holds Tryz.pinned (.plain (OpenSpec.upto checkOperatorsSpec)) checkOperatorsUptoCard

/-- THE SECOND FORM's CARD OF 'derricklaw05.CheckFits'. -/
def checkFitsUptoCard : Claim7 := { stood := { row := checkFitsUptoRow, standIns := [], harness := (true, "1a71034be52de22d81d2c84103ac720d2401aff8a24305a04f0ffc3ae1485d87"), looks := true }, kinds := [], alts := [], laidByText := true, laidKinds := [.data, .data, .data, .handle, .sentinel, .sentinel], laidTests := true, laidLooks := .later }
def CheckFitsUptoCardSaid : Prop := Claim7.holds Tryz.pinned (.plain (OpenSpec.upto checkFitsSpec)) checkFitsUptoCard

/-- THE SECOND FORM's CARD OF 'derricklaw05.CheckScopes'. -/
def checkScopesUptoCard : Claim7 := { stood := { row := checkScopesUptoRow, standIns := [], harness := (true, "1a71034be52de22d81d2c84103ac720d2401aff8a24305a04f0ffc3ae1485d87"), looks := true }, kinds := [], alts := [], laidByText := true, laidKinds := [.data, .data, .data, .handle, .sentinel, .sentinel], laidTests := true, laidLooks := .later }
def CheckScopesUptoCardSaid : Prop := Claim7.holds Tryz.pinned (.plain (OpenSpec.upto checkScopesSpec)) checkScopesUptoCard

/-- THE SECOND FORM's CARD OF 'derricklaw05.CheckEnds'. -/
def checkEndsUptoCard : Claim7 := { stood := { row := checkEndsUptoRow, standIns := [], harness := (true, "1a71034be52de22d81d2c84103ac720d2401aff8a24305a04f0ffc3ae1485d87"), looks := true }, kinds := [], alts := [], laidByText := true, laidKinds := [.data, .data, .data, .handle, .sentinel, .sentinel], laidTests := true, laidLooks := .later }
def CheckEndsUptoCardSaid : Prop := Claim7.holds Tryz.pinned (.plain (OpenSpec.upto checkEndsSpec)) checkEndsUptoCard

/-- THE SECOND FORM's CARD OF 'derricklaw05.CheckJumps'. -/
def checkJumpsUptoCard : Claim7 := { stood := { row := checkJumpsUptoRow, standIns := [], harness := (true, "1a71034be52de22d81d2c84103ac720d2401aff8a24305a04f0ffc3ae1485d87"), looks := true }, kinds := [], alts := [], laidByText := true, laidKinds := [.data, .data, .data, .handle, .sentinel, .sentinel], laidTests := true, laidLooks := .later }
def CheckJumpsUptoCardSaid : Prop := Claim7.holds Tryz.pinned (.plain (OpenSpec.upto checkJumpsSpec)) checkJumpsUptoCard

/-- THE SECOND FORM's CARD OF 'derricklaw05.CheckCounts'. -/
def checkCountsUptoCard : Claim7 := { stood := { row := checkCountsUptoRow, standIns := [], harness := (true, "1a71034be52de22d81d2c84103ac720d2401aff8a24305a04f0ffc3ae1485d87"), looks := true }, kinds := [], alts := [], laidByText := true, laidKinds := [.data, .data, .data, .handle, .sentinel, .sentinel], laidTests := true, laidLooks := .later }
def CheckCountsUptoCardSaid : Prop := Claim7.holds Tryz.pinned (.plain (OpenSpec.upto checkCountsSpec)) checkCountsUptoCard

/-- THE SECOND FORM's CARD OF 'derricklaw05.CheckNames'. -/
def checkNamesUptoCard : Claim7 := { stood := { row := checkNamesUptoRow, standIns := [], harness := (true, "1a71034be52de22d81d2c84103ac720d2401aff8a24305a04f0ffc3ae1485d87"), looks := true }, kinds := [], alts := [], laidByText := true, laidKinds := [.data, .data, .data, .handle, .sentinel, .sentinel], laidTests := true, laidLooks := .later }
def CheckNamesUptoCardSaid : Prop := Claim7.holds Tryz.pinned (.plain (OpenSpec.upto checkNamesSpec)) checkNamesUptoCard

/-- THE SECOND FORM's CARD OF 'derricklaw05.CheckBuiltins'. -/
def checkBuiltinsUptoCard : Claim7 := { stood := { row := checkBuiltinsUptoRow, standIns := [], harness := (true, "1a71034be52de22d81d2c84103ac720d2401aff8a24305a04f0ffc3ae1485d87"), looks := true }, kinds := [], alts := [], laidByText := true, laidKinds := [.data, .data, .data, .handle, .sentinel, .sentinel], laidTests := true, laidLooks := .later }
def CheckBuiltinsUptoCardSaid : Prop := Claim7.holds Tryz.pinned (.plain (OpenSpec.upto checkBuiltinsSpec)) checkBuiltinsUptoCard
end Rows
end Go.Proofs.YtinngopfgdfdbaaGreatDoor
