/-
  DERIVED. GIVEN WITH THE SEED: THE CARDS: each row of YtfklkkckfikfoaaDoorRows.lean that lists a variable, with what it lists TIED to the program's text (the seventh form; the later family's looks); each row that meets fmt, with fmt's text TOLD by the authors' own Lean function (tested against real Go, not proved from fmt's source: count such statements apart). THE CARD IS WHAT COUNTS. Prove the row's statement (the work); the ties are given (YtfklkkckfikfoaaDoorTie.lean); close each card by the builder's one call (the guide's Derived/Test/ToyasCard.lean, 'card_holds'). Laid BY PROGRAM, IN A SANDBOX (cutbox-door.mjs). By AI agents, Wed Nov 11 2026. No macro, syntax, notation, axiom, sorry.
-/
import Derived.Test.YtfklkkckfikfoaaDoorRows
import GoSem.ClaimSeven
namespace Go.Proofs.YtfklkkckfikfoaaDoor
namespace Rows

/-- THE TIED CARD OF 'jackfieldlaw13.WindowShares'. -/
def windowSharesCard : Claim7 := { stood := { row := windowSharesRow, standIns := [], harness := (true, "a2225311c05dae23bb08ed8eb15707b33d0f92a4b0b000827fa0e9ed3644c6ed"), looks := true }, kinds := [], alts := [], laidByText := true, laidKinds := [.sentinel, .sentinel], laidTests := true, laidLooks := .later }
def WindowSharesCardSaid : Prop := Claim7.holds Tryd.pinned (.plain (OpenSpec.ofChange windowSharesSpec)) windowSharesCard

/-- THE TIED CARD OF 'jackfieldlaw13.WindowBack'. -/
def windowBackCard : Claim7 := { stood := { row := windowBackRow, standIns := [], harness := (true, "a2225311c05dae23bb08ed8eb15707b33d0f92a4b0b000827fa0e9ed3644c6ed"), looks := true }, kinds := [], alts := [], laidByText := true, laidKinds := [.sentinel, .sentinel], laidTests := true, laidLooks := .later }
def WindowBackCardSaid : Prop := Claim7.holds Tryd.pinned (.plain (OpenSpec.ofChange windowBackSpec)) windowBackCard

/-- THE TIED CARD OF 'jackfieldlaw13.WindowPlays'. -/
def windowPlaysCard : Claim7 := { stood := { row := windowPlaysRow, standIns := [], harness := (true, "a2225311c05dae23bb08ed8eb15707b33d0f92a4b0b000827fa0e9ed3644c6ed"), looks := true }, kinds := [], alts := [], laidByText := true, laidKinds := [.sentinel, .sentinel, .sentinel, .sentinel, .sentinel, .sentinel, .sentinel, .sentinel, .sentinel, .sentinel, .sentinel, .sentinel, .sentinel, .sentinel, .sentinel, .sentinel, .sentinel, .sentinel], laidTests := true, laidLooks := .later }
def WindowPlaysCardSaid : Prop := Claim7.holds Tryd.pinned (.plain (OpenSpec.ofChange windowPlaysSpec)) windowPlaysCard

/-- THE TIED CARD OF 'jackfieldlaw13.WindowFlows'. -/
def windowFlowsCard : Claim7 := { stood := { row := windowFlowsRow, standIns := [], harness := (true, "a2225311c05dae23bb08ed8eb15707b33d0f92a4b0b000827fa0e9ed3644c6ed"), looks := true }, kinds := [], alts := [], laidByText := true, laidKinds := [.sentinel, .sentinel], laidTests := true, laidLooks := .later }
def WindowFlowsCardSaid : Prop := Claim7.holds Tryd.pinned (.plain (OpenSpec.ofChange windowFlowsSpec)) windowFlowsCard

/-- THE SECOND FORM's CARD OF 'jackfieldlaw13.WindowShares'. -/
def windowSharesUptoCard : Claim7 := { stood := { row := windowSharesUptoRow, standIns := [], harness := (true, "a2225311c05dae23bb08ed8eb15707b33d0f92a4b0b000827fa0e9ed3644c6ed"), looks := true }, kinds := [], alts := [], laidByText := true, laidKinds := [.sentinel, .sentinel], laidTests := true, laidLooks := .later }
def WindowSharesUptoCardSaid : Prop := Claim7.holds Tryd.pinned (.plain (OpenSpec.upto windowSharesSpec)) windowSharesUptoCard

/-- THE SECOND FORM's CARD OF 'jackfieldlaw13.WindowBack'. -/
def windowBackUptoCard : Claim7 := { stood := { row := windowBackUptoRow, standIns := [], harness := (true, "a2225311c05dae23bb08ed8eb15707b33d0f92a4b0b000827fa0e9ed3644c6ed"), looks := true }, kinds := [], alts := [], laidByText := true, laidKinds := [.sentinel, .sentinel], laidTests := true, laidLooks := .later }
def WindowBackUptoCardSaid : Prop := Claim7.holds Tryd.pinned (.plain (OpenSpec.upto windowBackSpec)) windowBackUptoCard

/-- THE SECOND FORM's CARD OF 'jackfieldlaw13.WindowPlays'. -/
def windowPlaysUptoCard : Claim7 := { stood := { row := windowPlaysUptoRow, standIns := [], harness := (true, "a2225311c05dae23bb08ed8eb15707b33d0f92a4b0b000827fa0e9ed3644c6ed"), looks := true }, kinds := [], alts := [], laidByText := true, laidKinds := [.sentinel, .sentinel, .sentinel, .sentinel, .sentinel, .sentinel, .sentinel, .sentinel, .sentinel, .sentinel, .sentinel, .sentinel, .sentinel, .sentinel, .sentinel, .sentinel, .sentinel, .sentinel], laidTests := true, laidLooks := .later }
def WindowPlaysUptoCardSaid : Prop := Claim7.holds Tryd.pinned (.plain (OpenSpec.upto windowPlaysSpec)) windowPlaysUptoCard

/-- THE SECOND FORM's CARD OF 'jackfieldlaw13.WindowFlows'. -/
def windowFlowsUptoCard : Claim7 := { stood := { row := windowFlowsUptoRow, standIns := [], harness := (true, "a2225311c05dae23bb08ed8eb15707b33d0f92a4b0b000827fa0e9ed3644c6ed"), looks := true }, kinds := [], alts := [], laidByText := true, laidKinds := [.sentinel, .sentinel], laidTests := true, laidLooks := .later }
def WindowFlowsUptoCardSaid : Prop := Claim7.holds Tryd.pinned (.plain (OpenSpec.upto windowFlowsSpec)) windowFlowsUptoCard
end Rows
end Go.Proofs.YtfklkkckfikfoaaDoor
