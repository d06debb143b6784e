/-
  DERIVED. GIVEN WITH THE SEED: THE CARDS: each row of YtjjaghiihkdclaaDoorRows.lean that lists a variable, with what it lists TIED to the program's text (the seventh form; the later family's looks); each row that meets fmt, with fmt's text TOLD by the authors' own Lean function (tested against real Go, not proved from fmt's source: count such statements apart). THE CARD IS WHAT COUNTS. Prove the row's statement (the work); the ties are given (YtjjaghiihkdclaaDoorTie.lean); close each card by the builder's one call (the guide's Derived/Test/ToyasCard.lean, 'card_holds'). Laid BY PROGRAM, IN A SANDBOX (cutbox-door.mjs). By AI agents, Wed Nov 11 2026. No macro, syntax, notation, axiom, sorry.
-/
import Derived.Test.YtjjaghiihkdclaaDoorRows
import GoSem.ClaimSeven
namespace Go.Proofs.YtjjaghiihkdclaaDoor
namespace Rows

/-- THE TIED CARD OF 'jackfieldlaw04.DrumRanges'. -/
def drumRangesCard : Claim7 := { stood := { row := drumRangesRow, standIns := [], harness := (true, "16dab4933c18658e70c9e991d2479b39d7b5fd3ead782d22a1f41840e5931e9e"), looks := true }, kinds := [], alts := [], laidByText := true, laidKinds := [.sentinel, .sentinel], laidTests := true, laidLooks := .later }
def DrumRangesCardSaid : Prop := Claim7.holds Tryd.pinned (.plain (OpenSpec.ofChange drumRangesSpec)) drumRangesCard

/-- THE TIED CARD OF 'jackfieldlaw04.DrumCounts'. -/
def drumCountsCard : Claim7 := { stood := { row := drumCountsRow, standIns := [], harness := (true, "16dab4933c18658e70c9e991d2479b39d7b5fd3ead782d22a1f41840e5931e9e"), looks := true }, kinds := [], alts := [], laidByText := true, laidKinds := [.sentinel, .sentinel], laidTests := true, laidLooks := .later }
def DrumCountsCardSaid : Prop := Claim7.holds Tryd.pinned (.plain (OpenSpec.ofChange drumCountsSpec)) drumCountsCard

/-- THE TIED CARD OF 'jackfieldlaw04.DrumDark'. -/
def drumDarkCard : Claim7 := { stood := { row := drumDarkRow, standIns := [], harness := (true, "16dab4933c18658e70c9e991d2479b39d7b5fd3ead782d22a1f41840e5931e9e"), looks := true }, kinds := [], alts := [], laidByText := true, laidKinds := [.sentinel, .sentinel], laidTests := true, laidLooks := .later }
def DrumDarkCardSaid : Prop := Claim7.holds Tryd.pinned (.plain (OpenSpec.ofChange drumDarkSpec)) drumDarkCard

/-- THE TIED CARD OF 'jackfieldlaw04.DrumImages'. -/
def drumImagesCard : Claim7 := { stood := { row := drumImagesRow, standIns := [], harness := (true, "16dab4933c18658e70c9e991d2479b39d7b5fd3ead782d22a1f41840e5931e9e"), looks := true }, kinds := [], alts := [], laidByText := true, laidKinds := [.sentinel, .sentinel], laidTests := true, laidLooks := .later }
def DrumImagesCardSaid : Prop := Claim7.holds Tryd.pinned (.plain (OpenSpec.ofChange drumImagesSpec)) drumImagesCard

/-- THE TIED CARD OF 'jackfieldlaw04.DrumPlays'. -/
def drumPlaysCard : Claim7 := { stood := { row := drumPlaysRow, standIns := [], harness := (true, "16dab4933c18658e70c9e991d2479b39d7b5fd3ead782d22a1f41840e5931e9e"), looks := true }, kinds := [], alts := [], laidByText := true, laidKinds := [.sentinel, .sentinel, .sentinel, .sentinel, .sentinel, .sentinel, .sentinel, .sentinel, .sentinel, .sentinel, .sentinel, .sentinel, .sentinel, .sentinel, .sentinel, .sentinel, .sentinel, .sentinel], laidTests := true, laidLooks := .later }
def DrumPlaysCardSaid : Prop := Claim7.holds Tryd.pinned (.plain (OpenSpec.ofChange drumPlaysSpec)) drumPlaysCard

/-- THE SECOND FORM's CARD OF 'jackfieldlaw04.DrumRanges'. -/
def drumRangesUptoCard : Claim7 := { stood := { row := drumRangesUptoRow, standIns := [], harness := (true, "16dab4933c18658e70c9e991d2479b39d7b5fd3ead782d22a1f41840e5931e9e"), looks := true }, kinds := [], alts := [], laidByText := true, laidKinds := [.sentinel, .sentinel], laidTests := true, laidLooks := .later }
def DrumRangesUptoCardSaid : Prop := Claim7.holds Tryd.pinned (.plain (OpenSpec.upto drumRangesSpec)) drumRangesUptoCard

/-- THE SECOND FORM's CARD OF 'jackfieldlaw04.DrumCounts'. -/
def drumCountsUptoCard : Claim7 := { stood := { row := drumCountsUptoRow, standIns := [], harness := (true, "16dab4933c18658e70c9e991d2479b39d7b5fd3ead782d22a1f41840e5931e9e"), looks := true }, kinds := [], alts := [], laidByText := true, laidKinds := [.sentinel, .sentinel], laidTests := true, laidLooks := .later }
def DrumCountsUptoCardSaid : Prop := Claim7.holds Tryd.pinned (.plain (OpenSpec.upto drumCountsSpec)) drumCountsUptoCard

/-- THE SECOND FORM's CARD OF 'jackfieldlaw04.DrumDark'. -/
def drumDarkUptoCard : Claim7 := { stood := { row := drumDarkUptoRow, standIns := [], harness := (true, "16dab4933c18658e70c9e991d2479b39d7b5fd3ead782d22a1f41840e5931e9e"), looks := true }, kinds := [], alts := [], laidByText := true, laidKinds := [.sentinel, .sentinel], laidTests := true, laidLooks := .later }
def DrumDarkUptoCardSaid : Prop := Claim7.holds Tryd.pinned (.plain (OpenSpec.upto drumDarkSpec)) drumDarkUptoCard

/-- THE SECOND FORM's CARD OF 'jackfieldlaw04.DrumImages'. -/
def drumImagesUptoCard : Claim7 := { stood := { row := drumImagesUptoRow, standIns := [], harness := (true, "16dab4933c18658e70c9e991d2479b39d7b5fd3ead782d22a1f41840e5931e9e"), looks := true }, kinds := [], alts := [], laidByText := true, laidKinds := [.sentinel, .sentinel], laidTests := true, laidLooks := .later }
def DrumImagesUptoCardSaid : Prop := Claim7.holds Tryd.pinned (.plain (OpenSpec.upto drumImagesSpec)) drumImagesUptoCard

/-- THE SECOND FORM's CARD OF 'jackfieldlaw04.DrumPlays'. -/
def drumPlaysUptoCard : Claim7 := { stood := { row := drumPlaysUptoRow, standIns := [], harness := (true, "16dab4933c18658e70c9e991d2479b39d7b5fd3ead782d22a1f41840e5931e9e"), looks := true }, kinds := [], alts := [], laidByText := true, laidKinds := [.sentinel, .sentinel, .sentinel, .sentinel, .sentinel, .sentinel, .sentinel, .sentinel, .sentinel, .sentinel, .sentinel, .sentinel, .sentinel, .sentinel, .sentinel, .sentinel, .sentinel, .sentinel], laidTests := true, laidLooks := .later }
def DrumPlaysUptoCardSaid : Prop := Claim7.holds Tryd.pinned (.plain (OpenSpec.upto drumPlaysSpec)) drumPlaysUptoCard
end Rows
end Go.Proofs.YtjjaghiihkdclaaDoor
