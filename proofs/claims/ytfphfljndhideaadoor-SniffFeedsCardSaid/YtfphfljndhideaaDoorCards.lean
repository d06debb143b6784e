/-
  DERIVED. GIVEN WITH THE SEED: THE CARDS: each row of YtfphfljndhideaaDoorRows.lean that lists a variable, with what it lists TIED to the program's text (the seventh form; the later family's looks); each row that meets fmt, with fmt's text TOLD by the authors' own Lean function (tested against real Go, not proved from fmt's source: count such statements apart). THE CARD IS WHAT COUNTS. Prove the row's statement (the work); the ties are given (YtfphfljndhideaaDoorTie.lean); close each card by the builder's one call (the guide's Derived/Test/ToyasCard.lean, 'card_holds'). Laid BY PROGRAM, IN A SANDBOX (cutbox-door.mjs). By AI agents, Wed Nov 11 2026. No macro, syntax, notation, axiom, sorry.
-/
import Derived.Test.YtfphfljndhideaaDoorRows
import GoSem.ClaimSeven
namespace Go.Proofs.YtfphfljndhideaaDoor
namespace Rows

/-- THE TIED CARD OF 'jackfieldlaw08.LabelFits'. -/
def labelFitsCard : Claim7 := { stood := { row := labelFitsRow, standIns := [], harness := (true, "bd17dabe71808793cb5abd03b658473ab13e9a646aaab6eb64eed989583ff5f4"), looks := true }, kinds := [], alts := [], laidByText := true, laidKinds := [.data, .sentinel, .pinned], laidTests := true, laidLooks := .later }
def LabelFitsCardSaid : Prop := Claim7.holds Tryd.pinned (.plain (OpenSpec.ofChange labelFitsSpec)) labelFitsCard

/-- THE TIED CARD OF 'jackfieldlaw08.LabelBest'. -/
def labelBestCard : Claim7 := { stood := { row := labelBestRow, standIns := [], harness := (true, "bd17dabe71808793cb5abd03b658473ab13e9a646aaab6eb64eed989583ff5f4"), looks := true }, kinds := [], alts := [], laidByText := true, laidKinds := [.data, .sentinel, .pinned], laidTests := true, laidLooks := .later }
def LabelBestCardSaid : Prop := Claim7.holds Tryd.pinned (.plain (OpenSpec.ofChange labelBestSpec)) labelBestCard

/-- THE TIED CARD OF 'jackfieldlaw08.LabelWild'. -/
def labelWildCard : Claim7 := { stood := { row := labelWildRow, standIns := [], harness := (true, "bd17dabe71808793cb5abd03b658473ab13e9a646aaab6eb64eed989583ff5f4"), looks := true }, kinds := [], alts := [], laidByText := true, laidKinds := [.data, .sentinel, .pinned], laidTests := true, laidLooks := .later }
def LabelWildCardSaid : Prop := Claim7.holds Tryd.pinned (.plain (OpenSpec.ofChange labelWildSpec)) labelWildCard

/-- THE TIED CARD OF 'jackfieldlaw08.LabelChecks'. -/
def labelChecksCard : Claim7 := { stood := { row := labelChecksRow, standIns := [], harness := (true, "bd17dabe71808793cb5abd03b658473ab13e9a646aaab6eb64eed989583ff5f4"), looks := true }, kinds := [], alts := [], laidByText := true, laidKinds := [.data, .sentinel, .pinned], laidTests := true, laidLooks := .later }
def LabelChecksCardSaid : Prop := Claim7.holds Tryd.pinned (.plain (OpenSpec.ofChange labelChecksSpec)) labelChecksCard

/-- THE TIED CARD OF 'jackfieldlaw08.LabelUnder'. -/
def labelUnderCard : Claim7 := { stood := { row := labelUnderRow, standIns := [], harness := (true, "bd17dabe71808793cb5abd03b658473ab13e9a646aaab6eb64eed989583ff5f4"), looks := true }, kinds := [], alts := [], laidByText := true, laidKinds := [.data, .sentinel, .pinned], laidTests := true, laidLooks := .later }
def LabelUnderCardSaid : Prop := Claim7.holds Tryd.pinned (.plain (OpenSpec.ofChange labelUnderSpec)) labelUnderCard

/-- THE TIED CARD OF 'jackfieldlaw08.LabelOrder'. -/
def labelOrderCard : Claim7 := { stood := { row := labelOrderRow, standIns := [], harness := (true, "bd17dabe71808793cb5abd03b658473ab13e9a646aaab6eb64eed989583ff5f4"), looks := true }, kinds := [], alts := [], laidByText := true, laidKinds := [.data, .sentinel, .pinned], laidTests := true, laidLooks := .later }
def LabelOrderCardSaid : Prop := Claim7.holds Tryd.pinned (.plain (OpenSpec.ofChange labelOrderSpec)) labelOrderCard

/-- THE TIED CARD OF 'jackfieldlaw17.SniffPrefix'. -/
def sniffPrefixCard : Claim7 := { stood := { row := sniffPrefixRow, standIns := [], harness := (true, "bd17dabe71808793cb5abd03b658473ab13e9a646aaab6eb64eed989583ff5f4"), looks := true }, kinds := [], alts := [], laidByText := true, laidKinds := [.data, .sentinel, .sentinel, .pinned], laidTests := true, laidLooks := .later }
def SniffPrefixCardSaid : Prop := Claim7.holds Tryd.pinned (.plain (OpenSpec.ofChange sniffPrefixSpec)) sniffPrefixCard

/-- THE TIED CARD OF 'jackfieldlaw17.SniffNames'. -/
def sniffNamesCard : Claim7 := { stood := { row := sniffNamesRow, standIns := [], harness := (true, "bd17dabe71808793cb5abd03b658473ab13e9a646aaab6eb64eed989583ff5f4"), looks := true }, kinds := [], alts := [], laidByText := true, laidKinds := [.data, .sentinel, .sentinel, .pinned], laidTests := true, laidLooks := .later }
def SniffNamesCardSaid : Prop := Claim7.holds Tryd.pinned (.plain (OpenSpec.ofChange sniffNamesSpec)) sniffNamesCard

/-- THE TIED CARD OF 'jackfieldlaw17.SniffFeeds'. -/
def sniffFeedsCard : Claim7 := { stood := { row := sniffFeedsRow, standIns := [], harness := (true, "bd17dabe71808793cb5abd03b658473ab13e9a646aaab6eb64eed989583ff5f4"), looks := true }, kinds := [], alts := [], laidByText := true, laidKinds := [.data, .sentinel, .sentinel, .pinned], laidTests := true, laidLooks := .later }
def SniffFeedsCardSaid : Prop := Claim7.holds Tryd.pinned (.plain (OpenSpec.ofChange sniffFeedsSpec)) sniffFeedsCard

/-- THE TIED CARD OF 'jackfieldlaw17.SniffCan'. -/
def sniffCanCard : Claim7 := { stood := { row := sniffCanRow, standIns := [], harness := (true, "bd17dabe71808793cb5abd03b658473ab13e9a646aaab6eb64eed989583ff5f4"), looks := true }, kinds := [], alts := [], laidByText := true, laidKinds := [.data, .sentinel, .sentinel, .pinned], laidTests := true, laidLooks := .later }
def SniffCanCardSaid : Prop := Claim7.holds Tryd.pinned (.plain (OpenSpec.ofChange sniffCanSpec)) sniffCanCard

/-- THE SECOND FORM's CARD OF 'jackfieldlaw08.LabelFits'. -/
def labelFitsUptoCard : Claim7 := { stood := { row := labelFitsUptoRow, standIns := [], harness := (true, "bd17dabe71808793cb5abd03b658473ab13e9a646aaab6eb64eed989583ff5f4"), looks := true }, kinds := [], alts := [], laidByText := true, laidKinds := [.data, .sentinel, .pinned], laidTests := true, laidLooks := .later }
def LabelFitsUptoCardSaid : Prop := Claim7.holds Tryd.pinned (.plain (OpenSpec.upto labelFitsSpec)) labelFitsUptoCard

/-- THE SECOND FORM's CARD OF 'jackfieldlaw08.LabelBest'. -/
def labelBestUptoCard : Claim7 := { stood := { row := labelBestUptoRow, standIns := [], harness := (true, "bd17dabe71808793cb5abd03b658473ab13e9a646aaab6eb64eed989583ff5f4"), looks := true }, kinds := [], alts := [], laidByText := true, laidKinds := [.data, .sentinel, .pinned], laidTests := true, laidLooks := .later }
def LabelBestUptoCardSaid : Prop := Claim7.holds Tryd.pinned (.plain (OpenSpec.upto labelBestSpec)) labelBestUptoCard

/-- THE SECOND FORM's CARD OF 'jackfieldlaw08.LabelWild'. -/
def labelWildUptoCard : Claim7 := { stood := { row := labelWildUptoRow, standIns := [], harness := (true, "bd17dabe71808793cb5abd03b658473ab13e9a646aaab6eb64eed989583ff5f4"), looks := true }, kinds := [], alts := [], laidByText := true, laidKinds := [.data, .sentinel, .pinned], laidTests := true, laidLooks := .later }
def LabelWildUptoCardSaid : Prop := Claim7.holds Tryd.pinned (.plain (OpenSpec.upto labelWildSpec)) labelWildUptoCard

/-- THE SECOND FORM's CARD OF 'jackfieldlaw08.LabelChecks'. -/
def labelChecksUptoCard : Claim7 := { stood := { row := labelChecksUptoRow, standIns := [], harness := (true, "bd17dabe71808793cb5abd03b658473ab13e9a646aaab6eb64eed989583ff5f4"), looks := true }, kinds := [], alts := [], laidByText := true, laidKinds := [.data, .sentinel, .pinned], laidTests := true, laidLooks := .later }
def LabelChecksUptoCardSaid : Prop := Claim7.holds Tryd.pinned (.plain (OpenSpec.upto labelChecksSpec)) labelChecksUptoCard

/-- THE SECOND FORM's CARD OF 'jackfieldlaw08.LabelUnder'. -/
def labelUnderUptoCard : Claim7 := { stood := { row := labelUnderUptoRow, standIns := [], harness := (true, "bd17dabe71808793cb5abd03b658473ab13e9a646aaab6eb64eed989583ff5f4"), looks := true }, kinds := [], alts := [], laidByText := true, laidKinds := [.data, .sentinel, .pinned], laidTests := true, laidLooks := .later }
def LabelUnderUptoCardSaid : Prop := Claim7.holds Tryd.pinned (.plain (OpenSpec.upto labelUnderSpec)) labelUnderUptoCard

/-- THE SECOND FORM's CARD OF 'jackfieldlaw08.LabelOrder'. -/
def labelOrderUptoCard : Claim7 := { stood := { row := labelOrderUptoRow, standIns := [], harness := (true, "bd17dabe71808793cb5abd03b658473ab13e9a646aaab6eb64eed989583ff5f4"), looks := true }, kinds := [], alts := [], laidByText := true, laidKinds := [.data, .sentinel, .pinned], laidTests := true, laidLooks := .later }
def LabelOrderUptoCardSaid : Prop := Claim7.holds Tryd.pinned (.plain (OpenSpec.upto labelOrderSpec)) labelOrderUptoCard

/-- THE SECOND FORM's CARD OF 'jackfieldlaw17.SniffPrefix'. -/
def sniffPrefixUptoCard : Claim7 := { stood := { row := sniffPrefixUptoRow, standIns := [], harness := (true, "bd17dabe71808793cb5abd03b658473ab13e9a646aaab6eb64eed989583ff5f4"), looks := true }, kinds := [], alts := [], laidByText := true, laidKinds := [.data, .sentinel, .sentinel, .pinned], laidTests := true, laidLooks := .later }
def SniffPrefixUptoCardSaid : Prop := Claim7.holds Tryd.pinned (.plain (OpenSpec.upto sniffPrefixSpec)) sniffPrefixUptoCard

/-- THE SECOND FORM's CARD OF 'jackfieldlaw17.SniffNames'. -/
def sniffNamesUptoCard : Claim7 := { stood := { row := sniffNamesUptoRow, standIns := [], harness := (true, "bd17dabe71808793cb5abd03b658473ab13e9a646aaab6eb64eed989583ff5f4"), looks := true }, kinds := [], alts := [], laidByText := true, laidKinds := [.data, .sentinel, .sentinel, .pinned], laidTests := true, laidLooks := .later }
def SniffNamesUptoCardSaid : Prop := Claim7.holds Tryd.pinned (.plain (OpenSpec.upto sniffNamesSpec)) sniffNamesUptoCard

/-- THE SECOND FORM's CARD OF 'jackfieldlaw17.SniffFeeds'. -/
def sniffFeedsUptoCard : Claim7 := { stood := { row := sniffFeedsUptoRow, standIns := [], harness := (true, "bd17dabe71808793cb5abd03b658473ab13e9a646aaab6eb64eed989583ff5f4"), looks := true }, kinds := [], alts := [], laidByText := true, laidKinds := [.data, .sentinel, .sentinel, .pinned], laidTests := true, laidLooks := .later }
def SniffFeedsUptoCardSaid : Prop := Claim7.holds Tryd.pinned (.plain (OpenSpec.upto sniffFeedsSpec)) sniffFeedsUptoCard

/-- THE SECOND FORM's CARD OF 'jackfieldlaw17.SniffCan'. -/
def sniffCanUptoCard : Claim7 := { stood := { row := sniffCanUptoRow, standIns := [], harness := (true, "bd17dabe71808793cb5abd03b658473ab13e9a646aaab6eb64eed989583ff5f4"), looks := true }, kinds := [], alts := [], laidByText := true, laidKinds := [.data, .sentinel, .sentinel, .pinned], laidTests := true, laidLooks := .later }
def SniffCanUptoCardSaid : Prop := Claim7.holds Tryd.pinned (.plain (OpenSpec.upto sniffCanSpec)) sniffCanUptoCard
end Rows
end Go.Proofs.YtfphfljndhideaaDoor
