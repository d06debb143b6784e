/-
  NARROWER THAN 'FOR EVERY INPUT', by the rows' own cells (each row's printed sentence says how): LabelFits: laid · LabelBest: laid · LabelWild: laid · LabelChecks: laid · LabelUnder: laid · LabelOrder: laid · SniffPrefix: laid · SniffNames: laid · SniffFeeds: laid · SniffCan: laid.
  DERIVED. THE GIVEN ROWS OF THIS SEAT. 10 by the template 'for every input the law returns true; each argument reads behind the call as it read before'; 0 by the template 'total and deterministic' (their statements: YtfphfljndhideaaDoorTotals.lean).
  GIVEN WITH THE SEED: the statements are not yours to turn. If you find one false, say at which input.
  Laid BY PROGRAM, IN A SANDBOX (cutbox-rows.mjs): the forced cells as the released guide's own fill.sh prints them over the translation b6eda9999dd7b922… (all of the seat's roots in one cut). By AI agents, Wed Nov 11 2026. No macro, syntax, notation, axiom, sorry.
-/
import Derived.Test.YtfphfljndhideaaDoorChecked
import GoSem.PinnedTables
import GoSem.Claim
import GoSem.ClaimJoined
import GoSem.ClaimMapViews
import Derived.JoinedTies
import Derived.KernelRfl
namespace Go.Proofs.YtfphfljndhideaaDoor
/- THE CELL 'sum', in the pinned program and in every row, IS THE sha256 OF THE DUMP (.gsa) THAT YtfphfljndhideaaDoorProg.lean LOADS. Nothing in Lean hashes anything: it is a label: what it is worth is what the hold of that sum in a sandbox is worth. -/
noncomputable def Tryd.pinned : Pinned := { name := "ytfphfljndhideaadoor", sum := "b6eda9999dd7b92286e4a6bdc4e15c15bc4afca8c691ba15ad2d56a9bfa44f71", checked := Tryd.checked }
namespace Rows
def none {H : Type} : Left H := { results := [], args := [] }

/- WHAT THE LISTED PACKAGE-LEVEL VARIABLES READ AS WHEN THE CALL BEGINS. Each datum BY PROGRAM (the guide's laid-datum.mjs) off the statement by which the dump's own 'gosem.cut.vars' lays the variable. In a bare row this is a premise. The card (YtfphfljndhideaaDoorCards.lean) ties it to the program's text. -/
def laid_unicode_utf8_acceptRanges {H : Type} : DataW H := .agg [.agg [.lit (.int .u8 128), .lit (.int .u8 191)], .agg [.lit (.int .u8 160), .lit (.int .u8 191)], .agg [.lit (.int .u8 128), .lit (.int .u8 159)], .agg [.lit (.int .u8 144), .lit (.int .u8 191)], .agg [.lit (.int .u8 128), .lit (.int .u8 143)], .agg [.lit (.int .u8 0), .lit (.int .u8 0)], .agg [.lit (.int .u8 0), .lit (.int .u8 0)], .agg [.lit (.int .u8 0), .lit (.int .u8 0)], .agg [.lit (.int .u8 0), .lit (.int .u8 0)], .agg [.lit (.int .u8 0), .lit (.int .u8 0)], .agg [.lit (.int .u8 0), .lit (.int .u8 0)], .agg [.lit (.int .u8 0), .lit (.int .u8 0)], .agg [.lit (.int .u8 0), .lit (.int .u8 0)], .agg [.lit (.int .u8 0), .lit (.int .u8 0)], .agg [.lit (.int .u8 0), .lit (.int .u8 0)], .agg [.lit (.int .u8 0), .lit (.int .u8 0)]]
def laid_jackfield_api_ErrName {H : Type} : DataW H := .iface "*errors.errorString" (.ptr (.agg [.lit (.string [106, 97, 99, 107, 102, 105, 101, 108, 100, 58, 32, 110, 97, 109, 101])]))
/-- One of Go's own tables, pinned by name: the form's constant. -/
def laid_unicode_utf8_first : DataW Unit := Go.Pinned.utf8First
def laid_jackfield_api_ErrState {H : Type} : DataW H := .iface "*errors.errorString" (.ptr (.agg [.lit (.string [106, 97, 99, 107, 102, 105, 101, 108, 100, 58, 32, 115, 116, 97, 116, 101])]))

/-- 'jackfieldlaw08.LabelFits': WHATEVER THE INPUT: true; the input reads as it did. -/
def labelFitsSpec : ChangeSpec := { name := "labelFits", fn := fun _ => fun
  | [d1, d2] => { results := [.lit (.bool true)], args := [d1, d2] }
  | _ => none }
def labelFitsRow : OpenClaim := { program := "ytfphfljndhideaadoor", sum := "b6eda9999dd7b92286e4a6bdc4e15c15bc4afca8c691ba15ad2d56a9bfa44f71", func := "jackfield/jackfieldlaw08.LabelFits", spec := "labelFits", inPlace := ["internal/bytealg.CountString", "internal/bytealg.IndexByteString", "internal/bytealg.IndexString"], named := ["jackfield/api.ErrName", "unicode/utf8.first", "unicode/utf8.acceptRanges", "internal/bytealg.MaxLen"], apart := false, laid := [("unicode/utf8.acceptRanges", laid_unicode_utf8_acceptRanges), ("jackfield/api.ErrName", laid_jackfield_api_ErrName), ("unicode/utf8.first", laid_unicode_utf8_first)] }
def LabelFitsSaid : Prop := labelFitsRow.holds Tryd.pinned (OpenSpec.ofChange labelFitsSpec)

/-- ITS FALSE NEIGHBOUR: 'it returns false'. Refute it at one input. -/
def labelFitsWrong : ChangeSpec := { name := "labelFits", fn := fun _ => fun
  | [d1, d2] => { results := [.lit (.bool false)], args := [d1, d2] }
  | _ => none }
def LabelFitsWrongFalsely : Prop := labelFitsRow.holds Tryd.pinned (OpenSpec.ofChange labelFitsWrong)

/-- 'jackfieldlaw08.LabelBest': WHATEVER THE INPUT: true; the input reads as it did. -/
def labelBestSpec : ChangeSpec := { name := "labelBest", fn := fun _ => fun
  | [d1, d2] => { results := [.lit (.bool true)], args := [d1, d2] }
  | _ => none }
def labelBestRow : OpenClaim := { program := "ytfphfljndhideaadoor", sum := "b6eda9999dd7b92286e4a6bdc4e15c15bc4afca8c691ba15ad2d56a9bfa44f71", func := "jackfield/jackfieldlaw08.LabelBest", spec := "labelBest", inPlace := ["internal/bytealg.CountString", "internal/bytealg.IndexByteString", "internal/bytealg.IndexString"], named := ["jackfield/api.ErrName", "unicode/utf8.first", "unicode/utf8.acceptRanges", "internal/bytealg.MaxLen"], apart := false, laid := [("unicode/utf8.acceptRanges", laid_unicode_utf8_acceptRanges), ("jackfield/api.ErrName", laid_jackfield_api_ErrName), ("unicode/utf8.first", laid_unicode_utf8_first)] }
def LabelBestSaid : Prop := labelBestRow.holds Tryd.pinned (OpenSpec.ofChange labelBestSpec)

/-- ITS FALSE NEIGHBOUR: 'it returns false'. Refute it at one input. -/
def labelBestWrong : ChangeSpec := { name := "labelBest", fn := fun _ => fun
  | [d1, d2] => { results := [.lit (.bool false)], args := [d1, d2] }
  | _ => none }
def LabelBestWrongFalsely : Prop := labelBestRow.holds Tryd.pinned (OpenSpec.ofChange labelBestWrong)

/-- 'jackfieldlaw08.LabelWild': WHATEVER THE INPUT: true; the input reads as it did. -/
def labelWildSpec : ChangeSpec := { name := "labelWild", fn := fun _ => fun
  | [d1, d2] => { results := [.lit (.bool true)], args := [d1, d2] }
  | _ => none }
def labelWildRow : OpenClaim := { program := "ytfphfljndhideaadoor", sum := "b6eda9999dd7b92286e4a6bdc4e15c15bc4afca8c691ba15ad2d56a9bfa44f71", func := "jackfield/jackfieldlaw08.LabelWild", spec := "labelWild", inPlace := ["internal/bytealg.CountString", "internal/bytealg.IndexByteString", "internal/bytealg.IndexString"], named := ["jackfield/api.ErrName", "unicode/utf8.first", "unicode/utf8.acceptRanges", "internal/bytealg.MaxLen"], apart := false, laid := [("unicode/utf8.acceptRanges", laid_unicode_utf8_acceptRanges), ("jackfield/api.ErrName", laid_jackfield_api_ErrName), ("unicode/utf8.first", laid_unicode_utf8_first)] }
def LabelWildSaid : Prop := labelWildRow.holds Tryd.pinned (OpenSpec.ofChange labelWildSpec)

/-- ITS FALSE NEIGHBOUR: 'it returns false'. Refute it at one input. -/
def labelWildWrong : ChangeSpec := { name := "labelWild", fn := fun _ => fun
  | [d1, d2] => { results := [.lit (.bool false)], args := [d1, d2] }
  | _ => none }
def LabelWildWrongFalsely : Prop := labelWildRow.holds Tryd.pinned (OpenSpec.ofChange labelWildWrong)

/-- 'jackfieldlaw08.LabelChecks': WHATEVER THE INPUT: true; the input reads as it did. -/
def labelChecksSpec : ChangeSpec := { name := "labelChecks", fn := fun _ => fun
  | [d] => { results := [.lit (.bool true)], args := [d] }
  | _ => none }
def labelChecksRow : OpenClaim := { program := "ytfphfljndhideaadoor", sum := "b6eda9999dd7b92286e4a6bdc4e15c15bc4afca8c691ba15ad2d56a9bfa44f71", func := "jackfield/jackfieldlaw08.LabelChecks", spec := "labelChecks", inPlace := ["internal/bytealg.CountString", "internal/bytealg.IndexByteString", "internal/bytealg.IndexString"], named := ["jackfield/api.ErrName", "unicode/utf8.first", "unicode/utf8.acceptRanges", "internal/bytealg.MaxLen"], apart := false, laid := [("unicode/utf8.acceptRanges", laid_unicode_utf8_acceptRanges), ("jackfield/api.ErrName", laid_jackfield_api_ErrName), ("unicode/utf8.first", laid_unicode_utf8_first)] }
def LabelChecksSaid : Prop := labelChecksRow.holds Tryd.pinned (OpenSpec.ofChange labelChecksSpec)

/-- ITS FALSE NEIGHBOUR: 'it returns false'. Refute it at one input. -/
def labelChecksWrong : ChangeSpec := { name := "labelChecks", fn := fun _ => fun
  | [d] => { results := [.lit (.bool false)], args := [d] }
  | _ => none }
def LabelChecksWrongFalsely : Prop := labelChecksRow.holds Tryd.pinned (OpenSpec.ofChange labelChecksWrong)

/-- 'jackfieldlaw08.LabelUnder': WHATEVER THE INPUT: true; the input reads as it did. -/
def labelUnderSpec : ChangeSpec := { name := "labelUnder", fn := fun _ => fun
  | [d1, d2, d3] => { results := [.lit (.bool true)], args := [d1, d2, d3] }
  | _ => none }
def labelUnderRow : OpenClaim := { program := "ytfphfljndhideaadoor", sum := "b6eda9999dd7b92286e4a6bdc4e15c15bc4afca8c691ba15ad2d56a9bfa44f71", func := "jackfield/jackfieldlaw08.LabelUnder", spec := "labelUnder", inPlace := ["internal/bytealg.CountString", "internal/bytealg.IndexByteString", "internal/bytealg.IndexString"], named := ["jackfield/api.ErrName", "unicode/utf8.first", "unicode/utf8.acceptRanges", "internal/bytealg.MaxLen"], apart := false, laid := [("unicode/utf8.acceptRanges", laid_unicode_utf8_acceptRanges), ("jackfield/api.ErrName", laid_jackfield_api_ErrName), ("unicode/utf8.first", laid_unicode_utf8_first)] }
def LabelUnderSaid : Prop := labelUnderRow.holds Tryd.pinned (OpenSpec.ofChange labelUnderSpec)

/-- ITS FALSE NEIGHBOUR: 'it returns false'. Refute it at one input. -/
def labelUnderWrong : ChangeSpec := { name := "labelUnder", fn := fun _ => fun
  | [d1, d2, d3] => { results := [.lit (.bool false)], args := [d1, d2, d3] }
  | _ => none }
def LabelUnderWrongFalsely : Prop := labelUnderRow.holds Tryd.pinned (OpenSpec.ofChange labelUnderWrong)

/-- 'jackfieldlaw08.LabelOrder': WHATEVER THE INPUT: true; the input reads as it did. -/
def labelOrderSpec : ChangeSpec := { name := "labelOrder", fn := fun _ => fun
  | [d1, d2, d3] => { results := [.lit (.bool true)], args := [d1, d2, d3] }
  | _ => none }
def labelOrderRow : OpenClaim := { program := "ytfphfljndhideaadoor", sum := "b6eda9999dd7b92286e4a6bdc4e15c15bc4afca8c691ba15ad2d56a9bfa44f71", func := "jackfield/jackfieldlaw08.LabelOrder", spec := "labelOrder", inPlace := ["internal/bytealg.CountString", "internal/bytealg.IndexByteString", "internal/bytealg.IndexString"], named := ["jackfield/api.ErrName", "unicode/utf8.first", "unicode/utf8.acceptRanges", "internal/bytealg.MaxLen"], apart := false, laid := [("unicode/utf8.acceptRanges", laid_unicode_utf8_acceptRanges), ("jackfield/api.ErrName", laid_jackfield_api_ErrName), ("unicode/utf8.first", laid_unicode_utf8_first)] }
def LabelOrderSaid : Prop := labelOrderRow.holds Tryd.pinned (OpenSpec.ofChange labelOrderSpec)

/-- ITS FALSE NEIGHBOUR: 'it returns false'. Refute it at one input. -/
def labelOrderWrong : ChangeSpec := { name := "labelOrder", fn := fun _ => fun
  | [d1, d2, d3] => { results := [.lit (.bool false)], args := [d1, d2, d3] }
  | _ => none }
def LabelOrderWrongFalsely : Prop := labelOrderRow.holds Tryd.pinned (OpenSpec.ofChange labelOrderWrong)

/-- 'jackfieldlaw17.SniffPrefix': WHATEVER THE INPUT: true; the input reads as it did. -/
def sniffPrefixSpec : ChangeSpec := { name := "sniffPrefix", fn := fun _ => fun
  | [d1, d2] => { results := [.lit (.bool true)], args := [d1, d2] }
  | _ => none }
def sniffPrefixRow : OpenClaim := { program := "ytfphfljndhideaadoor", sum := "b6eda9999dd7b92286e4a6bdc4e15c15bc4afca8c691ba15ad2d56a9bfa44f71", func := "jackfield/jackfieldlaw17.SniffPrefix", spec := "sniffPrefix", inPlace := ["internal/bytealg.IndexByteString", "internal/bytealg.IndexString", "internal/bytealg.CountString"], named := ["jackfield/api.ErrName", "jackfield/api.ErrState", "internal/bytealg.MaxLen", "unicode/utf8.first", "unicode/utf8.acceptRanges"], apart := false, laid := [("unicode/utf8.acceptRanges", laid_unicode_utf8_acceptRanges), ("jackfield/api.ErrName", laid_jackfield_api_ErrName), ("jackfield/api.ErrState", laid_jackfield_api_ErrState), ("unicode/utf8.first", laid_unicode_utf8_first)] }
def SniffPrefixSaid : Prop := sniffPrefixRow.holds Tryd.pinned (OpenSpec.ofChange sniffPrefixSpec)

/-- ITS FALSE NEIGHBOUR: 'it returns false'. Refute it at one input. -/
def sniffPrefixWrong : ChangeSpec := { name := "sniffPrefix", fn := fun _ => fun
  | [d1, d2] => { results := [.lit (.bool false)], args := [d1, d2] }
  | _ => none }
def SniffPrefixWrongFalsely : Prop := sniffPrefixRow.holds Tryd.pinned (OpenSpec.ofChange sniffPrefixWrong)

/-- 'jackfieldlaw17.SniffNames': WHATEVER THE INPUT: true; the input reads as it did. -/
def sniffNamesSpec : ChangeSpec := { name := "sniffNames", fn := fun _ => fun
  | [d1, d2] => { results := [.lit (.bool true)], args := [d1, d2] }
  | _ => none }
def sniffNamesRow : OpenClaim := { program := "ytfphfljndhideaadoor", sum := "b6eda9999dd7b92286e4a6bdc4e15c15bc4afca8c691ba15ad2d56a9bfa44f71", func := "jackfield/jackfieldlaw17.SniffNames", spec := "sniffNames", inPlace := ["internal/bytealg.IndexByteString", "internal/bytealg.IndexString", "internal/bytealg.CountString"], named := ["jackfield/api.ErrName", "jackfield/api.ErrState", "internal/bytealg.MaxLen", "unicode/utf8.first", "unicode/utf8.acceptRanges"], apart := false, laid := [("unicode/utf8.acceptRanges", laid_unicode_utf8_acceptRanges), ("jackfield/api.ErrName", laid_jackfield_api_ErrName), ("jackfield/api.ErrState", laid_jackfield_api_ErrState), ("unicode/utf8.first", laid_unicode_utf8_first)] }
def SniffNamesSaid : Prop := sniffNamesRow.holds Tryd.pinned (OpenSpec.ofChange sniffNamesSpec)

/-- ITS FALSE NEIGHBOUR: 'it returns false'. Refute it at one input. -/
def sniffNamesWrong : ChangeSpec := { name := "sniffNames", fn := fun _ => fun
  | [d1, d2] => { results := [.lit (.bool false)], args := [d1, d2] }
  | _ => none }
def SniffNamesWrongFalsely : Prop := sniffNamesRow.holds Tryd.pinned (OpenSpec.ofChange sniffNamesWrong)

/-- 'jackfieldlaw17.SniffFeeds': WHATEVER THE INPUT: true; the input reads as it did. -/
def sniffFeedsSpec : ChangeSpec := { name := "sniffFeeds", fn := fun _ => fun
  | [d] => { results := [.lit (.bool true)], args := [d] }
  | _ => none }
def sniffFeedsRow : OpenClaim := { program := "ytfphfljndhideaadoor", sum := "b6eda9999dd7b92286e4a6bdc4e15c15bc4afca8c691ba15ad2d56a9bfa44f71", func := "jackfield/jackfieldlaw17.SniffFeeds", spec := "sniffFeeds", inPlace := ["internal/bytealg.IndexByteString", "internal/bytealg.IndexString", "internal/bytealg.CountString"], named := ["jackfield/api.ErrState", "jackfield/api.ErrName", "internal/bytealg.MaxLen", "unicode/utf8.first", "unicode/utf8.acceptRanges"], apart := false, laid := [("unicode/utf8.acceptRanges", laid_unicode_utf8_acceptRanges), ("jackfield/api.ErrName", laid_jackfield_api_ErrName), ("jackfield/api.ErrState", laid_jackfield_api_ErrState), ("unicode/utf8.first", laid_unicode_utf8_first)] }
def SniffFeedsSaid : Prop := sniffFeedsRow.holds Tryd.pinned (OpenSpec.ofChange sniffFeedsSpec)

/-- ITS FALSE NEIGHBOUR: 'it returns false'. Refute it at one input. -/
def sniffFeedsWrong : ChangeSpec := { name := "sniffFeeds", fn := fun _ => fun
  | [d] => { results := [.lit (.bool false)], args := [d] }
  | _ => none }
def SniffFeedsWrongFalsely : Prop := sniffFeedsRow.holds Tryd.pinned (OpenSpec.ofChange sniffFeedsWrong)

/-- 'jackfieldlaw17.SniffCan': WHATEVER THE INPUT: true; the input reads as it did. -/
def sniffCanSpec : ChangeSpec := { name := "sniffCan", fn := fun _ => fun
  | [d1, d2] => { results := [.lit (.bool true)], args := [d1, d2] }
  | _ => none }
def sniffCanRow : OpenClaim := { program := "ytfphfljndhideaadoor", sum := "b6eda9999dd7b92286e4a6bdc4e15c15bc4afca8c691ba15ad2d56a9bfa44f71", func := "jackfield/jackfieldlaw17.SniffCan", spec := "sniffCan", inPlace := ["internal/bytealg.IndexByteString", "internal/bytealg.IndexString", "internal/bytealg.CountString"], named := ["jackfield/api.ErrName", "jackfield/api.ErrState", "internal/bytealg.MaxLen", "unicode/utf8.first", "unicode/utf8.acceptRanges"], apart := false, laid := [("unicode/utf8.acceptRanges", laid_unicode_utf8_acceptRanges), ("jackfield/api.ErrName", laid_jackfield_api_ErrName), ("jackfield/api.ErrState", laid_jackfield_api_ErrState), ("unicode/utf8.first", laid_unicode_utf8_first)] }
def SniffCanSaid : Prop := sniffCanRow.holds Tryd.pinned (OpenSpec.ofChange sniffCanSpec)

/-- ITS FALSE NEIGHBOUR: 'it returns false'. Refute it at one input. -/
def sniffCanWrong : ChangeSpec := { name := "sniffCan", fn := fun _ => fun
  | [d1, d2] => { results := [.lit (.bool false)], args := [d1, d2] }
  | _ => none }
def SniffCanWrongFalsely : Prop := sniffCanRow.holds Tryd.pinned (OpenSpec.ofChange sniffCanWrong)

/- THE SECOND FORM. 'bulk': how many values and letters a reading holds, each counted each time it is reached (what is shared counts as often as it is met; a slice's spare places count too). A statement '..UptoSaid' is the law's where the arguments, and the package variables that the reading takes, are together of bulk at most 1048576: NARROWER than '..Said'. Prove '..Said' where nothing that the law and all that it calls make is longer than what came in: it says more and counts as full. Else prove '..UptoSaid'. A law counts once. -/
mutual
def uptoBulk {H : Type} : DataW H → Nat
  | .lit (.string bytes) => bytes.length + 1
  | .lit _ => 1
  | .nil => 1
  | .ptr d => uptoBulk d + 1
  | .slice elems spare => uptoBulkAll elems + uptoBulkAll spare + 1
  | .agg parts => uptoBulkAll parts + 1
  | .iface _ d => uptoBulk d + 1
  | .map entries => uptoBulkEntries entries + 1
  | .held _ => 1
def uptoBulkAll {H : Type} : List (DataW H) → Nat
  | [] => 0
  | d :: r => uptoBulk d + uptoBulkAll r
def uptoBulkEntries {H : Type} : List (Lit × DataW H) → Nat
  | [] => 0
  | x :: r => uptoBulkEntry x + uptoBulkEntries r
def uptoBulkEntry {H : Type} : Lit × DataW H → Nat
  | (.string bytes, d) => bytes.length + uptoBulk d + 1
  | (_, d) => uptoBulk d + 1
 end
def uptoSmall : (H : Type) → List (DataW H) → Bool := fun _ ds => decide (uptoBulkAll ds ≤ 1048576)
def OpenSpec.upto (s : _root_.Go.ChangeSpec) : _root_.Go.OpenSpec := { _root_.Go.OpenSpec.ofChange s with cond := some uptoSmall }

/-- 'jackfieldlaw08.LabelFits', WHERE WHAT IT READS IS OF BULK AT MOST 1048576: true; the input reads as it did. -/
def labelFitsUptoRow : OpenClaim := { program := "ytfphfljndhideaadoor", sum := "b6eda9999dd7b92286e4a6bdc4e15c15bc4afca8c691ba15ad2d56a9bfa44f71", func := "jackfield/jackfieldlaw08.LabelFits", spec := "labelFits", inPlace := ["internal/bytealg.CountString", "internal/bytealg.IndexByteString", "internal/bytealg.IndexString"], named := ["jackfield/api.ErrName", "unicode/utf8.first", "unicode/utf8.acceptRanges", "internal/bytealg.MaxLen"], apart := false, laid := [("unicode/utf8.acceptRanges", laid_unicode_utf8_acceptRanges), ("jackfield/api.ErrName", laid_jackfield_api_ErrName), ("unicode/utf8.first", laid_unicode_utf8_first)], narrowed := true }
def LabelFitsUptoSaid : Prop := labelFitsUptoRow.holds Tryd.pinned (OpenSpec.upto labelFitsSpec)

/-- 'jackfieldlaw08.LabelBest', WHERE WHAT IT READS IS OF BULK AT MOST 1048576: true; the input reads as it did. -/
def labelBestUptoRow : OpenClaim := { program := "ytfphfljndhideaadoor", sum := "b6eda9999dd7b92286e4a6bdc4e15c15bc4afca8c691ba15ad2d56a9bfa44f71", func := "jackfield/jackfieldlaw08.LabelBest", spec := "labelBest", inPlace := ["internal/bytealg.CountString", "internal/bytealg.IndexByteString", "internal/bytealg.IndexString"], named := ["jackfield/api.ErrName", "unicode/utf8.first", "unicode/utf8.acceptRanges", "internal/bytealg.MaxLen"], apart := false, laid := [("unicode/utf8.acceptRanges", laid_unicode_utf8_acceptRanges), ("jackfield/api.ErrName", laid_jackfield_api_ErrName), ("unicode/utf8.first", laid_unicode_utf8_first)], narrowed := true }
def LabelBestUptoSaid : Prop := labelBestUptoRow.holds Tryd.pinned (OpenSpec.upto labelBestSpec)

/-- 'jackfieldlaw08.LabelWild', WHERE WHAT IT READS IS OF BULK AT MOST 1048576: true; the input reads as it did. -/
def labelWildUptoRow : OpenClaim := { program := "ytfphfljndhideaadoor", sum := "b6eda9999dd7b92286e4a6bdc4e15c15bc4afca8c691ba15ad2d56a9bfa44f71", func := "jackfield/jackfieldlaw08.LabelWild", spec := "labelWild", inPlace := ["internal/bytealg.CountString", "internal/bytealg.IndexByteString", "internal/bytealg.IndexString"], named := ["jackfield/api.ErrName", "unicode/utf8.first", "unicode/utf8.acceptRanges", "internal/bytealg.MaxLen"], apart := false, laid := [("unicode/utf8.acceptRanges", laid_unicode_utf8_acceptRanges), ("jackfield/api.ErrName", laid_jackfield_api_ErrName), ("unicode/utf8.first", laid_unicode_utf8_first)], narrowed := true }
def LabelWildUptoSaid : Prop := labelWildUptoRow.holds Tryd.pinned (OpenSpec.upto labelWildSpec)

/-- 'jackfieldlaw08.LabelChecks', WHERE WHAT IT READS IS OF BULK AT MOST 1048576: true; the input reads as it did. -/
def labelChecksUptoRow : OpenClaim := { program := "ytfphfljndhideaadoor", sum := "b6eda9999dd7b92286e4a6bdc4e15c15bc4afca8c691ba15ad2d56a9bfa44f71", func := "jackfield/jackfieldlaw08.LabelChecks", spec := "labelChecks", inPlace := ["internal/bytealg.CountString", "internal/bytealg.IndexByteString", "internal/bytealg.IndexString"], named := ["jackfield/api.ErrName", "unicode/utf8.first", "unicode/utf8.acceptRanges", "internal/bytealg.MaxLen"], apart := false, laid := [("unicode/utf8.acceptRanges", laid_unicode_utf8_acceptRanges), ("jackfield/api.ErrName", laid_jackfield_api_ErrName), ("unicode/utf8.first", laid_unicode_utf8_first)], narrowed := true }
def LabelChecksUptoSaid : Prop := labelChecksUptoRow.holds Tryd.pinned (OpenSpec.upto labelChecksSpec)

/-- 'jackfieldlaw08.LabelUnder', WHERE WHAT IT READS IS OF BULK AT MOST 1048576: true; the input reads as it did. -/
def labelUnderUptoRow : OpenClaim := { program := "ytfphfljndhideaadoor", sum := "b6eda9999dd7b92286e4a6bdc4e15c15bc4afca8c691ba15ad2d56a9bfa44f71", func := "jackfield/jackfieldlaw08.LabelUnder", spec := "labelUnder", inPlace := ["internal/bytealg.CountString", "internal/bytealg.IndexByteString", "internal/bytealg.IndexString"], named := ["jackfield/api.ErrName", "unicode/utf8.first", "unicode/utf8.acceptRanges", "internal/bytealg.MaxLen"], apart := false, laid := [("unicode/utf8.acceptRanges", laid_unicode_utf8_acceptRanges), ("jackfield/api.ErrName", laid_jackfield_api_ErrName), ("unicode/utf8.first", laid_unicode_utf8_first)], narrowed := true }
def LabelUnderUptoSaid : Prop := labelUnderUptoRow.holds Tryd.pinned (OpenSpec.upto labelUnderSpec)

/-- 'jackfieldlaw08.LabelOrder', WHERE WHAT IT READS IS OF BULK AT MOST 1048576: true; the input reads as it did. -/
def labelOrderUptoRow : OpenClaim := { program := "ytfphfljndhideaadoor", sum := "b6eda9999dd7b92286e4a6bdc4e15c15bc4afca8c691ba15ad2d56a9bfa44f71", func := "jackfield/jackfieldlaw08.LabelOrder", spec := "labelOrder", inPlace := ["internal/bytealg.CountString", "internal/bytealg.IndexByteString", "internal/bytealg.IndexString"], named := ["jackfield/api.ErrName", "unicode/utf8.first", "unicode/utf8.acceptRanges", "internal/bytealg.MaxLen"], apart := false, laid := [("unicode/utf8.acceptRanges", laid_unicode_utf8_acceptRanges), ("jackfield/api.ErrName", laid_jackfield_api_ErrName), ("unicode/utf8.first", laid_unicode_utf8_first)], narrowed := true }
def LabelOrderUptoSaid : Prop := labelOrderUptoRow.holds Tryd.pinned (OpenSpec.upto labelOrderSpec)

/-- 'jackfieldlaw17.SniffPrefix', WHERE WHAT IT READS IS OF BULK AT MOST 1048576: true; the input reads as it did. -/
def sniffPrefixUptoRow : OpenClaim := { program := "ytfphfljndhideaadoor", sum := "b6eda9999dd7b92286e4a6bdc4e15c15bc4afca8c691ba15ad2d56a9bfa44f71", func := "jackfield/jackfieldlaw17.SniffPrefix", spec := "sniffPrefix", inPlace := ["internal/bytealg.IndexByteString", "internal/bytealg.IndexString", "internal/bytealg.CountString"], named := ["jackfield/api.ErrName", "jackfield/api.ErrState", "internal/bytealg.MaxLen", "unicode/utf8.first", "unicode/utf8.acceptRanges"], apart := false, laid := [("unicode/utf8.acceptRanges", laid_unicode_utf8_acceptRanges), ("jackfield/api.ErrName", laid_jackfield_api_ErrName), ("jackfield/api.ErrState", laid_jackfield_api_ErrState), ("unicode/utf8.first", laid_unicode_utf8_first)], narrowed := true }
def SniffPrefixUptoSaid : Prop := sniffPrefixUptoRow.holds Tryd.pinned (OpenSpec.upto sniffPrefixSpec)

/-- 'jackfieldlaw17.SniffNames', WHERE WHAT IT READS IS OF BULK AT MOST 1048576: true; the input reads as it did. -/
def sniffNamesUptoRow : OpenClaim := { program := "ytfphfljndhideaadoor", sum := "b6eda9999dd7b92286e4a6bdc4e15c15bc4afca8c691ba15ad2d56a9bfa44f71", func := "jackfield/jackfieldlaw17.SniffNames", spec := "sniffNames", inPlace := ["internal/bytealg.IndexByteString", "internal/bytealg.IndexString", "internal/bytealg.CountString"], named := ["jackfield/api.ErrName", "jackfield/api.ErrState", "internal/bytealg.MaxLen", "unicode/utf8.first", "unicode/utf8.acceptRanges"], apart := false, laid := [("unicode/utf8.acceptRanges", laid_unicode_utf8_acceptRanges), ("jackfield/api.ErrName", laid_jackfield_api_ErrName), ("jackfield/api.ErrState", laid_jackfield_api_ErrState), ("unicode/utf8.first", laid_unicode_utf8_first)], narrowed := true }
def SniffNamesUptoSaid : Prop := sniffNamesUptoRow.holds Tryd.pinned (OpenSpec.upto sniffNamesSpec)

/-- 'jackfieldlaw17.SniffFeeds', WHERE WHAT IT READS IS OF BULK AT MOST 1048576: true; the input reads as it did. -/
def sniffFeedsUptoRow : OpenClaim := { program := "ytfphfljndhideaadoor", sum := "b6eda9999dd7b92286e4a6bdc4e15c15bc4afca8c691ba15ad2d56a9bfa44f71", func := "jackfield/jackfieldlaw17.SniffFeeds", spec := "sniffFeeds", inPlace := ["internal/bytealg.IndexByteString", "internal/bytealg.IndexString", "internal/bytealg.CountString"], named := ["jackfield/api.ErrState", "jackfield/api.ErrName", "internal/bytealg.MaxLen", "unicode/utf8.first", "unicode/utf8.acceptRanges"], apart := false, laid := [("unicode/utf8.acceptRanges", laid_unicode_utf8_acceptRanges), ("jackfield/api.ErrName", laid_jackfield_api_ErrName), ("jackfield/api.ErrState", laid_jackfield_api_ErrState), ("unicode/utf8.first", laid_unicode_utf8_first)], narrowed := true }
def SniffFeedsUptoSaid : Prop := sniffFeedsUptoRow.holds Tryd.pinned (OpenSpec.upto sniffFeedsSpec)

/-- 'jackfieldlaw17.SniffCan', WHERE WHAT IT READS IS OF BULK AT MOST 1048576: true; the input reads as it did. -/
def sniffCanUptoRow : OpenClaim := { program := "ytfphfljndhideaadoor", sum := "b6eda9999dd7b92286e4a6bdc4e15c15bc4afca8c691ba15ad2d56a9bfa44f71", func := "jackfield/jackfieldlaw17.SniffCan", spec := "sniffCan", inPlace := ["internal/bytealg.IndexByteString", "internal/bytealg.IndexString", "internal/bytealg.CountString"], named := ["jackfield/api.ErrName", "jackfield/api.ErrState", "internal/bytealg.MaxLen", "unicode/utf8.first", "unicode/utf8.acceptRanges"], apart := false, laid := [("unicode/utf8.acceptRanges", laid_unicode_utf8_acceptRanges), ("jackfield/api.ErrName", laid_jackfield_api_ErrName), ("jackfield/api.ErrState", laid_jackfield_api_ErrState), ("unicode/utf8.first", laid_unicode_utf8_first)], narrowed := true }
def SniffCanUptoSaid : Prop := sniffCanUptoRow.holds Tryd.pinned (OpenSpec.upto sniffCanSpec)

end Rows
end Go.Proofs.YtfphfljndhideaaDoor
