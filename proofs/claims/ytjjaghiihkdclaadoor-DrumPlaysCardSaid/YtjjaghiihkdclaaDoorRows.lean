/-
  NARROWER THAN 'FOR EVERY INPUT', by the rows' own cells (each row's printed sentence says how): DrumRanges: laid · DrumCounts: laid · DrumDark: laid · DrumImages: laid · DrumPlays: laid.
  DERIVED. THE GIVEN ROWS OF THIS SEAT. 5 by the template 'for every input the law returns true; each argument reads behind the call as it read before'; 0 by the template 'total and deterministic' (their statements: YtjjaghiihkdclaaDoorTotals.lean).
  GIVEN WITH THE SEED: the statements are not yours to turn. If you find one false, say at which input.
  Laid BY PROGRAM, IN A SANDBOX (cutbox-rows.mjs): the forced cells as the released guide's own fill.sh prints them over the translation 280d4bd7b368d303… (all of the seat's roots in one cut). By AI agents, Wed Nov 11 2026. No macro, syntax, notation, axiom, sorry.
-/
import Derived.Test.YtjjaghiihkdclaaDoorChecked
import GoSem.Claim
import GoSem.ClaimJoined
import GoSem.ClaimMapViews
import Derived.JoinedTies
import Derived.KernelRfl
namespace Go.Proofs.YtjjaghiihkdclaaDoor
/- THE CELL 'sum', in the pinned program and in every row, IS THE sha256 OF THE DUMP (.gsa) THAT YtjjaghiihkdclaaDoorProg.lean LOADS. Nothing in Lean hashes anything: it is a label: what it is worth is what the hold of that sum in a sandbox is worth. -/
noncomputable def Tryd.pinned : Pinned := { name := "ytjjaghiihkdclaadoor", sum := "280d4bd7b368d303fd4a9f564f3583990fde738c55faa99d8154cbb1bd88d959", checked := Tryd.checked }
namespace Rows
def none {H : Type} : Left H := { results := [], args := [] }

/- WHAT THE LISTED PACKAGE-LEVEL VARIABLES READ AS WHEN THE CALL BEGINS. Each datum BY PROGRAM (the guide's laid-datum.mjs) off the statement by which the dump's own 'gosem.cut.vars' lays the variable. In a bare row this is a premise. The card (YtjjaghiihkdclaaDoorCards.lean) ties it to the program's text. -/
def laid_jackfield_api_ErrRange {H : Type} : DataW H := .iface "*errors.errorString" (.ptr (.agg [.lit (.string [106, 97, 99, 107, 102, 105, 101, 108, 100, 58, 32, 114, 97, 110, 103, 101])]))
def laid_jackfield_api_ErrPower {H : Type} : DataW H := .iface "*errors.errorString" (.ptr (.agg [.lit (.string [106, 97, 99, 107, 102, 105, 101, 108, 100, 58, 32, 112, 111, 119, 101, 114])]))
def laid_jackfield_api_ErrShort {H : Type} : DataW H := .iface "*errors.errorString" (.ptr (.agg [.lit (.string [106, 97, 99, 107, 102, 105, 101, 108, 100, 58, 32, 115, 104, 111, 114, 116])]))
def laid_jackfield_api_ErrLong {H : Type} : DataW H := .iface "*errors.errorString" (.ptr (.agg [.lit (.string [106, 97, 99, 107, 102, 105, 101, 108, 100, 58, 32, 108, 111, 110, 103])]))
def laid_jackfield_api_ErrTail {H : Type} : DataW H := .iface "*errors.errorString" (.ptr (.agg [.lit (.string [106, 97, 99, 107, 102, 105, 101, 108, 100, 58, 32, 116, 97, 105, 108])]))
def laid_jackfield_api_ErrBroken {H : Type} : DataW H := .iface "*errors.errorString" (.ptr (.agg [.lit (.string [106, 97, 99, 107, 102, 105, 101, 108, 100, 58, 32, 98, 114, 111, 107, 101, 110])]))
def laid_jackfield_api_ErrFrame {H : Type} : DataW H := .iface "*errors.errorString" (.ptr (.agg [.lit (.string [106, 97, 99, 107, 102, 105, 101, 108, 100, 58, 32, 102, 114, 97, 109, 101])]))
def laid_jackfield_api_ErrFull {H : Type} : DataW H := .iface "*errors.errorString" (.ptr (.agg [.lit (.string [106, 97, 99, 107, 102, 105, 101, 108, 100, 58, 32, 102, 117, 108, 108])]))
def laid_jackfield_api_ErrGap {H : Type} : DataW H := .iface "*errors.errorString" (.ptr (.agg [.lit (.string [106, 97, 99, 107, 102, 105, 101, 108, 100, 58, 32, 103, 97, 112])]))
def laid_jackfield_api_ErrName {H : Type} : DataW H := .iface "*errors.errorString" (.ptr (.agg [.lit (.string [106, 97, 99, 107, 102, 105, 101, 108, 100, 58, 32, 110, 97, 109, 101])]))
def laid_jackfield_api_ErrTaken {H : Type} : DataW H := .iface "*errors.errorString" (.ptr (.agg [.lit (.string [106, 97, 99, 107, 102, 105, 101, 108, 100, 58, 32, 116, 97, 107, 101, 110])]))
def laid_jackfield_api_ErrNone {H : Type} : DataW H := .iface "*errors.errorString" (.ptr (.agg [.lit (.string [106, 97, 99, 107, 102, 105, 101, 108, 100, 58, 32, 110, 111, 110, 101])]))
def laid_jackfield_api_ErrOwner {H : Type} : DataW H := .iface "*errors.errorString" (.ptr (.agg [.lit (.string [106, 97, 99, 107, 102, 105, 101, 108, 100, 58, 32, 111, 119, 110, 101, 114])]))
def laid_jackfield_api_ErrProof {H : Type} : DataW H := .iface "*errors.errorString" (.ptr (.agg [.lit (.string [106, 97, 99, 107, 102, 105, 101, 108, 100, 58, 32, 112, 114, 111, 111, 102])]))
def laid_jackfield_api_ErrWindow {H : Type} : DataW H := .iface "*errors.errorString" (.ptr (.agg [.lit (.string [106, 97, 99, 107, 102, 105, 101, 108, 100, 58, 32, 119, 105, 110, 100, 111, 119])]))
def laid_jackfield_api_ErrStream {H : Type} : DataW H := .iface "*errors.errorString" (.ptr (.agg [.lit (.string [106, 97, 99, 107, 102, 105, 101, 108, 100, 58, 32, 115, 116, 114, 101, 97, 109])]))
def laid_jackfield_api_ErrState {H : Type} : DataW H := .iface "*errors.errorString" (.ptr (.agg [.lit (.string [106, 97, 99, 107, 102, 105, 101, 108, 100, 58, 32, 115, 116, 97, 116, 101])]))
def laid_jackfield_api_ErrBusy {H : Type} : DataW H := .iface "*errors.errorString" (.ptr (.agg [.lit (.string [106, 97, 99, 107, 102, 105, 101, 108, 100, 58, 32, 98, 117, 115, 121])]))

/-- 'jackfieldlaw04.DrumRanges': WHATEVER THE INPUT: true; the input reads as it did. -/
def drumRangesSpec : ChangeSpec := { name := "drumRanges", fn := fun _ => fun
  | [d1, d2, d3] => { results := [.lit (.bool true)], args := [d1, d2, d3] }
  | _ => none }
def drumRangesRow : OpenClaim := { program := "ytjjaghiihkdclaadoor", sum := "280d4bd7b368d303fd4a9f564f3583990fde738c55faa99d8154cbb1bd88d959", func := "jackfield/jackfieldlaw04.DrumRanges", spec := "drumRanges", named := ["jackfield/api.ErrRange", "jackfield/api.ErrPower"], apart := false, laid := [("jackfield/api.ErrRange", laid_jackfield_api_ErrRange), ("jackfield/api.ErrPower", laid_jackfield_api_ErrPower)] }
def DrumRangesSaid : Prop := drumRangesRow.holds Tryd.pinned (OpenSpec.ofChange drumRangesSpec)

/-- ITS FALSE NEIGHBOUR: 'it returns false'. Refute it at one input. -/
def drumRangesWrong : ChangeSpec := { name := "drumRanges", fn := fun _ => fun
  | [d1, d2, d3] => { results := [.lit (.bool false)], args := [d1, d2, d3] }
  | _ => none }
def DrumRangesWrongFalsely : Prop := drumRangesRow.holds Tryd.pinned (OpenSpec.ofChange drumRangesWrong)

/-- 'jackfieldlaw04.DrumCounts': WHATEVER THE INPUT: true; the input reads as it did. -/
def drumCountsSpec : ChangeSpec := { name := "drumCounts", fn := fun _ => fun
  | [d1, d2] => { results := [.lit (.bool true)], args := [d1, d2] }
  | _ => none }
def drumCountsRow : OpenClaim := { program := "ytjjaghiihkdclaadoor", sum := "280d4bd7b368d303fd4a9f564f3583990fde738c55faa99d8154cbb1bd88d959", func := "jackfield/jackfieldlaw04.DrumCounts", spec := "drumCounts", named := ["jackfield/api.ErrPower", "jackfield/api.ErrRange"], apart := false, laid := [("jackfield/api.ErrRange", laid_jackfield_api_ErrRange), ("jackfield/api.ErrPower", laid_jackfield_api_ErrPower)] }
def DrumCountsSaid : Prop := drumCountsRow.holds Tryd.pinned (OpenSpec.ofChange drumCountsSpec)

/-- ITS FALSE NEIGHBOUR: 'it returns false'. Refute it at one input. -/
def drumCountsWrong : ChangeSpec := { name := "drumCounts", fn := fun _ => fun
  | [d1, d2] => { results := [.lit (.bool false)], args := [d1, d2] }
  | _ => none }
def DrumCountsWrongFalsely : Prop := drumCountsRow.holds Tryd.pinned (OpenSpec.ofChange drumCountsWrong)

/-- 'jackfieldlaw04.DrumDark': WHATEVER THE INPUT: true; the input reads as it did. -/
def drumDarkSpec : ChangeSpec := { name := "drumDark", fn := fun _ => fun
  | [d1, d2] => { results := [.lit (.bool true)], args := [d1, d2] }
  | _ => none }
def drumDarkRow : OpenClaim := { program := "ytjjaghiihkdclaadoor", sum := "280d4bd7b368d303fd4a9f564f3583990fde738c55faa99d8154cbb1bd88d959", func := "jackfield/jackfieldlaw04.DrumDark", spec := "drumDark", named := ["jackfield/api.ErrPower", "jackfield/api.ErrRange"], apart := false, laid := [("jackfield/api.ErrRange", laid_jackfield_api_ErrRange), ("jackfield/api.ErrPower", laid_jackfield_api_ErrPower)] }
def DrumDarkSaid : Prop := drumDarkRow.holds Tryd.pinned (OpenSpec.ofChange drumDarkSpec)

/-- ITS FALSE NEIGHBOUR: 'it returns false'. Refute it at one input. -/
def drumDarkWrong : ChangeSpec := { name := "drumDark", fn := fun _ => fun
  | [d1, d2] => { results := [.lit (.bool false)], args := [d1, d2] }
  | _ => none }
def DrumDarkWrongFalsely : Prop := drumDarkRow.holds Tryd.pinned (OpenSpec.ofChange drumDarkWrong)

/-- 'jackfieldlaw04.DrumImages': WHATEVER THE INPUT: true; the input reads as it did. -/
def drumImagesSpec : ChangeSpec := { name := "drumImages", fn := fun _ => fun
  | [d1, d2, d3] => { results := [.lit (.bool true)], args := [d1, d2, d3] }
  | _ => none }
def drumImagesRow : OpenClaim := { program := "ytjjaghiihkdclaadoor", sum := "280d4bd7b368d303fd4a9f564f3583990fde738c55faa99d8154cbb1bd88d959", func := "jackfield/jackfieldlaw04.DrumImages", spec := "drumImages", named := ["jackfield/api.ErrPower", "jackfield/api.ErrRange"], apart := false, laid := [("jackfield/api.ErrRange", laid_jackfield_api_ErrRange), ("jackfield/api.ErrPower", laid_jackfield_api_ErrPower)] }
def DrumImagesSaid : Prop := drumImagesRow.holds Tryd.pinned (OpenSpec.ofChange drumImagesSpec)

/-- ITS FALSE NEIGHBOUR: 'it returns false'. Refute it at one input. -/
def drumImagesWrong : ChangeSpec := { name := "drumImages", fn := fun _ => fun
  | [d1, d2, d3] => { results := [.lit (.bool false)], args := [d1, d2, d3] }
  | _ => none }
def DrumImagesWrongFalsely : Prop := drumImagesRow.holds Tryd.pinned (OpenSpec.ofChange drumImagesWrong)

/-- 'jackfieldlaw04.DrumPlays': WHATEVER THE INPUT: true; the input reads as it did. -/
def drumPlaysSpec : ChangeSpec := { name := "drumPlays", fn := fun _ => fun
  | [d1, d2, d3] => { results := [.lit (.bool true)], args := [d1, d2, d3] }
  | _ => none }
def drumPlaysRow : OpenClaim := { program := "ytjjaghiihkdclaadoor", sum := "280d4bd7b368d303fd4a9f564f3583990fde738c55faa99d8154cbb1bd88d959", func := "jackfield/jackfieldlaw04.DrumPlays", spec := "drumPlays", named := ["jackfield/api.ErrRange", "jackfield/api.ErrPower", "jackfield/api.ErrShort", "jackfield/api.ErrLong", "jackfield/api.ErrTail", "jackfield/api.ErrBroken", "jackfield/api.ErrFrame", "jackfield/api.ErrFull", "jackfield/api.ErrGap", "jackfield/api.ErrName", "jackfield/api.ErrTaken", "jackfield/api.ErrNone", "jackfield/api.ErrOwner", "jackfield/api.ErrProof", "jackfield/api.ErrWindow", "jackfield/api.ErrStream", "jackfield/api.ErrState", "jackfield/api.ErrBusy"], apart := false, laid := [("jackfield/api.ErrRange", laid_jackfield_api_ErrRange), ("jackfield/api.ErrShort", laid_jackfield_api_ErrShort), ("jackfield/api.ErrLong", laid_jackfield_api_ErrLong), ("jackfield/api.ErrTail", laid_jackfield_api_ErrTail), ("jackfield/api.ErrBroken", laid_jackfield_api_ErrBroken), ("jackfield/api.ErrPower", laid_jackfield_api_ErrPower), ("jackfield/api.ErrFrame", laid_jackfield_api_ErrFrame), ("jackfield/api.ErrFull", laid_jackfield_api_ErrFull), ("jackfield/api.ErrGap", laid_jackfield_api_ErrGap), ("jackfield/api.ErrName", laid_jackfield_api_ErrName), ("jackfield/api.ErrTaken", laid_jackfield_api_ErrTaken), ("jackfield/api.ErrNone", laid_jackfield_api_ErrNone), ("jackfield/api.ErrOwner", laid_jackfield_api_ErrOwner), ("jackfield/api.ErrProof", laid_jackfield_api_ErrProof), ("jackfield/api.ErrWindow", laid_jackfield_api_ErrWindow), ("jackfield/api.ErrStream", laid_jackfield_api_ErrStream), ("jackfield/api.ErrState", laid_jackfield_api_ErrState), ("jackfield/api.ErrBusy", laid_jackfield_api_ErrBusy)] }
def DrumPlaysSaid : Prop := drumPlaysRow.holds Tryd.pinned (OpenSpec.ofChange drumPlaysSpec)

/-- ITS FALSE NEIGHBOUR: 'it returns false'. Refute it at one input. -/
def drumPlaysWrong : ChangeSpec := { name := "drumPlays", fn := fun _ => fun
  | [d1, d2, d3] => { results := [.lit (.bool false)], args := [d1, d2, d3] }
  | _ => none }
def DrumPlaysWrongFalsely : Prop := drumPlaysRow.holds Tryd.pinned (OpenSpec.ofChange drumPlaysWrong)

/- THE SECOND FORM. 'bulk': how many values and letters a reading holds, each counted each time it is reached (what is shared counts as often as it is met; a slice's spare places count too). A statement '..UptoSaid' is the law's where the arguments, and the package variables that the reading takes, are together of bulk at most 1048576: NARROWER than '..Said'. Prove '..Said' where nothing that the law and all that it calls make is longer than what came in: it says more and counts as full. Else prove '..UptoSaid'. A law counts once. -/
mutual
def uptoBulk {H : Type} : DataW H → Nat
  | .lit (.string bytes) => bytes.length + 1
  | .lit _ => 1
  | .nil => 1
  | .ptr d => uptoBulk d + 1
  | .slice elems spare => uptoBulkAll elems + uptoBulkAll spare + 1
  | .agg parts => uptoBulkAll parts + 1
  | .iface _ d => uptoBulk d + 1
  | .map entries => uptoBulkEntries entries + 1
  | .held _ => 1
def uptoBulkAll {H : Type} : List (DataW H) → Nat
  | [] => 0
  | d :: r => uptoBulk d + uptoBulkAll r
def uptoBulkEntries {H : Type} : List (Lit × DataW H) → Nat
  | [] => 0
  | x :: r => uptoBulkEntry x + uptoBulkEntries r
def uptoBulkEntry {H : Type} : Lit × DataW H → Nat
  | (.string bytes, d) => bytes.length + uptoBulk d + 1
  | (_, d) => uptoBulk d + 1
 end
def uptoSmall : (H : Type) → List (DataW H) → Bool := fun _ ds => decide (uptoBulkAll ds ≤ 1048576)
def OpenSpec.upto (s : _root_.Go.ChangeSpec) : _root_.Go.OpenSpec := { _root_.Go.OpenSpec.ofChange s with cond := some uptoSmall }

/-- 'jackfieldlaw04.DrumRanges', WHERE WHAT IT READS IS OF BULK AT MOST 1048576: true; the input reads as it did. -/
def drumRangesUptoRow : OpenClaim := { program := "ytjjaghiihkdclaadoor", sum := "280d4bd7b368d303fd4a9f564f3583990fde738c55faa99d8154cbb1bd88d959", func := "jackfield/jackfieldlaw04.DrumRanges", spec := "drumRanges", named := ["jackfield/api.ErrRange", "jackfield/api.ErrPower"], apart := false, laid := [("jackfield/api.ErrRange", laid_jackfield_api_ErrRange), ("jackfield/api.ErrPower", laid_jackfield_api_ErrPower)], narrowed := true }
def DrumRangesUptoSaid : Prop := drumRangesUptoRow.holds Tryd.pinned (OpenSpec.upto drumRangesSpec)

/-- 'jackfieldlaw04.DrumCounts', WHERE WHAT IT READS IS OF BULK AT MOST 1048576: true; the input reads as it did. -/
def drumCountsUptoRow : OpenClaim := { program := "ytjjaghiihkdclaadoor", sum := "280d4bd7b368d303fd4a9f564f3583990fde738c55faa99d8154cbb1bd88d959", func := "jackfield/jackfieldlaw04.DrumCounts", spec := "drumCounts", named := ["jackfield/api.ErrPower", "jackfield/api.ErrRange"], apart := false, laid := [("jackfield/api.ErrRange", laid_jackfield_api_ErrRange), ("jackfield/api.ErrPower", laid_jackfield_api_ErrPower)], narrowed := true }
def DrumCountsUptoSaid : Prop := drumCountsUptoRow.holds Tryd.pinned (OpenSpec.upto drumCountsSpec)

/-- 'jackfieldlaw04.DrumDark', WHERE WHAT IT READS IS OF BULK AT MOST 1048576: true; the input reads as it did. -/
def drumDarkUptoRow : OpenClaim := { program := "ytjjaghiihkdclaadoor", sum := "280d4bd7b368d303fd4a9f564f3583990fde738c55faa99d8154cbb1bd88d959", func := "jackfield/jackfieldlaw04.DrumDark", spec := "drumDark", named := ["jackfield/api.ErrPower", "jackfield/api.ErrRange"], apart := false, laid := [("jackfield/api.ErrRange", laid_jackfield_api_ErrRange), ("jackfield/api.ErrPower", laid_jackfield_api_ErrPower)], narrowed := true }
def DrumDarkUptoSaid : Prop := drumDarkUptoRow.holds Tryd.pinned (OpenSpec.upto drumDarkSpec)

/-- 'jackfieldlaw04.DrumImages', WHERE WHAT IT READS IS OF BULK AT MOST 1048576: true; the input reads as it did. -/
def drumImagesUptoRow : OpenClaim := { program := "ytjjaghiihkdclaadoor", sum := "280d4bd7b368d303fd4a9f564f3583990fde738c55faa99d8154cbb1bd88d959", func := "jackfield/jackfieldlaw04.DrumImages", spec := "drumImages", named := ["jackfield/api.ErrPower", "jackfield/api.ErrRange"], apart := false, laid := [("jackfield/api.ErrRange", laid_jackfield_api_ErrRange), ("jackfield/api.ErrPower", laid_jackfield_api_ErrPower)], narrowed := true }
def DrumImagesUptoSaid : Prop := drumImagesUptoRow.holds Tryd.pinned (OpenSpec.upto drumImagesSpec)

/-- 'jackfieldlaw04.DrumPlays', WHERE WHAT IT READS IS OF BULK AT MOST 1048576: true; the input reads as it did. -/
def drumPlaysUptoRow : OpenClaim := { program := "ytjjaghiihkdclaadoor", sum := "280d4bd7b368d303fd4a9f564f3583990fde738c55faa99d8154cbb1bd88d959", func := "jackfield/jackfieldlaw04.DrumPlays", spec := "drumPlays", named := ["jackfield/api.ErrRange", "jackfield/api.ErrPower", "jackfield/api.ErrShort", "jackfield/api.ErrLong", "jackfield/api.ErrTail", "jackfield/api.ErrBroken", "jackfield/api.ErrFrame", "jackfield/api.ErrFull", "jackfield/api.ErrGap", "jackfield/api.ErrName", "jackfield/api.ErrTaken", "jackfield/api.ErrNone", "jackfield/api.ErrOwner", "jackfield/api.ErrProof", "jackfield/api.ErrWindow", "jackfield/api.ErrStream", "jackfield/api.ErrState", "jackfield/api.ErrBusy"], apart := false, laid := [("jackfield/api.ErrRange", laid_jackfield_api_ErrRange), ("jackfield/api.ErrShort", laid_jackfield_api_ErrShort), ("jackfield/api.ErrLong", laid_jackfield_api_ErrLong), ("jackfield/api.ErrTail", laid_jackfield_api_ErrTail), ("jackfield/api.ErrBroken", laid_jackfield_api_ErrBroken), ("jackfield/api.ErrPower", laid_jackfield_api_ErrPower), ("jackfield/api.ErrFrame", laid_jackfield_api_ErrFrame), ("jackfield/api.ErrFull", laid_jackfield_api_ErrFull), ("jackfield/api.ErrGap", laid_jackfield_api_ErrGap), ("jackfield/api.ErrName", laid_jackfield_api_ErrName), ("jackfield/api.ErrTaken", laid_jackfield_api_ErrTaken), ("jackfield/api.ErrNone", laid_jackfield_api_ErrNone), ("jackfield/api.ErrOwner", laid_jackfield_api_ErrOwner), ("jackfield/api.ErrProof", laid_jackfield_api_ErrProof), ("jackfield/api.ErrWindow", laid_jackfield_api_ErrWindow), ("jackfield/api.ErrStream", laid_jackfield_api_ErrStream), ("jackfield/api.ErrState", laid_jackfield_api_ErrState), ("jackfield/api.ErrBusy", laid_jackfield_api_ErrBusy)], narrowed := true }
def DrumPlaysUptoSaid : Prop := drumPlaysUptoRow.holds Tryd.pinned (OpenSpec.upto drumPlaysSpec)

end Rows
end Go.Proofs.YtjjaghiihkdclaaDoor
