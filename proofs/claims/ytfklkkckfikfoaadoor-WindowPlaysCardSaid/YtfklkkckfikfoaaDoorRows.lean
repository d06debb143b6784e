/-
  NARROWER THAN 'FOR EVERY INPUT', by the rows' own cells (each row's printed sentence says how): WindowShares: laid · WindowBack: laid · WindowPlays: laid · WindowFlows: laid.
  DERIVED. THE GIVEN ROWS OF THIS SEAT. 4 by the template 'for every input the law returns true; each argument reads behind the call as it read before'; 0 by the template 'total and deterministic' (their statements: YtfklkkckfikfoaaDoorTotals.lean).
  GIVEN WITH THE SEED: the statements are not yours to turn. If you find one false, say at which input.
  Laid BY PROGRAM, IN A SANDBOX (cutbox-rows.mjs): the forced cells as the released guide's own fill.sh prints them over the translation d1eb79c4d1d5cb40… (all of the seat's roots in one cut). By AI agents, Wed Nov 11 2026. No macro, syntax, notation, axiom, sorry.
-/
import Derived.Test.YtfklkkckfikfoaaDoorChecked
import GoSem.Claim
import GoSem.ClaimJoined
import GoSem.ClaimMapViews
import Derived.JoinedTies
import Derived.KernelRfl
namespace Go.Proofs.YtfklkkckfikfoaaDoor
/- THE CELL 'sum', in the pinned program and in every row, IS THE sha256 OF THE DUMP (.gsa) THAT YtfklkkckfikfoaaDoorProg.lean LOADS. Nothing in Lean hashes anything: it is a label: what it is worth is what the hold of that sum in a sandbox is worth. -/
noncomputable def Tryd.pinned : Pinned := { name := "ytfklkkckfikfoaadoor", sum := "d1eb79c4d1d5cb40d0f4cbd9328ecb48b32a6d0d4bdb6a47980b547591b806b9", checked := Tryd.checked }
namespace Rows
def none {H : Type} : Left H := { results := [], args := [] }

/- WHAT THE LISTED PACKAGE-LEVEL VARIABLES READ AS WHEN THE CALL BEGINS. Each datum BY PROGRAM (the guide's laid-datum.mjs) off the statement by which the dump's own 'gosem.cut.vars' lays the variable. In a bare row this is a premise. The card (YtfklkkckfikfoaaDoorCards.lean) ties it to the program's text. -/
def laid_jackfield_api_ErrRange {H : Type} : DataW H := .iface "*errors.errorString" (.ptr (.agg [.lit (.string [106, 97, 99, 107, 102, 105, 101, 108, 100, 58, 32, 114, 97, 110, 103, 101])]))
def laid_jackfield_api_ErrWindow {H : Type} : DataW H := .iface "*errors.errorString" (.ptr (.agg [.lit (.string [106, 97, 99, 107, 102, 105, 101, 108, 100, 58, 32, 119, 105, 110, 100, 111, 119])]))
def laid_jackfield_api_ErrShort {H : Type} : DataW H := .iface "*errors.errorString" (.ptr (.agg [.lit (.string [106, 97, 99, 107, 102, 105, 101, 108, 100, 58, 32, 115, 104, 111, 114, 116])]))
def laid_jackfield_api_ErrLong {H : Type} : DataW H := .iface "*errors.errorString" (.ptr (.agg [.lit (.string [106, 97, 99, 107, 102, 105, 101, 108, 100, 58, 32, 108, 111, 110, 103])]))
def laid_jackfield_api_ErrTail {H : Type} : DataW H := .iface "*errors.errorString" (.ptr (.agg [.lit (.string [106, 97, 99, 107, 102, 105, 101, 108, 100, 58, 32, 116, 97, 105, 108])]))
def laid_jackfield_api_ErrBroken {H : Type} : DataW H := .iface "*errors.errorString" (.ptr (.agg [.lit (.string [106, 97, 99, 107, 102, 105, 101, 108, 100, 58, 32, 98, 114, 111, 107, 101, 110])]))
def laid_jackfield_api_ErrPower {H : Type} : DataW H := .iface "*errors.errorString" (.ptr (.agg [.lit (.string [106, 97, 99, 107, 102, 105, 101, 108, 100, 58, 32, 112, 111, 119, 101, 114])]))
def laid_jackfield_api_ErrFrame {H : Type} : DataW H := .iface "*errors.errorString" (.ptr (.agg [.lit (.string [106, 97, 99, 107, 102, 105, 101, 108, 100, 58, 32, 102, 114, 97, 109, 101])]))
def laid_jackfield_api_ErrFull {H : Type} : DataW H := .iface "*errors.errorString" (.ptr (.agg [.lit (.string [106, 97, 99, 107, 102, 105, 101, 108, 100, 58, 32, 102, 117, 108, 108])]))
def laid_jackfield_api_ErrGap {H : Type} : DataW H := .iface "*errors.errorString" (.ptr (.agg [.lit (.string [106, 97, 99, 107, 102, 105, 101, 108, 100, 58, 32, 103, 97, 112])]))
def laid_jackfield_api_ErrName {H : Type} : DataW H := .iface "*errors.errorString" (.ptr (.agg [.lit (.string [106, 97, 99, 107, 102, 105, 101, 108, 100, 58, 32, 110, 97, 109, 101])]))
def laid_jackfield_api_ErrTaken {H : Type} : DataW H := .iface "*errors.errorString" (.ptr (.agg [.lit (.string [106, 97, 99, 107, 102, 105, 101, 108, 100, 58, 32, 116, 97, 107, 101, 110])]))
def laid_jackfield_api_ErrNone {H : Type} : DataW H := .iface "*errors.errorString" (.ptr (.agg [.lit (.string [106, 97, 99, 107, 102, 105, 101, 108, 100, 58, 32, 110, 111, 110, 101])]))
def laid_jackfield_api_ErrOwner {H : Type} : DataW H := .iface "*errors.errorString" (.ptr (.agg [.lit (.string [106, 97, 99, 107, 102, 105, 101, 108, 100, 58, 32, 111, 119, 110, 101, 114])]))
def laid_jackfield_api_ErrProof {H : Type} : DataW H := .iface "*errors.errorString" (.ptr (.agg [.lit (.string [106, 97, 99, 107, 102, 105, 101, 108, 100, 58, 32, 112, 114, 111, 111, 102])]))
def laid_jackfield_api_ErrStream {H : Type} : DataW H := .iface "*errors.errorString" (.ptr (.agg [.lit (.string [106, 97, 99, 107, 102, 105, 101, 108, 100, 58, 32, 115, 116, 114, 101, 97, 109])]))
def laid_jackfield_api_ErrState {H : Type} : DataW H := .iface "*errors.errorString" (.ptr (.agg [.lit (.string [106, 97, 99, 107, 102, 105, 101, 108, 100, 58, 32, 115, 116, 97, 116, 101])]))
def laid_jackfield_api_ErrBusy {H : Type} : DataW H := .iface "*errors.errorString" (.ptr (.agg [.lit (.string [106, 97, 99, 107, 102, 105, 101, 108, 100, 58, 32, 98, 117, 115, 121])]))

/-- 'jackfieldlaw13.WindowShares': WHATEVER THE INPUT: true; the input reads as it did. -/
def windowSharesSpec : ChangeSpec := { name := "windowShares", fn := fun _ => fun
  | [d1, d2] => { results := [.lit (.bool true)], args := [d1, d2] }
  | _ => none }
def windowSharesRow : OpenClaim := { program := "ytfklkkckfikfoaadoor", sum := "d1eb79c4d1d5cb40d0f4cbd9328ecb48b32a6d0d4bdb6a47980b547591b806b9", func := "jackfield/jackfieldlaw13.WindowShares", spec := "windowShares", named := ["jackfield/api.ErrRange", "jackfield/api.ErrWindow"], apart := false, laid := [("jackfield/api.ErrRange", laid_jackfield_api_ErrRange), ("jackfield/api.ErrWindow", laid_jackfield_api_ErrWindow)] }
def WindowSharesSaid : Prop := windowSharesRow.holds Tryd.pinned (OpenSpec.ofChange windowSharesSpec)

/-- ITS FALSE NEIGHBOUR: 'it returns false'. Refute it at one input. -/
def windowSharesWrong : ChangeSpec := { name := "windowShares", fn := fun _ => fun
  | [d1, d2] => { results := [.lit (.bool false)], args := [d1, d2] }
  | _ => none }
def WindowSharesWrongFalsely : Prop := windowSharesRow.holds Tryd.pinned (OpenSpec.ofChange windowSharesWrong)

/-- 'jackfieldlaw13.WindowBack': WHATEVER THE INPUT: true; the input reads as it did. -/
def windowBackSpec : ChangeSpec := { name := "windowBack", fn := fun _ => fun
  | [d1, d2] => { results := [.lit (.bool true)], args := [d1, d2] }
  | _ => none }
def windowBackRow : OpenClaim := { program := "ytfklkkckfikfoaadoor", sum := "d1eb79c4d1d5cb40d0f4cbd9328ecb48b32a6d0d4bdb6a47980b547591b806b9", func := "jackfield/jackfieldlaw13.WindowBack", spec := "windowBack", named := ["jackfield/api.ErrRange", "jackfield/api.ErrWindow"], apart := false, laid := [("jackfield/api.ErrRange", laid_jackfield_api_ErrRange), ("jackfield/api.ErrWindow", laid_jackfield_api_ErrWindow)] }
def WindowBackSaid : Prop := windowBackRow.holds Tryd.pinned (OpenSpec.ofChange windowBackSpec)

/-- ITS FALSE NEIGHBOUR: 'it returns false'. Refute it at one input. -/
def windowBackWrong : ChangeSpec := { name := "windowBack", fn := fun _ => fun
  | [d1, d2] => { results := [.lit (.bool false)], args := [d1, d2] }
  | _ => none }
def WindowBackWrongFalsely : Prop := windowBackRow.holds Tryd.pinned (OpenSpec.ofChange windowBackWrong)

/-- 'jackfieldlaw13.WindowPlays': WHATEVER THE INPUT: true; the input reads as it did. -/
def windowPlaysSpec : ChangeSpec := { name := "windowPlays", fn := fun _ => fun
  | [d1, d2] => { results := [.lit (.bool true)], args := [d1, d2] }
  | _ => none }
def windowPlaysRow : OpenClaim := { program := "ytfklkkckfikfoaadoor", sum := "d1eb79c4d1d5cb40d0f4cbd9328ecb48b32a6d0d4bdb6a47980b547591b806b9", func := "jackfield/jackfieldlaw13.WindowPlays", spec := "windowPlays", named := ["jackfield/api.ErrRange", "jackfield/api.ErrWindow", "jackfield/api.ErrShort", "jackfield/api.ErrLong", "jackfield/api.ErrTail", "jackfield/api.ErrBroken", "jackfield/api.ErrPower", "jackfield/api.ErrFrame", "jackfield/api.ErrFull", "jackfield/api.ErrGap", "jackfield/api.ErrName", "jackfield/api.ErrTaken", "jackfield/api.ErrNone", "jackfield/api.ErrOwner", "jackfield/api.ErrProof", "jackfield/api.ErrStream", "jackfield/api.ErrState", "jackfield/api.ErrBusy"], apart := false, laid := [("jackfield/api.ErrRange", laid_jackfield_api_ErrRange), ("jackfield/api.ErrShort", laid_jackfield_api_ErrShort), ("jackfield/api.ErrLong", laid_jackfield_api_ErrLong), ("jackfield/api.ErrTail", laid_jackfield_api_ErrTail), ("jackfield/api.ErrBroken", laid_jackfield_api_ErrBroken), ("jackfield/api.ErrPower", laid_jackfield_api_ErrPower), ("jackfield/api.ErrFrame", laid_jackfield_api_ErrFrame), ("jackfield/api.ErrFull", laid_jackfield_api_ErrFull), ("jackfield/api.ErrGap", laid_jackfield_api_ErrGap), ("jackfield/api.ErrName", laid_jackfield_api_ErrName), ("jackfield/api.ErrTaken", laid_jackfield_api_ErrTaken), ("jackfield/api.ErrNone", laid_jackfield_api_ErrNone), ("jackfield/api.ErrOwner", laid_jackfield_api_ErrOwner), ("jackfield/api.ErrProof", laid_jackfield_api_ErrProof), ("jackfield/api.ErrWindow", laid_jackfield_api_ErrWindow), ("jackfield/api.ErrStream", laid_jackfield_api_ErrStream), ("jackfield/api.ErrState", laid_jackfield_api_ErrState), ("jackfield/api.ErrBusy", laid_jackfield_api_ErrBusy)] }
def WindowPlaysSaid : Prop := windowPlaysRow.holds Tryd.pinned (OpenSpec.ofChange windowPlaysSpec)

/-- ITS FALSE NEIGHBOUR: 'it returns false'. Refute it at one input. -/
def windowPlaysWrong : ChangeSpec := { name := "windowPlays", fn := fun _ => fun
  | [d1, d2] => { results := [.lit (.bool false)], args := [d1, d2] }
  | _ => none }
def WindowPlaysWrongFalsely : Prop := windowPlaysRow.holds Tryd.pinned (OpenSpec.ofChange windowPlaysWrong)

/-- 'jackfieldlaw13.WindowFlows': WHATEVER THE INPUT: true; the input reads as it did. -/
def windowFlowsSpec : ChangeSpec := { name := "windowFlows", fn := fun _ => fun
  | [d1, d2] => { results := [.lit (.bool true)], args := [d1, d2] }
  | _ => none }
def windowFlowsRow : OpenClaim := { program := "ytfklkkckfikfoaadoor", sum := "d1eb79c4d1d5cb40d0f4cbd9328ecb48b32a6d0d4bdb6a47980b547591b806b9", func := "jackfield/jackfieldlaw13.WindowFlows", spec := "windowFlows", named := ["jackfield/api.ErrRange", "jackfield/api.ErrWindow"], apart := false, laid := [("jackfield/api.ErrRange", laid_jackfield_api_ErrRange), ("jackfield/api.ErrWindow", laid_jackfield_api_ErrWindow)] }
def WindowFlowsSaid : Prop := windowFlowsRow.holds Tryd.pinned (OpenSpec.ofChange windowFlowsSpec)

/-- ITS FALSE NEIGHBOUR: 'it returns false'. Refute it at one input. -/
def windowFlowsWrong : ChangeSpec := { name := "windowFlows", fn := fun _ => fun
  | [d1, d2] => { results := [.lit (.bool false)], args := [d1, d2] }
  | _ => none }
def WindowFlowsWrongFalsely : Prop := windowFlowsRow.holds Tryd.pinned (OpenSpec.ofChange windowFlowsWrong)

/- THE SECOND FORM. 'bulk': how many values and letters a reading holds, each counted each time it is reached (what is shared counts as often as it is met; a slice's spare places count too). A statement '..UptoSaid' is the law's where the arguments, and the package variables that the reading takes, are together of bulk at most 1048576: NARROWER than '..Said'. Prove '..Said' where nothing that the law and all that it calls make is longer than what came in: it says more and counts as full. Else prove '..UptoSaid'. A law counts once. -/
mutual
def uptoBulk {H : Type} : DataW H → Nat
  | .lit (.string bytes) => bytes.length + 1
  | .lit _ => 1
  | .nil => 1
  | .ptr d => uptoBulk d + 1
  | .slice elems spare => uptoBulkAll elems + uptoBulkAll spare + 1
  | .agg parts => uptoBulkAll parts + 1
  | .iface _ d => uptoBulk d + 1
  | .map entries => uptoBulkEntries entries + 1
  | .held _ => 1
def uptoBulkAll {H : Type} : List (DataW H) → Nat
  | [] => 0
  | d :: r => uptoBulk d + uptoBulkAll r
def uptoBulkEntries {H : Type} : List (Lit × DataW H) → Nat
  | [] => 0
  | x :: r => uptoBulkEntry x + uptoBulkEntries r
def uptoBulkEntry {H : Type} : Lit × DataW H → Nat
  | (.string bytes, d) => bytes.length + uptoBulk d + 1
  | (_, d) => uptoBulk d + 1
 end
def uptoSmall : (H : Type) → List (DataW H) → Bool := fun _ ds => decide (uptoBulkAll ds ≤ 1048576)
def OpenSpec.upto (s : _root_.Go.ChangeSpec) : _root_.Go.OpenSpec := { _root_.Go.OpenSpec.ofChange s with cond := some uptoSmall }

/-- 'jackfieldlaw13.WindowShares', WHERE WHAT IT READS IS OF BULK AT MOST 1048576: true; the input reads as it did. -/
def windowSharesUptoRow : OpenClaim := { program := "ytfklkkckfikfoaadoor", sum := "d1eb79c4d1d5cb40d0f4cbd9328ecb48b32a6d0d4bdb6a47980b547591b806b9", func := "jackfield/jackfieldlaw13.WindowShares", spec := "windowShares", named := ["jackfield/api.ErrRange", "jackfield/api.ErrWindow"], apart := false, laid := [("jackfield/api.ErrRange", laid_jackfield_api_ErrRange), ("jackfield/api.ErrWindow", laid_jackfield_api_ErrWindow)], narrowed := true }
def WindowSharesUptoSaid : Prop := windowSharesUptoRow.holds Tryd.pinned (OpenSpec.upto windowSharesSpec)

/-- 'jackfieldlaw13.WindowBack', WHERE WHAT IT READS IS OF BULK AT MOST 1048576: true; the input reads as it did. -/
def windowBackUptoRow : OpenClaim := { program := "ytfklkkckfikfoaadoor", sum := "d1eb79c4d1d5cb40d0f4cbd9328ecb48b32a6d0d4bdb6a47980b547591b806b9", func := "jackfield/jackfieldlaw13.WindowBack", spec := "windowBack", named := ["jackfield/api.ErrRange", "jackfield/api.ErrWindow"], apart := false, laid := [("jackfield/api.ErrRange", laid_jackfield_api_ErrRange), ("jackfield/api.ErrWindow", laid_jackfield_api_ErrWindow)], narrowed := true }
def WindowBackUptoSaid : Prop := windowBackUptoRow.holds Tryd.pinned (OpenSpec.upto windowBackSpec)

/-- 'jackfieldlaw13.WindowPlays', WHERE WHAT IT READS IS OF BULK AT MOST 1048576: true; the input reads as it did. -/
def windowPlaysUptoRow : OpenClaim := { program := "ytfklkkckfikfoaadoor", sum := "d1eb79c4d1d5cb40d0f4cbd9328ecb48b32a6d0d4bdb6a47980b547591b806b9", func := "jackfield/jackfieldlaw13.WindowPlays", spec := "windowPlays", named := ["jackfield/api.ErrRange", "jackfield/api.ErrWindow", "jackfield/api.ErrShort", "jackfield/api.ErrLong", "jackfield/api.ErrTail", "jackfield/api.ErrBroken", "jackfield/api.ErrPower", "jackfield/api.ErrFrame", "jackfield/api.ErrFull", "jackfield/api.ErrGap", "jackfield/api.ErrName", "jackfield/api.ErrTaken", "jackfield/api.ErrNone", "jackfield/api.ErrOwner", "jackfield/api.ErrProof", "jackfield/api.ErrStream", "jackfield/api.ErrState", "jackfield/api.ErrBusy"], apart := false, laid := [("jackfield/api.ErrRange", laid_jackfield_api_ErrRange), ("jackfield/api.ErrShort", laid_jackfield_api_ErrShort), ("jackfield/api.ErrLong", laid_jackfield_api_ErrLong), ("jackfield/api.ErrTail", laid_jackfield_api_ErrTail), ("jackfield/api.ErrBroken", laid_jackfield_api_ErrBroken), ("jackfield/api.ErrPower", laid_jackfield_api_ErrPower), ("jackfield/api.ErrFrame", laid_jackfield_api_ErrFrame), ("jackfield/api.ErrFull", laid_jackfield_api_ErrFull), ("jackfield/api.ErrGap", laid_jackfield_api_ErrGap), ("jackfield/api.ErrName", laid_jackfield_api_ErrName), ("jackfield/api.ErrTaken", laid_jackfield_api_ErrTaken), ("jackfield/api.ErrNone", laid_jackfield_api_ErrNone), ("jackfield/api.ErrOwner", laid_jackfield_api_ErrOwner), ("jackfield/api.ErrProof", laid_jackfield_api_ErrProof), ("jackfield/api.ErrWindow", laid_jackfield_api_ErrWindow), ("jackfield/api.ErrStream", laid_jackfield_api_ErrStream), ("jackfield/api.ErrState", laid_jackfield_api_ErrState), ("jackfield/api.ErrBusy", laid_jackfield_api_ErrBusy)], narrowed := true }
def WindowPlaysUptoSaid : Prop := windowPlaysUptoRow.holds Tryd.pinned (OpenSpec.upto windowPlaysSpec)

/-- 'jackfieldlaw13.WindowFlows', WHERE WHAT IT READS IS OF BULK AT MOST 1048576: true; the input reads as it did. -/
def windowFlowsUptoRow : OpenClaim := { program := "ytfklkkckfikfoaadoor", sum := "d1eb79c4d1d5cb40d0f4cbd9328ecb48b32a6d0d4bdb6a47980b547591b806b9", func := "jackfield/jackfieldlaw13.WindowFlows", spec := "windowFlows", named := ["jackfield/api.ErrRange", "jackfield/api.ErrWindow"], apart := false, laid := [("jackfield/api.ErrRange", laid_jackfield_api_ErrRange), ("jackfield/api.ErrWindow", laid_jackfield_api_ErrWindow)], narrowed := true }
def WindowFlowsUptoSaid : Prop := windowFlowsUptoRow.holds Tryd.pinned (OpenSpec.upto windowFlowsSpec)

end Rows
end Go.Proofs.YtfklkkckfikfoaaDoor
