/-
  No cell of these rows narrows 'for every input' (looked for: loops, veiled, ifaces, maps, wideKeys, modest, calm, conditions, laid).
  DERIVED. THE GIVEN ROWS OF THIS SEAT. 7 by the template 'for every input the law returns true; each argument reads behind the call as it read before'; 0 by the template 'total and deterministic' (their statements: YtpnobanhffjmaaaTotals.lean).
  GIVEN WITH THE SEED: the statements are not yours to turn. If you find one false, say at which input.
  Laid BY PROGRAM, IN A SANDBOX (cutbox-rows.mjs): the forced cells as the released guide's own fill.sh prints them over the translation a5cd0904208d726c… (all of the seat's roots in one cut). By AI agents, Wed Nov 11 2026. No macro, syntax, notation, axiom, sorry.
-/
import Derived.Test.YtpnobanhffjmaaaChecked
import GoSem.Claim
import GoSem.ClaimJoined
import GoSem.ClaimMapViews
import Derived.JoinedTies
import Derived.KernelRfl
namespace Go.Proofs.Ytpnobanhffjmaaa
/- THE CELL 'sum', in the pinned program and in every row, IS THE sha256 OF THE DUMP (.gsa) THAT YtpnobanhffjmaaaProg.lean LOADS. Nothing in Lean hashes anything: it is a label: what it is worth is what the hold of that sum in a sandbox is worth. -/
noncomputable def Try.pinned : Pinned := { name := "ytpnobanhffjmaaa", sum := "a5cd0904208d726ced3672d59add89789a3cc44ece164ff4bc8f0e7111cbe657", checked := Try.checked }
namespace Rows
def none {H : Type} : Left H := { results := [], args := [] }

/-- 'jackfieldlaw15.ShareZeros': WHATEVER THE INPUT: true; the input reads as it did. -/
def shareZerosSpec : ChangeSpec := { name := "shareZeros", fn := fun _ => fun
  | [d] => { results := [.lit (.bool true)], args := [d] }
  | _ => none }
def shareZerosRow : OpenClaim := { program := "ytpnobanhffjmaaa", sum := "a5cd0904208d726ced3672d59add89789a3cc44ece164ff4bc8f0e7111cbe657", func := "jackfield/jackfieldlaw15.ShareZeros", spec := "shareZeros", inPlace := ["math.Float64bits", "math.Float64frombits"], apart := false }
def ShareZerosSaid : Prop := shareZerosRow.holds Try.pinned (OpenSpec.ofChange shareZerosSpec)

/-- ITS FALSE NEIGHBOUR: 'it returns false'. Refute it at one input. -/
def shareZerosWrong : ChangeSpec := { name := "shareZeros", fn := fun _ => fun
  | [d] => { results := [.lit (.bool false)], args := [d] }
  | _ => none }
def ShareZerosWrongFalsely : Prop := shareZerosRow.holds Try.pinned (OpenSpec.ofChange shareZerosWrong)

/-- 'jackfieldlaw15.ShareRounds': WHATEVER THE INPUT: true; the input reads as it did. -/
def shareRoundsSpec : ChangeSpec := { name := "shareRounds", fn := fun _ => fun
  | [d1, d2, d3] => { results := [.lit (.bool true)], args := [d1, d2, d3] }
  | _ => none }
def shareRoundsRow : OpenClaim := { program := "ytpnobanhffjmaaa", sum := "a5cd0904208d726ced3672d59add89789a3cc44ece164ff4bc8f0e7111cbe657", func := "jackfield/jackfieldlaw15.ShareRounds", spec := "shareRounds", inPlace := ["math.Float64bits", "math.Float64frombits"], apart := false }
def ShareRoundsSaid : Prop := shareRoundsRow.holds Try.pinned (OpenSpec.ofChange shareRoundsSpec)

/-- ITS FALSE NEIGHBOUR: 'it returns false'. Refute it at one input. -/
def shareRoundsWrong : ChangeSpec := { name := "shareRounds", fn := fun _ => fun
  | [d1, d2, d3] => { results := [.lit (.bool false)], args := [d1, d2, d3] }
  | _ => none }
def ShareRoundsWrongFalsely : Prop := shareRoundsRow.holds Try.pinned (OpenSpec.ofChange shareRoundsWrong)

/-- 'jackfieldlaw15.ShareAlone': WHATEVER THE INPUT: true; the input reads as it did. -/
def shareAloneSpec : ChangeSpec := { name := "shareAlone", fn := fun _ => fun
  | [d1, d2, d3] => { results := [.lit (.bool true)], args := [d1, d2, d3] }
  | _ => none }
def shareAloneRow : OpenClaim := { program := "ytpnobanhffjmaaa", sum := "a5cd0904208d726ced3672d59add89789a3cc44ece164ff4bc8f0e7111cbe657", func := "jackfield/jackfieldlaw15.ShareAlone", spec := "shareAlone", inPlace := ["math.Float64bits", "math.Float64frombits"], apart := false }
def ShareAloneSaid : Prop := shareAloneRow.holds Try.pinned (OpenSpec.ofChange shareAloneSpec)

/-- ITS FALSE NEIGHBOUR: 'it returns false'. Refute it at one input. -/
def shareAloneWrong : ChangeSpec := { name := "shareAlone", fn := fun _ => fun
  | [d1, d2, d3] => { results := [.lit (.bool false)], args := [d1, d2, d3] }
  | _ => none }
def ShareAloneWrongFalsely : Prop := shareAloneRow.holds Try.pinned (OpenSpec.ofChange shareAloneWrong)

/-- 'jackfieldlaw15.SharePicks': WHATEVER THE INPUT: true; the input reads as it did. -/
def sharePicksSpec : ChangeSpec := { name := "sharePicks", fn := fun _ => fun
  | [d] => { results := [.lit (.bool true)], args := [d] }
  | _ => none }
def sharePicksRow : OpenClaim := { program := "ytpnobanhffjmaaa", sum := "a5cd0904208d726ced3672d59add89789a3cc44ece164ff4bc8f0e7111cbe657", func := "jackfield/jackfieldlaw15.SharePicks", spec := "sharePicks", inPlace := ["math.Float64bits", "math.Float64frombits"], apart := false }
def SharePicksSaid : Prop := sharePicksRow.holds Try.pinned (OpenSpec.ofChange sharePicksSpec)

/-- ITS FALSE NEIGHBOUR: 'it returns false'. Refute it at one input. -/
def sharePicksWrong : ChangeSpec := { name := "sharePicks", fn := fun _ => fun
  | [d] => { results := [.lit (.bool false)], args := [d] }
  | _ => none }
def SharePicksWrongFalsely : Prop := sharePicksRow.holds Try.pinned (OpenSpec.ofChange sharePicksWrong)

/-- 'jackfieldlaw15.ShareScales': WHATEVER THE INPUT: true; the input reads as it did. -/
def shareScalesSpec : ChangeSpec := { name := "shareScales", fn := fun _ => fun
  | [d1, d2, d3] => { results := [.lit (.bool true)], args := [d1, d2, d3] }
  | _ => none }
def shareScalesRow : OpenClaim := { program := "ytpnobanhffjmaaa", sum := "a5cd0904208d726ced3672d59add89789a3cc44ece164ff4bc8f0e7111cbe657", func := "jackfield/jackfieldlaw15.ShareScales", spec := "shareScales", inPlace := ["math.Float64bits", "math.Float64frombits"], apart := false }
def ShareScalesSaid : Prop := shareScalesRow.holds Try.pinned (OpenSpec.ofChange shareScalesSpec)

/-- ITS FALSE NEIGHBOUR: 'it returns false'. Refute it at one input. -/
def shareScalesWrong : ChangeSpec := { name := "shareScales", fn := fun _ => fun
  | [d1, d2, d3] => { results := [.lit (.bool false)], args := [d1, d2, d3] }
  | _ => none }
def ShareScalesWrongFalsely : Prop := shareScalesRow.holds Try.pinned (OpenSpec.ofChange shareScalesWrong)

/-- 'jackfieldlaw15.ShareRows': WHATEVER THE INPUT: true; the input reads as it did. -/
def shareRowsSpec : ChangeSpec := { name := "shareRows", fn := fun _ => fun
  | [d1, d2] => { results := [.lit (.bool true)], args := [d1, d2] }
  | _ => none }
def shareRowsRow : OpenClaim := { program := "ytpnobanhffjmaaa", sum := "a5cd0904208d726ced3672d59add89789a3cc44ece164ff4bc8f0e7111cbe657", func := "jackfield/jackfieldlaw15.ShareRows", spec := "shareRows", inPlace := ["math.Float64bits", "math.Float64frombits"], apart := false }
def ShareRowsSaid : Prop := shareRowsRow.holds Try.pinned (OpenSpec.ofChange shareRowsSpec)

/-- ITS FALSE NEIGHBOUR: 'it returns false'. Refute it at one input. -/
def shareRowsWrong : ChangeSpec := { name := "shareRows", fn := fun _ => fun
  | [d1, d2] => { results := [.lit (.bool false)], args := [d1, d2] }
  | _ => none }
def ShareRowsWrongFalsely : Prop := shareRowsRow.holds Try.pinned (OpenSpec.ofChange shareRowsWrong)

/-- 'jackfieldlaw15.ShareFair': WHATEVER THE INPUT: true; the input reads as it did. -/
def shareFairSpec : ChangeSpec := { name := "shareFair", fn := fun _ => fun
  | [d1, d2] => { results := [.lit (.bool true)], args := [d1, d2] }
  | _ => none }
def shareFairRow : OpenClaim := { program := "ytpnobanhffjmaaa", sum := "a5cd0904208d726ced3672d59add89789a3cc44ece164ff4bc8f0e7111cbe657", func := "jackfield/jackfieldlaw15.ShareFair", spec := "shareFair", inPlace := ["math.Float64bits", "math.Float64frombits"], apart := false }
def ShareFairSaid : Prop := shareFairRow.holds Try.pinned (OpenSpec.ofChange shareFairSpec)

/-- ITS FALSE NEIGHBOUR: 'it returns false'. Refute it at one input. -/
def shareFairWrong : ChangeSpec := { name := "shareFair", fn := fun _ => fun
  | [d1, d2] => { results := [.lit (.bool false)], args := [d1, d2] }
  | _ => none }
def ShareFairWrongFalsely : Prop := shareFairRow.holds Try.pinned (OpenSpec.ofChange shareFairWrong)

/- THE SECOND FORM. 'bulk': how many values and letters a reading holds, each counted each time it is reached (what is shared counts as often as it is met; a slice's spare places count too). A statement '..UptoSaid' is the law's where the arguments, and the package variables that the reading takes, are together of bulk at most 1048576: NARROWER than '..Said'. Prove '..Said' where nothing that the law and all that it calls make is longer than what came in: it says more and counts as full. Else prove '..UptoSaid'. A law counts once. -/
mutual
def uptoBulk {H : Type} : DataW H → Nat
  | .lit (.string bytes) => bytes.length + 1
  | .lit _ => 1
  | .nil => 1
  | .ptr d => uptoBulk d + 1
  | .slice elems spare => uptoBulkAll elems + uptoBulkAll spare + 1
  | .agg parts => uptoBulkAll parts + 1
  | .iface _ d => uptoBulk d + 1
  | .map entries => uptoBulkEntries entries + 1
  | .held _ => 1
def uptoBulkAll {H : Type} : List (DataW H) → Nat
  | [] => 0
  | d :: r => uptoBulk d + uptoBulkAll r
def uptoBulkEntries {H : Type} : List (Lit × DataW H) → Nat
  | [] => 0
  | x :: r => uptoBulkEntry x + uptoBulkEntries r
def uptoBulkEntry {H : Type} : Lit × DataW H → Nat
  | (.string bytes, d) => bytes.length + uptoBulk d + 1
  | (_, d) => uptoBulk d + 1
 end
def uptoSmall : (H : Type) → List (DataW H) → Bool := fun _ ds => decide (uptoBulkAll ds ≤ 1048576)
def OpenSpec.upto (s : _root_.Go.ChangeSpec) : _root_.Go.OpenSpec := { _root_.Go.OpenSpec.ofChange s with cond := some uptoSmall }

/-- 'jackfieldlaw15.ShareZeros', WHERE WHAT IT READS IS OF BULK AT MOST 1048576: true; the input reads as it did. -/
def shareZerosUptoRow : OpenClaim := { program := "ytpnobanhffjmaaa", sum := "a5cd0904208d726ced3672d59add89789a3cc44ece164ff4bc8f0e7111cbe657", func := "jackfield/jackfieldlaw15.ShareZeros", spec := "shareZeros", inPlace := ["math.Float64bits", "math.Float64frombits"], apart := false, narrowed := true }
def ShareZerosUptoSaid : Prop := shareZerosUptoRow.holds Try.pinned (OpenSpec.upto shareZerosSpec)

/-- 'jackfieldlaw15.ShareRounds', WHERE WHAT IT READS IS OF BULK AT MOST 1048576: true; the input reads as it did. -/
def shareRoundsUptoRow : OpenClaim := { program := "ytpnobanhffjmaaa", sum := "a5cd0904208d726ced3672d59add89789a3cc44ece164ff4bc8f0e7111cbe657", func := "jackfield/jackfieldlaw15.ShareRounds", spec := "shareRounds", inPlace := ["math.Float64bits", "math.Float64frombits"], apart := false, narrowed := true }
def ShareRoundsUptoSaid : Prop := shareRoundsUptoRow.holds Try.pinned (OpenSpec.upto shareRoundsSpec)

/-- 'jackfieldlaw15.ShareAlone', WHERE WHAT IT READS IS OF BULK AT MOST 1048576: true; the input reads as it did. -/
def shareAloneUptoRow : OpenClaim := { program := "ytpnobanhffjmaaa", sum := "a5cd0904208d726ced3672d59add89789a3cc44ece164ff4bc8f0e7111cbe657", func := "jackfield/jackfieldlaw15.ShareAlone", spec := "shareAlone", inPlace := ["math.Float64bits", "math.Float64frombits"], apart := false, narrowed := true }
def ShareAloneUptoSaid : Prop := shareAloneUptoRow.holds Try.pinned (OpenSpec.upto shareAloneSpec)

/-- 'jackfieldlaw15.SharePicks', WHERE WHAT IT READS IS OF BULK AT MOST 1048576: true; the input reads as it did. -/
def sharePicksUptoRow : OpenClaim := { program := "ytpnobanhffjmaaa", sum := "a5cd0904208d726ced3672d59add89789a3cc44ece164ff4bc8f0e7111cbe657", func := "jackfield/jackfieldlaw15.SharePicks", spec := "sharePicks", inPlace := ["math.Float64bits", "math.Float64frombits"], apart := false, narrowed := true }
def SharePicksUptoSaid : Prop := sharePicksUptoRow.holds Try.pinned (OpenSpec.upto sharePicksSpec)

/-- 'jackfieldlaw15.ShareScales', WHERE WHAT IT READS IS OF BULK AT MOST 1048576: true; the input reads as it did. -/
def shareScalesUptoRow : OpenClaim := { program := "ytpnobanhffjmaaa", sum := "a5cd0904208d726ced3672d59add89789a3cc44ece164ff4bc8f0e7111cbe657", func := "jackfield/jackfieldlaw15.ShareScales", spec := "shareScales", inPlace := ["math.Float64bits", "math.Float64frombits"], apart := false, narrowed := true }
def ShareScalesUptoSaid : Prop := shareScalesUptoRow.holds Try.pinned (OpenSpec.upto shareScalesSpec)

/-- 'jackfieldlaw15.ShareRows', WHERE WHAT IT READS IS OF BULK AT MOST 1048576: true; the input reads as it did. -/
def shareRowsUptoRow : OpenClaim := { program := "ytpnobanhffjmaaa", sum := "a5cd0904208d726ced3672d59add89789a3cc44ece164ff4bc8f0e7111cbe657", func := "jackfield/jackfieldlaw15.ShareRows", spec := "shareRows", inPlace := ["math.Float64bits", "math.Float64frombits"], apart := false, narrowed := true }
def ShareRowsUptoSaid : Prop := shareRowsUptoRow.holds Try.pinned (OpenSpec.upto shareRowsSpec)

/-- 'jackfieldlaw15.ShareFair', WHERE WHAT IT READS IS OF BULK AT MOST 1048576: true; the input reads as it did. -/
def shareFairUptoRow : OpenClaim := { program := "ytpnobanhffjmaaa", sum := "a5cd0904208d726ced3672d59add89789a3cc44ece164ff4bc8f0e7111cbe657", func := "jackfield/jackfieldlaw15.ShareFair", spec := "shareFair", inPlace := ["math.Float64bits", "math.Float64frombits"], apart := false, narrowed := true }
def ShareFairUptoSaid : Prop := shareFairUptoRow.holds Try.pinned (OpenSpec.upto shareFairSpec)

end Rows
end Go.Proofs.Ytpnobanhffjmaaa
