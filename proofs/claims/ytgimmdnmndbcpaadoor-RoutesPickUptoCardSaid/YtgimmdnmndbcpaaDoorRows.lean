/-
  NARROWER THAN 'FOR EVERY INPUT', by the rows' own cells (each row's printed sentence says how): RoutesLives: laid · RoutesMany: laid · RoutesPick: laid.
  DERIVED. THE GIVEN ROWS OF THIS SEAT. 3 by the template 'for every input the law returns true; each argument reads behind the call as it read before'; 0 by the template 'total and deterministic' (their statements: YtgimmdnmndbcpaaDoorTotals.lean).
  GIVEN WITH THE SEED: the statements are not yours to turn. If you find one false, say at which input.
  Laid BY PROGRAM, IN A SANDBOX (cutbox-rows.mjs): the forced cells as the released guide's own fill.sh prints them over the translation 57fbf6f5f559afb8… (all of the seat's roots in one cut). By AI agents, Wed Nov 11 2026. No macro, syntax, notation, axiom, sorry.
-/
import Derived.Test.YtgimmdnmndbcpaaDoorChecked
import GoSem.PinnedTables
import GoSem.Claim
import GoSem.ClaimJoined
import GoSem.ClaimMapViews
import Derived.JoinedTies
import Derived.KernelRfl
namespace Go.Proofs.YtgimmdnmndbcpaaDoor
/- THE CELL 'sum', in the pinned program and in every row, IS THE sha256 OF THE DUMP (.gsa) THAT YtgimmdnmndbcpaaDoorProg.lean LOADS. Nothing in Lean hashes anything: it is a label: what it is worth is what the hold of that sum in a sandbox is worth. -/
noncomputable def Tryd.pinned : Pinned := { name := "ytgimmdnmndbcpaadoor", sum := "57fbf6f5f559afb8a335a5ac33449fc2a0acdcffa227f07fbe66219872d3c6ce", checked := Tryd.checked }
namespace Rows
def none {H : Type} : Left H := { results := [], args := [] }

/- WHAT THE LISTED PACKAGE-LEVEL VARIABLES READ AS WHEN THE CALL BEGINS. Each datum BY PROGRAM (the guide's laid-datum.mjs) off the statement by which the dump's own 'gosem.cut.vars' lays the variable. In a bare row this is a premise. The card (YtgimmdnmndbcpaaDoorCards.lean) ties it to the program's text. -/
def laid_unicode_utf8_acceptRanges {H : Type} : DataW H := .agg [.agg [.lit (.int .u8 128), .lit (.int .u8 191)], .agg [.lit (.int .u8 160), .lit (.int .u8 191)], .agg [.lit (.int .u8 128), .lit (.int .u8 159)], .agg [.lit (.int .u8 144), .lit (.int .u8 191)], .agg [.lit (.int .u8 128), .lit (.int .u8 143)], .agg [.lit (.int .u8 0), .lit (.int .u8 0)], .agg [.lit (.int .u8 0), .lit (.int .u8 0)], .agg [.lit (.int .u8 0), .lit (.int .u8 0)], .agg [.lit (.int .u8 0), .lit (.int .u8 0)], .agg [.lit (.int .u8 0), .lit (.int .u8 0)], .agg [.lit (.int .u8 0), .lit (.int .u8 0)], .agg [.lit (.int .u8 0), .lit (.int .u8 0)], .agg [.lit (.int .u8 0), .lit (.int .u8 0)], .agg [.lit (.int .u8 0), .lit (.int .u8 0)], .agg [.lit (.int .u8 0), .lit (.int .u8 0)], .agg [.lit (.int .u8 0), .lit (.int .u8 0)]]
def laid_jackfield_api_ErrRange {H : Type} : DataW H := .iface "*errors.errorString" (.ptr (.agg [.lit (.string [106, 97, 99, 107, 102, 105, 101, 108, 100, 58, 32, 114, 97, 110, 103, 101])]))
def laid_jackfield_api_ErrFull {H : Type} : DataW H := .iface "*errors.errorString" (.ptr (.agg [.lit (.string [106, 97, 99, 107, 102, 105, 101, 108, 100, 58, 32, 102, 117, 108, 108])]))
def laid_jackfield_api_ErrName {H : Type} : DataW H := .iface "*errors.errorString" (.ptr (.agg [.lit (.string [106, 97, 99, 107, 102, 105, 101, 108, 100, 58, 32, 110, 97, 109, 101])]))
def laid_jackfield_api_ErrNone {H : Type} : DataW H := .iface "*errors.errorString" (.ptr (.agg [.lit (.string [106, 97, 99, 107, 102, 105, 101, 108, 100, 58, 32, 110, 111, 110, 101])]))
def laid_jackfield_api_ErrBusy {H : Type} : DataW H := .iface "*errors.errorString" (.ptr (.agg [.lit (.string [106, 97, 99, 107, 102, 105, 101, 108, 100, 58, 32, 98, 117, 115, 121])]))
/-- One of Go's own tables, pinned by name: the form's constant. -/
def laid_unicode_utf8_first : DataW Unit := Go.Pinned.utf8First

/-- 'jackfieldlaw16.RoutesLives': WHATEVER THE INPUT: true; the input reads as it did. -/
def routesLivesSpec : ChangeSpec := { name := "routesLives", fn := fun _ => fun
  | [d1, d2, d3] => { results := [.lit (.bool true)], args := [d1, d2, d3] }
  | _ => none }
def routesLivesRow : OpenClaim := { program := "ytgimmdnmndbcpaadoor", sum := "57fbf6f5f559afb8a335a5ac33449fc2a0acdcffa227f07fbe66219872d3c6ce", func := "jackfield/jackfieldlaw16.RoutesLives", spec := "routesLives", inPlace := ["internal/bytealg.CountString", "internal/bytealg.IndexByteString", "internal/bytealg.IndexString", "math.Float64bits", "math.Float64frombits"], unfollowed := true, recurses := true, named := ["jackfield/api.ErrNone", "jackfield/api.ErrFull", "jackfield/api.ErrName", "jackfield/api.ErrRange", "unicode/utf8.first", "unicode/utf8.acceptRanges", "internal/bytealg.MaxLen", "jackfield/api.ErrBusy"], apart := false, laid := [("unicode/utf8.acceptRanges", laid_unicode_utf8_acceptRanges), ("jackfield/api.ErrRange", laid_jackfield_api_ErrRange), ("jackfield/api.ErrFull", laid_jackfield_api_ErrFull), ("jackfield/api.ErrName", laid_jackfield_api_ErrName), ("jackfield/api.ErrNone", laid_jackfield_api_ErrNone), ("jackfield/api.ErrBusy", laid_jackfield_api_ErrBusy), ("unicode/utf8.first", laid_unicode_utf8_first)] }
def RoutesLivesSaid : Prop := routesLivesRow.holds Tryd.pinned (OpenSpec.ofChange routesLivesSpec)

/-- ITS FALSE NEIGHBOUR: 'it returns false'. Refute it at one input. -/
def routesLivesWrong : ChangeSpec := { name := "routesLives", fn := fun _ => fun
  | [d1, d2, d3] => { results := [.lit (.bool false)], args := [d1, d2, d3] }
  | _ => none }
def RoutesLivesWrongFalsely : Prop := routesLivesRow.holds Tryd.pinned (OpenSpec.ofChange routesLivesWrong)

/-- 'jackfieldlaw16.RoutesMany': WHATEVER THE INPUT: true; the input reads as it did. -/
def routesManySpec : ChangeSpec := { name := "routesMany", fn := fun _ => fun
  | [d] => { results := [.lit (.bool true)], args := [d] }
  | _ => none }
def routesManyRow : OpenClaim := { program := "ytgimmdnmndbcpaadoor", sum := "57fbf6f5f559afb8a335a5ac33449fc2a0acdcffa227f07fbe66219872d3c6ce", func := "jackfield/jackfieldlaw16.RoutesMany", spec := "routesMany", inPlace := ["internal/bytealg.CountString", "internal/bytealg.IndexByteString", "internal/bytealg.IndexString", "math.Float64bits", "math.Float64frombits"], unfollowed := true, recurses := true, named := ["jackfield/api.ErrFull", "jackfield/api.ErrName", "jackfield/api.ErrRange", "unicode/utf8.first", "unicode/utf8.acceptRanges", "internal/bytealg.MaxLen", "jackfield/api.ErrNone", "jackfield/api.ErrBusy"], apart := false, laid := [("unicode/utf8.acceptRanges", laid_unicode_utf8_acceptRanges), ("jackfield/api.ErrRange", laid_jackfield_api_ErrRange), ("jackfield/api.ErrFull", laid_jackfield_api_ErrFull), ("jackfield/api.ErrName", laid_jackfield_api_ErrName), ("jackfield/api.ErrNone", laid_jackfield_api_ErrNone), ("jackfield/api.ErrBusy", laid_jackfield_api_ErrBusy), ("unicode/utf8.first", laid_unicode_utf8_first)] }
def RoutesManySaid : Prop := routesManyRow.holds Tryd.pinned (OpenSpec.ofChange routesManySpec)

/-- ITS FALSE NEIGHBOUR: 'it returns false'. Refute it at one input. -/
def routesManyWrong : ChangeSpec := { name := "routesMany", fn := fun _ => fun
  | [d] => { results := [.lit (.bool false)], args := [d] }
  | _ => none }
def RoutesManyWrongFalsely : Prop := routesManyRow.holds Tryd.pinned (OpenSpec.ofChange routesManyWrong)

/-- 'jackfieldlaw16.RoutesPick': WHATEVER THE INPUT: true; the input reads as it did. -/
def routesPickSpec : ChangeSpec := { name := "routesPick", fn := fun _ => fun
  | [d1, d2, d3] => { results := [.lit (.bool true)], args := [d1, d2, d3] }
  | _ => none }
def routesPickRow : OpenClaim := { program := "ytgimmdnmndbcpaadoor", sum := "57fbf6f5f559afb8a335a5ac33449fc2a0acdcffa227f07fbe66219872d3c6ce", func := "jackfield/jackfieldlaw16.RoutesPick", spec := "routesPick", inPlace := ["internal/bytealg.CountString", "internal/bytealg.IndexByteString", "internal/bytealg.IndexString", "math.Float64bits", "math.Float64frombits"], unfollowed := true, recurses := true, named := ["jackfield/api.ErrNone", "jackfield/api.ErrBusy", "jackfield/api.ErrFull", "jackfield/api.ErrName", "jackfield/api.ErrRange", "unicode/utf8.first", "unicode/utf8.acceptRanges", "internal/bytealg.MaxLen"], apart := false, laid := [("unicode/utf8.acceptRanges", laid_unicode_utf8_acceptRanges), ("jackfield/api.ErrRange", laid_jackfield_api_ErrRange), ("jackfield/api.ErrFull", laid_jackfield_api_ErrFull), ("jackfield/api.ErrName", laid_jackfield_api_ErrName), ("jackfield/api.ErrNone", laid_jackfield_api_ErrNone), ("jackfield/api.ErrBusy", laid_jackfield_api_ErrBusy), ("unicode/utf8.first", laid_unicode_utf8_first)] }
def RoutesPickSaid : Prop := routesPickRow.holds Tryd.pinned (OpenSpec.ofChange routesPickSpec)

/-- ITS FALSE NEIGHBOUR: 'it returns false'. Refute it at one input. -/
def routesPickWrong : ChangeSpec := { name := "routesPick", fn := fun _ => fun
  | [d1, d2, d3] => { results := [.lit (.bool false)], args := [d1, d2, d3] }
  | _ => none }
def RoutesPickWrongFalsely : Prop := routesPickRow.holds Tryd.pinned (OpenSpec.ofChange routesPickWrong)

/- THE SECOND FORM. 'bulk': how many values and letters a reading holds, each counted each time it is reached (what is shared counts as often as it is met; a slice's spare places count too). A statement '..UptoSaid' is the law's where the arguments, and the package variables that the reading takes, are together of bulk at most 1048576: NARROWER than '..Said'. Prove '..Said' where nothing that the law and all that it calls make is longer than what came in: it says more and counts as full. Else prove '..UptoSaid'. A law counts once. -/
mutual
def uptoBulk {H : Type} : DataW H → Nat
  | .lit (.string bytes) => bytes.length + 1
  | .lit _ => 1
  | .nil => 1
  | .ptr d => uptoBulk d + 1
  | .slice elems spare => uptoBulkAll elems + uptoBulkAll spare + 1
  | .agg parts => uptoBulkAll parts + 1
  | .iface _ d => uptoBulk d + 1
  | .map entries => uptoBulkEntries entries + 1
  | .held _ => 1
def uptoBulkAll {H : Type} : List (DataW H) → Nat
  | [] => 0
  | d :: r => uptoBulk d + uptoBulkAll r
def uptoBulkEntries {H : Type} : List (Lit × DataW H) → Nat
  | [] => 0
  | x :: r => uptoBulkEntry x + uptoBulkEntries r
def uptoBulkEntry {H : Type} : Lit × DataW H → Nat
  | (.string bytes, d) => bytes.length + uptoBulk d + 1
  | (_, d) => uptoBulk d + 1
 end
def uptoSmall : (H : Type) → List (DataW H) → Bool := fun _ ds => decide (uptoBulkAll ds ≤ 1048576)
def OpenSpec.upto (s : _root_.Go.ChangeSpec) : _root_.Go.OpenSpec := { _root_.Go.OpenSpec.ofChange s with cond := some uptoSmall }

/-- 'jackfieldlaw16.RoutesLives', WHERE WHAT IT READS IS OF BULK AT MOST 1048576: true; the input reads as it did. -/
def routesLivesUptoRow : OpenClaim := { program := "ytgimmdnmndbcpaadoor", sum := "57fbf6f5f559afb8a335a5ac33449fc2a0acdcffa227f07fbe66219872d3c6ce", func := "jackfield/jackfieldlaw16.RoutesLives", spec := "routesLives", inPlace := ["internal/bytealg.CountString", "internal/bytealg.IndexByteString", "internal/bytealg.IndexString", "math.Float64bits", "math.Float64frombits"], unfollowed := true, recurses := true, named := ["jackfield/api.ErrNone", "jackfield/api.ErrFull", "jackfield/api.ErrName", "jackfield/api.ErrRange", "unicode/utf8.first", "unicode/utf8.acceptRanges", "internal/bytealg.MaxLen", "jackfield/api.ErrBusy"], apart := false, laid := [("unicode/utf8.acceptRanges", laid_unicode_utf8_acceptRanges), ("jackfield/api.ErrRange", laid_jackfield_api_ErrRange), ("jackfield/api.ErrFull", laid_jackfield_api_ErrFull), ("jackfield/api.ErrName", laid_jackfield_api_ErrName), ("jackfield/api.ErrNone", laid_jackfield_api_ErrNone), ("jackfield/api.ErrBusy", laid_jackfield_api_ErrBusy), ("unicode/utf8.first", laid_unicode_utf8_first)], narrowed := true }
def RoutesLivesUptoSaid : Prop := routesLivesUptoRow.holds Tryd.pinned (OpenSpec.upto routesLivesSpec)

/-- 'jackfieldlaw16.RoutesMany', WHERE WHAT IT READS IS OF BULK AT MOST 1048576: true; the input reads as it did. -/
def routesManyUptoRow : OpenClaim := { program := "ytgimmdnmndbcpaadoor", sum := "57fbf6f5f559afb8a335a5ac33449fc2a0acdcffa227f07fbe66219872d3c6ce", func := "jackfield/jackfieldlaw16.RoutesMany", spec := "routesMany", inPlace := ["internal/bytealg.CountString", "internal/bytealg.IndexByteString", "internal/bytealg.IndexString", "math.Float64bits", "math.Float64frombits"], unfollowed := true, recurses := true, named := ["jackfield/api.ErrFull", "jackfield/api.ErrName", "jackfield/api.ErrRange", "unicode/utf8.first", "unicode/utf8.acceptRanges", "internal/bytealg.MaxLen", "jackfield/api.ErrNone", "jackfield/api.ErrBusy"], apart := false, laid := [("unicode/utf8.acceptRanges", laid_unicode_utf8_acceptRanges), ("jackfield/api.ErrRange", laid_jackfield_api_ErrRange), ("jackfield/api.ErrFull", laid_jackfield_api_ErrFull), ("jackfield/api.ErrName", laid_jackfield_api_ErrName), ("jackfield/api.ErrNone", laid_jackfield_api_ErrNone), ("jackfield/api.ErrBusy", laid_jackfield_api_ErrBusy), ("unicode/utf8.first", laid_unicode_utf8_first)], narrowed := true }
def RoutesManyUptoSaid : Prop := routesManyUptoRow.holds Tryd.pinned (OpenSpec.upto routesManySpec)

/-- 'jackfieldlaw16.RoutesPick', WHERE WHAT IT READS IS OF BULK AT MOST 1048576: true; the input reads as it did. -/
def routesPickUptoRow : OpenClaim := { program := "ytgimmdnmndbcpaadoor", sum := "57fbf6f5f559afb8a335a5ac33449fc2a0acdcffa227f07fbe66219872d3c6ce", func := "jackfield/jackfieldlaw16.RoutesPick", spec := "routesPick", inPlace := ["internal/bytealg.CountString", "internal/bytealg.IndexByteString", "internal/bytealg.IndexString", "math.Float64bits", "math.Float64frombits"], unfollowed := true, recurses := true, named := ["jackfield/api.ErrNone", "jackfield/api.ErrBusy", "jackfield/api.ErrFull", "jackfield/api.ErrName", "jackfield/api.ErrRange", "unicode/utf8.first", "unicode/utf8.acceptRanges", "internal/bytealg.MaxLen"], apart := false, laid := [("unicode/utf8.acceptRanges", laid_unicode_utf8_acceptRanges), ("jackfield/api.ErrRange", laid_jackfield_api_ErrRange), ("jackfield/api.ErrFull", laid_jackfield_api_ErrFull), ("jackfield/api.ErrName", laid_jackfield_api_ErrName), ("jackfield/api.ErrNone", laid_jackfield_api_ErrNone), ("jackfield/api.ErrBusy", laid_jackfield_api_ErrBusy), ("unicode/utf8.first", laid_unicode_utf8_first)], narrowed := true }
def RoutesPickUptoSaid : Prop := routesPickUptoRow.holds Tryd.pinned (OpenSpec.upto routesPickSpec)

end Rows
end Go.Proofs.YtgimmdnmndbcpaaDoor
