/-
  DERIVED. GIVEN WITH THE SEED: THE PROGRAM's TIES (one call each: nine closed facts by the kernel) AND EACH ROW's TIE, after the 31st guide's Derived/Test/Toyas{Tie, Card}.lean. No idea stands in it: it is a product of the set-up. Laid BY PROGRAM, IN A SANDBOX (cutbox-door.mjs). By AI agents, Wed Nov 11 2026. No macro, syntax, notation, axiom, sorry.
-/
import Derived.Test.YtjjaghiihkdclaaDoorRows
import Derived.LaidByTextLater
import Derived.SevenTiedAt
import Derived.LaidSub
import Derived.LaidOnce
namespace Go.Proofs.YtjjaghiihkdclaaDoor
open Go
set_option maxRecDepth 100000
theorem seatTie1 : Tryd.prog.laidByTextLater [("jackfield/api.ErrRange", Rows.laid_jackfield_api_ErrRange), ("jackfield/api.ErrShort", Rows.laid_jackfield_api_ErrShort), ("jackfield/api.ErrLong", Rows.laid_jackfield_api_ErrLong), ("jackfield/api.ErrTail", Rows.laid_jackfield_api_ErrTail), ("jackfield/api.ErrBroken", Rows.laid_jackfield_api_ErrBroken), ("jackfield/api.ErrPower", Rows.laid_jackfield_api_ErrPower), ("jackfield/api.ErrFrame", Rows.laid_jackfield_api_ErrFrame), ("jackfield/api.ErrFull", Rows.laid_jackfield_api_ErrFull), ("jackfield/api.ErrGap", Rows.laid_jackfield_api_ErrGap), ("jackfield/api.ErrName", Rows.laid_jackfield_api_ErrName), ("jackfield/api.ErrTaken", Rows.laid_jackfield_api_ErrTaken), ("jackfield/api.ErrNone", Rows.laid_jackfield_api_ErrNone), ("jackfield/api.ErrOwner", Rows.laid_jackfield_api_ErrOwner), ("jackfield/api.ErrProof", Rows.laid_jackfield_api_ErrProof), ("jackfield/api.ErrWindow", Rows.laid_jackfield_api_ErrWindow), ("jackfield/api.ErrStream", Rows.laid_jackfield_api_ErrStream), ("jackfield/api.ErrState", Rows.laid_jackfield_api_ErrState), ("jackfield/api.ErrBusy", Rows.laid_jackfield_api_ErrBusy)] [.sentinel, .sentinel, .sentinel, .sentinel, .sentinel, .sentinel, .sentinel, .sentinel, .sentinel, .sentinel, .sentinel, .sentinel, .sentinel, .sentinel, .sentinel, .sentinel, .sentinel, .sentinel] true :=
  Program.laidByTextLater_by_one 351 8 2 (by kernel_rfl) (by kernel_rfl) (by kernel_rfl) (by kernel_rfl) (by kernel_rfl) (by kernel_rfl) (fun _ _ => by kernel_rfl)
theorem noOwnUnsafe : Tryd.pinned.checked.prog.headLifts.contains "ownunsafe" = false := by kernel_rfl
theorem tie : Tryd.prog.laidByTextLater [("jackfield/api.ErrRange", Rows.laid_jackfield_api_ErrRange), ("jackfield/api.ErrPower", Rows.laid_jackfield_api_ErrPower)] [.sentinel, .sentinel] true :=
  Program.laidByTextLater.sub seatTie1 ["jackfield/api.ErrRange", "jackfield/api.ErrPower"] (by kernel_rfl) (by kernel_rfl)
theorem drumRanges_row_tie : Rows.drumRangesRow.laidByTextAt .later Tryd.pinned [.sentinel, .sentinel] true :=
  OpenClaim.laidByTextAt_later rfl rfl tie noOwnUnsafe
theorem drumCounts_row_tie : Rows.drumCountsRow.laidByTextAt .later Tryd.pinned [.sentinel, .sentinel] true :=
  OpenClaim.laidByTextAt_later rfl rfl tie noOwnUnsafe
theorem drumDark_row_tie : Rows.drumDarkRow.laidByTextAt .later Tryd.pinned [.sentinel, .sentinel] true :=
  OpenClaim.laidByTextAt_later rfl rfl tie noOwnUnsafe
theorem drumImages_row_tie : Rows.drumImagesRow.laidByTextAt .later Tryd.pinned [.sentinel, .sentinel] true :=
  OpenClaim.laidByTextAt_later rfl rfl tie noOwnUnsafe
theorem tie2 : Tryd.prog.laidByTextLater [("jackfield/api.ErrRange", Rows.laid_jackfield_api_ErrRange), ("jackfield/api.ErrShort", Rows.laid_jackfield_api_ErrShort), ("jackfield/api.ErrLong", Rows.laid_jackfield_api_ErrLong), ("jackfield/api.ErrTail", Rows.laid_jackfield_api_ErrTail), ("jackfield/api.ErrBroken", Rows.laid_jackfield_api_ErrBroken), ("jackfield/api.ErrPower", Rows.laid_jackfield_api_ErrPower), ("jackfield/api.ErrFrame", Rows.laid_jackfield_api_ErrFrame), ("jackfield/api.ErrFull", Rows.laid_jackfield_api_ErrFull), ("jackfield/api.ErrGap", Rows.laid_jackfield_api_ErrGap), ("jackfield/api.ErrName", Rows.laid_jackfield_api_ErrName), ("jackfield/api.ErrTaken", Rows.laid_jackfield_api_ErrTaken), ("jackfield/api.ErrNone", Rows.laid_jackfield_api_ErrNone), ("jackfield/api.ErrOwner", Rows.laid_jackfield_api_ErrOwner), ("jackfield/api.ErrProof", Rows.laid_jackfield_api_ErrProof), ("jackfield/api.ErrWindow", Rows.laid_jackfield_api_ErrWindow), ("jackfield/api.ErrStream", Rows.laid_jackfield_api_ErrStream), ("jackfield/api.ErrState", Rows.laid_jackfield_api_ErrState), ("jackfield/api.ErrBusy", Rows.laid_jackfield_api_ErrBusy)] [.sentinel, .sentinel, .sentinel, .sentinel, .sentinel, .sentinel, .sentinel, .sentinel, .sentinel, .sentinel, .sentinel, .sentinel, .sentinel, .sentinel, .sentinel, .sentinel, .sentinel, .sentinel] true :=
  Program.laidByTextLater.sub seatTie1 ["jackfield/api.ErrRange", "jackfield/api.ErrShort", "jackfield/api.ErrLong", "jackfield/api.ErrTail", "jackfield/api.ErrBroken", "jackfield/api.ErrPower", "jackfield/api.ErrFrame", "jackfield/api.ErrFull", "jackfield/api.ErrGap", "jackfield/api.ErrName", "jackfield/api.ErrTaken", "jackfield/api.ErrNone", "jackfield/api.ErrOwner", "jackfield/api.ErrProof", "jackfield/api.ErrWindow", "jackfield/api.ErrStream", "jackfield/api.ErrState", "jackfield/api.ErrBusy"] (by kernel_rfl) (by kernel_rfl)
theorem drumPlays_row_tie : Rows.drumPlaysRow.laidByTextAt .later Tryd.pinned [.sentinel, .sentinel, .sentinel, .sentinel, .sentinel, .sentinel, .sentinel, .sentinel, .sentinel, .sentinel, .sentinel, .sentinel, .sentinel, .sentinel, .sentinel, .sentinel, .sentinel, .sentinel] true :=
  OpenClaim.laidByTextAt_later rfl rfl tie2 noOwnUnsafe
theorem drumRangesUpto_row_tie : Rows.drumRangesUptoRow.laidByTextAt .later Tryd.pinned [.sentinel, .sentinel] true :=
  OpenClaim.laidByTextAt_later rfl rfl tie noOwnUnsafe
theorem drumCountsUpto_row_tie : Rows.drumCountsUptoRow.laidByTextAt .later Tryd.pinned [.sentinel, .sentinel] true :=
  OpenClaim.laidByTextAt_later rfl rfl tie noOwnUnsafe
theorem drumDarkUpto_row_tie : Rows.drumDarkUptoRow.laidByTextAt .later Tryd.pinned [.sentinel, .sentinel] true :=
  OpenClaim.laidByTextAt_later rfl rfl tie noOwnUnsafe
theorem drumImagesUpto_row_tie : Rows.drumImagesUptoRow.laidByTextAt .later Tryd.pinned [.sentinel, .sentinel] true :=
  OpenClaim.laidByTextAt_later rfl rfl tie noOwnUnsafe
theorem drumPlaysUpto_row_tie : Rows.drumPlaysUptoRow.laidByTextAt .later Tryd.pinned [.sentinel, .sentinel, .sentinel, .sentinel, .sentinel, .sentinel, .sentinel, .sentinel, .sentinel, .sentinel, .sentinel, .sentinel, .sentinel, .sentinel, .sentinel, .sentinel, .sentinel, .sentinel] true :=
  OpenClaim.laidByTextAt_later rfl rfl tie2 noOwnUnsafe
end Go.Proofs.YtjjaghiihkdclaaDoor
