/-
  DERIVED. GIVEN WITH THE SEED: THE PROGRAM's TIES (one call each: nine closed facts by the kernel) AND EACH ROW's TIE, after the 31st guide's Derived/Test/Toyas{Tie, Card}.lean. No idea stands in it: it is a product of the set-up. Laid BY PROGRAM, IN A SANDBOX (cutbox-door.mjs). By AI agents, Wed Nov 11 2026. No macro, syntax, notation, axiom, sorry.
-/
import Derived.Test.YtgimmdnmndbcpaaGreatDoorRows
import Derived.LaidByTextLater
import Derived.SevenTiedAt
import Derived.LaidSub
import Derived.LaidOnce
namespace Go.Proofs.YtgimmdnmndbcpaaGreatDoor
open Go
set_option maxRecDepth 100000
theorem seatTie1 : Tryz.prog.laidByTextLater [("unicode/utf8.acceptRanges", Rows.laid_unicode_utf8_acceptRanges), ("jackfield/api.ErrRange", Rows.laid_jackfield_api_ErrRange), ("jackfield/api.ErrShort", Rows.laid_jackfield_api_ErrShort), ("jackfield/api.ErrLong", Rows.laid_jackfield_api_ErrLong), ("jackfield/api.ErrTail", Rows.laid_jackfield_api_ErrTail), ("jackfield/api.ErrBroken", Rows.laid_jackfield_api_ErrBroken), ("jackfield/api.ErrPower", Rows.laid_jackfield_api_ErrPower), ("jackfield/api.ErrFrame", Rows.laid_jackfield_api_ErrFrame), ("jackfield/api.ErrFull", Rows.laid_jackfield_api_ErrFull), ("jackfield/api.ErrGap", Rows.laid_jackfield_api_ErrGap), ("jackfield/api.ErrName", Rows.laid_jackfield_api_ErrName), ("jackfield/api.ErrTaken", Rows.laid_jackfield_api_ErrTaken), ("jackfield/api.ErrNone", Rows.laid_jackfield_api_ErrNone), ("jackfield/api.ErrOwner", Rows.laid_jackfield_api_ErrOwner), ("jackfield/api.ErrProof", Rows.laid_jackfield_api_ErrProof), ("jackfield/api.ErrWindow", Rows.laid_jackfield_api_ErrWindow), ("jackfield/api.ErrStream", Rows.laid_jackfield_api_ErrStream), ("jackfield/api.ErrState", Rows.laid_jackfield_api_ErrState), ("jackfield/api.ErrBusy", Rows.laid_jackfield_api_ErrBusy)] [.data, .sentinel, .sentinel, .sentinel, .sentinel, .sentinel, .sentinel, .sentinel, .sentinel, .sentinel, .sentinel, .sentinel, .sentinel, .sentinel, .sentinel, .sentinel, .sentinel, .sentinel, .sentinel] true :=
  Program.laidByTextLater_by_one 361 8 33 (by kernel_rfl) (by kernel_rfl) (by kernel_rfl) (by kernel_rfl) (by kernel_rfl) (by kernel_rfl) (fun _ _ => by kernel_rfl)
theorem pin_laid_unicode_utf8_first : Tryz.pinned.checked.prog.pinnedFits "unicode/utf8.first" = true := by kernel_rfl
theorem noOwnUnsafe : Tryz.pinned.checked.prog.headLifts.contains "ownunsafe" = false := by kernel_rfl
theorem fits1 : Tryz.pinned.checked.prog.listedFits [("unicode/utf8.acceptRanges", Rows.laid_unicode_utf8_acceptRanges), ("jackfield/api.ErrRange", Rows.laid_jackfield_api_ErrRange), ("jackfield/api.ErrShort", Rows.laid_jackfield_api_ErrShort), ("jackfield/api.ErrLong", Rows.laid_jackfield_api_ErrLong), ("jackfield/api.ErrTail", Rows.laid_jackfield_api_ErrTail), ("jackfield/api.ErrBroken", Rows.laid_jackfield_api_ErrBroken), ("jackfield/api.ErrPower", Rows.laid_jackfield_api_ErrPower), ("jackfield/api.ErrFrame", Rows.laid_jackfield_api_ErrFrame), ("jackfield/api.ErrFull", Rows.laid_jackfield_api_ErrFull), ("jackfield/api.ErrGap", Rows.laid_jackfield_api_ErrGap), ("jackfield/api.ErrName", Rows.laid_jackfield_api_ErrName), ("jackfield/api.ErrTaken", Rows.laid_jackfield_api_ErrTaken), ("jackfield/api.ErrNone", Rows.laid_jackfield_api_ErrNone), ("jackfield/api.ErrOwner", Rows.laid_jackfield_api_ErrOwner), ("jackfield/api.ErrProof", Rows.laid_jackfield_api_ErrProof), ("jackfield/api.ErrWindow", Rows.laid_jackfield_api_ErrWindow), ("jackfield/api.ErrStream", Rows.laid_jackfield_api_ErrStream), ("jackfield/api.ErrState", Rows.laid_jackfield_api_ErrState), ("jackfield/api.ErrBusy", Rows.laid_jackfield_api_ErrBusy), ("unicode/utf8.first", Rows.laid_unicode_utf8_first)] = true := by
  unfold Program.listedFits
  rw [noOwnUnsafe]
  kernel_rfl
theorem tie : Tryz.prog.laidByTextLater [("unicode/utf8.acceptRanges", Rows.laid_unicode_utf8_acceptRanges), ("jackfield/api.ErrRange", Rows.laid_jackfield_api_ErrRange), ("jackfield/api.ErrShort", Rows.laid_jackfield_api_ErrShort), ("jackfield/api.ErrLong", Rows.laid_jackfield_api_ErrLong), ("jackfield/api.ErrTail", Rows.laid_jackfield_api_ErrTail), ("jackfield/api.ErrBroken", Rows.laid_jackfield_api_ErrBroken), ("jackfield/api.ErrPower", Rows.laid_jackfield_api_ErrPower), ("jackfield/api.ErrFrame", Rows.laid_jackfield_api_ErrFrame), ("jackfield/api.ErrFull", Rows.laid_jackfield_api_ErrFull), ("jackfield/api.ErrGap", Rows.laid_jackfield_api_ErrGap), ("jackfield/api.ErrName", Rows.laid_jackfield_api_ErrName), ("jackfield/api.ErrTaken", Rows.laid_jackfield_api_ErrTaken), ("jackfield/api.ErrNone", Rows.laid_jackfield_api_ErrNone), ("jackfield/api.ErrOwner", Rows.laid_jackfield_api_ErrOwner), ("jackfield/api.ErrProof", Rows.laid_jackfield_api_ErrProof), ("jackfield/api.ErrWindow", Rows.laid_jackfield_api_ErrWindow), ("jackfield/api.ErrStream", Rows.laid_jackfield_api_ErrStream), ("jackfield/api.ErrState", Rows.laid_jackfield_api_ErrState), ("jackfield/api.ErrBusy", Rows.laid_jackfield_api_ErrBusy)] [.data, .sentinel, .sentinel, .sentinel, .sentinel, .sentinel, .sentinel, .sentinel, .sentinel, .sentinel, .sentinel, .sentinel, .sentinel, .sentinel, .sentinel, .sentinel, .sentinel, .sentinel, .sentinel] true :=
  Program.laidByTextLater.sub seatTie1 ["unicode/utf8.acceptRanges", "jackfield/api.ErrRange", "jackfield/api.ErrShort", "jackfield/api.ErrLong", "jackfield/api.ErrTail", "jackfield/api.ErrBroken", "jackfield/api.ErrPower", "jackfield/api.ErrFrame", "jackfield/api.ErrFull", "jackfield/api.ErrGap", "jackfield/api.ErrName", "jackfield/api.ErrTaken", "jackfield/api.ErrNone", "jackfield/api.ErrOwner", "jackfield/api.ErrProof", "jackfield/api.ErrWindow", "jackfield/api.ErrStream", "jackfield/api.ErrState", "jackfield/api.ErrBusy"] (by kernel_rfl) (by kernel_rfl)
theorem routesPlays_row_tie : Rows.routesPlaysRow.laidByTextAt .later Tryz.pinned [.data, .sentinel, .sentinel, .sentinel, .sentinel, .sentinel, .sentinel, .sentinel, .sentinel, .sentinel, .sentinel, .sentinel, .sentinel, .sentinel, .sentinel, .sentinel, .sentinel, .sentinel, .sentinel, .pinned] true :=
  OpenClaim.laidByTextAt_pinned rfl rfl tie rfl rfl rfl rfl (fun y hy _e => by
    simp only [Rows.routesPlaysRow, List.zip_cons_cons, List.zip_nil_right, List.mem_cons, List.mem_nil_iff, or_false] at hy
    rcases hy with rfl | rfl | rfl | rfl | rfl | rfl | rfl | rfl | rfl | rfl | rfl | rfl | rfl | rfl | rfl | rfl | rfl | rfl | rfl | rfl
    · cases _e
    · cases _e
    · cases _e
    · cases _e
    · cases _e
    · cases _e
    · cases _e
    · cases _e
    · cases _e
    · cases _e
    · cases _e
    · cases _e
    · cases _e
    · cases _e
    · cases _e
    · cases _e
    · cases _e
    · cases _e
    · cases _e
    · exact ⟨pin_laid_unicode_utf8_first, by kernel_rfl⟩) fits1
theorem routesPlaysUpto_row_tie : Rows.routesPlaysUptoRow.laidByTextAt .later Tryz.pinned [.data, .sentinel, .sentinel, .sentinel, .sentinel, .sentinel, .sentinel, .sentinel, .sentinel, .sentinel, .sentinel, .sentinel, .sentinel, .sentinel, .sentinel, .sentinel, .sentinel, .sentinel, .sentinel, .pinned] true :=
  OpenClaim.laidByTextAt_pinned rfl rfl tie rfl rfl rfl rfl (fun y hy _e => by
    simp only [Rows.routesPlaysUptoRow, List.zip_cons_cons, List.zip_nil_right, List.mem_cons, List.mem_nil_iff, or_false] at hy
    rcases hy with rfl | rfl | rfl | rfl | rfl | rfl | rfl | rfl | rfl | rfl | rfl | rfl | rfl | rfl | rfl | rfl | rfl | rfl | rfl | rfl
    · cases _e
    · cases _e
    · cases _e
    · cases _e
    · cases _e
    · cases _e
    · cases _e
    · cases _e
    · cases _e
    · cases _e
    · cases _e
    · cases _e
    · cases _e
    · cases _e
    · cases _e
    · cases _e
    · cases _e
    · cases _e
    · cases _e
    · exact ⟨pin_laid_unicode_utf8_first, by kernel_rfl⟩) fits1
end Go.Proofs.YtgimmdnmndbcpaaGreatDoor
