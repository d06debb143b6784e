/-
  DERIVED. GIVEN WITH THE SEED: THE CARDS: each row of YtgimmdnmndbcpaaGreatDoorRows.lean that lists a variable, with what it lists TIED to the program's text (the seventh form; the later family's looks); each row that meets fmt, with fmt's text TOLD by the authors' own Lean function (tested against real Go, not proved from fmt's source: count such statements apart). THE CARD IS WHAT COUNTS. Prove the row's statement (the work); the ties are given (YtgimmdnmndbcpaaGreatDoorTie.lean); close each card by the builder's one call (the guide's Derived/Test/ToyasCard.lean, 'card_holds'). Laid BY PROGRAM, IN A SANDBOX (cutbox-door.mjs). By AI agents, Wed Nov 11 2026. No macro, syntax, notation, axiom, sorry.
-/
import Derived.Test.YtgimmdnmndbcpaaGreatDoorRows
import GoSem.ClaimSeven
namespace Go.Proofs.YtgimmdnmndbcpaaGreatDoor
namespace Rows

/-- THE TIED CARD OF 'jackfieldlaw16.RoutesPlays'. -/
def routesPlaysCard : Claim7 := { stood := { row := routesPlaysRow, standIns := [], harness := (true, "d5a402a26cb9e74d9eb5484b8e14b1310bdf9dea5976b47746539d9c5a64ffe9"), looks := true }, kinds := [], alts := [], laidByText := true, laidKinds := [.data, .sentinel, .sentinel, .sentinel, .sentinel, .sentinel, .sentinel, .sentinel, .sentinel, .sentinel, .sentinel, .sentinel, .sentinel, .sentinel, .sentinel, .sentinel, .sentinel, .sentinel, .sentinel, .pinned], laidTests := true, laidLooks := .later }
def RoutesPlaysCardSaid : Prop := Claim7.holds Tryz.pinned (.plain (OpenSpec.ofChange routesPlaysSpec)) routesPlaysCard

/-- THE SECOND FORM's CARD OF 'jackfieldlaw16.RoutesPlays'. -/
def routesPlaysUptoCard : Claim7 := { stood := { row := routesPlaysUptoRow, standIns := [], harness := (true, "d5a402a26cb9e74d9eb5484b8e14b1310bdf9dea5976b47746539d9c5a64ffe9"), looks := true }, kinds := [], alts := [], laidByText := true, laidKinds := [.data, .sentinel, .sentinel, .sentinel, .sentinel, .sentinel, .sentinel, .sentinel, .sentinel, .sentinel, .sentinel, .sentinel, .sentinel, .sentinel, .sentinel, .sentinel, .sentinel, .sentinel, .sentinel, .pinned], laidTests := true, laidLooks := .later }
def RoutesPlaysUptoCardSaid : Prop := Claim7.holds Tryz.pinned (.plain (OpenSpec.upto routesPlaysSpec)) routesPlaysUptoCard
end Rows
end Go.Proofs.YtgimmdnmndbcpaaGreatDoor
