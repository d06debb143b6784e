/-
  DERIVED. GIVEN WITH THE SEED: THE CARDS: each row of YtgimmdnmndbcpaaDoorRows.lean that lists a variable, with what it lists TIED to the program's text (the seventh form; the later family's looks); each row that meets fmt, with fmt's text TOLD by the authors' own Lean function (tested against real Go, not proved from fmt's source: count such statements apart). THE CARD IS WHAT COUNTS. Prove the row's statement (the work); the ties are given (YtgimmdnmndbcpaaDoorTie.lean); close each card by the builder's one call (the guide's Derived/Test/ToyasCard.lean, 'card_holds'). Laid BY PROGRAM, IN A SANDBOX (cutbox-door.mjs). By AI agents, Wed Nov 11 2026. No macro, syntax, notation, axiom, sorry.
-/
import Derived.Test.YtgimmdnmndbcpaaDoorRows
import GoSem.ClaimSeven
namespace Go.Proofs.YtgimmdnmndbcpaaDoor
namespace Rows

/-- THE TIED CARD OF 'jackfieldlaw16.RoutesLives'. -/
def routesLivesCard : Claim7 := { stood := { row := routesLivesRow, standIns := [], harness := (true, "ff9a731f2552d9817303c2df413b47a4540e789ce18061fe15787dff4431e5c5"), looks := true }, kinds := [], alts := [], laidByText := true, laidKinds := [.data, .sentinel, .sentinel, .sentinel, .sentinel, .sentinel, .pinned], laidTests := true, laidLooks := .later }
def RoutesLivesCardSaid : Prop := Claim7.holds Tryd.pinned (.plain (OpenSpec.ofChange routesLivesSpec)) routesLivesCard

/-- THE TIED CARD OF 'jackfieldlaw16.RoutesMany'. -/
def routesManyCard : Claim7 := { stood := { row := routesManyRow, standIns := [], harness := (true, "ff9a731f2552d9817303c2df413b47a4540e789ce18061fe15787dff4431e5c5"), looks := true }, kinds := [], alts := [], laidByText := true, laidKinds := [.data, .sentinel, .sentinel, .sentinel, .sentinel, .sentinel, .pinned], laidTests := true, laidLooks := .later }
def RoutesManyCardSaid : Prop := Claim7.holds Tryd.pinned (.plain (OpenSpec.ofChange routesManySpec)) routesManyCard

/-- THE TIED CARD OF 'jackfieldlaw16.RoutesPick'. -/
def routesPickCard : Claim7 := { stood := { row := routesPickRow, standIns := [], harness := (true, "ff9a731f2552d9817303c2df413b47a4540e789ce18061fe15787dff4431e5c5"), looks := true }, kinds := [], alts := [], laidByText := true, laidKinds := [.data, .sentinel, .sentinel, .sentinel, .sentinel, .sentinel, .pinned], laidTests := true, laidLooks := .later }
def RoutesPickCardSaid : Prop := Claim7.holds Tryd.pinned (.plain (OpenSpec.ofChange routesPickSpec)) routesPickCard

/-- THE SECOND FORM's CARD OF 'jackfieldlaw16.RoutesLives'. -/
def routesLivesUptoCard : Claim7 := { stood := { row := routesLivesUptoRow, standIns := [], harness := (true, "ff9a731f2552d9817303c2df413b47a4540e789ce18061fe15787dff4431e5c5"), looks := true }, kinds := [], alts := [], laidByText := true, laidKinds := [.data, .sentinel, .sentinel, .sentinel, .sentinel, .sentinel, .pinned], laidTests := true, laidLooks := .later }
def RoutesLivesUptoCardSaid : Prop := Claim7.holds Tryd.pinned (.plain (OpenSpec.upto routesLivesSpec)) routesLivesUptoCard

/-- THE SECOND FORM's CARD OF 'jackfieldlaw16.RoutesMany'. -/
def routesManyUptoCard : Claim7 := { stood := { row := routesManyUptoRow, standIns := [], harness := (true, "ff9a731f2552d9817303c2df413b47a4540e789ce18061fe15787dff4431e5c5"), looks := true }, kinds := [], alts := [], laidByText := true, laidKinds := [.data, .sentinel, .sentinel, .sentinel, .sentinel, .sentinel, .pinned], laidTests := true, laidLooks := .later }
def RoutesManyUptoCardSaid : Prop := Claim7.holds Tryd.pinned (.plain (OpenSpec.upto routesManySpec)) routesManyUptoCard

/-- THE SECOND FORM's CARD OF 'jackfieldlaw16.RoutesPick'. -/
def routesPickUptoCard : Claim7 := { stood := { row := routesPickUptoRow, standIns := [], harness := (true, "ff9a731f2552d9817303c2df413b47a4540e789ce18061fe15787dff4431e5c5"), looks := true }, kinds := [], alts := [], laidByText := true, laidKinds := [.data, .sentinel, .sentinel, .sentinel, .sentinel, .sentinel, .pinned], laidTests := true, laidLooks := .later }
def RoutesPickUptoCardSaid : Prop := Claim7.holds Tryd.pinned (.plain (OpenSpec.upto routesPickSpec)) routesPickUptoCard
end Rows
end Go.Proofs.YtgimmdnmndbcpaaDoor
