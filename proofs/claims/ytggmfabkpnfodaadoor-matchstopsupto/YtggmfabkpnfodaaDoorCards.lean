/-
  DERIVED. GIVEN WITH THE SEED: THE CARDS: each row of YtggmfabkpnfodaaDoorRows.lean that lists a variable, with what it lists TIED to the program's text (the seventh form; the later family's looks); each row that meets fmt, with fmt's text TOLD by the authors' own Lean function (tested against real Go, not proved from fmt's source: count such statements apart). THE CARD IS WHAT COUNTS. Prove the row's statement (the work); the ties are given (YtggmfabkpnfodaaDoorTie.lean); close each card by the builder's one call (the guide's Derived/Test/ToyasCard.lean, 'card_holds'). Laid BY PROGRAM, IN A SANDBOX (cutbox-door.mjs). By AI agents, Wed Nov 11 2026. No macro, syntax, notation, axiom, sorry.
-/
import Derived.Test.YtggmfabkpnfodaaDoorRows
import GoSem.ClaimSeven
namespace Go.Proofs.YtggmfabkpnfodaaDoor
namespace Rows

/-- THE TIED CARD OF 'teasellaw11.MatchStops'. -/
def matchStopsCard : Claim7 := { stood := { row := matchStopsRow, standIns := [], harness := (true, "3153debf00848edea41a6193d4cd32faaf3612b378a3fc555e7d36653b5c1f86"), looks := false }, kinds := [], alts := [], laidByText := true, laidKinds := [.data, .data, .data], laidTests := true, laidLooks := .later }
def MatchStopsCardSaid : Prop := Claim7.holds Tryd.pinned (.plain (OpenSpec.ofChange matchStopsSpec)) matchStopsCard

/-- THE SECOND FORM's CARD OF 'teasellaw11.MatchStops'. -/
def matchStopsUptoCard : Claim7 := { stood := { row := matchStopsUptoRow, standIns := [], harness := (true, "3153debf00848edea41a6193d4cd32faaf3612b378a3fc555e7d36653b5c1f86"), looks := false }, kinds := [], alts := [], laidByText := true, laidKinds := [.data, .data, .data], laidTests := true, laidLooks := .later }
def MatchStopsUptoCardSaid : Prop := Claim7.holds Tryd.pinned (.plain (OpenSpec.upto matchStopsSpec)) matchStopsUptoCard
end Rows
end Go.Proofs.YtggmfabkpnfodaaDoor
