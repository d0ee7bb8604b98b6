/-
  DERIVED. GIVEN WITH THE SEED: THE CARDS: each row of YtedejleokilohaaGreatDoorRows.lean that lists a variable, with what it lists TIED to the program's text (the seventh form; the later family's looks); each row that meets fmt, with fmt's text TOLD by the authors' own Lean function (tested against real Go, not proved from fmt's source: count such statements apart). THE CARD IS WHAT COUNTS. Prove the row's statement (the work); the ties are given (YtedejleokilohaaGreatDoorTie.lean); close each card by the builder's one call (the guide's Derived/Test/ToyasCard.lean, 'card_holds'). Laid BY PROGRAM, IN A SANDBOX (cutbox-door.mjs). By AI agents, Wed Nov 11 2026. No macro, syntax, notation, axiom, sorry.
-/
import Derived.Test.YtedejleokilohaaGreatDoorRows
import GoSem.ClaimSeven
namespace Go.Proofs.YtedejleokilohaaGreatDoor
namespace Rows

/-- THE TIED CARD OF 'teasellaw16.StgMakes'. -/
def stgMakesCard : Claim7 := { stood := { row := stgMakesRow, standIns := [], harness := (true, "ecef51e64281092a04ad20e31ec75ff11e294e459d05e0667809347296fa243d"), looks := true }, kinds := [], alts := [], laidByText := true, laidKinds := [.data, .data, .data, .sentinel, .sentinel], laidTests := true, laidLooks := .later }
def StgMakesCardSaid : Prop := Claim7.holds Tryz.pinned (.plain (OpenSpec.ofChange stgMakesSpec)) stgMakesCard

/-- THE TIED CARD OF 'teasellaw16.StgLooked'. -/
def stgLookedCard : Claim7 := { stood := { row := stgLookedRow, standIns := [], harness := (true, "ecef51e64281092a04ad20e31ec75ff11e294e459d05e0667809347296fa243d"), looks := true }, kinds := [], alts := [], laidByText := true, laidKinds := [.data, .data, .data, .sentinel, .sentinel], laidTests := true, laidLooks := .later }
def StgLookedCardSaid : Prop := Claim7.holds Tryz.pinned (.plain (OpenSpec.ofChange stgLookedSpec)) stgLookedCard

/-- THE SECOND FORM's CARD OF 'teasellaw16.StgMakes'. -/
def stgMakesUptoCard : Claim7 := { stood := { row := stgMakesUptoRow, standIns := [], harness := (true, "ecef51e64281092a04ad20e31ec75ff11e294e459d05e0667809347296fa243d"), looks := true }, kinds := [], alts := [], laidByText := true, laidKinds := [.data, .data, .data, .sentinel, .sentinel], laidTests := true, laidLooks := .later }
def StgMakesUptoCardSaid : Prop := Claim7.holds Tryz.pinned (.plain (OpenSpec.upto stgMakesSpec)) stgMakesUptoCard

/-- THE SECOND FORM's CARD OF 'teasellaw16.StgLooked'. -/
def stgLookedUptoCard : Claim7 := { stood := { row := stgLookedUptoRow, standIns := [], harness := (true, "ecef51e64281092a04ad20e31ec75ff11e294e459d05e0667809347296fa243d"), looks := true }, kinds := [], alts := [], laidByText := true, laidKinds := [.data, .data, .data, .sentinel, .sentinel], laidTests := true, laidLooks := .later }
def StgLookedUptoCardSaid : Prop := Claim7.holds Tryz.pinned (.plain (OpenSpec.upto stgLookedSpec)) stgLookedUptoCard
end Rows
end Go.Proofs.YtedejleokilohaaGreatDoor
