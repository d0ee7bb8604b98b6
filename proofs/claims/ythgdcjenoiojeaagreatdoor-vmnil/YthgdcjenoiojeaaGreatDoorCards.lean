/-
  DERIVED. GIVEN WITH THE SEED: THE CARDS: each row of YthgdcjenoiojeaaGreatDoorRows.lean that lists a variable, with what it lists TIED to the program's text (the seventh form; the later family's looks); each row that meets fmt, with fmt's text TOLD by the authors' own Lean function (tested against real Go, not proved from fmt's source: count such statements apart). THE CARD IS WHAT COUNTS. Prove the row's statement (the work); the ties are given (YthgdcjenoiojeaaGreatDoorTie.lean); close each card by the builder's one call (the guide's Derived/Test/ToyasCard.lean, 'card_holds'). Laid BY PROGRAM, IN A SANDBOX (cutbox-door.mjs). By AI agents, Wed Nov 11 2026. No macro, syntax, notation, axiom, sorry.
-/
import Derived.Test.YthgdcjenoiojeaaGreatDoorRows
import GoSem.ClaimSeven
namespace Go.Proofs.YthgdcjenoiojeaaGreatDoor
namespace Rows

/-- THE TIED CARD OF 'teasellaw20.VmNil'. -/
def vmNilCard : Claim7 := { stood := { row := vmNilRow, standIns := [], harness := (true, "0df972647e8dc1a958dc947e2cb571c22a59342b2a35425547ba36f96a2663f4"), looks := false }, kinds := [], alts := [], laidByText := true, laidKinds := [.data], laidTests := true, laidLooks := .later }
def VmNilCardSaid : Prop := Claim7.holds Tryz.pinned (.plain (OpenSpec.ofChange vmNilSpec)) vmNilCard

/-- THE SECOND FORM's CARD OF 'teasellaw20.VmNil'. -/
def vmNilUptoCard : Claim7 := { stood := { row := vmNilUptoRow, standIns := [], harness := (true, "0df972647e8dc1a958dc947e2cb571c22a59342b2a35425547ba36f96a2663f4"), looks := false }, kinds := [], alts := [], laidByText := true, laidKinds := [.data], laidTests := true, laidLooks := .later }
def VmNilUptoCardSaid : Prop := Claim7.holds Tryz.pinned (.plain (OpenSpec.upto vmNilSpec)) vmNilUptoCard
end Rows
end Go.Proofs.YthgdcjenoiojeaaGreatDoor
