/-
  DERIVED. GIVEN WITH THE SEED: THE CARDS: each row of YtneklfhahljgnaaDoorRows.lean that lists a variable, with what it lists TIED to the program's text (the seventh form; the later family's looks); each row that meets fmt, with fmt's text TOLD by the authors' own Lean function (tested against real Go, not proved from fmt's source: count such statements apart). THE CARD IS WHAT COUNTS. Prove the row's statement (the work); the ties are given (YtneklfhahljgnaaDoorTie.lean); close each card by the builder's one call (the guide's Derived/Test/ToyasCard.lean, 'card_holds'). Laid BY PROGRAM, IN A SANDBOX (cutbox-door.mjs). By AI agents, Wed Nov 11 2026. No macro, syntax, notation, axiom, sorry.
-/
import Derived.Test.YtneklfhahljgnaaDoorRows
import GoSem.ClaimSeven
namespace Go.Proofs.YtneklfhahljgnaaDoor
namespace Rows

/-- THE TIED CARD OF 'teasellaw22.LiveNeeds'. -/
def liveNeedsCard : Claim7 := { stood := { row := liveNeedsRow, standIns := [], harness := (true, "2172afc0a36a11d0712b7b8a9c4f3acaf58fa10d8cac9dcd3b19921a2fd403f2"), looks := false }, kinds := [], alts := [], laidByText := true, laidKinds := [.data], laidTests := true, laidLooks := .later }
def LiveNeedsCardSaid : Prop := Claim7.holds Tryd.pinned (.plain (OpenSpec.ofChange liveNeedsSpec)) liveNeedsCard

/-- THE TIED CARD OF 'teasellaw22.LiveShifts'. -/
def liveShiftsCard : Claim7 := { stood := { row := liveShiftsRow, standIns := [], harness := (true, "2172afc0a36a11d0712b7b8a9c4f3acaf58fa10d8cac9dcd3b19921a2fd403f2"), looks := false }, kinds := [], alts := [], laidByText := true, laidKinds := [.data], laidTests := true, laidLooks := .later }
def LiveShiftsCardSaid : Prop := Claim7.holds Tryd.pinned (.plain (OpenSpec.ofChange liveShiftsSpec)) liveShiftsCard

/-- THE TIED CARD OF 'teasellaw22.LiveMoves'. -/
def liveMovesCard : Claim7 := { stood := { row := liveMovesRow, standIns := [], harness := (true, "2172afc0a36a11d0712b7b8a9c4f3acaf58fa10d8cac9dcd3b19921a2fd403f2"), looks := false }, kinds := [], alts := [], laidByText := true, laidKinds := [.data], laidTests := true, laidLooks := .later }
def LiveMovesCardSaid : Prop := Claim7.holds Tryd.pinned (.plain (OpenSpec.ofChange liveMovesSpec)) liveMovesCard

/-- THE TIED CARD OF 'teasellaw22.LiveReads'. -/
def liveReadsCard : Claim7 := { stood := { row := liveReadsRow, standIns := [], harness := (true, "2172afc0a36a11d0712b7b8a9c4f3acaf58fa10d8cac9dcd3b19921a2fd403f2"), looks := false }, kinds := [], alts := [], laidByText := true, laidKinds := [.data], laidTests := true, laidLooks := .later }
def LiveReadsCardSaid : Prop := Claim7.holds Tryd.pinned (.plain (OpenSpec.ofChange liveReadsSpec)) liveReadsCard

/-- THE TIED CARD OF 'teasellaw22.LiveSpans'. -/
def liveSpansCard : Claim7 := { stood := { row := liveSpansRow, standIns := [], harness := (true, "2172afc0a36a11d0712b7b8a9c4f3acaf58fa10d8cac9dcd3b19921a2fd403f2"), looks := false }, kinds := [], alts := [], laidByText := true, laidKinds := [.data], laidTests := true, laidLooks := .later }
def LiveSpansCardSaid : Prop := Claim7.holds Tryd.pinned (.plain (OpenSpec.ofChange liveSpansSpec)) liveSpansCard

/-- THE SECOND FORM's CARD OF 'teasellaw22.LiveNeeds'. -/
def liveNeedsUptoCard : Claim7 := { stood := { row := liveNeedsUptoRow, standIns := [], harness := (true, "2172afc0a36a11d0712b7b8a9c4f3acaf58fa10d8cac9dcd3b19921a2fd403f2"), looks := false }, kinds := [], alts := [], laidByText := true, laidKinds := [.data], laidTests := true, laidLooks := .later }
def LiveNeedsUptoCardSaid : Prop := Claim7.holds Tryd.pinned (.plain (OpenSpec.upto liveNeedsSpec)) liveNeedsUptoCard

/-- THE SECOND FORM's CARD OF 'teasellaw22.LiveShifts'. -/
def liveShiftsUptoCard : Claim7 := { stood := { row := liveShiftsUptoRow, standIns := [], harness := (true, "2172afc0a36a11d0712b7b8a9c4f3acaf58fa10d8cac9dcd3b19921a2fd403f2"), looks := false }, kinds := [], alts := [], laidByText := true, laidKinds := [.data], laidTests := true, laidLooks := .later }
def LiveShiftsUptoCardSaid : Prop := Claim7.holds Tryd.pinned (.plain (OpenSpec.upto liveShiftsSpec)) liveShiftsUptoCard

/-- THE SECOND FORM's CARD OF 'teasellaw22.LiveMoves'. -/
def liveMovesUptoCard : Claim7 := { stood := { row := liveMovesUptoRow, standIns := [], harness := (true, "2172afc0a36a11d0712b7b8a9c4f3acaf58fa10d8cac9dcd3b19921a2fd403f2"), looks := false }, kinds := [], alts := [], laidByText := true, laidKinds := [.data], laidTests := true, laidLooks := .later }
def LiveMovesUptoCardSaid : Prop := Claim7.holds Tryd.pinned (.plain (OpenSpec.upto liveMovesSpec)) liveMovesUptoCard

/-- THE SECOND FORM's CARD OF 'teasellaw22.LiveReads'. -/
def liveReadsUptoCard : Claim7 := { stood := { row := liveReadsUptoRow, standIns := [], harness := (true, "2172afc0a36a11d0712b7b8a9c4f3acaf58fa10d8cac9dcd3b19921a2fd403f2"), looks := false }, kinds := [], alts := [], laidByText := true, laidKinds := [.data], laidTests := true, laidLooks := .later }
def LiveReadsUptoCardSaid : Prop := Claim7.holds Tryd.pinned (.plain (OpenSpec.upto liveReadsSpec)) liveReadsUptoCard

/-- THE SECOND FORM's CARD OF 'teasellaw22.LiveSpans'. -/
def liveSpansUptoCard : Claim7 := { stood := { row := liveSpansUptoRow, standIns := [], harness := (true, "2172afc0a36a11d0712b7b8a9c4f3acaf58fa10d8cac9dcd3b19921a2fd403f2"), looks := false }, kinds := [], alts := [], laidByText := true, laidKinds := [.data], laidTests := true, laidLooks := .later }
def LiveSpansUptoCardSaid : Prop := Claim7.holds Tryd.pinned (.plain (OpenSpec.upto liveSpansSpec)) liveSpansUptoCard
end Rows
end Go.Proofs.YtneklfhahljgnaaDoor
