/-
  DERIVED. GIVEN WITH THE SEED: THE CARDS: each row of YtehfihnfeakmaaaGreatDoorRows.lean that lists a variable, with what it lists TIED to the program's text (the seventh form; the later family's looks); each row that meets fmt, with fmt's text TOLD by the authors' own Lean function (tested against real Go, not proved from fmt's source: count such statements apart). THE CARD IS WHAT COUNTS. Prove the row's statement (the work); the ties are given (YtehfihnfeakmaaaGreatDoorTie.lean); close each card by the builder's one call (the guide's Derived/Test/ToyasCard.lean, 'card_holds'). Laid BY PROGRAM, IN A SANDBOX (cutbox-door.mjs). By AI agents, Wed Nov 11 2026. No macro, syntax, notation, axiom, sorry.
-/
import Derived.Test.YtehfihnfeakmaaaGreatDoorRows
import GoSem.ClaimSeven
namespace Go.Proofs.YtehfihnfeakmaaaGreatDoor
namespace Rows

/-- THE TIED CARD OF 'teasellaw15.DemandRuns'. -/
def demandRunsCard : Claim7 := { stood := { row := demandRunsRow, standIns := [], harness := (true, "eea54d24f668acc9ca2ca42cc205f3e4608f978c16a60b8107ab34d27b60ab13"), looks := true }, kinds := [], alts := [], laidByText := true, laidKinds := [.data, .data, .data, .sentinel, .sentinel], laidTests := true, laidLooks := .later }
def DemandRunsCardSaid : Prop := Claim7.holds Tryz.pinned (.plain (OpenSpec.ofChange demandRunsSpec)) demandRunsCard

/-- THE TIED CARD OF 'teasellaw15.DemandFree'. -/
def demandFreeCard : Claim7 := { stood := { row := demandFreeRow, standIns := [], harness := (true, "eea54d24f668acc9ca2ca42cc205f3e4608f978c16a60b8107ab34d27b60ab13"), looks := true }, kinds := [], alts := [], laidByText := true, laidKinds := [.data, .data, .data, .sentinel, .sentinel], laidTests := true, laidLooks := .later }
def DemandFreeCardSaid : Prop := Claim7.holds Tryz.pinned (.plain (OpenSpec.ofChange demandFreeSpec)) demandFreeCard

/-- THE TIED CARD OF 'teasellaw15.DemandKeeps'. -/
def demandKeepsCard : Claim7 := { stood := { row := demandKeepsRow, standIns := [], harness := (true, "eea54d24f668acc9ca2ca42cc205f3e4608f978c16a60b8107ab34d27b60ab13"), looks := true }, kinds := [], alts := [], laidByText := true, laidKinds := [.data, .data, .data, .sentinel, .sentinel], laidTests := true, laidLooks := .later }
def DemandKeepsCardSaid : Prop := Claim7.holds Tryz.pinned (.plain (OpenSpec.ofChange demandKeepsSpec)) demandKeepsCard

/-- THE SECOND FORM's CARD OF 'teasellaw15.DemandRuns'. -/
def demandRunsUptoCard : Claim7 := { stood := { row := demandRunsUptoRow, standIns := [], harness := (true, "eea54d24f668acc9ca2ca42cc205f3e4608f978c16a60b8107ab34d27b60ab13"), looks := true }, kinds := [], alts := [], laidByText := true, laidKinds := [.data, .data, .data, .sentinel, .sentinel], laidTests := true, laidLooks := .later }
def DemandRunsUptoCardSaid : Prop := Claim7.holds Tryz.pinned (.plain (OpenSpec.upto demandRunsSpec)) demandRunsUptoCard

/-- THE SECOND FORM's CARD OF 'teasellaw15.DemandFree'. -/
def demandFreeUptoCard : Claim7 := { stood := { row := demandFreeUptoRow, standIns := [], harness := (true, "eea54d24f668acc9ca2ca42cc205f3e4608f978c16a60b8107ab34d27b60ab13"), looks := true }, kinds := [], alts := [], laidByText := true, laidKinds := [.data, .data, .data, .sentinel, .sentinel], laidTests := true, laidLooks := .later }
def DemandFreeUptoCardSaid : Prop := Claim7.holds Tryz.pinned (.plain (OpenSpec.upto demandFreeSpec)) demandFreeUptoCard

/-- THE SECOND FORM's CARD OF 'teasellaw15.DemandKeeps'. -/
def demandKeepsUptoCard : Claim7 := { stood := { row := demandKeepsUptoRow, standIns := [], harness := (true, "eea54d24f668acc9ca2ca42cc205f3e4608f978c16a60b8107ab34d27b60ab13"), looks := true }, kinds := [], alts := [], laidByText := true, laidKinds := [.data, .data, .data, .sentinel, .sentinel], laidTests := true, laidLooks := .later }
def DemandKeepsUptoCardSaid : Prop := Claim7.holds Tryz.pinned (.plain (OpenSpec.upto demandKeepsSpec)) demandKeepsUptoCard
end Rows
end Go.Proofs.YtehfihnfeakmaaaGreatDoor
