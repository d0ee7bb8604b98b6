/-
  DERIVED. GIVEN WITH THE SEED: THE CARDS: each row of YtjdfoonhnmpkdaaGreatDoorRows.lean that lists a variable, with what it lists TIED to the program's text (the seventh form; the later family's looks); each row that meets fmt, with fmt's text TOLD by the authors' own Lean function (tested against real Go, not proved from fmt's source: count such statements apart). THE CARD IS WHAT COUNTS. Prove the row's statement (the work); the ties are given (YtjdfoonhnmpkdaaGreatDoorTie.lean); close each card by the builder's one call (the guide's Derived/Test/ToyasCard.lean, 'card_holds'). Laid BY PROGRAM, IN A SANDBOX (cutbox-door.mjs). By AI agents, Wed Nov 11 2026. No macro, syntax, notation, axiom, sorry.
-/
import Derived.Test.YtjdfoonhnmpkdaaGreatDoorRows
import GoSem.ClaimSeven
namespace Go.Proofs.YtjdfoonhnmpkdaaGreatDoor
namespace Rows

/-- THE TIED CARD OF 'teasellaw14.SimplifyKeeps'. -/
def simplifyKeepsCard : Claim7 := { stood := { row := simplifyKeepsRow, standIns := [], harness := (true, "251e3c39215de3416ecb3745151c0e9c88465f2ae89d0228a91daf962b17823f"), looks := true }, kinds := [], alts := [], laidByText := true, laidKinds := [.data, .data, .data, .sentinel, .sentinel], laidTests := true, laidLooks := .later }
def SimplifyKeepsCardSaid : Prop := Claim7.holds Tryz.pinned (.plain (OpenSpec.ofChange simplifyKeepsSpec)) simplifyKeepsCard

/-- THE TIED CARD OF 'teasellaw14.SimplifyNames'. -/
def simplifyNamesCard : Claim7 := { stood := { row := simplifyNamesRow, standIns := [], harness := (true, "251e3c39215de3416ecb3745151c0e9c88465f2ae89d0228a91daf962b17823f"), looks := true }, kinds := [], alts := [], laidByText := true, laidKinds := [.data, .data, .data, .sentinel, .sentinel], laidTests := true, laidLooks := .later }
def SimplifyNamesCardSaid : Prop := Claim7.holds Tryz.pinned (.plain (OpenSpec.ofChange simplifyNamesSpec)) simplifyNamesCard

/-- THE TIED CARD OF 'teasellaw14.SimplifyFolds'. -/
def simplifyFoldsCard : Claim7 := { stood := { row := simplifyFoldsRow, standIns := [], harness := (true, "251e3c39215de3416ecb3745151c0e9c88465f2ae89d0228a91daf962b17823f"), looks := true }, kinds := [], alts := [], laidByText := true, laidKinds := [.data, .data, .data, .sentinel, .sentinel], laidTests := true, laidLooks := .later }
def SimplifyFoldsCardSaid : Prop := Claim7.holds Tryz.pinned (.plain (OpenSpec.ofChange simplifyFoldsSpec)) simplifyFoldsCard

/-- THE TIED CARD OF 'teasellaw14.SimplifyDrops'. -/
def simplifyDropsCard : Claim7 := { stood := { row := simplifyDropsRow, standIns := [], harness := (true, "251e3c39215de3416ecb3745151c0e9c88465f2ae89d0228a91daf962b17823f"), looks := true }, kinds := [], alts := [], laidByText := true, laidKinds := [.data, .data, .data, .sentinel, .sentinel], laidTests := true, laidLooks := .later }
def SimplifyDropsCardSaid : Prop := Claim7.holds Tryz.pinned (.plain (OpenSpec.ofChange simplifyDropsSpec)) simplifyDropsCard

/-- THE SECOND FORM's CARD OF 'teasellaw14.SimplifyKeeps'. -/
def simplifyKeepsUptoCard : Claim7 := { stood := { row := simplifyKeepsUptoRow, standIns := [], harness := (true, "251e3c39215de3416ecb3745151c0e9c88465f2ae89d0228a91daf962b17823f"), looks := true }, kinds := [], alts := [], laidByText := true, laidKinds := [.data, .data, .data, .sentinel, .sentinel], laidTests := true, laidLooks := .later }
def SimplifyKeepsUptoCardSaid : Prop := Claim7.holds Tryz.pinned (.plain (OpenSpec.upto simplifyKeepsSpec)) simplifyKeepsUptoCard

/-- THE SECOND FORM's CARD OF 'teasellaw14.SimplifyNames'. -/
def simplifyNamesUptoCard : Claim7 := { stood := { row := simplifyNamesUptoRow, standIns := [], harness := (true, "251e3c39215de3416ecb3745151c0e9c88465f2ae89d0228a91daf962b17823f"), looks := true }, kinds := [], alts := [], laidByText := true, laidKinds := [.data, .data, .data, .sentinel, .sentinel], laidTests := true, laidLooks := .later }
def SimplifyNamesUptoCardSaid : Prop := Claim7.holds Tryz.pinned (.plain (OpenSpec.upto simplifyNamesSpec)) simplifyNamesUptoCard

/-- THE SECOND FORM's CARD OF 'teasellaw14.SimplifyFolds'. -/
def simplifyFoldsUptoCard : Claim7 := { stood := { row := simplifyFoldsUptoRow, standIns := [], harness := (true, "251e3c39215de3416ecb3745151c0e9c88465f2ae89d0228a91daf962b17823f"), looks := true }, kinds := [], alts := [], laidByText := true, laidKinds := [.data, .data, .data, .sentinel, .sentinel], laidTests := true, laidLooks := .later }
def SimplifyFoldsUptoCardSaid : Prop := Claim7.holds Tryz.pinned (.plain (OpenSpec.upto simplifyFoldsSpec)) simplifyFoldsUptoCard

/-- THE SECOND FORM's CARD OF 'teasellaw14.SimplifyDrops'. -/
def simplifyDropsUptoCard : Claim7 := { stood := { row := simplifyDropsUptoRow, standIns := [], harness := (true, "251e3c39215de3416ecb3745151c0e9c88465f2ae89d0228a91daf962b17823f"), looks := true }, kinds := [], alts := [], laidByText := true, laidKinds := [.data, .data, .data, .sentinel, .sentinel], laidTests := true, laidLooks := .later }
def SimplifyDropsUptoCardSaid : Prop := Claim7.holds Tryz.pinned (.plain (OpenSpec.upto simplifyDropsSpec)) simplifyDropsUptoCard
end Rows
end Go.Proofs.YtjdfoonhnmpkdaaGreatDoor
