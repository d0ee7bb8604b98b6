/-
  DERIVED. GIVEN WITH THE SEED: THE CARDS: each row of YtcopfafknmpneaaGreatDoorRows.lean that lists a variable, with what it lists TIED to the program's text (the seventh form; the later family's looks); each row that meets fmt, with fmt's text TOLD by the authors' own Lean function (tested against real Go, not proved from fmt's source: count such statements apart). THE CARD IS WHAT COUNTS. Prove the row's statement (the work); the ties are given (YtcopfafknmpneaaGreatDoorTie.lean); close each card by the builder's one call (the guide's Derived/Test/ToyasCard.lean, 'card_holds'). Laid BY PROGRAM, IN A SANDBOX (cutbox-door.mjs). By AI agents, Wed Nov 11 2026. No macro, syntax, notation, axiom, sorry.
-/
import Derived.Test.YtcopfafknmpneaaGreatDoorRows
import GoSem.ClaimSeven
namespace Go.Proofs.YtcopfafknmpneaaGreatDoor
namespace Rows

/-- THE TIED CARD OF 'teasellaw10.CoreParts'. -/
def corePartsCard : Claim7 := { stood := { row := corePartsRow, standIns := [], harness := (true, "fbcc20a7f5360f67272a2e6e7e43a5ed168ba44f7f5872fd2a1d5e8281e0e597"), looks := true }, kinds := [], alts := [], laidByText := true, laidKinds := [.data, .data, .data, .sentinel, .sentinel], laidTests := true, laidLooks := .later }
def CorePartsCardSaid : Prop := Claim7.holds Tryz.pinned (.plain (OpenSpec.ofChange corePartsSpec)) corePartsCard

/-- THE TIED CARD OF 'teasellaw10.CoreAsks'. -/
def coreAsksCard : Claim7 := { stood := { row := coreAsksRow, standIns := [], harness := (true, "fbcc20a7f5360f67272a2e6e7e43a5ed168ba44f7f5872fd2a1d5e8281e0e597"), looks := true }, kinds := [], alts := [], laidByText := true, laidKinds := [.data, .data, .data, .sentinel, .sentinel], laidTests := true, laidLooks := .later }
def CoreAsksCardSaid : Prop := Claim7.holds Tryz.pinned (.plain (OpenSpec.ofChange coreAsksSpec)) coreAsksCard

/-- THE TIED CARD OF 'teasellaw10.CoreReplaces'. -/
def coreReplacesCard : Claim7 := { stood := { row := coreReplacesRow, standIns := [], harness := (true, "fbcc20a7f5360f67272a2e6e7e43a5ed168ba44f7f5872fd2a1d5e8281e0e597"), looks := true }, kinds := [], alts := [], laidByText := true, laidKinds := [.data, .data, .data, .sentinel, .sentinel], laidTests := true, laidLooks := .later }
def CoreReplacesCardSaid : Prop := Claim7.holds Tryz.pinned (.plain (OpenSpec.ofChange coreReplacesSpec)) coreReplacesCard

/-- THE TIED CARD OF 'teasellaw10.CoreGroups'. -/
def coreGroupsCard : Claim7 := { stood := { row := coreGroupsRow, standIns := [], harness := (true, "fbcc20a7f5360f67272a2e6e7e43a5ed168ba44f7f5872fd2a1d5e8281e0e597"), looks := true }, kinds := [], alts := [], laidByText := true, laidKinds := [.data, .data, .data, .sentinel, .sentinel], laidTests := true, laidLooks := .later }
def CoreGroupsCardSaid : Prop := Claim7.holds Tryz.pinned (.plain (OpenSpec.ofChange coreGroupsSpec)) coreGroupsCard

/-- THE TIED CARD OF 'teasellaw10.CoreStands'. -/
def coreStandsCard : Claim7 := { stood := { row := coreStandsRow, standIns := [], harness := (true, "fbcc20a7f5360f67272a2e6e7e43a5ed168ba44f7f5872fd2a1d5e8281e0e597"), looks := true }, kinds := [], alts := [], laidByText := true, laidKinds := [.data, .data, .data, .sentinel, .sentinel], laidTests := true, laidLooks := .later }
def CoreStandsCardSaid : Prop := Claim7.holds Tryz.pinned (.plain (OpenSpec.ofChange coreStandsSpec)) coreStandsCard

/-- THE SECOND FORM's CARD OF 'teasellaw10.CoreParts'. -/
def corePartsUptoCard : Claim7 := { stood := { row := corePartsUptoRow, standIns := [], harness := (true, "fbcc20a7f5360f67272a2e6e7e43a5ed168ba44f7f5872fd2a1d5e8281e0e597"), looks := true }, kinds := [], alts := [], laidByText := true, laidKinds := [.data, .data, .data, .sentinel, .sentinel], laidTests := true, laidLooks := .later }
def CorePartsUptoCardSaid : Prop := Claim7.holds Tryz.pinned (.plain (OpenSpec.upto corePartsSpec)) corePartsUptoCard

/-- THE SECOND FORM's CARD OF 'teasellaw10.CoreAsks'. -/
def coreAsksUptoCard : Claim7 := { stood := { row := coreAsksUptoRow, standIns := [], harness := (true, "fbcc20a7f5360f67272a2e6e7e43a5ed168ba44f7f5872fd2a1d5e8281e0e597"), looks := true }, kinds := [], alts := [], laidByText := true, laidKinds := [.data, .data, .data, .sentinel, .sentinel], laidTests := true, laidLooks := .later }
def CoreAsksUptoCardSaid : Prop := Claim7.holds Tryz.pinned (.plain (OpenSpec.upto coreAsksSpec)) coreAsksUptoCard

/-- THE SECOND FORM's CARD OF 'teasellaw10.CoreReplaces'. -/
def coreReplacesUptoCard : Claim7 := { stood := { row := coreReplacesUptoRow, standIns := [], harness := (true, "fbcc20a7f5360f67272a2e6e7e43a5ed168ba44f7f5872fd2a1d5e8281e0e597"), looks := true }, kinds := [], alts := [], laidByText := true, laidKinds := [.data, .data, .data, .sentinel, .sentinel], laidTests := true, laidLooks := .later }
def CoreReplacesUptoCardSaid : Prop := Claim7.holds Tryz.pinned (.plain (OpenSpec.upto coreReplacesSpec)) coreReplacesUptoCard

/-- THE SECOND FORM's CARD OF 'teasellaw10.CoreGroups'. -/
def coreGroupsUptoCard : Claim7 := { stood := { row := coreGroupsUptoRow, standIns := [], harness := (true, "fbcc20a7f5360f67272a2e6e7e43a5ed168ba44f7f5872fd2a1d5e8281e0e597"), looks := true }, kinds := [], alts := [], laidByText := true, laidKinds := [.data, .data, .data, .sentinel, .sentinel], laidTests := true, laidLooks := .later }
def CoreGroupsUptoCardSaid : Prop := Claim7.holds Tryz.pinned (.plain (OpenSpec.upto coreGroupsSpec)) coreGroupsUptoCard

/-- THE SECOND FORM's CARD OF 'teasellaw10.CoreStands'. -/
def coreStandsUptoCard : Claim7 := { stood := { row := coreStandsUptoRow, standIns := [], harness := (true, "fbcc20a7f5360f67272a2e6e7e43a5ed168ba44f7f5872fd2a1d5e8281e0e597"), looks := true }, kinds := [], alts := [], laidByText := true, laidKinds := [.data, .data, .data, .sentinel, .sentinel], laidTests := true, laidLooks := .later }
def CoreStandsUptoCardSaid : Prop := Claim7.holds Tryz.pinned (.plain (OpenSpec.upto coreStandsSpec)) coreStandsUptoCard
end Rows
end Go.Proofs.YtcopfafknmpneaaGreatDoor
