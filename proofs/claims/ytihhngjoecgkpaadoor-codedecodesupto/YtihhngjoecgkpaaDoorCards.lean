/-
  DERIVED. GIVEN WITH THE SEED: THE CARDS: each row of YtihhngjoecgkpaaDoorRows.lean that lists a variable, with what it lists TIED to the program's text (the seventh form; the later family's looks); each row that meets fmt, with fmt's text TOLD by the authors' own Lean function (tested against real Go, not proved from fmt's source: count such statements apart). THE CARD IS WHAT COUNTS. Prove the row's statement (the work); the ties are given (YtihhngjoecgkpaaDoorTie.lean); close each card by the builder's one call (the guide's Derived/Test/ToyasCard.lean, 'card_holds'). Laid BY PROGRAM, IN A SANDBOX (cutbox-door.mjs). By AI agents, Wed Nov 11 2026. No macro, syntax, notation, axiom, sorry.
-/
import Derived.Test.YtihhngjoecgkpaaDoorRows
import GoSem.ClaimSeven
namespace Go.Proofs.YtihhngjoecgkpaaDoor
namespace Rows

/-- THE TIED CARD OF 'teasellaw17.CodeChecks'. -/
def codeChecksCard : Claim7 := { stood := { row := codeChecksRow, standIns := [], harness := (true, "696a12d8f2d3356872e25e266952a4b2a7494a7cf84cdd8a16ee6f2f228d4438"), looks := false }, kinds := [], alts := [], laidByText := true, laidKinds := [.data], laidTests := true, laidLooks := .later }
def CodeChecksCardSaid : Prop := Claim7.holds Tryd.pinned (.plain (OpenSpec.ofChange codeChecksSpec)) codeChecksCard

/-- THE TIED CARD OF 'teasellaw17.CodeDecodes'. -/
def codeDecodesCard : Claim7 := { stood := { row := codeDecodesRow, standIns := [], harness := (true, "696a12d8f2d3356872e25e266952a4b2a7494a7cf84cdd8a16ee6f2f228d4438"), looks := false }, kinds := [], alts := [], laidByText := true, laidKinds := [.data], laidTests := true, laidLooks := .later }
def CodeDecodesCardSaid : Prop := Claim7.holds Tryd.pinned (.plain (OpenSpec.ofChange codeDecodesSpec)) codeDecodesCard

/-- THE TIED CARD OF 'teasellaw17.CodeBack'. -/
def codeBackCard : Claim7 := { stood := { row := codeBackRow, standIns := [], harness := (true, "696a12d8f2d3356872e25e266952a4b2a7494a7cf84cdd8a16ee6f2f228d4438"), looks := false }, kinds := [], alts := [], laidByText := true, laidKinds := [.data], laidTests := true, laidLooks := .later }
def CodeBackCardSaid : Prop := Claim7.holds Tryd.pinned (.plain (OpenSpec.ofChange codeBackSpec)) codeBackCard

/-- THE TIED CARD OF 'teasellaw17.CodeStays'. -/
def codeStaysCard : Claim7 := { stood := { row := codeStaysRow, standIns := [], harness := (true, "696a12d8f2d3356872e25e266952a4b2a7494a7cf84cdd8a16ee6f2f228d4438"), looks := false }, kinds := [], alts := [], laidByText := true, laidKinds := [.data], laidTests := true, laidLooks := .later }
def CodeStaysCardSaid : Prop := Claim7.holds Tryd.pinned (.plain (OpenSpec.ofChange codeStaysSpec)) codeStaysCard

/-- THE TIED CARD OF 'teasellaw17.CodeApart'. -/
def codeApartCard : Claim7 := { stood := { row := codeApartRow, standIns := [], harness := (true, "696a12d8f2d3356872e25e266952a4b2a7494a7cf84cdd8a16ee6f2f228d4438"), looks := false }, kinds := [], alts := [], laidByText := true, laidKinds := [.data], laidTests := true, laidLooks := .later }
def CodeApartCardSaid : Prop := Claim7.holds Tryd.pinned (.plain (OpenSpec.ofChange codeApartSpec)) codeApartCard

/-- THE TIED CARD OF 'teasellaw17.CodeWide'. -/
def codeWideCard : Claim7 := { stood := { row := codeWideRow, standIns := [], harness := (true, "696a12d8f2d3356872e25e266952a4b2a7494a7cf84cdd8a16ee6f2f228d4438"), looks := false }, kinds := [], alts := [], laidByText := true, laidKinds := [.data], laidTests := true, laidLooks := .later }
def CodeWideCardSaid : Prop := Claim7.holds Tryd.pinned (.plain (OpenSpec.ofChange codeWideSpec)) codeWideCard

/-- THE SECOND FORM's CARD OF 'teasellaw17.CodeChecks'. -/
def codeChecksUptoCard : Claim7 := { stood := { row := codeChecksUptoRow, standIns := [], harness := (true, "696a12d8f2d3356872e25e266952a4b2a7494a7cf84cdd8a16ee6f2f228d4438"), looks := false }, kinds := [], alts := [], laidByText := true, laidKinds := [.data], laidTests := true, laidLooks := .later }
def CodeChecksUptoCardSaid : Prop := Claim7.holds Tryd.pinned (.plain (OpenSpec.upto codeChecksSpec)) codeChecksUptoCard

/-- THE SECOND FORM's CARD OF 'teasellaw17.CodeDecodes'. -/
def codeDecodesUptoCard : Claim7 := { stood := { row := codeDecodesUptoRow, standIns := [], harness := (true, "696a12d8f2d3356872e25e266952a4b2a7494a7cf84cdd8a16ee6f2f228d4438"), looks := false }, kinds := [], alts := [], laidByText := true, laidKinds := [.data], laidTests := true, laidLooks := .later }
def CodeDecodesUptoCardSaid : Prop := Claim7.holds Tryd.pinned (.plain (OpenSpec.upto codeDecodesSpec)) codeDecodesUptoCard

/-- THE SECOND FORM's CARD OF 'teasellaw17.CodeBack'. -/
def codeBackUptoCard : Claim7 := { stood := { row := codeBackUptoRow, standIns := [], harness := (true, "696a12d8f2d3356872e25e266952a4b2a7494a7cf84cdd8a16ee6f2f228d4438"), looks := false }, kinds := [], alts := [], laidByText := true, laidKinds := [.data], laidTests := true, laidLooks := .later }
def CodeBackUptoCardSaid : Prop := Claim7.holds Tryd.pinned (.plain (OpenSpec.upto codeBackSpec)) codeBackUptoCard

/-- THE SECOND FORM's CARD OF 'teasellaw17.CodeStays'. -/
def codeStaysUptoCard : Claim7 := { stood := { row := codeStaysUptoRow, standIns := [], harness := (true, "696a12d8f2d3356872e25e266952a4b2a7494a7cf84cdd8a16ee6f2f228d4438"), looks := false }, kinds := [], alts := [], laidByText := true, laidKinds := [.data], laidTests := true, laidLooks := .later }
def CodeStaysUptoCardSaid : Prop := Claim7.holds Tryd.pinned (.plain (OpenSpec.upto codeStaysSpec)) codeStaysUptoCard

/-- THE SECOND FORM's CARD OF 'teasellaw17.CodeApart'. -/
def codeApartUptoCard : Claim7 := { stood := { row := codeApartUptoRow, standIns := [], harness := (true, "696a12d8f2d3356872e25e266952a4b2a7494a7cf84cdd8a16ee6f2f228d4438"), looks := false }, kinds := [], alts := [], laidByText := true, laidKinds := [.data], laidTests := true, laidLooks := .later }
def CodeApartUptoCardSaid : Prop := Claim7.holds Tryd.pinned (.plain (OpenSpec.upto codeApartSpec)) codeApartUptoCard

/-- THE SECOND FORM's CARD OF 'teasellaw17.CodeWide'. -/
def codeWideUptoCard : Claim7 := { stood := { row := codeWideUptoRow, standIns := [], harness := (true, "696a12d8f2d3356872e25e266952a4b2a7494a7cf84cdd8a16ee6f2f228d4438"), looks := false }, kinds := [], alts := [], laidByText := true, laidKinds := [.data], laidTests := true, laidLooks := .later }
def CodeWideUptoCardSaid : Prop := Claim7.holds Tryd.pinned (.plain (OpenSpec.upto codeWideSpec)) codeWideUptoCard
end Rows
end Go.Proofs.YtihhngjoecgkpaaDoor
