/-
  NARROWER THAN 'FOR EVERY INPUT', by the rows' own cells (each row's printed sentence says how): CodeChecks: laid · CodeDecodes: laid · CodeBack: laid · CodeStays: laid · CodeApart: laid · CodeWide: laid.
  DERIVED. THE GIVEN ROWS OF THIS SEAT. 6 by the template 'for every input the law returns true; each argument reads behind the call as it read before'; 0 by the template 'total and deterministic' (their statements: YtihhngjoecgkpaaDoorTotals.lean).
  GIVEN WITH THE SEED: the statements are not yours to turn. If you find one false, say at which input.
  Laid BY PROGRAM, IN A SANDBOX (cutbox-rows.mjs): the forced cells as the released guide's own fill.sh prints them over the translation ddcf031b3cd1f77f… (all of the seat's roots in one cut). By AI agents, Wed Nov 11 2026. No macro, syntax, notation, axiom, sorry.
-/
import Derived.Test.YtihhngjoecgkpaaDoorChecked
import GoSem.Claim
import GoSem.ClaimJoined
import GoSem.ClaimMapViews
import Derived.JoinedTies
import Derived.KernelRfl
namespace Go.Proofs.YtihhngjoecgkpaaDoor
/- THE CELL 'sum', in the pinned program and in every row, IS THE sha256 OF THE DUMP (.gsa) THAT YtihhngjoecgkpaaDoorProg.lean LOADS. Nothing in Lean hashes anything: it is a label: what it is worth is what the hold of that sum in a sandbox is worth. -/
noncomputable def Tryd.pinned : Pinned := { name := "ytihhngjoecgkpaadoor", sum := "ddcf031b3cd1f77fd737cc7bd57c58a4f99eda02da49e6d4b4c539da2e8b3ee8", checked := Tryd.checked }
namespace Rows
def none {H : Type} : Left H := { results := [], args := [] }

/- WHAT THE LISTED PACKAGE-LEVEL VARIABLES READ AS WHEN THE CALL BEGINS. Each datum BY PROGRAM (the guide's laid-datum.mjs) off the statement by which the dump's own 'gosem.cut.vars' lays the variable. In a bare row this is a premise. The card (YtihhngjoecgkpaaDoorCards.lean) ties it to the program's text. -/
def laid_teasel_code_fields {H : Type} : DataW H := .agg [.lit (.int .i64 0), .lit (.int .i64 9), .lit (.int .i64 3), .lit (.int .i64 7), .lit (.int .i64 7), .lit (.int .i64 7), .lit (.int .i64 7), .lit (.int .i64 7), .lit (.int .i64 7), .lit (.int .i64 7), .lit (.int .i64 7), .lit (.int .i64 9), .lit (.int .i64 25), .lit (.int .i64 25), .lit (.int .i64 11), .lit (.int .i64 3), .lit (.int .i64 19), .lit (.int .i64 82), .lit (.int .i64 66), .lit (.int .i64 66), .lit (.int .i64 11), .lit (.int .i64 106), .lit (.int .i64 42), .lit (.int .i64 72), .lit (.int .i64 1), .lit (.int .i64 2), .lit (.int .i64 64)]

/-- 'teasellaw17.CodeChecks': WHATEVER THE INPUT: true; the input reads as it did. -/
def codeChecksSpec : ChangeSpec := { name := "codeChecks", fn := fun _ => fun
  | [d1, d2] => { results := [.lit (.bool true)], args := [d1, d2] }
  | _ => none }
def codeChecksRow : OpenClaim := { program := "ytihhngjoecgkpaadoor", sum := "ddcf031b3cd1f77fd737cc7bd57c58a4f99eda02da49e6d4b4c539da2e8b3ee8", func := "teasel/teasellaw17.CodeChecks", spec := "codeChecks", unfollowed := true, recurses := true, named := ["teasel/code.fields"], apart := false, laid := [("teasel/code.fields", laid_teasel_code_fields)] }
def CodeChecksSaid : Prop := codeChecksRow.holds Tryd.pinned (OpenSpec.ofChange codeChecksSpec)

/-- ITS FALSE NEIGHBOUR: 'it returns false'. Refute it at one input. -/
def codeChecksWrong : ChangeSpec := { name := "codeChecks", fn := fun _ => fun
  | [d1, d2] => { results := [.lit (.bool false)], args := [d1, d2] }
  | _ => none }
def CodeChecksWrongFalsely : Prop := codeChecksRow.holds Tryd.pinned (OpenSpec.ofChange codeChecksWrong)

/-- 'teasellaw17.CodeDecodes': WHATEVER THE INPUT: true; the input reads as it did. -/
def codeDecodesSpec : ChangeSpec := { name := "codeDecodes", fn := fun _ => fun
  | [d] => { results := [.lit (.bool true)], args := [d] }
  | _ => none }
def codeDecodesRow : OpenClaim := { program := "ytihhngjoecgkpaadoor", sum := "ddcf031b3cd1f77fd737cc7bd57c58a4f99eda02da49e6d4b4c539da2e8b3ee8", func := "teasel/teasellaw17.CodeDecodes", spec := "codeDecodes", unfollowed := true, recurses := true, named := ["teasel/code.fields"], apart := false, laid := [("teasel/code.fields", laid_teasel_code_fields)] }
def CodeDecodesSaid : Prop := codeDecodesRow.holds Tryd.pinned (OpenSpec.ofChange codeDecodesSpec)

/-- ITS FALSE NEIGHBOUR: 'it returns false'. Refute it at one input. -/
def codeDecodesWrong : ChangeSpec := { name := "codeDecodes", fn := fun _ => fun
  | [d] => { results := [.lit (.bool false)], args := [d] }
  | _ => none }
def CodeDecodesWrongFalsely : Prop := codeDecodesRow.holds Tryd.pinned (OpenSpec.ofChange codeDecodesWrong)

/-- 'teasellaw17.CodeBack': WHATEVER THE INPUT: true; the input reads as it did. -/
def codeBackSpec : ChangeSpec := { name := "codeBack", fn := fun _ => fun
  | [d1, d2] => { results := [.lit (.bool true)], args := [d1, d2] }
  | _ => none }
def codeBackRow : OpenClaim := { program := "ytihhngjoecgkpaadoor", sum := "ddcf031b3cd1f77fd737cc7bd57c58a4f99eda02da49e6d4b4c539da2e8b3ee8", func := "teasel/teasellaw17.CodeBack", spec := "codeBack", unfollowed := true, recurses := true, named := ["teasel/code.fields"], apart := false, laid := [("teasel/code.fields", laid_teasel_code_fields)] }
def CodeBackSaid : Prop := codeBackRow.holds Tryd.pinned (OpenSpec.ofChange codeBackSpec)

/-- ITS FALSE NEIGHBOUR: 'it returns false'. Refute it at one input. -/
def codeBackWrong : ChangeSpec := { name := "codeBack", fn := fun _ => fun
  | [d1, d2] => { results := [.lit (.bool false)], args := [d1, d2] }
  | _ => none }
def CodeBackWrongFalsely : Prop := codeBackRow.holds Tryd.pinned (OpenSpec.ofChange codeBackWrong)

/-- 'teasellaw17.CodeStays': WHATEVER THE INPUT: true; the input reads as it did. -/
def codeStaysSpec : ChangeSpec := { name := "codeStays", fn := fun _ => fun
  | [d1, d2] => { results := [.lit (.bool true)], args := [d1, d2] }
  | _ => none }
def codeStaysRow : OpenClaim := { program := "ytihhngjoecgkpaadoor", sum := "ddcf031b3cd1f77fd737cc7bd57c58a4f99eda02da49e6d4b4c539da2e8b3ee8", func := "teasel/teasellaw17.CodeStays", spec := "codeStays", unfollowed := true, recurses := true, named := ["teasel/code.fields"], apart := false, laid := [("teasel/code.fields", laid_teasel_code_fields)] }
def CodeStaysSaid : Prop := codeStaysRow.holds Tryd.pinned (OpenSpec.ofChange codeStaysSpec)

/-- ITS FALSE NEIGHBOUR: 'it returns false'. Refute it at one input. -/
def codeStaysWrong : ChangeSpec := { name := "codeStays", fn := fun _ => fun
  | [d1, d2] => { results := [.lit (.bool false)], args := [d1, d2] }
  | _ => none }
def CodeStaysWrongFalsely : Prop := codeStaysRow.holds Tryd.pinned (OpenSpec.ofChange codeStaysWrong)

/-- 'teasellaw17.CodeApart': WHATEVER THE INPUT: true; the input reads as it did. -/
def codeApartSpec : ChangeSpec := { name := "codeApart", fn := fun _ => fun
  | [d1, d2] => { results := [.lit (.bool true)], args := [d1, d2] }
  | _ => none }
def codeApartRow : OpenClaim := { program := "ytihhngjoecgkpaadoor", sum := "ddcf031b3cd1f77fd737cc7bd57c58a4f99eda02da49e6d4b4c539da2e8b3ee8", func := "teasel/teasellaw17.CodeApart", spec := "codeApart", unfollowed := true, recurses := true, named := ["teasel/code.fields"], apart := false, laid := [("teasel/code.fields", laid_teasel_code_fields)] }
def CodeApartSaid : Prop := codeApartRow.holds Tryd.pinned (OpenSpec.ofChange codeApartSpec)

/-- ITS FALSE NEIGHBOUR: 'it returns false'. Refute it at one input. -/
def codeApartWrong : ChangeSpec := { name := "codeApart", fn := fun _ => fun
  | [d1, d2] => { results := [.lit (.bool false)], args := [d1, d2] }
  | _ => none }
def CodeApartWrongFalsely : Prop := codeApartRow.holds Tryd.pinned (OpenSpec.ofChange codeApartWrong)

/-- 'teasellaw17.CodeWide': WHATEVER THE INPUT: true; the input reads as it did. -/
def codeWideSpec : ChangeSpec := { name := "codeWide", fn := fun _ => fun
  | [d1, d2, d3] => { results := [.lit (.bool true)], args := [d1, d2, d3] }
  | _ => none }
def codeWideRow : OpenClaim := { program := "ytihhngjoecgkpaadoor", sum := "ddcf031b3cd1f77fd737cc7bd57c58a4f99eda02da49e6d4b4c539da2e8b3ee8", func := "teasel/teasellaw17.CodeWide", spec := "codeWide", unfollowed := true, recurses := true, named := ["teasel/code.fields"], apart := false, laid := [("teasel/code.fields", laid_teasel_code_fields)] }
def CodeWideSaid : Prop := codeWideRow.holds Tryd.pinned (OpenSpec.ofChange codeWideSpec)

/-- ITS FALSE NEIGHBOUR: 'it returns false'. Refute it at one input. -/
def codeWideWrong : ChangeSpec := { name := "codeWide", fn := fun _ => fun
  | [d1, d2, d3] => { results := [.lit (.bool false)], args := [d1, d2, d3] }
  | _ => none }
def CodeWideWrongFalsely : Prop := codeWideRow.holds Tryd.pinned (OpenSpec.ofChange codeWideWrong)

/- THE SECOND FORM. 'bulk': how many values and letters a reading holds, each counted each time it is reached (what is shared counts as often as it is met; a slice's spare places count too). A statement '..UptoSaid' is the law's where the arguments, and the package variables that the reading takes, are together of bulk at most 1048576: NARROWER than '..Said'. Prove '..Said' where nothing that the law and all that it calls make is longer than what came in: it says more and counts as full. Else prove '..UptoSaid'. A law counts once. -/
mutual
def uptoBulk {H : Type} : DataW H → Nat
  | .lit (.string bytes) => bytes.length + 1
  | .lit _ => 1
  | .nil => 1
  | .ptr d => uptoBulk d + 1
  | .slice elems spare => uptoBulkAll elems + uptoBulkAll spare + 1
  | .agg parts => uptoBulkAll parts + 1
  | .iface _ d => uptoBulk d + 1
  | .map entries => uptoBulkEntries entries + 1
  | .held _ => 1
def uptoBulkAll {H : Type} : List (DataW H) → Nat
  | [] => 0
  | d :: r => uptoBulk d + uptoBulkAll r
def uptoBulkEntries {H : Type} : List (Lit × DataW H) → Nat
  | [] => 0
  | x :: r => uptoBulkEntry x + uptoBulkEntries r
def uptoBulkEntry {H : Type} : Lit × DataW H → Nat
  | (.string bytes, d) => bytes.length + uptoBulk d + 1
  | (_, d) => uptoBulk d + 1
 end
def uptoSmall : (H : Type) → List (DataW H) → Bool := fun _ ds => decide (uptoBulkAll ds ≤ 1048576)
def OpenSpec.upto (s : _root_.Go.ChangeSpec) : _root_.Go.OpenSpec := { _root_.Go.OpenSpec.ofChange s with cond := some uptoSmall }

/-- 'teasellaw17.CodeChecks', WHERE WHAT IT READS IS OF BULK AT MOST 1048576: true; the input reads as it did. -/
def codeChecksUptoRow : OpenClaim := { program := "ytihhngjoecgkpaadoor", sum := "ddcf031b3cd1f77fd737cc7bd57c58a4f99eda02da49e6d4b4c539da2e8b3ee8", func := "teasel/teasellaw17.CodeChecks", spec := "codeChecks", unfollowed := true, recurses := true, named := ["teasel/code.fields"], apart := false, laid := [("teasel/code.fields", laid_teasel_code_fields)], narrowed := true }
def CodeChecksUptoSaid : Prop := codeChecksUptoRow.holds Tryd.pinned (OpenSpec.upto codeChecksSpec)

/-- 'teasellaw17.CodeDecodes', WHERE WHAT IT READS IS OF BULK AT MOST 1048576: true; the input reads as it did. -/
def codeDecodesUptoRow : OpenClaim := { program := "ytihhngjoecgkpaadoor", sum := "ddcf031b3cd1f77fd737cc7bd57c58a4f99eda02da49e6d4b4c539da2e8b3ee8", func := "teasel/teasellaw17.CodeDecodes", spec := "codeDecodes", unfollowed := true, recurses := true, named := ["teasel/code.fields"], apart := false, laid := [("teasel/code.fields", laid_teasel_code_fields)], narrowed := true }
def CodeDecodesUptoSaid : Prop := codeDecodesUptoRow.holds Tryd.pinned (OpenSpec.upto codeDecodesSpec)

/-- 'teasellaw17.CodeBack', WHERE WHAT IT READS IS OF BULK AT MOST 1048576: true; the input reads as it did. -/
def codeBackUptoRow : OpenClaim := { program := "ytihhngjoecgkpaadoor", sum := "ddcf031b3cd1f77fd737cc7bd57c58a4f99eda02da49e6d4b4c539da2e8b3ee8", func := "teasel/teasellaw17.CodeBack", spec := "codeBack", unfollowed := true, recurses := true, named := ["teasel/code.fields"], apart := false, laid := [("teasel/code.fields", laid_teasel_code_fields)], narrowed := true }
def CodeBackUptoSaid : Prop := codeBackUptoRow.holds Tryd.pinned (OpenSpec.upto codeBackSpec)

/-- 'teasellaw17.CodeStays', WHERE WHAT IT READS IS OF BULK AT MOST 1048576: true; the input reads as it did. -/
def codeStaysUptoRow : OpenClaim := { program := "ytihhngjoecgkpaadoor", sum := "ddcf031b3cd1f77fd737cc7bd57c58a4f99eda02da49e6d4b4c539da2e8b3ee8", func := "teasel/teasellaw17.CodeStays", spec := "codeStays", unfollowed := true, recurses := true, named := ["teasel/code.fields"], apart := false, laid := [("teasel/code.fields", laid_teasel_code_fields)], narrowed := true }
def CodeStaysUptoSaid : Prop := codeStaysUptoRow.holds Tryd.pinned (OpenSpec.upto codeStaysSpec)

/-- 'teasellaw17.CodeApart', WHERE WHAT IT READS IS OF BULK AT MOST 1048576: true; the input reads as it did. -/
def codeApartUptoRow : OpenClaim := { program := "ytihhngjoecgkpaadoor", sum := "ddcf031b3cd1f77fd737cc7bd57c58a4f99eda02da49e6d4b4c539da2e8b3ee8", func := "teasel/teasellaw17.CodeApart", spec := "codeApart", unfollowed := true, recurses := true, named := ["teasel/code.fields"], apart := false, laid := [("teasel/code.fields", laid_teasel_code_fields)], narrowed := true }
def CodeApartUptoSaid : Prop := codeApartUptoRow.holds Tryd.pinned (OpenSpec.upto codeApartSpec)

/-- 'teasellaw17.CodeWide', WHERE WHAT IT READS IS OF BULK AT MOST 1048576: true; the input reads as it did. -/
def codeWideUptoRow : OpenClaim := { program := "ytihhngjoecgkpaadoor", sum := "ddcf031b3cd1f77fd737cc7bd57c58a4f99eda02da49e6d4b4c539da2e8b3ee8", func := "teasel/teasellaw17.CodeWide", spec := "codeWide", unfollowed := true, recurses := true, named := ["teasel/code.fields"], apart := false, laid := [("teasel/code.fields", laid_teasel_code_fields)], narrowed := true }
def CodeWideUptoSaid : Prop := codeWideUptoRow.holds Tryd.pinned (OpenSpec.upto codeWideSpec)

end Rows
end Go.Proofs.YtihhngjoecgkpaaDoor
