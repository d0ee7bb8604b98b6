/-
  NARROWER THAN 'FOR EVERY INPUT', by the rows' own cells (each row's printed sentence says how): LiveNeeds: laid · LiveShifts: laid · LiveMoves: laid · LiveReads: laid · LiveSpans: laid.
  DERIVED. THE GIVEN ROWS OF THIS SEAT. 5 by the template 'for every input the law returns true; each argument reads behind the call as it read before'; 0 by the template 'total and deterministic' (their statements: YtneklfhahljgnaaDoorTotals.lean).
  GIVEN WITH THE SEED: the statements are not yours to turn. If you find one false, say at which input.
  Laid BY PROGRAM, IN A SANDBOX (cutbox-rows.mjs): the forced cells as the released guide's own fill.sh prints them over the translation 60b82d664afcd686… (all of the seat's roots in one cut). By AI agents, Wed Nov 11 2026. No macro, syntax, notation, axiom, sorry.
-/
import Derived.Test.YtneklfhahljgnaaDoorChecked
import GoSem.Claim
import GoSem.ClaimJoined
import GoSem.ClaimMapViews
import Derived.JoinedTies
import Derived.KernelRfl
namespace Go.Proofs.YtneklfhahljgnaaDoor
/- THE CELL 'sum', in the pinned program and in every row, IS THE sha256 OF THE DUMP (.gsa) THAT YtneklfhahljgnaaDoorProg.lean LOADS. Nothing in Lean hashes anything: it is a label: what it is worth is what the hold of that sum in a sandbox is worth. -/
noncomputable def Tryd.pinned : Pinned := { name := "ytneklfhahljgnaadoor", sum := "60b82d664afcd686ebb5c31456e9da97d8884fb4205b5f6ed856095bff4eec86", checked := Tryd.checked }
namespace Rows
def none {H : Type} : Left H := { results := [], args := [] }

/- WHAT THE LISTED PACKAGE-LEVEL VARIABLES READ AS WHEN THE CALL BEGINS. Each datum BY PROGRAM (the guide's laid-datum.mjs) off the statement by which the dump's own 'gosem.cut.vars' lays the variable. In a bare row this is a premise. The card (YtneklfhahljgnaaDoorCards.lean) ties it to the program's text. -/
def laid_teasel_code_fields {H : Type} : DataW H := .agg [.lit (.int .i64 0), .lit (.int .i64 9), .lit (.int .i64 3), .lit (.int .i64 7), .lit (.int .i64 7), .lit (.int .i64 7), .lit (.int .i64 7), .lit (.int .i64 7), .lit (.int .i64 7), .lit (.int .i64 7), .lit (.int .i64 7), .lit (.int .i64 9), .lit (.int .i64 25), .lit (.int .i64 25), .lit (.int .i64 11), .lit (.int .i64 3), .lit (.int .i64 19), .lit (.int .i64 82), .lit (.int .i64 66), .lit (.int .i64 66), .lit (.int .i64 11), .lit (.int .i64 106), .lit (.int .i64 42), .lit (.int .i64 72), .lit (.int .i64 1), .lit (.int .i64 2), .lit (.int .i64 64)]

/-- 'teasellaw22.LiveNeeds': WHATEVER THE INPUT: true; the input reads as it did. -/
def liveNeedsSpec : ChangeSpec := { name := "liveNeeds", fn := fun _ => fun
  | [d] => { results := [.lit (.bool true)], args := [d] }
  | _ => none }
def liveNeedsRow : OpenClaim := { program := "ytneklfhahljgnaadoor", sum := "60b82d664afcd686ebb5c31456e9da97d8884fb4205b5f6ed856095bff4eec86", func := "teasel/teasellaw22.LiveNeeds", spec := "liveNeeds", unfollowed := true, recurses := true, named := ["teasel/code.fields"], apart := false, laid := [("teasel/code.fields", laid_teasel_code_fields)] }
def LiveNeedsSaid : Prop := liveNeedsRow.holds Tryd.pinned (OpenSpec.ofChange liveNeedsSpec)

/-- ITS FALSE NEIGHBOUR: 'it returns false'. Refute it at one input. -/
def liveNeedsWrong : ChangeSpec := { name := "liveNeeds", fn := fun _ => fun
  | [d] => { results := [.lit (.bool false)], args := [d] }
  | _ => none }
def LiveNeedsWrongFalsely : Prop := liveNeedsRow.holds Tryd.pinned (OpenSpec.ofChange liveNeedsWrong)

/-- 'teasellaw22.LiveShifts': WHATEVER THE INPUT: true; the input reads as it did. -/
def liveShiftsSpec : ChangeSpec := { name := "liveShifts", fn := fun _ => fun
  | [d1, d2] => { results := [.lit (.bool true)], args := [d1, d2] }
  | _ => none }
def liveShiftsRow : OpenClaim := { program := "ytneklfhahljgnaadoor", sum := "60b82d664afcd686ebb5c31456e9da97d8884fb4205b5f6ed856095bff4eec86", func := "teasel/teasellaw22.LiveShifts", spec := "liveShifts", unfollowed := true, recurses := true, named := ["teasel/code.fields"], apart := false, laid := [("teasel/code.fields", laid_teasel_code_fields)] }
def LiveShiftsSaid : Prop := liveShiftsRow.holds Tryd.pinned (OpenSpec.ofChange liveShiftsSpec)

/-- ITS FALSE NEIGHBOUR: 'it returns false'. Refute it at one input. -/
def liveShiftsWrong : ChangeSpec := { name := "liveShifts", fn := fun _ => fun
  | [d1, d2] => { results := [.lit (.bool false)], args := [d1, d2] }
  | _ => none }
def LiveShiftsWrongFalsely : Prop := liveShiftsRow.holds Tryd.pinned (OpenSpec.ofChange liveShiftsWrong)

/-- 'teasellaw22.LiveMoves': WHATEVER THE INPUT: true; the input reads as it did. -/
def liveMovesSpec : ChangeSpec := { name := "liveMoves", fn := fun _ => fun
  | [d1, d2] => { results := [.lit (.bool true)], args := [d1, d2] }
  | _ => none }
def liveMovesRow : OpenClaim := { program := "ytneklfhahljgnaadoor", sum := "60b82d664afcd686ebb5c31456e9da97d8884fb4205b5f6ed856095bff4eec86", func := "teasel/teasellaw22.LiveMoves", spec := "liveMoves", unfollowed := true, recurses := true, named := ["teasel/code.fields"], apart := false, laid := [("teasel/code.fields", laid_teasel_code_fields)] }
def LiveMovesSaid : Prop := liveMovesRow.holds Tryd.pinned (OpenSpec.ofChange liveMovesSpec)

/-- ITS FALSE NEIGHBOUR: 'it returns false'. Refute it at one input. -/
def liveMovesWrong : ChangeSpec := { name := "liveMoves", fn := fun _ => fun
  | [d1, d2] => { results := [.lit (.bool false)], args := [d1, d2] }
  | _ => none }
def LiveMovesWrongFalsely : Prop := liveMovesRow.holds Tryd.pinned (OpenSpec.ofChange liveMovesWrong)

/-- 'teasellaw22.LiveReads': WHATEVER THE INPUT: true; the input reads as it did. -/
def liveReadsSpec : ChangeSpec := { name := "liveReads", fn := fun _ => fun
  | [d] => { results := [.lit (.bool true)], args := [d] }
  | _ => none }
def liveReadsRow : OpenClaim := { program := "ytneklfhahljgnaadoor", sum := "60b82d664afcd686ebb5c31456e9da97d8884fb4205b5f6ed856095bff4eec86", func := "teasel/teasellaw22.LiveReads", spec := "liveReads", unfollowed := true, recurses := true, named := ["teasel/code.fields"], apart := false, laid := [("teasel/code.fields", laid_teasel_code_fields)] }
def LiveReadsSaid : Prop := liveReadsRow.holds Tryd.pinned (OpenSpec.ofChange liveReadsSpec)

/-- ITS FALSE NEIGHBOUR: 'it returns false'. Refute it at one input. -/
def liveReadsWrong : ChangeSpec := { name := "liveReads", fn := fun _ => fun
  | [d] => { results := [.lit (.bool false)], args := [d] }
  | _ => none }
def LiveReadsWrongFalsely : Prop := liveReadsRow.holds Tryd.pinned (OpenSpec.ofChange liveReadsWrong)

/-- 'teasellaw22.LiveSpans': WHATEVER THE INPUT: true; the input reads as it did. -/
def liveSpansSpec : ChangeSpec := { name := "liveSpans", fn := fun _ => fun
  | [d] => { results := [.lit (.bool true)], args := [d] }
  | _ => none }
def liveSpansRow : OpenClaim := { program := "ytneklfhahljgnaadoor", sum := "60b82d664afcd686ebb5c31456e9da97d8884fb4205b5f6ed856095bff4eec86", func := "teasel/teasellaw22.LiveSpans", spec := "liveSpans", unfollowed := true, recurses := true, named := ["teasel/code.fields"], apart := false, laid := [("teasel/code.fields", laid_teasel_code_fields)] }
def LiveSpansSaid : Prop := liveSpansRow.holds Tryd.pinned (OpenSpec.ofChange liveSpansSpec)

/-- ITS FALSE NEIGHBOUR: 'it returns false'. Refute it at one input. -/
def liveSpansWrong : ChangeSpec := { name := "liveSpans", fn := fun _ => fun
  | [d] => { results := [.lit (.bool false)], args := [d] }
  | _ => none }
def LiveSpansWrongFalsely : Prop := liveSpansRow.holds Tryd.pinned (OpenSpec.ofChange liveSpansWrong)

/- THE SECOND FORM. 'bulk': how many values and letters a reading holds, each counted each time it is reached (what is shared counts as often as it is met; a slice's spare places count too). A statement '..UptoSaid' is the law's where the arguments, and the package variables that the reading takes, are together of bulk at most 1048576: NARROWER than '..Said'. Prove '..Said' where nothing that the law and all that it calls make is longer than what came in: it says more and counts as full. Else prove '..UptoSaid'. A law counts once. -/
mutual
def uptoBulk {H : Type} : DataW H → Nat
  | .lit (.string bytes) => bytes.length + 1
  | .lit _ => 1
  | .nil => 1
  | .ptr d => uptoBulk d + 1
  | .slice elems spare => uptoBulkAll elems + uptoBulkAll spare + 1
  | .agg parts => uptoBulkAll parts + 1
  | .iface _ d => uptoBulk d + 1
  | .map entries => uptoBulkEntries entries + 1
  | .held _ => 1
def uptoBulkAll {H : Type} : List (DataW H) → Nat
  | [] => 0
  | d :: r => uptoBulk d + uptoBulkAll r
def uptoBulkEntries {H : Type} : List (Lit × DataW H) → Nat
  | [] => 0
  | x :: r => uptoBulkEntry x + uptoBulkEntries r
def uptoBulkEntry {H : Type} : Lit × DataW H → Nat
  | (.string bytes, d) => bytes.length + uptoBulk d + 1
  | (_, d) => uptoBulk d + 1
 end
def uptoSmall : (H : Type) → List (DataW H) → Bool := fun _ ds => decide (uptoBulkAll ds ≤ 1048576)
def OpenSpec.upto (s : _root_.Go.ChangeSpec) : _root_.Go.OpenSpec := { _root_.Go.OpenSpec.ofChange s with cond := some uptoSmall }

/-- 'teasellaw22.LiveNeeds', WHERE WHAT IT READS IS OF BULK AT MOST 1048576: true; the input reads as it did. -/
def liveNeedsUptoRow : OpenClaim := { program := "ytneklfhahljgnaadoor", sum := "60b82d664afcd686ebb5c31456e9da97d8884fb4205b5f6ed856095bff4eec86", func := "teasel/teasellaw22.LiveNeeds", spec := "liveNeeds", unfollowed := true, recurses := true, named := ["teasel/code.fields"], apart := false, laid := [("teasel/code.fields", laid_teasel_code_fields)], narrowed := true }
def LiveNeedsUptoSaid : Prop := liveNeedsUptoRow.holds Tryd.pinned (OpenSpec.upto liveNeedsSpec)

/-- 'teasellaw22.LiveShifts', WHERE WHAT IT READS IS OF BULK AT MOST 1048576: true; the input reads as it did. -/
def liveShiftsUptoRow : OpenClaim := { program := "ytneklfhahljgnaadoor", sum := "60b82d664afcd686ebb5c31456e9da97d8884fb4205b5f6ed856095bff4eec86", func := "teasel/teasellaw22.LiveShifts", spec := "liveShifts", unfollowed := true, recurses := true, named := ["teasel/code.fields"], apart := false, laid := [("teasel/code.fields", laid_teasel_code_fields)], narrowed := true }
def LiveShiftsUptoSaid : Prop := liveShiftsUptoRow.holds Tryd.pinned (OpenSpec.upto liveShiftsSpec)

/-- 'teasellaw22.LiveMoves', WHERE WHAT IT READS IS OF BULK AT MOST 1048576: true; the input reads as it did. -/
def liveMovesUptoRow : OpenClaim := { program := "ytneklfhahljgnaadoor", sum := "60b82d664afcd686ebb5c31456e9da97d8884fb4205b5f6ed856095bff4eec86", func := "teasel/teasellaw22.LiveMoves", spec := "liveMoves", unfollowed := true, recurses := true, named := ["teasel/code.fields"], apart := false, laid := [("teasel/code.fields", laid_teasel_code_fields)], narrowed := true }
def LiveMovesUptoSaid : Prop := liveMovesUptoRow.holds Tryd.pinned (OpenSpec.upto liveMovesSpec)

/-- 'teasellaw22.LiveReads', WHERE WHAT IT READS IS OF BULK AT MOST 1048576: true; the input reads as it did. -/
def liveReadsUptoRow : OpenClaim := { program := "ytneklfhahljgnaadoor", sum := "60b82d664afcd686ebb5c31456e9da97d8884fb4205b5f6ed856095bff4eec86", func := "teasel/teasellaw22.LiveReads", spec := "liveReads", unfollowed := true, recurses := true, named := ["teasel/code.fields"], apart := false, laid := [("teasel/code.fields", laid_teasel_code_fields)], narrowed := true }
def LiveReadsUptoSaid : Prop := liveReadsUptoRow.holds Tryd.pinned (OpenSpec.upto liveReadsSpec)

/-- 'teasellaw22.LiveSpans', WHERE WHAT IT READS IS OF BULK AT MOST 1048576: true; the input reads as it did. -/
def liveSpansUptoRow : OpenClaim := { program := "ytneklfhahljgnaadoor", sum := "60b82d664afcd686ebb5c31456e9da97d8884fb4205b5f6ed856095bff4eec86", func := "teasel/teasellaw22.LiveSpans", spec := "liveSpans", unfollowed := true, recurses := true, named := ["teasel/code.fields"], apart := false, laid := [("teasel/code.fields", laid_teasel_code_fields)], narrowed := true }
def LiveSpansUptoSaid : Prop := liveSpansUptoRow.holds Tryd.pinned (OpenSpec.upto liveSpansSpec)

end Rows
end Go.Proofs.YtneklfhahljgnaaDoor
