/- A part of the proof: U1, U2, U6, U7, U8, U4, U9, V1, W1, W2, W3, W4, W5, W6. -/
import Derived.Test.YtehfihnfeakmaaaGreatDoorMe
import Derived.Sort.KeysCollected

section
namespace Go.Proofs.YtehfihnfeakmaaaGreatDoor
open Go
set_option linter.unusedSimpArgs false
set_option linter.unusedVariables false
set_option maxRecDepth 10000

def idxFrom : Nat → List (List UInt8) → List UInt8 → Int
  | _, [], _ => -1
  | i, x :: r, v => if v = x then i else idxFrom (i + 1) r v

theorem index_list (G : Gl) (l : List (List UInt8)) (v : List UInt8) (H : List Blk) (hl : l.length < 4611686018427387904) :
    ACall Tryz.prog G 28 [.list 1 (l.map .str), .str v] H (fun r H' => H' = H ∧ r = .int .i64 (idxFrom 0 l v)) := by
  refine ACall.of_go TB [] tabOK _ Tryz.func28 rfl (by decide) Tryz.ntmps28 (by simp) rfl (by simp only [initEnv, Nat.reduceAdd]; rfl) fun C R' hR hC hcl hB => ?_; have X := noX; have hC' := congrArg List.length hC
  (refine runO ?_; repeat' (first | with_reducible exact trivial | ((with_reducible apply Fork.mk) <;> intro hb) | with_reducible apply Two.mk))
  · refine go_loop (fun i : Nat => [(0, .list 1 (l.map .str)), (1, .str v), (4, .int .i64 0), (7, .int .i64 l.length), (8, .int .i64 i)]) (fun _ => H) (fun i => l.length - i) (fun i => i ≤ l.length ∧ idxFrom i (l.drop i) v = idxFrom 0 l v) 0 (by simp) (Wk.sub ?_) ?_
    · simp (decide := true) [subEnv, look]
    intro K i hi hK
    (refine runO ?_; repeat' (first | with_reducible exact trivial | ((with_reducible apply Fork.mk) <;> intro hb) | with_reducible apply Two.mk))
    · have hi' : i < l.length := by omega
      rw [List.drop_eq_getElem_cons hi', idxFrom, if_pos hb] at hi
      exact Fin.out hR ⟨rfl, by rw [← hi.2]; rfl⟩
    · have hi' : i < l.length := by omega
      rw [List.drop_eq_getElem_cons hi', idxFrom, if_neg hb] at hi
      exact hK _ _ (i + 1) (by omega) ⟨hi', hi.2⟩ (Wk.sub (by simp [subEnv, look]))
    · rw [List.drop_of_length_le (by omega), idxFrom] at hi
      exact Fin.out hR ⟨rfl, by rw [← hi.2]; rfl⟩
end Go.Proofs.YtehfihnfeakmaaaGreatDoor
end

section
namespace Go.Proofs.YtehfihnfeakmaaaGreatDoor
open Go
set_option linter.unusedSimpArgs false
set_option linter.unusedVariables false
set_option maxRecDepth 10000

theorem idxFrom_ge : ∀ (l : List Str) (v : Str) (i : Nat), (idxFrom i l v = -1 ∧ v ∉ l) ∨ ((i : Int) ≤ idxFrom i l v ∧ v ∈ l)
  | [], v, i => .inl ⟨rfl, by simp⟩
  | x :: r, v, i => by
    rw [idxFrom]
    split
    · rename_i h; exact .inr ⟨Int.le_refl _, by simp [h]⟩
    · rename_i h
      rcases idxFrom_ge r v (i + 1) with h1 | h1
      · exact .inl ⟨h1.1, by simp [h, h1.2]⟩
      · exact .inr ⟨by omega, by simp [h1.2]⟩

theorem contains_list (G : Gl) (l : List Str) (v : Str) (H : List Blk) (hl : l.length < 4611686018427387904) :
    ACall Tryz.prog G 86 [.list 1 (l.map .str), .str v] H (fun r H' => H' = H ∧ r = .bool (decide (v ∈ l))) := by
  refine ACall.of_go TB [] tabOK _ Tryz.func86 rfl (by decide) Tryz.ntmps86 (by simp) rfl (by simp only [initEnv, Nat.reduceAdd]; rfl) fun C R' hR hC hcl hB => ?_; have X := noX; have hC' := congrArg List.length hC
  (refine runO ?_; repeat' (first | with_reducible exact trivial | ((with_reducible apply Fork.mk) <;> intro hb) | with_reducible apply Two.mk))
  refine go_call (xs := [.list 1 (l.map .str), .str v]) (by exact evS) rfl (index_list G l v H hl) ?_
  rintro r H' ⟨rfl, rfl⟩
  (refine runO ?_; repeat' (first | with_reducible exact trivial | ((with_reducible apply Fork.mk) <;> intro hb) | with_reducible apply Two.mk))
  refine Fin.out hR ⟨rfl, ?_⟩
  rcases idxFrom_ge l v 0 with h | h
  · simp [h.1, h.2, resSV]
  · simp only [h.2, decide_true, SV.bool.injEq, decide_eq_true_eq, resSV]; omega

theorem has_list (G : Gl) (l : List Str) (v : Str) (H : List Blk) (hl : l.length < 4611686018427387904) :
    ACall Tryz.prog G 18 [.list 1 (l.map .str), .str v] H (fun r H' => H' = H ∧ r = .bool (decide (v ∈ l))) := by
  refine ACall.of_go TB [] tabOK _ Tryz.func18 rfl (by decide) Tryz.ntmps18 (by simp) rfl (by simp only [initEnv, Nat.reduceAdd]; rfl) fun C R' hR hC hcl hB => ?_; have X := noX; have hC' := congrArg List.length hC
  (refine runO ?_; repeat' (first | with_reducible exact trivial | ((with_reducible apply Fork.mk) <;> intro hb) | with_reducible apply Two.mk))
  refine go_loop (fun i : Nat => [(0, .list 1 (l.map .str)), (1, .str v), (5, .int .i64 i)]) (fun _ => H) (fun i => l.length - i) (fun i => i ≤ l.length ∧ v ∉ l.take i) 0 (by simp) (Wk.sub (by simp [subEnv, look])) ?_
  intro K i hi hK
  (refine runO ?_; repeat' (first | with_reducible exact trivial | ((with_reducible apply Fork.mk) <;> intro hb) | with_reducible apply Two.mk))
  · have hi' : i < l.length := by omega
    exact Fin.out hR ⟨rfl, by rw [decide_eq_true (by rw [← hb]; exact List.getElem_mem hi')]; rfl⟩
  · have hi' : i < l.length := by omega
    exact hK _ _ (i + 1) (by omega) ⟨hi', by rw [List.take_succ_eq_append_getElem hi', List.mem_append]; simp only [hi.2, List.mem_singleton, false_or]; exact fun h => hb h.symm⟩ (Wk.sub (by simp [subEnv, look]))
  · have : l.take i = l := List.take_of_length_le (by omega)
    exact Fin.out hR ⟨rfl, by rw [decide_eq_false (by rw [← this]; exact hi.2)]; rfl⟩
end Go.Proofs.YtehfihnfeakmaaaGreatDoor
end

section
namespace Go.Proofs.YtehfihnfeakmaaaGreatDoor
open Go
set_option linter.unusedSimpArgs false
set_option linter.unusedVariables false
set_option maxRecDepth 10000
set_option maxHeartbeats 4000000

def argsOf (op : Int) : Int := if 1 ≤ op ∧ op ≤ 8 then 2 else if op = 10 then 1 else if op = 9 ∨ op = 11 then 0 else -1

theorem args_ok (G : Gl) (hG : GClosed G) (op : Int) (H : List Blk) : ACall Tryz.prog G 93 [.int .i64 op] H (fun r H' => H' = H ∧ r = .int .i64 (argsOf op)) := by
  refine ACall.of_go TB [] tabOK _ Tryz.func93 rfl (by decide) Tryz.ntmps93 (by simp) rfl (by simp only [initEnv, Nat.reduceAdd]; rfl) fun C R' hR hC hcl hB => ?_; have X := noX; have hC' := congrArg List.length hC
  (refine runO ?_; repeat' (first | with_reducible exact trivial | ((with_reducible apply Fork.mk) <;> intro hb) | with_reducible apply Two.mk))
  all_goals
    refine Fin.out hR ⟨rfl, ?_⟩
    simp only [resSV, argsOf]
    repeat' (first | rfl | split | (exfalso; omega))

theorem parts_ok (G : Gl) (hG : GClosed G) (e : Ex) (H : List Blk) (hw : e.wt < 4294967296) : ACall Tryz.prog G 94 [e.sv] H (fun r H' => H' = H ∧ r = .list 8 (exCells e.parts)) := by
  obtain ⟨kd, nm, nn, op, names, subs, binds, alts⟩ := e
  have hlen := Ex.wt_lens kd nm nn op names subs binds alts
  refine ACall.of_go TB [3] tabOK _ Tryz.func94 rfl (by decide) Tryz.ntmps94 (by simp) rfl (by simp only [initEnv, Nat.reduceAdd]; rfl) fun C R' hR hC hcl hB => ?_; have X := noX; have hC' := congrArg List.length hC
  have hC' : C.H.length = H.length := by rw [hC]
  (refine runO ?_; repeat' (first | with_reducible exact trivial | ((with_reducible apply Fork.mk) <;> intro hb) | with_reducible apply Two.mk))
  refine go_loop (fun i : Nat => [(1, .ptr H.length 0 0 0), (3, .sl (H.length + 1) 0 0 (subs.length + i)), (4, .int .i64 i)]) (fun i => H ++ [.cells 0 8 [.agg [.int .i64 kd, .str nm, .int .i64 nn, .int .i64 op, .list 1 (names.map .str), .list 8 (exCells subs), .list 9 (bdCells binds), .list 12 (alCells alts)]], .cells 0 8 (exCells subs ++ (binds.take i).map fun b => .agg b.e.cells)])
    (fun i => binds.length - i) (fun i => i ≤ binds.length) 0 (Nat.zero_le _) ?_ ?_
  · simp only [List.take_zero, List.map_nil, List.append_nil, Nat.add_zero]
    exact wkS (n0 := H.length) [(H.length, 0), (H.length + 1, 0)] hG hB (by rw [hC]) hcl
  · intro K i hi hK
    (refine runO ?_; repeat' (first | with_reducible exact trivial | ((with_reducible apply Fork.mk) <;> intro hb) | with_reducible apply Two.mk))
    · refine hK _ _ (i + 1) (by omega) (by omega) ?_
      simp only [List.take_succ_eq_append_getElem (show i < binds.length by omega), List.map_append, List.map_cons, List.map_nil]
      exact wkS (n0 := H.length) [(H.length, 0), (H.length + 1, 0)] hG hB (by rw [hC]) hcl
    · have hi' : i = binds.length := by omega
      subst hi'
      simp only [List.take_length]
      refine go_loop (fun i : Nat => [(1, .ptr H.length 0 0 0), (3, .sl (H.length + 1) 0 0 (subs.length + binds.length + i)), (5, .int .i64 i)]) (fun i => H ++ [.cells 0 8 [.agg [.int .i64 kd, .str nm, .int .i64 nn, .int .i64 op, .list 1 (names.map .str), .list 8 (exCells subs), .list 9 (bdCells binds), .list 12 (alCells alts)]], .cells 0 8 (exCells subs ++ ((binds.map fun b => .agg b.e.cells) ++ (alts.take i).map fun a => .agg a.body.cells))])
        (fun i => alts.length - i) (fun i => i ≤ alts.length) 0 (Nat.zero_le _) ?_ ?_
      · simp only [List.take_zero, List.map_nil, List.append_nil, Nat.add_zero]
        exact wkS (n0 := H.length) [(H.length, 0), (H.length + 1, 0)] hG hB (by rw [hC]) hcl
      · intro K2 i hi hK2
        (refine runO ?_; repeat' (first | with_reducible exact trivial | ((with_reducible apply Fork.mk) <;> intro hb) | with_reducible apply Two.mk))
        · refine hK2 _ _ (i + 1) (by omega) (by omega) ?_
          simp only [List.take_succ_eq_append_getElem (show i < alts.length by omega), List.map_append, List.map_cons, List.map_nil]
          exact wkS (n0 := H.length) [(H.length, 0), (H.length + 1, 0)] hG hB (by rw [hC]) hcl
        · have hi' : i = alts.length := by omega
          subst hi'
          have hpe : exCells (Ex.mk kd nm nn op names subs binds alts).parts = exCells subs ++ ((binds.map fun b => .agg b.e.cells) ++ alts.map fun a => .agg a.body.cells) := by
            simp only [Ex.parts_mk, exCells_map, List.map_append, List.map_map]; rfl
          refine Fin.tellN (n0 := H.length) hR (by simp) hC' hcl (Frz.sf (by exact hbS) (by omega) (by simp) ?_ (exCells_under _ _)) ⟨rfl, rfl⟩
          rw [hpe, List.drop_zero, List.take_length]
          exact List.take_of_length_le (by simp [exCells_len])

end Go.Proofs.YtehfihnfeakmaaaGreatDoor
end

section
namespace Go.Proofs.YtehfihnfeakmaaaGreatDoor
open Go
set_option linter.unusedSimpArgs false
set_option linter.unusedVariables false
set_option maxRecDepth 10000
set_option maxHeartbeats 4000000

/-- a function that hands back some bool -/
def someB (H : List Blk) : SV → List Blk → Prop := fun r H' => H' = H ∧ ∃ b, r = .bool b

theorem whole_ok (G : Gl) (hG : GClosed G) : ∀ (m : Nat) (e : Ex) (H : List Blk), e.wt ≤ m → e.wt < 4294967296 → ACall Tryz.prog G 39 [e.sv] H (someB H)
  | 0, e, H, hw, _ => by have := e.wt_pos; omega
  | m + 1, e, H, hw, hb => by
    obtain ⟨kd, nm, nn, op, names, subs, binds, alts⟩ := e
    have hlen := Ex.wt_lens kd nm nn op names subs binds alts
    generalize hp : (Ex.mk kd nm nn op names subs binds alts).parts = pp
    have hpl : pp.length ≤ (Ex.mk kd nm nn op names subs binds alts).wt := by rw [← hp, Ex.parts_mk]; simp; omega
    refine ACall.of_go TB [] tabOK _ Tryz.func39 rfl (by decide) Tryz.ntmps39 (by simp) rfl (by simp only [initEnv, Nat.reduceAdd]; rfl) fun C R' hR hC hcl hB => ?_; have X := noX; have hC' := congrArg List.length hC
    have hC' : C.H.length = H.length := by rw [hC]
    (refine runD ?_; repeat' (first | with_reducible exact trivial | ((with_reducible apply Fork.mk) <;> intro hb) | with_reducible apply Two.mk))
    refine go_cut (fun b : Bool => [(1, .ptr H.length 0 0 0), (60, .bool b)]) (fun _ => H ++ [.cells 0 8 [.agg [.int .i64 kd, .str nm, .int .i64 nn, .int .i64 op, .list 1 (names.map .str), .list 8 (exCells subs), .list 9 (bdCells binds), .list 12 (alCells alts)]]]) (fun _ => True) (fun K hK => ?_) (fun b _ => ?_)
    · (refine run ?_; repeat' (first | with_reducible exact trivial | ((with_reducible apply Fork.mk) <;> intro hb) | with_reducible apply Two.mk))
      all_goals try (
        refine xg_call ?_ (args_ok G hG op _) ?_
        · exact evS
        rintro r H' ⟨rfl, rfl⟩
        (refine run ?_; repeat' (first | with_reducible exact trivial | ((with_reducible apply Fork.mk) <;> intro hb) | with_reducible apply Two.mk)))
      all_goals
        apply hK _ _ _ trivial
        exact wkS (n0 := H.length) [(H.length, 0)] hG hB (by rw [hC]) hcl
    (refine run ?_; repeat' (first | with_reducible exact trivial | ((with_reducible apply Fork.mk) <;> intro hb) | with_reducible apply Two.mk))
    · exact Fin.tellN (n0 := H.length) hR (by simp) hC' hcl (.same _ rfl) ⟨rfl, _, rfl⟩
    refine go_call ?_ rfl (parts_ok G hG (Ex.mk kd nm nn op names subs binds alts) _ ‹_›) ?_
    · exact evS
    rintro r H' ⟨rfl, rfl⟩
    rw [hp]
    (refine run ?_; repeat' (first | with_reducible exact trivial | ((with_reducible apply Fork.mk) <;> intro hb) | with_reducible apply Two.mk))
    refine go_loop (fun i : Nat => [(3, .list 8 (exCells pp)), (4, .int .i64 i)]) (fun i => H ++ [])
      (fun i => pp.length - i) (fun i => i ≤ pp.length) 0 (Nat.zero_le _) ?_ ?_
    · exact wkS (n0 := H.length) [] hG hB (by rw [hC]) hcl
    · intro K2 i hi hK2
      (refine run ?_; repeat' (first | with_reducible exact trivial | ((with_reducible apply Fork.mk) <;> intro hb) | with_reducible apply Two.mk))
      · have hpi : (pp[i]'(by omega)).wt < (Ex.mk kd nm nn op names subs binds alts).wt := by
          subst hp
          exact Ex.wt_parts (List.getElem_mem _)
        refine go_call ?_ rfl (whole_ok G hG m (pp[i]'(by omega)) _ (by omega) (by omega)) ?_
        · exact evS
        rintro r H' ⟨rfl, bb, rfl⟩
        (refine run ?_; repeat' (first | with_reducible exact trivial | ((with_reducible apply Fork.mk) <;> intro hb) | with_reducible apply Two.mk))
        · exact Fin.tellN (n0 := H.length) hR (by simp) hC' hcl (.same _ rfl) ⟨rfl, _, rfl⟩
        · refine hK2 _ _ (i + 1) (by omega) (by omega) ?_
          exact wkS (n0 := H.length) [] hG hB (by rw [hC]) hcl
      · exact Fin.tellN (n0 := H.length) hR (by simp) hC' hcl (.same _ rfl) ⟨rfl, _, rfl⟩
end Go.Proofs.YtehfihnfeakmaaaGreatDoor
end

section
namespace Go.Proofs.YtehfihnfeakmaaaGreatDoor
open Go
set_option linter.unusedSimpArgs false
set_option linter.unusedVariables false
set_option maxRecDepth 10000
set_option maxHeartbeats 4000000

theorem shape_ok (G : Gl) (hG : GClosed G) : ∀ (m : Nat) (e : Ex) (H : List Blk), e.wt ≤ m → e.wt < 4294967296 → ACall Tryz.prog G 38 [e.sv] H (someB H)
  | 0, e, H, hw, _ => by have := e.wt_pos; omega
  | m + 1, e, H, hw, hb => by
    obtain ⟨kd, nm, nn, op, names, subs, binds, alts⟩ := e
    have hlen := Ex.wt_lens kd nm nn op names subs binds alts
    generalize hp : (Ex.mk kd nm nn op names subs binds alts).parts = pp
    have hpl : pp.length ≤ (Ex.mk kd nm nn op names subs binds alts).wt := by rw [← hp, Ex.parts_mk]; simp; omega
    refine ACall.of_go TB [] tabOK _ Tryz.func38 rfl (by decide) Tryz.ntmps38 (by simp) rfl (by simp only [initEnv, Nat.reduceAdd]; rfl) fun C R' hR hC hcl hB => ?_; have X := noX; have hC' := congrArg List.length hC
    have hC' : C.H.length = H.length := by rw [hC]
    (refine run ?_; repeat' (first | with_reducible exact trivial | ((with_reducible apply Fork.mk) <;> intro hb) | with_reducible apply Two.mk))
    all_goals first | exact Fin.tellN (n0 := H.length) hR (by simp) hC' hcl (.same _ rfl) ⟨rfl, _, rfl⟩ | skip
    refine go_call ?_ rfl (args_ok G hG op _) ?_
    · exact evS
    rintro r H' ⟨rfl, rfl⟩
    (refine run ?_; repeat' (first | with_reducible exact trivial | ((with_reducible apply Fork.mk) <;> intro hb) | with_reducible apply Two.mk))
    all_goals first | exact Fin.tellN (n0 := H.length) hR (by simp) hC' hcl (.same _ rfl) ⟨rfl, _, rfl⟩ | skip
    all_goals
      refine go_loop (fun i : Nat => [(1, .ptr H.length 0 0 0), (6, .int .i64 i)]) (fun i => H ++ [.cells 0 8 [.agg [.int .i64 kd, .str nm, .int .i64 nn, .int .i64 op, .list 1 (names.map .str), .list 8 (exCells subs), .list 9 (bdCells binds), .list 12 (alCells alts)]]])
        (fun i => alts.length - i) (fun i => i ≤ alts.length) 0 (Nat.zero_le _) ?_ ?_
      · exact wkS (n0 := H.length) [(H.length, 0)] hG hB (by rw [hC]) hcl
      intro K i hi hK
      (refine run ?_; repeat' (first | with_reducible exact trivial | ((with_reducible apply Fork.mk) <;> intro hb) | with_reducible apply Two.mk))
      · exact Fin.tellN (n0 := H.length) hR (by simp) hC' hcl (.same _ rfl) ⟨rfl, _, rfl⟩
      · refine hK _ _ (i + 1) (by omega) (by omega) ?_
        exact wkS (n0 := H.length) [(H.length, 0)] hG hB (by rw [hC]) hcl
      refine go_call ?_ rfl (parts_ok G hG (Ex.mk kd nm nn op names subs binds alts) _ ‹_›) ?_
      · exact evS
      rintro r H' ⟨rfl, rfl⟩
      rw [hp]
      (refine run ?_; repeat' (first | with_reducible exact trivial | ((with_reducible apply Fork.mk) <;> intro hb) | with_reducible apply Two.mk))
      refine go_loop (fun i : Nat => [(8, .list 8 (exCells pp)), (9, .int .i64 i)]) (fun i => H ++ [])
        (fun i => pp.length - i) (fun i => i ≤ pp.length) 0 (Nat.zero_le _) ?_ ?_
      · exact wkS (n0 := H.length) [] hG hB (by rw [hC]) hcl
      · intro K2 i hi hK2
        (refine run ?_; repeat' (first | with_reducible exact trivial | ((with_reducible apply Fork.mk) <;> intro hb) | with_reducible apply Two.mk))
        · have hpi : (pp[i]'(by omega)).wt < (Ex.mk kd nm nn op names subs binds alts).wt := by
            subst hp
            exact Ex.wt_parts (List.getElem_mem _)
          refine go_call ?_ rfl (shape_ok G hG m (pp[i]'(by omega)) _ (by omega) (by omega)) ?_
          · exact evS
          rintro r H' ⟨rfl, bb, rfl⟩
          (refine run ?_; repeat' (first | with_reducible exact trivial | ((with_reducible apply Fork.mk) <;> intro hb) | with_reducible apply Two.mk))
          · exact Fin.tellN (n0 := H.length) hR (by simp) hC' hcl (.same _ rfl) ⟨rfl, _, rfl⟩
          · refine hK2 _ _ (i + 1) (by omega) (by omega) ?_
            exact wkS (n0 := H.length) [] hG hB (by rw [hC]) hcl
        · exact Fin.tellN (n0 := H.length) hR (by simp) hC' hcl (.same _ rfl) ⟨rfl, _, rfl⟩

end Go.Proofs.YtehfihnfeakmaaaGreatDoor
end

section
namespace Go.Proofs.YtehfihnfeakmaaaGreatDoor
open Go
set_option linter.unusedSimpArgs false
set_option linter.unusedVariables false
set_option maxRecDepth 10000
set_option maxHeartbeats 4000000

/-- tally of one name -/
def tl (s : Str) (n : Int) (b : Bool) : SV := .agg [.str s, .int .i64 n, .bool b]

/-- the names that an expression binds in all its parts -/
def ownOf (k : Int) (l : List Str) (binds : List Bd) : List Str := if k = 3 then l else if k = 5 then binds.map Bd.name else []

mutual
/-- how often a name stands free -/
def occ (s : Str) : Ex → Nat
  | .mk k nm _ _ l subs binds alts => if k = 1 then (if nm = s then 1 else 0) else if s ∈ ownOf k l binds then 0 else occL s subs + occB s binds + occA s (k = 6 ∧ nm = s) alts
def occL (s : Str) : List Ex → Nat
  | [] => 0
  | e :: r => occ s e + occL s r
def occBd (s : Str) : Bd → Nat
  | .mk _ e => occ s e
def occB (s : Str) : List Bd → Nat
  | [] => 0
  | b :: r => occBd s b + occB s r
def occAl (s : Str) (c : Prop) [Decidable c] : Al → Nat
  | .mk _ _ _ l e => if s ∈ l ∨ c then 0 else occ s e
def occA (s : Str) (c : Prop) [Decidable c] : List Al → Nat
  | [] => 0
  | a :: r => occAl s c a + occA s c r
end
mutual
/-- does it stand somewhere within a Lam? -/
def insd (s : Str) (b : Bool) : Ex → Bool
  | .mk k nm _ _ l subs binds alts => if k = 1 then (b && decide (nm = s)) else if s ∈ ownOf k l binds then false else insdL s (b || decide (k = 3)) subs || insdB s (b || decide (k = 3)) binds || insdA s (b || decide (k = 3)) (k = 6 ∧ nm = s) alts
def insdL (s : Str) (b : Bool) : List Ex → Bool
  | [] => false
  | e :: r => insd s b e || insdL s b r
def insdBd (s : Str) (b : Bool) : Bd → Bool
  | .mk _ e => insd s b e
def insdB (s : Str) (b : Bool) : List Bd → Bool
  | [] => false
  | x :: r => insdBd s b x || insdB s b r
def insdAl (s : Str) (b : Bool) (c : Prop) [Decidable c] : Al → Bool
  | .mk _ _ _ l e => if s ∈ l ∨ c then false else insd s b e
def insdA (s : Str) (b : Bool) (c : Prop) [Decidable c] : List Al → Bool
  | [] => false
  | a :: r => insdAl s b c a || insdA s b c r
end

theorem Bd.mk_eta (b : Bd) : Bd.mk b.name b.e = b := by cases b; rfl
theorem Al.mk_eta (a : Al) : Al.mk a.kind a.name a.n a.names a.body = a := by cases a; rfl
theorem occBd_eq (s : Str) (b : Bd) : occBd s b = occ s b.e := by cases b; rw [occBd]; rfl
theorem occAl_eq (s : Str) (c : Prop) [Decidable c] (a : Al) : occAl s c a = if s ∈ a.names ∨ c then 0 else occ s a.body := by cases a; rw [occAl]; rfl
theorem insdBd_eq (s : Str) (q : Bool) (b : Bd) : insdBd s q b = insd s q b.e := by cases b; rw [insdBd]; rfl
theorem insdAl_eq (s : Str) (q : Bool) (c : Prop) [Decidable c] (a : Al) : insdAl s q c a = if s ∈ a.names ∨ c then false else insd s q a.body := by cases a; rw [insdAl]; rfl

mutual
theorem occ_le (s : Str) : ∀ e : Ex, occ s e ≤ e.wt
  | .mk k nm n o l subs binds alts => by
    have h1 := occL_le s subs
    have h2 := occB_le s binds
    have h3 := occA_le s (k = 6 ∧ nm = s) alts
    simp only [occ, Ex.wt]
    split
    · split <;> omega
    · split <;> omega
theorem occL_le (s : Str) : ∀ l : List Ex, occL s l ≤ exsWt l
  | [] => Nat.le_refl _
  | e :: r => by have h1 := occ_le s e; have h2 := occL_le s r; simp only [occL, exsWt]; omega
theorem occBd_le (s : Str) : ∀ b : Bd, occBd s b ≤ b.wt
  | .mk n e => by have h1 := occ_le s e; simp only [occBd, Bd.wt]; omega
theorem occB_le (s : Str) : ∀ l : List Bd, occB s l ≤ bdsWt l
  | [] => Nat.le_refl _
  | e :: r => by have h1 := occBd_le s e; have h2 := occB_le s r; simp only [occB, bdsWt]; omega
theorem occAl_le (s : Str) (c : Prop) [Decidable c] : ∀ b : Al, occAl s c b ≤ b.wt
  | .mk k nm n l e => by have h1 := occ_le s e; simp only [occAl, Al.wt]; split <;> omega
theorem occA_le (s : Str) (c : Prop) [Decidable c] : ∀ l : List Al, occA s c l ≤ alsWt l
  | [] => Nat.le_refl _
  | e :: r => by have h1 := occAl_le s c e; have h2 := occA_le s c r; simp only [occA, alsWt]; omega
end

theorem Al.wt_names (a : Al) : a.names.length ≤ a.wt := by cases a; simp only [Al.wt, Al.names]; have := strsWt_len ‹_›; omega

end Go.Proofs.YtehfihnfeakmaaaGreatDoor
end

section
namespace Go.Proofs.YtehfihnfeakmaaaGreatDoor
open Go
set_option linter.unusedSimpArgs false
set_option linter.unusedVariables false
set_option maxRecDepth 10000
set_option maxHeartbeats 4000000

theorem right_ok (G : Gl) (hG : GClosed G) (e : Ex) (H : List Blk) (hw0 : e.wt < 4294967296) : ACall Tryz.prog G 15 [e.sv] H (someB H) := by
  refine ACall.of_go TB [] tabOK _ Tryz.func15 rfl (by decide) Tryz.ntmps15 (by simp) rfl (by simp only [initEnv, Nat.reduceAdd]; rfl) fun C R' hR hC hcl hB => ?_; have X := noX; have hC' := congrArg List.length hC
  have hC' : C.H.length = H.length := by rw [hC]
  (refine run ?_; repeat' (first | with_reducible exact trivial | ((with_reducible apply Fork.mk) <;> intro hb) | with_reducible apply Two.mk))
  refine go_call ?_ rfl (shape_ok G hG _ e _ (Nat.le_refl _) hw0) ?_
  · exact evS
  rintro r H' ⟨rfl, bb, rfl⟩
  (refine run ?_; repeat' (first | with_reducible exact trivial | ((with_reducible apply Fork.mk) <;> intro hb) | with_reducible apply Two.mk))
  · exact Fin.tellN (n0 := H.length) hR (by simp) hC' hcl (.same _ rfl) ⟨rfl, _, rfl⟩
  refine go_call ?_ rfl (whole_ok G hG _ e _ (Nat.le_refl _) hw0) ?_
  · exact evS
  rintro r H' ⟨rfl, b2, rfl⟩
  (refine run ?_; repeat' (first | with_reducible exact trivial | ((with_reducible apply Fork.mk) <;> intro hb) | with_reducible apply Two.mk))
  exact Fin.tellN (n0 := H.length) hR (by simp) hC' hcl (.same _ rfl) ⟨rfl, _, rfl⟩

end Go.Proofs.YtehfihnfeakmaaaGreatDoor
end

section
namespace Go.Proofs.YtehfihnfeakmaaaGreatDoor
open Go
set_option linter.unusedSimpArgs false
set_option linter.unusedVariables false
set_option maxRecDepth 10000
set_option maxHeartbeats 4000000

theorem exCells_app (a b : List Ex) : exCells (a ++ b) = exCells a ++ exCells b := by simp [exCells_map]
theorem exCells_one (x : Ex) : exCells [x] = [.agg x.cells] := by simp [exCells_map, Ex.sv]
theorem exCells_takeAll (l : List Ex) : List.take l.length (exCells l) = exCells l := List.take_of_length_le (by simp [exCells_len])
/-- the parts in which a name may stand free -/
def keepA (s : Str) (c : Prop) [Decidable c] (a : Al) : Bool := !decide (s ∈ a.names ∨ c)
def occS (s : Str) (l : List Ex) : Nat := (l.map (occ s)).sum
def insS (s : Str) (b : Bool) (l : List Ex) : Bool := l.any (insd s b)
theorem occL_eq (s : Str) : ∀ l : List Ex, occL s l = occS s l
  | [] => rfl
  | e :: r => by simp only [occL, occS, List.map_cons, List.sum_cons, occL_eq s r]
theorem occB_eq (s : Str) : ∀ l : List Bd, occB s l = occS s (l.map Bd.e)
  | [] => rfl
  | e :: r => by simp only [occB, occS, List.map_cons, List.sum_cons, occB_eq s r, occBd_eq]
theorem occA_eq (s : Str) (c : Prop) [Decidable c] : ∀ l : List Al, occA s c l = occS s ((l.filter (keepA s c)).map Al.body)
  | [] => rfl
  | e :: r => by
    simp only [occA, occAl_eq, occA_eq s c r, List.filter_cons, keepA]
    by_cases h : s ∈ e.names ∨ c
    · simp [h]
    · simp [h, occS]
theorem insdL_eq (s : Str) (b : Bool) : ∀ l : List Ex, insdL s b l = insS s b l
  | [] => rfl
  | e :: r => by simp only [insdL, insS, List.any_cons, insdL_eq s b r]
theorem insdB_eq (s : Str) (b : Bool) : ∀ l : List Bd, insdB s b l = insS s b (l.map Bd.e)
  | [] => rfl
  | e :: r => by simp only [insdB, insS, List.map_cons, List.any_cons, insdB_eq s b r, insdBd_eq]
theorem insdA_eq (s : Str) (b : Bool) (c : Prop) [Decidable c] : ∀ l : List Al, insdA s b c l = insS s b ((l.filter (keepA s c)).map Al.body)
  | [] => rfl
  | e :: r => by
    simp only [insdA, insdAl_eq, insdA_eq s b c r, List.filter_cons, keepA]
    by_cases h : s ∈ e.names ∨ c
    · simp [h]
    · simp [h, insS]

def usL (s : Str) (kd : Int) (nm : Str) (subs : List Ex) (binds : List Bd) (alts : List Al) : List Ex := subs ++ (binds.map Bd.e ++ (alts.filter (keepA s (kd = 6 ∧ nm = s))).map Al.body)
theorem occS_app (s : Str) (a b : List Ex) : occS s (a ++ b) = occS s a + occS s b := by simp [occS]
theorem insS_app (s : Str) (q : Bool) (a b : List Ex) : insS s q (a ++ b) = (insS s q a || insS s q b) := by simp [insS]
theorem occ_us (s : Str) {kd : Int} {nm : Str} {nn op : Int} {names : List Str} {subs : List Ex} {binds : List Bd} {alts : List Al} (hk : kd ≠ 1) (ho : s ∉ ownOf kd names binds) :
    occ s (.mk kd nm nn op names subs binds alts) = occS s (usL s kd nm subs binds alts) := by
  rw [occ, if_neg hk, if_neg ho, occL_eq, occB_eq, occA_eq, usL, occS_app, occS_app, Nat.add_assoc]
theorem ins_us (s : Str) (b : Bool) {kd : Int} {nm : Str} {nn op : Int} {names : List Str} {subs : List Ex} {binds : List Bd} {alts : List Al} (hk : kd ≠ 1) (ho : s ∉ ownOf kd names binds) :
    insd s b (.mk kd nm nn op names subs binds alts) = insS s (b || decide (kd = 3)) (usL s kd nm subs binds alts) := by
  rw [insd, if_neg hk, if_neg ho, insdL_eq, insdB_eq, insdA_eq, usL, insS_app, insS_app, Bool.or_assoc]
theorem usL_parts {s : Str} {kd : Int} {nm : Str} {nn op : Int} {names : List Str} {subs : List Ex} {binds : List Bd} {alts : List Al} {x : Ex} (h : x ∈ usL s kd nm subs binds alts) : x ∈ (Ex.mk kd nm nn op names subs binds alts).parts := by
  rw [Ex.parts_mk]
  simp only [usL, List.mem_append, List.mem_map, List.mem_filter] at h ⊢
  rcases h with h | h | ⟨a, h, h2⟩
  · exact .inl h
  · exact .inr (.inl h)
  · exact .inr (.inr ⟨a, h.1, h2⟩)
theorem ins_law (s : Str) : ∀ (m : Nat) (e : Ex), e.wt ≤ m → insd s true e = decide (0 < occ s e) ∧ (insd s false e = true → 0 < occ s e)
  | 0, e, h => by have := e.wt_pos; omega
  | m + 1, e, h => by
    obtain ⟨kd, nm, nn, op, names, subs, binds, alts⟩ := e
    by_cases hk : kd = 1
    · subst hk
      rw [occ, insd, insd, if_pos rfl, if_pos rfl, if_pos rfl]
      by_cases hn : nm = s <;> simp [hn]
    · by_cases ho : s ∈ ownOf kd names binds
      · rw [occ, insd, insd, if_neg hk, if_neg hk, if_neg hk, if_pos ho, if_pos ho, if_pos ho]
        simp
      · rw [occ_us s hk ho, ins_us s _ hk ho, ins_us s _ hk ho, Bool.true_or, Bool.false_or]
        have hm : ∀ x ∈ usL s kd nm subs binds alts, x.wt ≤ m := fun x hx => by
          have := Ex.wt_parts (usL_parts (nn := nn) (op := op) (names := names) hx)
          omega
        generalize usL s kd nm subs binds alts = l at hm
        have h1 : insS s true l = decide (0 < occS s l) := by
          induction l with
          | nil => rfl
          | cons x r ih =>
            have h2 := (ins_law s m x (hm x (List.mem_cons_self ..))).1
            have h3 := ih (fun y hy => hm y (List.mem_cons_of_mem _ hy))
            rw [show insS s true (x :: r) = (insd s true x || insS s true r) from rfl, h2, h3, show occS s (x :: r) = occ s x + occS s r from by simp [occS]]
            by_cases ha : 0 < occ s x <;> by_cases hb : 0 < occS s r <;> simp [ha, hb] <;> omega
        refine ⟨h1, fun hi => ?_⟩
        by_cases h3 : kd = 3
        · rw [decide_eq_true h3, h1] at hi
          exact of_decide_eq_true hi
        · rw [decide_eq_false h3] at hi
          clear h1
          induction l with
          | nil => cases hi
          | cons x r ih =>
            simp only [insS, List.any_cons, Bool.or_eq_true] at hi
            simp only [occS, List.map_cons, List.sum_cons]
            rcases hi with hi | hi
            · have := (ins_law s m x (hm x (List.mem_cons_self ..))).2 hi
              omega
            · have := ih (fun y hy => hm y (List.mem_cons_of_mem _ hy)) hi
              simp only [occS] at this
              omega
theorem usL_take {s : Str} {kd : Int} {nm : Str} {subs : List Ex} {binds : List Bd} {alts : List Al} {i : Nat} (h : i < alts.length) :
    usL s kd nm subs binds (alts.take (i + 1)) = usL s kd nm subs binds (alts.take i) ++ (if keepA s (kd = 6 ∧ nm = s) alts[i] = true then [alts[i].body] else []) := by
  rw [List.take_succ_eq_append_getElem h, usL, usL, List.filter_append, List.map_append, List.append_assoc, List.append_assoc]
  congr 3
  simp only [List.filter_cons, List.filter_nil]
  split <;> simp
theorem Al.names_lt {kd : Int} {nm : Str} {nn op : Int} {names : List Str} {subs : List Ex} {binds : List Bd} {alts : List Al} {i : Nat} (h : i < alts.length) : alts[i].names.length ≤ (Ex.mk kd nm nn op names subs binds alts).wt := by
  have h1 := alsWt_mem (List.getElem_mem h)
  have h2 := Al.wt_names alts[i]
  simp only [Ex.wt]
  omega
theorem ins_step (s : Str) (q : Prop) [Decidable q] (x : Ex) : (insd s false x || (decide (0 < occ s x) && decide q)) = insd s (decide q) x := by
  obtain ⟨h1, h2⟩ := ins_law s _ x (Nat.le_refl _)
  by_cases h : q
  · simp only [h, decide_true, Bool.and_true]
    rw [h1]
    cases hi : insd s false x with
    | false => rfl
    | true => simp [h2 hi]
  · simp [h]
theorem occS_take (s : Str) (l : List Ex) (i : Nat) : occS s (l.take i) ≤ occS s l := by
  have : occS s l = occS s (l.take i) + occS s (l.drop i) := by rw [← occS_app, List.take_append_drop]
  omega
theorem occS_next {s : Str} {l : List Ex} {i : Nat} (h : i < l.length) : occS s (l.take (i + 1)) = occS s (l.take i) + occ s l[i] := by
  rw [List.take_succ_eq_append_getElem h, occS_app]
  simp [occS]
theorem insS_next {s : Str} {q : Bool} {l : List Ex} {i : Nat} (h : i < l.length) : insS s q (l.take (i + 1)) = (insS s q (l.take i) || insd s q l[i]) := by
  rw [List.take_succ_eq_append_getElem h, insS_app]
  simp [insS]
end Go.Proofs.YtehfihnfeakmaaaGreatDoor
end

section
namespace Go.Proofs.YtehfihnfeakmaaaGreatDoor
open Go
set_option linter.unusedSimpArgs false
set_option linter.unusedVariables false
set_option maxRecDepth 10000
set_option maxHeartbeats 4000000

theorem clone_strs (G : Gl) (hG : GClosed G) (l : List Str) (H : List Blk) (hl : l.length < 1099511627776) : ACall Tryz.prog G 57 [.list 1 (l.map .str)] H (fun r H' => H' = H ++ [.cells 0 1 (l.map .str)] ∧ r = .sl H.length 0 0 l.length) := by
  refine ACall.of_go TB [2,5] tabOK _ Tryz.func57 rfl (by decide) Tryz.ntmps57 (by simp) rfl (by simp only [initEnv, Nat.reduceAdd]; rfl) fun C R' hR hC hcl hB => ?_; have X := noX; have hC' := congrArg List.length hC
  (refine runO ?_; repeat' (first | with_reducible exact trivial | ((with_reducible apply Fork.mk) <;> intro hb) | with_reducible apply Two.mk))
  · obtain rfl : l = [] := List.length_eq_zero_iff.1 hb
    exact finK [(H.length + 1, 0)] (.sl H.length 0 0 0) [.cells 0 1 []] hR hC' hcl ⟨rfl, rfl⟩
  · exact finK [(H.length + 1, 0)] (.sl H.length 0 0 l.length) [.cells 0 1 (l.map .str)] hR hC' hcl ⟨rfl, rfl⟩

/-- the parts of an expression, each with the names that are bound in it besides -/
def scopeParts : Ex → List (Ex × List Str)
  | .mk kd nm _ _ names subs binds alts => subs.map (fun x => (x, ownOf kd names binds)) ++ (binds.map (fun b => (b.e, ownOf kd names binds)) ++ alts.map (fun a => (a.body, a.names ++ if kd = 6 then [nm] else [])))

theorem scope_sub {kd : Int} {nm : Str} {nn op : Int} {names : List Str} {subs : List Ex} {binds : List Bd} {alts : List Al} {i : Nat} (h : i < subs.length) : (scopeParts (.mk kd nm nn op names subs binds alts))[i]? = some (subs[i], ownOf kd names binds) := by
  simp only [scopeParts]
  rw [List.getElem?_append_left (by simpa using h), List.getElem?_map, List.getElem?_eq_getElem h]; rfl
theorem scope_bind {kd : Int} {nm : Str} {nn op : Int} {names : List Str} {subs : List Ex} {binds : List Bd} {alts : List Al} {i : Nat} (h : i < binds.length) : (scopeParts (.mk kd nm nn op names subs binds alts))[subs.length + i]? = some (binds[i].e, ownOf kd names binds) := by
  simp only [scopeParts]
  rw [List.getElem?_append_right (by simp), List.length_map, Nat.add_sub_cancel_left, List.getElem?_append_left (by simpa using h), List.getElem?_map, List.getElem?_eq_getElem h]; rfl
theorem scope_alt {kd : Int} {nm : Str} {nn op : Int} {names : List Str} {subs : List Ex} {binds : List Bd} {alts : List Al} {i : Nat} (h : i < alts.length) : (scopeParts (.mk kd nm nn op names subs binds alts))[subs.length + binds.length + i]? = some (alts[i].body, alts[i].names ++ if kd = 6 then [nm] else []) := by
  simp only [scopeParts]
  rw [List.getElem?_append_right (by simp; omega), List.length_map, show subs.length + binds.length + i - subs.length = binds.length + i by omega, List.getElem?_append_right (by simp), List.length_map, Nat.add_sub_cancel_left, List.getElem?_map, List.getElem?_eq_getElem h]; rfl

theorem scopes_ok (G : Gl) (hG : GClosed G) (e : Ex) (hw : e.wt < 549755813888) (fv : SV) (Hs : Nat → List Blk) (n0 : Nat) (hlen : ∀ i, (Hs i).length = n0) (hfu : fv.under n0 = true) (hcls : closed (Hs 0) → ∀ i, closed (Hs i))
    (hy : ∀ i p X, (scopeParts e)[i]? = some p → ACallV Tryz.prog G fv [p.1.sv, .list 1 (p.2.map .str)] (Hs i ++ X) (fun r H' => H' = Hs (i + 1) ++ X)) :
    ACall Tryz.prog G 95 [e.sv, fv] (Hs 0) (fun r H' => H' = Hs (scopeParts e).length) := by
  obtain ⟨kd, nm, nn, op, names, subs, binds, alts⟩ := e
  have hle := Ex.wt_lens kd nm nn op names subs binds alts
  have hpl : (scopeParts (Ex.mk kd nm nn op names subs binds alts)).length = subs.length + binds.length + alts.length := by simp [scopeParts]; omega
  refine ACall.of_go TB [4] tabOK _ Tryz.func95 rfl (by decide) Tryz.ntmps95 (by simp) rfl (by simp only [initEnv, Nat.reduceAdd]; rfl) fun C R' hR hC hcl hB => ?_; have X := noX; have hC' := congrArg List.length hC
  have hcl := hcls hcl
  have hC' := hC'.trans (hlen 0)
  have X := hsX Hs n0 hlen
  (refine runB ?_; repeat' (first | with_reducible exact trivial | ((with_reducible apply Fork.mk) <;> intro hb) | with_reducible apply Two.mk))
  refine go_cut (fun _ : Unit => [(1, fv), (2, .ptr n0 0 0 0), (4, .list 1 ((ownOf kd names binds).map .str))]) (fun _ => Hs 0 ++ [.cells 0 8 [.agg [.int .i64 kd, .str nm, .int .i64 nn, .int .i64 op, .list 1 (names.map .str), .list 8 (exCells subs), .list 9 (bdCells binds), .list 12 (alCells alts)]]]) (fun _ => True) (fun K hK => ?_) (fun _ _ => ?_)
  · (refine runO ?_; repeat' (first | with_reducible exact trivial | ((with_reducible apply Fork.mk) <;> intro hb) | with_reducible apply Two.mk))
    · refine hK _ _ () trivial ?_
      simp only [ownOf, if_pos hb]
      exact wkS (n0 := n0) [(n0, 0)] hG hB hC' (hcl 0)
    · refine go_loop (fun i : Nat => [(1, fv), (2, .ptr n0 0 0 0), (23, .list 9 (bdCells binds)), (24, .int .i64 binds.length), (25, .int .i64 i), (4, .sl (n0 + 1) 0 0 i)])
        (fun i => Hs 0 ++ [.cells 0 8 [.agg [.int .i64 kd, .str nm, .int .i64 nn, .int .i64 op, .list 1 (names.map .str), .list 8 (exCells subs), .list 9 (bdCells binds), .list 12 (alCells alts)]], .cells 0 1 ((binds.take i).map fun b => .str b.name)]) (fun i => binds.length - i) (fun i => i ≤ binds.length) 0 (Nat.zero_le _) ?_ ?_
      · exact wkS (n0 := n0) [(n0, 0), (n0 + 1, 0)] hG hB hC' (hcl 0)
      · intro K2 i hi hK2
        (refine runO ?_; repeat' (first | with_reducible exact trivial | ((with_reducible apply Fork.mk) <;> intro hb) | with_reducible apply Two.mk))
        · refine hK2 _ _ (i + 1) (by omega) (by omega) ?_
          simp only [List.take_succ_eq_append_getElem (show i < binds.length by omega), List.map_append, List.map_cons, List.map_nil]
          exact wkS (n0 := n0) [(n0, 0), (n0 + 1, 0)] hG hB hC' (hcl 0)
        · refine hK _ _ () trivial ?_
          obtain rfl : i = binds.length := by omega
          have e1 : ownOf kd names binds = binds.map Bd.name := by simp [ownOf, ‹kd = 5›]
          simp only [e1, List.take_length, List.map_map]
          exact wkS (n0 := n0) [(n0, 0)] hG hB hC' (hcl 0)
    · refine hK _ _ () trivial ?_
      simp only [ownOf, if_neg ‹¬ kd = 3›, if_neg ‹¬ kd = 5›, List.map_nil]
      exact wkS (n0 := n0) [(n0, 0)] hG hB hC' (hcl 0)
  · (refine runB ?_; repeat' (first | with_reducible exact trivial | ((with_reducible apply Fork.mk) <;> intro hb) | with_reducible apply Two.mk))
    refine go_cut (fun _ : Unit => [(1, fv), (2, .ptr n0 0 0 0), (4, .list 1 ((ownOf kd names binds).map .str))]) (fun _ => Hs subs.length ++ [.cells 0 8 [.agg [.int .i64 kd, .str nm, .int .i64 nn, .int .i64 op, .list 1 (names.map .str), .list 8 (exCells subs), .list 9 (bdCells binds), .list 12 (alCells alts)]]]) (fun _ => True) (fun K hK => ?_) (fun _ _ => ?_)
    · (refine runO ?_; repeat' (first | with_reducible exact trivial | ((with_reducible apply Fork.mk) <;> intro hb) | with_reducible apply Two.mk))
      refine go_loop (fun i : Nat => [(1, fv), (2, .ptr n0 0 0 0), (4, .list 1 ((ownOf kd names binds).map .str)), (36, .list 8 (exCells subs)), (37, .int .i64 subs.length), (38, .int .i64 i)])
        (fun i => Hs i ++ [.cells 0 8 [.agg [.int .i64 kd, .str nm, .int .i64 nn, .int .i64 op, .list 1 (names.map .str), .list 8 (exCells subs), .list 9 (bdCells binds), .list 12 (alCells alts)]]]) (fun i => subs.length - i) (fun i => i ≤ subs.length) 0 (Nat.zero_le _) ?_ ?_
      · exact wkS (n0 := n0) [(n0, 0)] hG hB hC' (hcl 0)
      · intro K2 i hi hK2
        (refine runO ?_; repeat' (first | with_reducible exact trivial | ((with_reducible apply Fork.mk) <;> intro hb) | with_reducible apply Two.mk))
        · refine callV (hy i _ _ (scope_sub (by omega))) ?_
          rintro r H' rfl
          (refine runO ?_; repeat' (first | with_reducible exact trivial | ((with_reducible apply Fork.mk) <;> intro hb) | with_reducible apply Two.mk))
          refine hK2 _ _ (i + 1) (by omega) (by omega) ?_
          exact wkS (n0 := n0) [(n0, 0)] hG hB hC' (hcl (i + 1))
        · obtain rfl : i = subs.length := by omega
          refine hK _ _ () trivial ?_
          exact wkS (n0 := n0) [(n0, 0)] hG hB hC' (hcl _)
    · (refine runB ?_; repeat' (first | with_reducible exact trivial | ((with_reducible apply Fork.mk) <;> intro hb) | with_reducible apply Two.mk))
      refine go_cut (fun _ : Unit => [(1, fv), (2, .ptr n0 0 0 0), (4, .list 1 ((ownOf kd names binds).map .str))]) (fun _ => Hs (subs.length + binds.length) ++ [.cells 0 8 [.agg [.int .i64 kd, .str nm, .int .i64 nn, .int .i64 op, .list 1 (names.map .str), .list 8 (exCells subs), .list 9 (bdCells binds), .list 12 (alCells alts)]]]) (fun _ => True) (fun K hK => ?_) (fun _ _ => ?_)
      · (refine runO ?_; repeat' (first | with_reducible exact trivial | ((with_reducible apply Fork.mk) <;> intro hb) | with_reducible apply Two.mk))
        refine go_loop (fun i : Nat => [(1, fv), (2, .ptr n0 0 0 0), (4, .list 1 ((ownOf kd names binds).map .str)), (48, .list 9 (bdCells binds)), (49, .int .i64 binds.length), (50, .int .i64 i)])
          (fun i => Hs (subs.length + i) ++ [.cells 0 8 [.agg [.int .i64 kd, .str nm, .int .i64 nn, .int .i64 op, .list 1 (names.map .str), .list 8 (exCells subs), .list 9 (bdCells binds), .list 12 (alCells alts)]]]) (fun i => binds.length - i) (fun i => i ≤ binds.length) 0 (Nat.zero_le _) ?_ ?_
        · exact wkS (n0 := n0) [(n0, 0)] hG hB hC' (hcl _)
        · intro K2 i hi hK2
          (refine runO ?_; repeat' (first | with_reducible exact trivial | ((with_reducible apply Fork.mk) <;> intro hb) | with_reducible apply Two.mk))
          · refine callV (hy (subs.length + i) _ _ (scope_bind (by omega))) ?_
            rintro r H' rfl
            (refine runO ?_; repeat' (first | with_reducible exact trivial | ((with_reducible apply Fork.mk) <;> intro hb) | with_reducible apply Two.mk))
            refine hK2 _ _ (i + 1) (by omega) (by omega) ?_
            exact wkS (n0 := n0) [(n0, 0)] hG hB hC' (hcl _)
          · obtain rfl : i = binds.length := by omega
            refine hK _ _ () trivial ?_
            exact wkS (n0 := n0) [(n0, 0)] hG hB hC' (hcl _)
      · (refine runO ?_; repeat' (first | with_reducible exact trivial | ((with_reducible apply Fork.mk) <;> intro hb) | with_reducible apply Two.mk))
        refine go_loop (fun i : Nat => [(1, fv), (2, .ptr n0 0 0 0), (61, .list 12 (alCells alts)), (62, .int .i64 alts.length), (63, .int .i64 i)])
          (fun i => Hs (subs.length + binds.length + i) ++ [.cells 0 8 [.agg [.int .i64 kd, .str nm, .int .i64 nn, .int .i64 op, .list 1 (names.map .str), .list 8 (exCells subs), .list 9 (bdCells binds), .list 12 (alCells alts)]]]) (fun i => alts.length - i) (fun i => i ≤ alts.length) 0 (Nat.zero_le _) ?_ ?_
        · exact wkS (n0 := n0) [(n0, 0)] hG hB hC' (hcl _)
        · intro K2 i hi hK2
          (refine runO ?_; repeat' (first | with_reducible exact trivial | ((with_reducible apply Fork.mk) <;> intro hb) | with_reducible apply Two.mk))
          · have hi' : i < alts.length := by omega
            have hnl := Al.names_lt (kd := kd) (nm := nm) (nn := nn) (op := op) (names := names) (subs := subs) (binds := binds) hi'
            refine callS (clone_strs G hG alts[i].names _ (by omega)) ?_
            rintro r H' ⟨rfl, rfl⟩
            simp only [List.append_assoc, List.cons_append, List.nil_append, List.length_append, List.length_cons, List.length_nil, List.length_set, X, Nat.reduceAdd]
            (refine runC ?_; repeat' (first | with_reducible exact trivial | ((with_reducible apply Fork.mk) <;> intro hb) | with_reducible apply Two.mk))
            refine go_cut (fun _ : Unit => [(1, fv), (2, .ptr n0 0 0 0), (61, .list 12 (alCells alts)), (62, .int .i64 alts.length), (63, .int .i64 i), (12, .ptr (n0 + 1) 0 0 0), (13, .list 1 ((alts[i].names ++ if kd = 6 then [nm] else []).map .str))])
              (fun _ => Hs (subs.length + binds.length + i) ++ [.cells 0 8 [.agg [.int .i64 kd, .str nm, .int .i64 nn, .int .i64 op, .list 1 (names.map .str), .list 8 (exCells subs), .list 9 (bdCells binds), .list 12 (alCells alts)]], .cells 0 12 [.agg (.int .i64 alts[i].kind :: .str alts[i].name :: .int .i64 alts[i].n :: .list 1 (alts[i].names.map .str) :: alts[i].body.cells)]]) (fun _ => True) (fun K3 hK3 => ?_) (fun _ _ => ?_)
            · (refine runO ?_; repeat' (first | with_reducible exact trivial | ((with_reducible apply Fork.mk) <;> intro hb) | with_reducible apply Two.mk))
              · refine hK3 _ _ () trivial ?_
                simp only [if_pos hb, List.map_append, List.map_cons, List.map_nil, Nat.add_assoc]
                exact wkS (n0 := n0) [(n0, 0), (n0 + 1, 0)] hG hB hC' (hcl _)
              · refine hK3 _ _ () trivial ?_
                simp only [if_neg hb, List.append_nil, Nat.add_assoc]
                exact wkS (n0 := n0) [(n0, 0), (n0 + 1, 0)] hG hB hC' (hcl _)
            · (refine runO ?_; repeat' (first | with_reducible exact trivial | ((with_reducible apply Fork.mk) <;> intro hb) | with_reducible apply Two.mk))
              refine callV (hy (subs.length + binds.length + i) _ _ (scope_alt hi')) ?_
              rintro r H' rfl
              (refine runO ?_; repeat' (first | with_reducible exact trivial | ((with_reducible apply Fork.mk) <;> intro hb) | with_reducible apply Two.mk))
              refine hK2 _ _ (i + 1) (by omega) (by omega) ?_
              exact wkS (n0 := n0) [(n0, 0)] hG hB hC' (hcl _)
          · obtain rfl : i = alts.length := by omega
            refine Fin.tellN (n0 := n0) hR (hlen _) hC' (hcl _) (.same _ rfl) ?_
            rw [hpl]
end Go.Proofs.YtehfihnfeakmaaaGreatDoor
end

section
namespace Go.Proofs.YtehfihnfeakmaaaGreatDoor
open Go
set_option linter.unusedSimpArgs false
set_option linter.unusedVariables false

/-! ### maps of strings: counts, and sets -/
def cntB : List (Str × Int) → Str → Int
  | [], _ => 0
  | (k, n) :: r, s => if s = k then n else cntB r s
def setB : List (Str × Int) → Str → Int → List (Str × Int)
  | [], s, n => [(s, n)]
  | (k, m) :: r, s, n => if s = k then (s, n) :: r else (k, m) :: setB r s n
def esB (l : List (Str × Int)) : List (SV × SV) := l.map fun p => (.str p.1, .int .i64 p.2)
def putO (l : List Str) (s : Str) : List Str := if s ∈ l then l else l ++ [s]
def esO (l : List Str) : List (SV × SV) := l.map fun s => (.str s, .bool true)

theorem findSV_esB : ∀ (l : List (Str × Int)) (s : Str), (findSV (esB l) (.str s)).getD (.int .i64 0) = .int .i64 (cntB l s)
  | [], s => rfl
  | (k, n) :: r, s => by
    simp only [esB, List.map_cons, findSV, SV.keyEq, cntB]
    by_cases h : s = k
    · simp [h]
    · simp only [beq_eq_false_iff_ne.2 h, h, if_false, Bool.false_eq_true]
      exact findSV_esB r s
theorem setSV_esB : ∀ (l : List (Str × Int)) (s : Str) (n : Int), setSV (esB l) (.str s) (.int .i64 n) = esB (setB l s n)
  | [], s, n => rfl
  | (k, m) :: r, s, n => by
    simp only [esB, List.map_cons, setSV, SV.keyEq, setB]
    by_cases h : s = k
    · simp [h]
    · simp only [beq_eq_false_iff_ne.2 h, h, if_false, Bool.false_eq_true]
      rw [show setSV (List.map _ r) (.str s) (.int .i64 n) = _ from setSV_esB r s n]
      rfl
theorem setSV_esO : ∀ (l : List Str) (s : Str), setSV (esO l) (.str s) (.bool true) = esO (putO l s)
  | [], s => rfl
  | k :: r, s => by
    simp only [esO, List.map_cons, setSV, SV.keyEq, putO]
    by_cases h : s = k
    · simp [h]
    · simp only [beq_eq_false_iff_ne.2 h, if_false, Bool.false_eq_true]
      rw [show setSV (List.map _ r) (.str s) (.bool true) = _ from setSV_esO r s]
      simp only [esO, putO, List.mem_cons, h, false_or]
      split <;> rfl
theorem cnt_set : ∀ (l : List (Str × Int)) (s : Str) (n : Int) (t : Str), cntB (setB l s n) t = if t = s then n else cntB l t
  | [], s, n, t => by simp [setB, cntB]
  | (k, m) :: r, s, n, t => by
    by_cases h : s = k
    · subst h
      by_cases ht : t = s <;> simp [setB, cntB, ht]
    · simp only [setB, if_neg h, cntB, cnt_set r s n t]
      by_cases ht : t = k
      · subst ht
        rw [if_pos rfl, if_neg (fun e => h e.symm)]
        rw [if_pos rfl]
      · rw [if_neg ht, if_neg ht]
def incB (b : List (Str × Int)) (l : List Str) : List (Str × Int) := l.foldl (fun b n => setB b n (cntB b n + 1)) b
def decB (b : List (Str × Int)) (l : List Str) : List (Str × Int) := l.foldl (fun b n => setB b n (cntB b n - 1)) b
theorem cnt_inc : ∀ (l : List Str) (b : List (Str × Int)) (s : Str), cntB (incB b l) s = cntB b s + l.count s
  | [], b, s => by simp [incB]
  | x :: l, b, s => by
    rw [incB, List.foldl_cons, ← incB, cnt_inc l, cnt_set, List.count_cons]
    by_cases h : s = x
    · subst h; simp; omega
    · have h2 : ¬ x = s := fun e => h e.symm
      simp [h, h2]
theorem cnt_dec : ∀ (l : List Str) (b : List (Str × Int)) (s : Str), cntB (decB b l) s = cntB b s - l.count s
  | [], b, s => by simp [decB]
  | x :: l, b, s => by
    rw [decB, List.foldl_cons, ← decB, cnt_dec l, cnt_set, List.count_cons]
    by_cases h : s = x
    · subst h; simp; omega
    · have h2 : ¬ x = s := fun e => h e.symm
      simp [h, h2]
theorem inc_snoc (b : List (Str × Int)) (l : List Str) (x : Str) : incB b (l ++ [x]) = setB (incB b l) x (cntB (incB b l) x + 1) := by simp [incB]
theorem dec_snoc (b : List (Str × Int)) (l : List Str) (x : Str) : decB b (l ++ [x]) = setB (decB b l) x (cntB (decB b l) x - 1) := by simp [decB]

/-! ### what the gathering of free names does to both maps -/
abbrev BO := List (Str × Int) × List Str
def cstep (f : Ex → BO → BO) (st : BO) (p : Ex × List Str) : BO := (decB (f p.1 (incB st.1 p.2, st.2)).1 p.2, (f p.1 (incB st.1 p.2, st.2)).2)
def unbF : Nat → Ex → BO → BO
  | 0, _, st => st
  | m + 1, e, st => if e.kind = 1 then (if cntB st.1 e.name = 0 then (st.1, putO st.2 e.name) else st) else (scopeParts e).foldl (cstep (unbF m)) st
theorem unb_cnt : ∀ (m : Nat) (e : Ex) (st : BO) (s : Str), cntB (unbF m e st).1 s = cntB st.1 s
  | 0, e, st, s => rfl
  | m + 1, e, st, s => by
    rw [unbF]
    split
    · split <;> rfl
    · generalize scopeParts e = l
      induction l generalizing st with
      | nil => rfl
      | cons p l ih =>
        rw [List.foldl_cons, ih]
        simp only [cstep, cnt_dec, unb_cnt m, cnt_inc]
        omega
theorem cstep_cnt (m : Nat) (st : BO) (p : Ex × List Str) (s : Str) : cntB (cstep (unbF m) st p).1 s = cntB st.1 s := by
  simp only [cstep, cnt_dec, unb_cnt m, cnt_inc]
  omega
theorem csteps_cnt (m : Nat) : ∀ (l : List (Ex × List Str)) (st : BO) (s : Str), cntB (l.foldl (cstep (unbF m)) st).1 s = cntB st.1 s
  | [], st, s => rfl
  | p :: l, st, s => by rw [List.foldl_cons, csteps_cnt m l, cstep_cnt]
theorem strsWt_app : ∀ a b : List Str, strsWt (a ++ b) = strsWt a + strsWt b
  | [], b => by simp [strsWt]
  | x :: a, b => by simp only [List.cons_append, strsWt, strsWt_app a b]; omega
theorem scope_wt {e : Ex} {p : Ex × List Str} (h : p ∈ scopeParts e) : p.1.wt + p.2.length < e.wt := by
  obtain ⟨kd, nm, nn, op, names, subs, binds, alts⟩ := e
  have h1 := strsWt_len names
  have h2 : ∀ (l : List Bd) (b : Bd), b ∈ l → b.e.wt + l.length ≤ bdsWt l := fun l => by
    induction l with
    | nil => intro b hb; cases hb
    | cons x r ih =>
      intro b hb
      simp only [bdsWt, List.length_cons]
      have hx := x.wt_gt
      rcases List.mem_cons.1 hb with rfl | hb
      · have := bdsWt_len r; omega
      · have := ih b hb; omega
  have hown : (ownOf kd names binds).length ≤ strsWt names + binds.length := by
    unfold ownOf
    split
    · omega
    · split <;> simp
  have h3 := bdsWt_len binds
  simp only [Ex.wt]
  simp only [scopeParts, List.mem_append, List.mem_map] at h
  rcases h with ⟨x, hx, rfl⟩ | ⟨b, hb, rfl⟩ | ⟨a, ha, rfl⟩
  · have := exsWt_mem hx
    simp only; omega
  · have := h2 binds b hb
    simp only
    have : (ownOf kd names binds).length ≤ strsWt names + binds.length := hown
    unfold ownOf
    split
    · omega
    · split
      · simp; omega
      · simp; omega
  · have h4 := alsWt_mem ha
    obtain ⟨ak, an, am, al, ab⟩ := a
    simp only [Al.wt] at h4
    simp only [Al.body, Al.names, List.length_append]
    have := strsWt_len al
    split <;> simp <;> omega

/-! ### heaps in which two maps turn -/
def UH (H : List Blk) (ib io : Nat) (st : BO) : List Blk := (H.set ib (.map none (esB st.1))).set io (.map none (esO st.2))
theorem esB_under (n : Nat) : ∀ l : List (Str × Int), belowE n (esB l) = true
  | [] => rfl
  | p :: l => by simp only [esB, List.map_cons, belowE, SV.under, Bool.and_self, Bool.true_and]; exact esB_under n l
theorem esO_under (n : Nat) : ∀ l : List Str, belowE n (esO l) = true
  | [] => rfl
  | p :: l => by simp only [esO, List.map_cons, belowE, SV.under, Bool.and_self, Bool.true_and]; exact esO_under n l
/-- what is known of a family of heaps -/
structure MapsAt (M : BO → List Blk) (n0 ib io : Nat) : Prop where
  len : ∀ st, (M st).length = n0
  lt : ib < n0 ∧ io < n0 ∧ ib ≠ io
  get : ∀ st, (M st)[ib]? = some (.map none (esB st.1)) ∧ (M st)[io]? = some (.map none (esO st.2))
  set : ∀ st b o, (M st).set ib (.map none (esB b)) = M (b, st.2) ∧ (M st).set io (.map none (esO o)) = M (st.1, o)
  rest : ∀ st st' i, i ≠ ib → i ≠ io → (M st)[i]? = (M st')[i]?
theorem UH_maps {H : List Blk} {ib io : Nat} {st0 : BO} (hb : H[ib]? = some (.map none (esB st0.1))) (ho : H[io]? = some (.map none (esO st0.2))) (hne : ib ≠ io) : MapsAt (UH H ib io) H.length ib io ∧ UH H ib io st0 = H := by
  have lb := (List.getElem?_eq_some_iff.1 hb).1
  have lo := (List.getElem?_eq_some_iff.1 ho).1
  refine ⟨⟨fun st => by simp [UH], ⟨lb, lo, hne⟩, fun st => ⟨?_, ?_⟩, fun st b o => ⟨?_, ?_⟩, fun st st' i h1 h2 => ?_⟩, ?_⟩
  · simp only [UH]
    rw [List.getElem?_set_ne (fun e => hne e.symm), List.getElem?_set_self lb]
  · simp only [UH]
    rw [List.getElem?_set_self (by simpa using lo)]
  · simp only [UH]
    rw [List.set_comm _ _ (fun e => hne e.symm), List.set_set]
  · simp only [UH]
    rw [List.set_set]
  · simp only [UH]
    rw [List.getElem?_set_ne (fun e => h2 e.symm), List.getElem?_set_ne (fun e => h1 e.symm), List.getElem?_set_ne (fun e => h2 e.symm), List.getElem?_set_ne (fun e => h1 e.symm)]
  · simp only [UH]
    rw [set_same hb, set_same ho]
theorem MapsAt.cls {M : BO → List Blk} {n0 ib io : Nat} (h : MapsAt M n0 ib io) {st st' : BO} (hc : closed (M st)) : closed (M st') := by
  intro B hB
  obtain ⟨i, hi, rfl⟩ := List.getElem_of_mem hB
  have hi2 : i < (M st).length := by rw [h.len] at hi ⊢; exact hi
  have hl : (M st').length = (M st).length := by rw [h.len, h.len]
  have hg : (M st')[i]? = some (M st')[i] := List.getElem?_eq_getElem hi
  rw [hl]
  show Blk.under _ ((M st')[i]) = true
  by_cases h1 : i = ib
  · subst h1; rw [(h.get st').1] at hg; rw [← Option.some.inj hg]; exact esB_under _ _
  · by_cases h2 : i = io
    · subst h2; rw [(h.get st').2] at hg; rw [← Option.some.inj hg]; exact esO_under _ _
    · rw [h.rest st' st i h1 h2, List.getElem?_eq_getElem hi2] at hg
      rw [← Option.some.inj hg]
      exact hc _ (List.getElem_mem hi2)
theorem MapsAt.app {M : BO → List Blk} {n0 ib io : Nat} (h : MapsAt M n0 ib io) (L : List Blk) : MapsAt (fun st => M st ++ L) (n0 + L.length) ib io := by
  have lb : ∀ st, ib < (M st).length := fun st => by rw [h.len]; exact h.lt.1
  have lo : ∀ st, io < (M st).length := fun st => by rw [h.len]; exact h.lt.2.1
  refine ⟨fun st => by simp [h.len], ⟨by have := h.lt.1; omega, by have := h.lt.2.1; omega, h.lt.2.2⟩, fun st => ⟨?_, ?_⟩, fun st b o => ⟨?_, ?_⟩, fun st st' i h1 h2 => ?_⟩
  · rw [List.getElem?_append_left (lb st)]; exact (h.get st).1
  · rw [List.getElem?_append_left (lo st)]; exact (h.get st).2
  · rw [set_old (lb st), (h.set st b o).1]
  · rw [set_old (lo st), (h.set st b o).2]
  · rw [List.getElem?_append, List.getElem?_append, h.len, h.len, h.rest st st' i h1 h2]
theorem MapsAt.UH {M : BO → List Blk} {n0 ib io : Nat} (h : MapsAt M n0 ib io) (st st' : BO) : UH (M st) ib io st' = M st' := by
  simp only [Go.Proofs.YtehfihnfeakmaaaGreatDoor.UH]
  rw [(h.set st st'.1 []).1, (h.set _ [] st'.2).2]
/-- the same, for the reckoning -/
theorem MapsAt.X {M : BO → List Blk} {n0 ib io : Nat} (h : MapsAt M n0 ib io) : ((∀ st L, (M st ++ L)[ib]? = some (.map none (esB st.1))) ∧ (∀ st L, (M st ++ L)[io]? = some (.map none (esO st.2)))) ∧
    ((∀ st b L, (M st ++ L).set ib (.map none (esB b)) = M (b, st.2) ++ L) ∧ (∀ st o L, (M st ++ L).set io (.map none (esO o)) = M (st.1, o) ++ L)) ∧
    ((∀ st b, (M st).set ib (.map none (esB b)) = M (b, st.2)) ∧ (∀ st o, (M st).set io (.map none (esO o)) = M (st.1, o))) ∧
    ((∀ st, (M st)[ib]? = some (.map none (esB st.1))) ∧ (∀ st, (M st)[io]? = some (.map none (esO st.2)))) ∧
    ((∀ st, (M st).length = n0) ∧ (∀ st L, (M st ++ L)[n0]? = L[0]?) ∧ (∀ st L k, (M st ++ L)[n0 + k]? = L[k]?) ∧ (∀ st L x, (M st ++ L).set n0 x = M st ++ L.set 0 x) ∧ (∀ st L k x, (M st ++ L).set (n0 + k) x = M st ++ L.set k x)) := by
  have lb : ∀ st, ib < (M st).length := fun st => by rw [h.len]; exact h.lt.1
  have lo : ∀ st, io < (M st).length := fun st => by rw [h.len]; exact h.lt.2.1
  exact ⟨⟨fun st L => by rw [List.getElem?_append_left (lb st)]; exact (h.get st).1, fun st L => by rw [List.getElem?_append_left (lo st)]; exact (h.get st).2⟩,
    ⟨fun st b L => by rw [set_old (lb st), (h.set st b []).1], fun st o L => by rw [set_old (lo st), (h.set st [] o).2]⟩,
    ⟨fun st b => (h.set st b []).1, fun st o => (h.set st [] o).2⟩,
    ⟨fun st => (h.get st).1, fun st => (h.get st).2⟩, hsX M n0 h.len⟩
attribute [go_sem] findSV_esB setSV_esB setSV_esO
end Go.Proofs.YtehfihnfeakmaaaGreatDoor
end

section
namespace Go.Proofs.YtehfihnfeakmaaaGreatDoor
open Go
set_option linter.unusedSimpArgs false
set_option linter.unusedVariables false
set_option maxRecDepth 10000
set_option maxHeartbeats 4000000

def cntOK (b : List (Str × Int)) (w : Nat) : Prop := ∀ s, 0 ≤ cntB b s ∧ cntB b s + w < 1099511627776
def UnbOK (G : Gl) (f : Ex → BO → BO) (e : Ex) : Prop := ∀ (H : List Blk) (ib io : Nat) (st : BO), H[ib]? = some (.map none (esB st.1)) → H[io]? = some (.map none (esO st.2)) → ib ≠ io → cntOK st.1 e.wt →
  ACall Tryz.prog G 40 [e.sv, .map ib, .map io] H (fun r H' => H' = UH H ib io (f e st))

theorem unbound1_ok (G : Gl) (hG : GClosed G) (f : Ex → BO → BO) (s : Ex) (names : List Str) (hf : UnbOK G f s) (hfc : ∀ st t, cntB (f s st).1 t = cntB st.1 t) (M : BO → List Blk) (n0 ib io pb po : Nat) (hM : MapsAt M n0 ib io)
    (hpb : ∀ st L, (M st ++ L)[pb]? = some (.cells 0 1 [.map ib])) (hpo : ∀ st L, (M st ++ L)[po]? = some (.cells 0 1 [.map io])) (hp : pb < n0 ∧ po < n0) (st : BO) (hc : cntOK st.1 (s.wt + names.length)) (hw : s.wt + names.length < 549755813888) :
    ACall Tryz.prog G 96 [s.sv, .list 1 (names.map .str), .ptr pb 0 0 0, .ptr po 0 0 0] (M st) (fun r H' => H' = M (cstep f st (s, names))) := by
  refine ACall.of_go TB [] tabOK _ Tryz.func96 rfl (by decide) Tryz.ntmps96 (by simp) rfl (by simp only [initEnv, Nat.reduceAdd]; rfl) fun C R' hR hC hcl hB => ?_; have X := noX; have hC' := congrArg List.length hC
  have hC' := hC'.trans (hM.len st)
  have X := And.intro hM.X (And.intro hpb hpo)
  have hlen := hM.len
  have hcls : ∀ st', closed (M st') := fun st' => hM.cls hcl
  have hc2 := hc
  (refine runO ?_; repeat' (first | with_reducible exact trivial | ((with_reducible apply Fork.mk) <;> intro hb) | with_reducible apply Two.mk))
  refine go_loop (fun i : Nat => [(1, .list 1 (names.map .str)), (2, .ptr pb 0 0 0), (3, .ptr po 0 0 0), (4, .ptr n0 0 0 0), (10, .list 1 (names.map .str)), (11, .int .i64 names.length), (12, .int .i64 i)])
    (fun i => M (incB st.1 (names.take i), st.2) ++ [.cells 0 8 [s.sv]]) (fun i => names.length - i) (fun i => i ≤ names.length) 0 (Nat.zero_le _) ?_ ?_
  · exact wkS (n0 := n0) [(n0, 0)] hG hB hC' (hcls _)
  · intro K i hi hK
    (refine runO ?_; repeat' (first | with_reducible exact trivial | ((with_reducible apply Fork.mk) <;> intro hb) | with_reducible apply Two.mk))
    · have hi' : i < names.length := by omega
      have h1 := cnt_inc (names.take i) st.1 names[i]
      have h2 := hc2 names[i]
      have h3 : (names.take i).count names[i] ≤ (names.take i).length := List.count_le_length
      rw [List.length_take] at h3
      rw [wrap_i64 _ (by omega), ← inc_snoc, ← List.take_succ_eq_append_getElem hi']
      exact hK _ _ (i + 1) (by omega) (by omega) (wkS (n0 := n0) [(n0, 0)] hG hB hC' (hcls _))
    · obtain rfl : i = names.length := by omega
      rw [List.take_length]
      have hcall := hf (M (incB st.1 names, st.2) ++ [.cells 0 8 [s.sv]]) ib io (incB st.1 names, st.2) (hM.X.1.1 _ _) (hM.X.1.2 _ _) hM.lt.2.2 (fun t => by
        have h1 := cnt_inc names st.1 t
        have h2 := hc2 t
        have h3 : names.count t ≤ names.length := List.count_le_length
        simp only
        omega)
      rw [(hM.app _).UH] at hcall
      refine callS hcall ?_
      rintro r H' rfl
      generalize hst2 : f s (incB st.1 names, st.2) = st2
      have hcn : ∀ t, cntB st2.1 t = cntB st.1 t + names.count t := fun t => by rw [← hst2, hfc, cnt_inc]
      (refine runO ?_; repeat' (first | with_reducible exact trivial | ((with_reducible apply Fork.mk) <;> intro hb) | with_reducible apply Two.mk))
      refine go_loop (fun i : Nat => [(2, .ptr pb 0 0 0), (25, .list 1 (names.map .str)), (26, .int .i64 names.length), (27, .int .i64 i)])
        (fun i => M (decB st2.1 (names.take i), st2.2) ++ []) (fun i => names.length - i) (fun i => i ≤ names.length) 0 (Nat.zero_le _) ?_ ?_
      · exact wkS (n0 := n0) [] hG hB hC' (hcls _)
      · intro K2 i hi hK2
        (refine runO ?_; repeat' (first | with_reducible exact trivial | ((with_reducible apply Fork.mk) <;> intro hb) | with_reducible apply Two.mk))
        · have hi' : i < names.length := by omega
          have h1 := cnt_dec (names.take i) st2.1 names[i]
          rw [hcn] at h1
          have h2 := hc2 names[i]
          have h3 : (names.take i).count names[i] ≤ (names.take i).length := List.count_le_length
          have h4 : names.count names[i] ≤ names.length := List.count_le_length
          rw [List.length_take] at h3
          rw [wrap_i64 _ (by omega), ← dec_snoc, ← List.take_succ_eq_append_getElem hi']
          exact hK2 _ _ (i + 1) (by omega) (by omega) (wkS (n0 := n0) [] hG hB hC' (hcls _))
        · obtain rfl : i = names.length := by omega
          rw [List.take_length]
          refine Fin.tellN (n0 := n0) hR (hlen _) hC' (hcls _) (.same _ rfl) ?_
          simp only [cstep, hst2]

theorem unbound_ok (G : Gl) (hG : GClosed G) : ∀ (m : Nat) (e : Ex), e.wt ≤ m → e.wt < 549755813888 → UnbOK G (unbF m) e
  | 0, e, hw, _ => by have := e.wt_pos; omega
  | m + 1, e, hw, hw0 => by
    intro H ib io st hb ho hne hc
    obtain ⟨kd, nm, nn, op, names, subs, binds, alts⟩ := e
    obtain ⟨hM, hM0⟩ := UH_maps hb ho hne
    generalize UH H ib io = M at hM hM0 ⊢
    have hlt := hM.lt
    have hlen := hM.len
    rw [← hM0]
    refine ACall.of_go TB [] tabOK _ Tryz.func40 rfl (by decide) Tryz.ntmps40 (by simp) rfl (by simp only [initEnv, Nat.reduceAdd]; rfl) fun C R' hR hC hcl hB => ?_; have X := noX; have hC' := congrArg List.length hC
    have hC' := hC'.trans (hlen st)
    generalize H.length = n0 at hM hlt hlen hC' ⊢
    have X := hM.X
    have hcls : ∀ st', closed (M st') := fun st' => hM.cls hcl
    have hu : kd ≠ 1 → unbF (m + 1) (.mk kd nm nn op names subs binds alts) st = (scopeParts (.mk kd nm nn op names subs binds alts)).foldl (cstep (unbF m)) st := fun h => by rw [unbF]; exact if_neg h
    have hv : kd = 1 → unbF (m + 1) (.mk kd nm nn op names subs binds alts) st = if cntB st.1 nm = 0 then (st.1, putO st.2 nm) else st := fun h => by rw [unbF]; exact if_pos h
    (refine run ?_; repeat' (first | with_reducible exact trivial | ((with_reducible apply Fork.mk) <;> intro hb) | with_reducible apply Two.mk))
    · refine Fin.tellN (n0 := n0) hR (hlen _) hC' (hcls _) (.same _ rfl) ?_
      have h3 := ‹(decide (kd = 1) && decide (cntB st.1 nm = 0)) = true›
      simp only [Bool.and_eq_true, decide_eq_true_eq] at h3
      rw [hv hb, if_pos h3.2]
    · exfalso; simp_all
    · refine Fin.tellN (n0 := n0) hR (hlen _) hC' (hcls _) (.same _ rfl) ?_
      have h3 := ‹(decide (kd = 1) && decide (cntB st.1 nm = 0)) = false›
      simp only [Bool.and_eq_false_iff, decide_eq_false_iff_not] at h3
      rw [hv hb, if_neg (by rcases h3 with h3 | h3; exact absurd hb h3; exact h3)]
    · let stI : Nat → BO := fun i => ((scopeParts (.mk kd nm nn op names subs binds alts)).take i).foldl (cstep (unbF m)) st
      have hsc := scopes_ok G hG (.mk kd nm nn op names subs binds alts) hw0 (.fn (.func 96) [] [.ptr (n0 + 1) 0 0 0, .ptr (n0 + 2) 0 0 0])
        (fun i => M (stI i) ++ [.cells 0 8 [.agg [.int .i64 kd, .str nm, .int .i64 nn, .int .i64 op, .list 1 (names.map .str), .list 8 (exCells subs), .list 9 (bdCells binds), .list 12 (alCells alts)]], .cells 0 1 [.map ib], .cells 0 1 [.map io]]) (n0 + 3) (fun i => by simp [hlen]) (by simp [SV.under, SV.underL]) (fun hc i => (hM.app _).cls hc) (fun i p Y hp => by
          refine ACallV.of ?_
          have hpm := List.mem_of_getElem? hp
          have hpw := scope_wt hpm
          have hst : stI (i + 1) = cstep (unbF m) (stI i) p := by
            have hi := (List.getElem?_eq_some_iff.1 hp)
            obtain ⟨hi1, hi2⟩ := hi
            simp only [stI, List.take_succ_eq_append_getElem hi1, List.foldl_append, List.foldl_cons, List.foldl_nil, hi2]
          have := unbound1_ok G hG (unbF m) p.1 p.2 (unbound_ok G hG m p.1 (by omega) (by omega)) (fun st t => unb_cnt m p.1 st t) (fun st => (M st ++ [.cells 0 8 [.agg [.int .i64 kd, .str nm, .int .i64 nn, .int .i64 op, .list 1 (names.map .str), .list 8 (exCells subs), .list 9 (bdCells binds), .list 12 (alCells alts)]], .cells 0 1 [.map ib], .cells 0 1 [.map io]]) ++ Y) _ ib io (n0 + 1) (n0 + 2) ((hM.app _).app Y)
            (fun st L => by simp only [List.append_assoc, List.cons_append, X, List.getElem?_cons_succ, List.getElem?_cons_zero]) (fun st L => by simp only [List.append_assoc, List.cons_append, X, List.getElem?_cons_succ, List.getElem?_cons_zero]) (by simp; omega) (stI i) (fun t => by
              have h1 := csteps_cnt m ((scopeParts (.mk kd nm nn op names subs binds alts)).take i) st t
              have h2 := hc t
              show 0 ≤ cntB (List.foldl (cstep (unbF m)) st _).1 t ∧ cntB (List.foldl (cstep (unbF m)) st _).1 t + _ < _
              omega) (by omega)
          simp only [hst]
          exact this)
      simp only [show stI 0 = st from rfl] at hsc
      refine callS hsc ?_
      rintro r H' rfl
      have hend : stI (scopeParts (.mk kd nm nn op names subs binds alts)).length = unbF (m + 1) (.mk kd nm nn op names subs binds alts) st := by
        rw [hu hb]; simp only [stI, List.take_length]
      simp only [hend]
      (refine run ?_; repeat' (first | with_reducible exact trivial | ((with_reducible apply Fork.mk) <;> intro hb) | with_reducible apply Two.mk))
      exact Fin.tellN (n0 := n0) hR (hlen _) hC' (hcls _) (.same _ rfl) rfl
end Go.Proofs.YtehfihnfeakmaaaGreatDoor
end

section
namespace Go.Proofs.YtehfihnfeakmaaaGreatDoor
open Go
set_option linter.unusedSimpArgs false
set_option linter.unusedVariables false
set_option maxRecDepth 10000
set_option maxHeartbeats 4000000

/-- all have been met: some order -/
theorem met_perm {l : List Str} {born : List Nat} {idx : List Nat} (hnd : idx.Nodup) (hlt : ∀ i ∈ idx, i < l.length) (hb : born.Nodup) (hlb : born.length = l.length)
    (hall : ∀ b ∈ born, (idx.map fun i => born.getD i 0).toArray.contains b = true) : (idx.map fun i => l.getD i []).Perm l := by
  have hin : ∀ i, i < l.length → i ∈ idx := fun i hi => by
    have hi' : i < born.length := by omega
    have := hall born[i] (List.getElem_mem hi')
    simp only [List.contains_toArray, List.contains_iff_mem, List.mem_map] at this
    obtain ⟨j, hj, e⟩ := this
    have hj' : j < born.length := by have := hlt j hj; omega
    rw [List.getD_eq_getElem?_getD, List.getElem?_eq_getElem hj'] at e
    simp only [Option.getD_some] at e
    obtain rfl : j = i := (List.getElem_inj hb).1 e
    exact hj
  have hp : idx.Perm (List.range l.length) := (List.perm_ext_iff_of_nodup hnd List.nodup_range).2 fun i => by
    rw [List.mem_range]; exact ⟨hlt i, hin i⟩
  have := hp.map fun i => l.getD i []
  refine this.trans (.of_eq ?_)
  apply List.ext_getElem?
  intro i
  rw [List.getElem?_map]
  by_cases h : i < l.length
  · rw [List.getElem?_range h]; simp [h]
  · rw [List.getElem?_eq_none (by simpa using h), List.getElem?_eq_none (by omega)]; rfl
theorem met_le {n : Nat} {idx : List Nat} (hnd : idx.Nodup) (hlt : ∀ i ∈ idx, i < n) : idx.length ≤ n := by
  have hp : idx.Perm ((List.range n).filter fun i => decide (i ∈ idx)) := (List.perm_ext_iff_of_nodup hnd (List.nodup_range.filter _)).2 fun i => by
    simp only [List.mem_filter, List.mem_range, decide_eq_true_eq]
    exact ⟨fun h => ⟨hlt i h, h⟩, fun h => h.2⟩
  have h2 := List.length_filter_le (fun i => decide (i ∈ idx)) (List.range n)
  rw [← hp.length_eq, List.length_range] at h2
  exact h2

theorem keys1_ok (G : Gl) (hG : GClosed G) (n1 pb n0 bm clk : Nat) (born : List Nat) (l : List Str) (vs : List SV) (hlb : born.length = l.length) (hlv : vs.length = l.length) (hnd : born.Nodup) (M : List Str → List Blk) (hlen : ∀ s, (M s).length = n0) (h1 : n1 < n0) (hll : l.length < 1099511627776)
    (hpb : ∀ s L, (M s ++ L)[pb]? = some (.cells 0 1 [.imap bm clk born none (l.map .str) vs])) (hvs : ∀ n, SV.underL n vs = true) (hcls : closed (M []) → ∀ s, closed (M s))
    (hy : ∀ s x X, s.length < l.length → ACallV Tryz.prog G (.it n1) [.str x] (M s ++ X) (fun r H' => H' = M (s ++ [x]) ++ X ∧ r = .bool true)) :
    ACall Tryz.prog G 98 [.it n1, .ptr pb 0 0 0] (M []) (fun r H' => ∃ s, s.Perm l ∧ H' = M s) := by
  refine ACall.of_go TB [] tabOK _ Tryz.func98 rfl (by decide) Tryz.ntmps98 (by simp) rfl (by simp only [initEnv, Nat.reduceAdd]; rfl) fun C R' hR hC hcl hB => ?_; have X := noX; have hC' := congrArg List.length hC
  have hC' := hC'.trans (hlen [])
  have hcl := hcls hcl
  have hpb0 : ∀ s, (M s)[pb]? = some (.cells 0 1 [.imap bm clk born none (l.map .str) vs]) := fun s => by simpa using hpb s []
  have X := And.intro (hsX M n0 hlen) (And.intro hpb hpb0)
  have hks : ∀ n, SV.underL n (l.map SV.str) = true := fun n => strs_under n l
  have him : (SV.imap bm clk born none (l.map SV.str) vs).under n0 = true := by simp only [SV.under, hks, hvs, Bool.and_self]
  (refine run ?_; repeat' (first | with_reducible exact trivial | ((with_reducible apply Fork.mk) <;> intro hb) | with_reducible apply Two.mk))
  refine go_range rfl rfl rfl ?_
  simp only [hlen]
  (refine run ?_; repeat' (first | with_reducible exact trivial | ((with_reducible apply Fork.mk) <;> intro hb) | with_reducible apply Two.mk))
  refine go_loop (fun idx : List Nat => [(0, .it n1), (4, .imap bm clk born none (l.map .str) vs), (5, .it n0)]) (fun idx => M (idx.map fun i => l.getD i []) ++ [.obj (.mapIter (some bm) clk (idx.map fun i => born.getD i 0).toArray clk)])
    (fun idx => l.length - idx.length) (fun idx => idx.Nodup ∧ ∀ i ∈ idx, i < l.length) [] ⟨List.nodup_nil, by simp⟩ ?_ ?_
  · exact Wk.sub (by simp [subEnv, look])
  · rintro K idx ⟨hi1, hi2⟩ hK
    have hle := met_le hi1 hi2
    generalize hs : idx.map (fun i => l.getD i []) = s
    generalize hse : (idx.map fun i => born.getD i 0).toArray = seen
    (refine run ?_; repeat' (first | with_reducible exact trivial | ((with_reducible apply Fork.mk) <;> intro hb) | with_reducible apply Two.mk))
    refine go_next (tm := 4) rfl rfl (by simp only [X, List.getElem?_cons_zero]; rfl) rfl (fun hall => ?_) (fun i b q y hb hsn hq hy2 => ?_)
    · (refine run ?_; repeat' (first | with_reducible exact trivial | ((with_reducible apply Fork.mk) <;> intro hb) | with_reducible apply Two.mk))
      refine Fin.tellN (n0 := n0) hR (hlen _) hC' (hcl _) (.same _ rfl) ⟨s, ?_, rfl⟩
      rw [← hs]
      exact met_perm hi1 hi2 hnd hlb (fun b hb => by rw [hse]; exact hall b hb)
    · have hi : i < l.length := by have := (List.getElem?_eq_some_iff.1 hb).1; omega
      have hq' : q = .str l[i] := by rw [List.getElem?_map, List.getElem?_eq_getElem hi] at hq; cases hq; rfl
      subst hq'
      have hni : i ∉ idx := fun hm => by
        rw [← hse] at hsn
        have : (idx.map fun i => born.getD i 0).toArray.contains b = true := by
          simp only [List.contains_toArray, List.contains_iff_mem, List.mem_map]
          exact ⟨i, hm, by rw [List.getD_eq_getElem?_getD, hb]; rfl⟩
        rw [this] at hsn; cases hsn
      have hlt : idx.length < l.length := by
        have := met_le (n := l.length) (idx := idx ++ [i]) (List.nodup_append.2 ⟨hi1, by simp, by simp; exact fun a ha e => hni (e ▸ ha)⟩) (by simp only [List.mem_append, List.mem_singleton]; exact fun a ha => ha.elim (hi2 a) (fun e => e ▸ hi))
        simp at this; omega
      have hsl : s.length = idx.length := by rw [← hs]; simp
      simp only [X, List.set_cons_zero]
      (refine run ?_; repeat' (first | with_reducible exact trivial | ((with_reducible apply Fork.mk) <;> intro hb) | with_reducible apply Two.mk))
      refine go_entry (tm := 4) rfl rfl (by simp only [X, List.getElem?_cons_zero]; rfl) hb (by rw [List.getElem?_map, List.getElem?_eq_getElem hi]; rfl) hy2 rfl ?_
      (refine run ?_; repeat' (first | with_reducible exact trivial | ((with_reducible apply Fork.mk) <;> intro hb) | with_reducible apply Two.mk))
      refine callV (hy s l[i] _ (by omega)) ?_
      rintro r H' ⟨rfl, rfl⟩
      (refine run ?_; repeat' (first | with_reducible exact trivial | ((with_reducible apply Fork.mk) <;> intro hb) | with_reducible apply Two.mk))
      have e1 : (idx ++ [i]).map (fun i => l.getD i []) = s ++ [l[i]] := by
        rw [List.map_append, hs]; simp [hi]
      have e2 : ((idx ++ [i]).map fun i => born.getD i 0).toArray = seen.push b := by
        rw [List.map_append, ← hse]; simp [hb]
      refine hK _ _ (idx ++ [i]) (by simp; omega) ⟨List.nodup_append.2 ⟨hi1, by simp, by simp; exact fun a ha e => hni (e ▸ ha)⟩, by simp only [List.mem_append, List.mem_singleton]; exact fun a ha => ha.elim (hi2 a) (fun e => e ▸ hi)⟩ ?_
      rw [e1, e2]
      exact Wk.sub (by simp [subEnv, look])
end Go.Proofs.YtehfihnfeakmaaaGreatDoor
end

section
namespace Go.Proofs.YtehfihnfeakmaaaGreatDoor
open Go
set_option linter.unusedSimpArgs false
set_option linter.unusedVariables false
set_option maxRecDepth 10000
set_option maxHeartbeats 4000000

theorem closed_swap {H L L' : List Blk} (h : closed (H ++ L)) (hl : L'.length = L.length) (hu : ∀ b ∈ L', b.under (H.length + L.length) = true) : closed (H ++ L') := by
  intro B hB
  rw [List.length_append, hl]
  rcases List.mem_append.1 hB with h1 | h1
  · have := h B (List.mem_append_left _ h1)
    rwa [List.length_append] at this
  · exact hu B h1

theorem appendSeq_ok (G : Gl) (hG : GClosed G) (pb bm clk : Nat) (born : List Nat) (l : List Str) (vs : List SV) (hlb : born.length = l.length) (hlv : vs.length = l.length) (hnd : born.Nodup) (hll : l.length < 1099511627776) (H : List Blk)
    (hpb : H[pb]? = some (.cells 0 1 [.imap bm clk born none (l.map .str) vs])) (hvs : ∀ n, SV.underL n vs = true) :
    ACall Tryz.prog G 129 [.nil, .fn (.func 98) [] [.ptr pb 0 0 0]] H (fun r H' => ∃ s : List Str, s.Perm l ∧ H' = H ++ [.cells 0 1 (s.map .str)] ∧ r = .sl H.length 0 0 s.length) := by
  have hpl : pb < H.length := (List.getElem?_eq_some_iff.1 hpb).1
  refine ACall.of_go TB [] tabOK _ Tryz.func129 rfl (by decide) Tryz.ntmps129 (by simp) rfl (by simp only [initEnv, Nat.reduceAdd]; rfl) fun C R' hR hC hcl hB => ?_; have X := noX; have hC' := congrArg List.length hC
  refine go_ownNil 0 1 rfl ?_
  (refine run ?_; repeat' (first | with_reducible exact trivial | ((with_reducible apply Fork.mk) <;> intro hb) | with_reducible apply Two.mk))
  refine go_rangeFunc tabOK (σ := List Str) (ξ := Str) (fun s => H ++ [.cells s.length 1 (s.map .str), .cells 0 1 [.sl H.length s.length 0 s.length]]) (H.length + 2) (fun s => by simp) []
    [(2, .ptr (H.length + 1) 0 0 0), (6, .fn (.func 98) [] [.ptr pb 0 0 0])] (fun x => [.str x]) (fun s x => s.length < l.length) (fun s x => s ++ [x]) (fun s => s.Perm l)
    (fun x => [(7, .str x), (2, .ptr (H.length + 1) 0 0 0), (6, .fn (.func 98) [] [.ptr pb 0 0 0])]) rfl rfl (fun x => rfl) (fun x => rfl) ?_ ?_ ?_ ?_
  · exact Wk.sub (by simp [subEnv, look])
  · intro G' LO hGl hLO hy
    have := keys1_ok G' (by unfold GClosed; rw [hGl]; exact hG) (H.length + 2) pb (H.length + 3) bm clk born l vs hlb hlv hnd (fun s => (H ++ [.cells s.length 1 (s.map .str), .cells 0 1 [.sl H.length s.length 0 s.length]]) ++ [LO]) (fun s => by simp) (by omega) hll
      (fun s L => by simp only [List.append_assoc]; rw [List.getElem?_append_left hpl]; exact hpb) hvs (fun hc s => by
        simp only [List.append_assoc] at hc ⊢
        refine closed_swap hc (by simp) (fun b hb => ?_)
        simp only [List.cons_append, List.nil_append, List.mem_cons, List.not_mem_nil, or_false] at hb
        rcases hb with rfl | rfl | rfl
        · exact strs_under _ _
        · simp [Blk.under, SV.underL, SV.under]
        · simpa using hLO) (fun s x X hs => by
          have := hy s x X hs
          simpa only [List.append_assoc, List.cons_append, List.nil_append] using this)
    exact this.mono fun r H' ⟨s, h1, h2⟩ => ⟨s, h1, h2⟩
  · intro G' C' ρ' s x Y LO LB K1 K hGl hB' hCH hcl' hLO hLB hs hK1 hK
    have X := noX
    have hG' : GClosed G' := by unfold GClosed; rw [hGl]; exact hG
    simp only [List.append_assoc, List.cons_append, List.nil_append] at hcl' hCH ⊢
    (refine run ?_; repeat' (first | with_reducible exact trivial | ((with_reducible apply Fork.mk) <;> intro hb) | with_reducible apply Two.mk))
    refine hK1 _ _ (by simp [List.getElem?_append_right]) ?_
    simp only [set_app, List.set_cons_succ, List.set_cons_zero]
    (refine run ?_; repeat' (first | with_reducible exact trivial | ((with_reducible apply Fork.mk) <;> intro hb) | with_reducible apply Two.mk))
    refine hK _ _ ?_
    simp only [List.append_assoc, List.cons_append, List.nil_append, List.length_append, List.length_cons, List.length_nil, List.map_append, List.map_cons, List.map_nil, Nat.zero_add]
    exact Wk.sub trivial
  · intro s LO hs hLO
    simp only [List.append_assoc, List.cons_append, List.nil_append]
    (refine run ?_; repeat' (first | with_reducible exact trivial | ((with_reducible apply Fork.mk) <;> intro hb) | with_reducible apply Two.mk))
    refine finK [(H.length, 0)] (.sl H.length 0 0 s.length) [.cells 0 1 (s.map .str)] hR hC' hcl ⟨s, hs, rfl, rfl⟩

theorem collect_ok (G : Gl) (hG : GClosed G) (pb bm clk : Nat) (born : List Nat) (l : List Str) (vs : List SV) (hlb : born.length = l.length) (hlv : vs.length = l.length) (hnd : born.Nodup) (hll : l.length < 1099511627776) (H : List Blk)
    (hpb : H[pb]? = some (.cells 0 1 [.imap bm clk born none (l.map .str) vs])) (hvs : ∀ n, SV.underL n vs = true) :
    ACall Tryz.prog G 97 [.fn (.func 98) [] [.ptr pb 0 0 0]] H (fun r H' => ∃ s : List Str, s.Perm l ∧ H' = H ++ [.cells 0 1 (s.map .str)] ∧ r = .sl H.length 0 0 s.length) := by
  refine ACall.of_go TB [] tabOK _ Tryz.func97 rfl (by decide) Tryz.ntmps97 (by simp) rfl (by simp only [initEnv, Nat.reduceAdd]; rfl) fun C R' hR hC hcl hB => ?_; have X := noX; have hC' := congrArg List.length hC
  (refine run ?_; repeat' (first | with_reducible exact trivial | ((with_reducible apply Fork.mk) <;> intro hb) | with_reducible apply Two.mk))
  refine callS (appendSeq_ok G hG pb bm clk born l vs hlb hlv hnd hll H hpb hvs) ?_
  rintro r H' ⟨s, hs, rfl, rfl⟩
  (refine run ?_; repeat' (first | with_reducible exact trivial | ((with_reducible apply Fork.mk) <;> intro hb) | with_reducible apply Two.mk))
  exact finK [(H.length, 0)] (.sl H.length 0 0 s.length) [.cells 0 1 (s.map .str)] hR hC' hcl ⟨s, hs, rfl, rfl⟩

/-- strings, rising -/
def sortS (l : List Str) : List Str := l.mergeSort fun x y => decide (x ≤ y)
theorem sortS_perm (l : List Str) : (sortS l).Perm l := List.mergeSort_perm l _
theorem sortS_len (l : List Str) : (sortS l).length = l.length := (sortS_perm l).length_eq
theorem sortS_eq {s l : List Str} (h : s.Perm l) : sortS s = sortS l := Go.mergeSort_of_perm h
theorem sort_strs (G : Gl) (id g : Nat) (l : List Str) (H : List Blk) (hH : H[id]? = some (.cells g 1 (l.map .str))) (hl : l.length < 4611686018427387904) :
    ACall Tryz.prog G 50 [.sl id g 0 l.length] H (fun r H' => H' = H.set id (.cells g 1 ((sortS l).map .str)) ∧ r = .tuple []) :=
  ACall.of_sort encStr .str (fun s => s.length ≤ maxLen) (fun c x v => rep_str_iff c x v) (fun _ => rfl) (fun x y => decide (x ≤ y)) ⟨_, Tryz.func50, by decide, rfl⟩
    (fun blk off cap zs w h1 h2 h3 => Tryz.slices_Sort_string blk off cap zs w h1 h2 h3) (fun p cap w => Tryz.slices_Sort_string_none p cap w) id g l H hH hl
theorem sorted_ok (G : Gl) (hG : GClosed G) (pb bm clk : Nat) (born : List Nat) (l : List Str) (vs : List SV) (hlb : born.length = l.length) (hlv : vs.length = l.length) (hnd : born.Nodup) (hll : l.length < 1099511627776) (H : List Blk)
    (hpb : H[pb]? = some (.cells 0 1 [.imap bm clk born none (l.map .str) vs])) (hvs : ∀ n, SV.underL n vs = true) :
    ACall Tryz.prog G 41 [.fn (.func 98) [] [.ptr pb 0 0 0]] H (fun r H' => H' = H ++ [.cells 0 1 ((sortS l).map .str)] ∧ r = .sl H.length 0 0 l.length) := by
  refine ACall.of_go TB [] tabOK _ Tryz.func41 rfl (by decide) Tryz.ntmps41 (by simp) rfl (by simp only [initEnv, Nat.reduceAdd]; rfl) fun C R' hR hC hcl hB => ?_; have X := noX; have hC' := congrArg List.length hC
  (refine run ?_; repeat' (first | with_reducible exact trivial | ((with_reducible apply Fork.mk) <;> intro hb) | with_reducible apply Two.mk))
  refine callS (collect_ok G hG pb bm clk born l vs hlb hlv hnd hll H hpb hvs) ?_
  rintro r H' ⟨s, hs, rfl, rfl⟩
  (refine run ?_; repeat' (first | with_reducible exact trivial | ((with_reducible apply Fork.mk) <;> intro hb) | with_reducible apply Two.mk))
  have hsl := hs.length_eq
  refine callS (sort_strs G H.length 0 s _ (by simp) (by omega)) ?_
  rintro r H' ⟨rfl, rfl⟩
  rw [sortS_eq hs, hsl]
  simp only [set_app0, List.set_cons_zero]
  (refine run ?_; repeat' (first | with_reducible exact trivial | ((with_reducible apply Fork.mk) <;> intro hb) | with_reducible apply Two.mk))
  exact finK [(H.length, 0)] (.sl H.length 0 0 l.length) [.cells 0 1 ((sortS l).map .str)] hR hC' hcl ⟨rfl, rfl⟩

theorem keys_ok (G : Gl) (hG : GClosed G) (bm clk : Nat) (born : List Nat) (l : List Str) (vs : List SV) (hvs : ∀ n, SV.underL n vs = true) (H : List Blk) :
    ACall Tryz.prog G 42 [.imap bm clk born none (l.map .str) vs] H (fun r H' => H' = H ++ [.cells 0 1 [.imap bm clk born none (l.map .str) vs]] ∧ r = .fn (.func 98) [] [.ptr H.length 0 0 0]) := by
  refine ACall.of_go TB [] tabOK _ Tryz.func42 rfl (by decide) Tryz.ntmps42 (by simp) rfl (by simp only [initEnv, Nat.reduceAdd]; rfl) fun C R' hR hC hcl hB => ?_; have X := noX; have hC' := congrArg List.length hC
  have hks : ∀ n, SV.underL n (l.map SV.str) = true := fun n => strs_under n l
  (refine run ?_; repeat' (first | with_reducible exact trivial | ((with_reducible apply Fork.mk) <;> intro hb) | with_reducible apply Two.mk))
  refine finK [(H.length, 0)] (.fn (.func 98) [] [.ptr H.length 0 0 0]) [.cells 0 1 [.imap bm clk born none (l.map .str) vs]] hR hC' hcl ⟨rfl, rfl⟩ (.c (by exact hbS) (Nat.le_refl _) (Nat.zero_le _) (FrzL.same ?_) .nil) (by simp) (.fn _ _ _ _ _ .nil (.cons _ _ _ _ (Frz.kp 0 rfl (by exact hbS) (Nat.le_refl _) rfl rfl) .nil))
  simp only [List.drop_zero, SV.underL, SV.under, hks, hvs, Bool.and_self]
end Go.Proofs.YtehfihnfeakmaaaGreatDoor
end

section
namespace Go.Proofs.YtehfihnfeakmaaaGreatDoor
open Go
set_option linter.unusedSimpArgs false
set_option linter.unusedVariables false
set_option maxRecDepth 10000
set_option maxHeartbeats 4000000

theorem scope_sum (e : Ex) : ((scopeParts e).map fun p => p.1.wt).sum < e.wt := by
  obtain ⟨kd, nm, nn, op, names, subs, binds, alts⟩ := e
  have h1 : ∀ l : List Ex, (l.map fun x => x.wt).sum = exsWt l := fun l => by
    induction l with
    | nil => rfl
    | cons x r ih => simp only [List.map_cons, List.sum_cons, exsWt, ih]
  have h2 : ∀ l : List Bd, (l.map fun b => b.e.wt).sum ≤ bdsWt l := fun l => by
    induction l with
    | nil => exact Nat.le_refl _
    | cons x r ih => simp only [List.map_cons, List.sum_cons, bdsWt]; have := x.wt_gt; omega
  have h3 : ∀ l : List Al, (l.map fun b => b.body.wt).sum ≤ alsWt l := fun l => by
    induction l with
    | nil => exact Nat.le_refl _
    | cons x r ih => simp only [List.map_cons, List.sum_cons, alsWt]; have := x.wt_gt; omega
  have := h1 subs; have := h2 binds; have := h3 alts
  simp only [scopeParts, List.map_append, List.map_map, Function.comp_def, List.sum_append, Ex.wt]
  omega
theorem putO_len (l : List Str) (s : Str) : (putO l s).length ≤ l.length + 1 := by
  unfold putO
  split <;> simp
theorem unb_len : ∀ (m : Nat) (e : Ex) (st : BO), (unbF m e st).2.length ≤ st.2.length + e.wt
  | 0, e, st => by simp [unbF]
  | m + 1, e, st => by
    rw [unbF]
    have hp := e.wt_pos
    split
    · split
      · have := putO_len st.2 e.name; simp only; omega
      · omega
    · have hs := scope_sum e
      generalize scopeParts e = l at hs
      have key : ∀ (l : List (Ex × List Str)) (st : BO), (l.foldl (cstep (unbF m)) st).2.length ≤ st.2.length + (l.map fun p => p.1.wt).sum := fun l => by
        induction l with
        | nil => intro st; exact Nat.le_refl _
        | cons p l ih =>
          intro st
          rw [List.foldl_cons]
          have h1 := ih (cstep (unbF m) st p)
          have h2 := unb_len m p.1 (incB st.1 p.2, st.2)
          simp only [List.map_cons, List.sum_cons]
          have e : (cstep (unbF m) st p).2.length = (unbF m p.1 (incB st.1 p.2, st.2)).2.length := rfl
          rw [e] at h1
          simp only at h2
          omega
      have := key l st
      omega
theorem putO_nodup {l : List Str} (h : l.Nodup) (s : Str) : (putO l s).Nodup := by
  unfold putO
  split
  · exact h
  · rename_i hs
    exact List.nodup_append.2 ⟨h, by simp, by simp; exact fun a ha e => hs (e ▸ ha)⟩

/-- an expression's free names, rising -/
def freeS (e : Ex) : List Str := sortS (unbF e.wt e ([], [])).2

theorem free_ok (G : Gl) (hG : GClosed G) (e : Ex) (H : List Blk) (hw : e.wt < 549755813888) : ACall Tryz.prog G 16 [e.sv] H (fun r H' => H' = H ++ [.cells 0 1 ((freeS e).map .str)] ∧ r = .sl H.length 0 0 (freeS e).length) := by
  refine ACall.of_go TB [] tabOK _ Tryz.func16 rfl (by decide) Tryz.ntmps16 (by simp) rfl (by simp only [initEnv, Nat.reduceAdd]; rfl) fun C R' hR hC hcl hB => ?_; have X := noX; have hC' := congrArg List.length hC
  have hcall := unbound_ok G hG e.wt e (Nat.le_refl _) hw (H ++ [.cells 0 8 [e.sv], .map none [], .map none []]) (H.length + 2) (H.length + 1) ([], []) (by simp [esB]) (by simp [esO]) (by omega) (fun s => by simp only [cntB]; omega)
  have hlen := unb_len e.wt e ([], [])
  have hfl : (freeS e).length = (unbF e.wt e ([], [])).2.length := sortS_len _
  generalize hst : unbF e.wt e ([], []) = st at hcall hlen hfl
  (refine run ?_; repeat' (first | with_reducible exact trivial | ((with_reducible apply Fork.mk) <;> intro hb) | with_reducible apply Two.mk))
  refine callS hcall ?_
  rintro r H' rfl
  simp only [UH, set_app, List.set_cons_succ, List.set_cons_zero]
  refine go_nil ?_
  refine go_pin (t := 3) (io := H.length + 1) (kd := none) (es := esO st.2) (by exact hbS) (by omega) hB rfl (fun bm clk born hb hnd => ?_)
  have e1 : (esO st.2).map Prod.fst = st.2.map .str := by simp [esO]
  have e2 : (esO st.2).map Prod.snd = st.2.map fun _ => .bool true := by simp [esO]
  have e3 : (esO st.2).length = st.2.length := by simp [esO]
  rw [e1, e2]
  rw [e3] at hb
  simp only [set_app, List.set_cons_succ, List.set_cons_zero]
  (refine run ?_; repeat' (first | with_reducible exact trivial | ((with_reducible apply Fork.mk) <;> intro hb) | with_reducible apply Two.mk))
  refine callS (keys_ok G hG bm clk born st.2 _ (fun n => SV.underL_map fun _ _ => rfl) _) ?_
  rintro r H' ⟨rfl, rfl⟩
  simp only [List.append_assoc, List.cons_append, List.nil_append, List.length_append, List.length_cons, List.length_nil, List.length_set, X, Nat.reduceAdd]
  (refine run ?_; repeat' (first | with_reducible exact trivial | ((with_reducible apply Fork.mk) <;> intro hb) | with_reducible apply Two.mk))
  refine callS (sorted_ok G hG (H.length + 3) bm clk born st.2 (st.2.map fun _ => .bool true) hb (by simp) hnd (by simp only at hlen; simp at hlen; omega) _ (by rw [get_app]; rfl) (fun n => SV.underL_map fun _ _ => rfl)) ?_
  rintro r H' ⟨rfl, rfl⟩
  simp only [List.append_assoc, List.cons_append, List.nil_append, List.length_append, List.length_cons, List.length_nil, List.length_set, X, Nat.reduceAdd]
  (refine run ?_; repeat' (first | with_reducible exact trivial | ((with_reducible apply Fork.mk) <;> intro hb) | with_reducible apply Two.mk))
  have e4 : sortS st.2 = freeS e := by rw [freeS, hst]
  rw [e4, ← hfl]
  exact finK [(H.length + 4, 0)] (.sl H.length 0 0 (freeS e).length) [.cells 0 1 ((freeS e).map .str)] hR hC' hcl ⟨rfl, rfl⟩
end Go.Proofs.YtehfihnfeakmaaaGreatDoor
end
