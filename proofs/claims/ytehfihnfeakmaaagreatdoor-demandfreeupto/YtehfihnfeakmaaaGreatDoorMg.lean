/- A part of the proof: Y4, Y5, Y6, Y7, Y9, D0, D3, D2, F0, M0, U3, N3. -/
import Derived.Test.YtehfihnfeakmaaaGreatDoorMf

section
namespace Go.Proofs.YtehfihnfeakmaaaGreatDoor
open Go
set_option linter.unusedSimpArgs false
set_option linter.unusedVariables false
set_option maxRecDepth 10000
set_option maxHeartbeats 4000000

theorem each_ok (G : Gl) (hG : GClosed G) (e : Ex) (hw : e.wt < 549755813888) (fv : SV) (Hs : Nat → List Blk) (n0 : Nat) (hlen : ∀ i, (Hs i).length = n0) (hfu : fv.under n0 = true) (hcls : closed (Hs 0) → ∀ i, closed (Hs i))
    (hy : ∀ i p X, e.parts[i]? = some p → ACallV Tryz.prog G fv [p.sv] (Hs i ++ X) (fun r H' => H' = Hs (i + 1) ++ X ∧ r = .bool true)) :
    ACall Tryz.prog G 100 [e.sv, fv] (Hs 0) (fun r H' => H' = Hs e.parts.length ∧ r = .bool true) := by
  obtain ⟨kd, nm, nn, op, names, subs, binds, alts⟩ := e
  have hle := Ex.wt_lens kd nm nn op names subs binds alts
  rw [Ex.parts_mk] at hy ⊢
  have hpl : (subs ++ (binds.map Bd.e ++ alts.map Al.body)).length = subs.length + binds.length + alts.length := by simp; omega
  have p1 : ∀ i (h : i < subs.length), (subs ++ (binds.map Bd.e ++ alts.map Al.body))[i]? = some subs[i] := fun i h => by
    rw [List.getElem?_append_left h, List.getElem?_eq_getElem h]
  have p2 : ∀ i (h : i < binds.length), (subs ++ (binds.map Bd.e ++ alts.map Al.body))[subs.length + i]? = some binds[i].e := fun i h => by
    rw [List.getElem?_append_right (by omega), Nat.add_sub_cancel_left, List.getElem?_append_left (by simpa using h), List.getElem?_map, List.getElem?_eq_getElem h]; rfl
  have p3 : ∀ i (h : i < alts.length), (subs ++ (binds.map Bd.e ++ alts.map Al.body))[subs.length + (binds.length + i)]? = some alts[i].body := fun i h => by
    rw [List.getElem?_append_right (by omega), Nat.add_sub_cancel_left, List.getElem?_append_right (by simp), List.length_map, Nat.add_sub_cancel_left, List.getElem?_map, List.getElem?_eq_getElem h]; rfl
  refine ACall.of_go TB [] tabOK _ Tryz.func100 rfl (by decide) Tryz.ntmps100 (by simp) rfl (by simp only [initEnv, Nat.reduceAdd]; rfl) fun C R' hR hC hcl hB => ?_; have X := noX; have hC' := congrArg List.length hC
  have hcl := hcls hcl
  have hC' := hC'.trans (hlen 0)
  have X := hsX Hs n0 hlen
  (refine runO ?_; repeat' (first | with_reducible exact trivial | ((with_reducible apply Fork.mk) <;> intro hb) | with_reducible apply Two.mk))
  refine go_loop (fun i : Nat => [(1, fv), (2, .ptr n0 0 0 0), (12, .list 8 (exCells subs)), (13, .int .i64 subs.length), (14, .int .i64 i)])
    (fun i => Hs i ++ [.cells 0 8 [.agg [.int .i64 kd, .str nm, .int .i64 nn, .int .i64 op, .list 1 (names.map .str), .list 8 (exCells subs), .list 9 (bdCells binds), .list 12 (alCells alts)]]]) (fun i => subs.length - i) (fun i => i ≤ subs.length) 0 (Nat.zero_le _) ?_ ?_
  · exact wkS (n0 := n0) [(n0, 0)] hG hB hC' (hcl 0)
  rintro K i hi hK
  (refine runO ?_; repeat' (first | with_reducible exact trivial | ((with_reducible apply Fork.mk) <;> intro hb) | with_reducible apply Two.mk))
  · refine callV (hy i _ _ (p1 i (by omega))) ?_
    rintro r H' ⟨rfl, rfl⟩
    (refine runO ?_; repeat' (first | with_reducible exact trivial | ((with_reducible apply Fork.mk) <;> intro hb) | with_reducible apply Two.mk))
    refine hK _ _ (i + 1) (by omega) (by omega) ?_
    exact wkS (n0 := n0) [(n0, 0)] hG hB hC' (hcl (i + 1))
  obtain rfl : i = subs.length := by omega
  clear hK
  refine go_loop (fun i : Nat => [(1, fv), (2, .ptr n0 0 0 0), (24, .list 9 (bdCells binds)), (25, .int .i64 binds.length), (26, .int .i64 i)])
    (fun i => Hs (subs.length + i) ++ [.cells 0 8 [.agg [.int .i64 kd, .str nm, .int .i64 nn, .int .i64 op, .list 1 (names.map .str), .list 8 (exCells subs), .list 9 (bdCells binds), .list 12 (alCells alts)]]]) (fun i => binds.length - i) (fun i => i ≤ binds.length) 0 (Nat.zero_le _) ?_ ?_
  · exact wkS (n0 := n0) [(n0, 0)] hG hB hC' (hcl _)
  rintro K i hi hK
  (refine runO ?_; repeat' (first | with_reducible exact trivial | ((with_reducible apply Fork.mk) <;> intro hb) | with_reducible apply Two.mk))
  · refine callV (hy (subs.length + i) _ _ (p2 i (by omega))) ?_
    rintro r H' ⟨rfl, rfl⟩
    (refine runO ?_; repeat' (first | with_reducible exact trivial | ((with_reducible apply Fork.mk) <;> intro hb) | with_reducible apply Two.mk))
    refine hK _ _ (i + 1) (by omega) (by omega) ?_
    exact wkS (n0 := n0) [(n0, 0)] hG hB hC' (hcl _)
  obtain rfl : i = binds.length := by omega
  clear hK
  refine go_loop (fun i : Nat => [(1, fv), (2, .ptr n0 0 0 0), (37, .list 12 (alCells alts)), (38, .int .i64 alts.length), (39, .int .i64 i)])
    (fun i => Hs (subs.length + (binds.length + i)) ++ [.cells 0 8 [.agg [.int .i64 kd, .str nm, .int .i64 nn, .int .i64 op, .list 1 (names.map .str), .list 8 (exCells subs), .list 9 (bdCells binds), .list 12 (alCells alts)]]]) (fun i => alts.length - i) (fun i => i ≤ alts.length) 0 (Nat.zero_le _) ?_ ?_
  · exact wkS (n0 := n0) [(n0, 0)] hG hB hC' (hcl _)
  rintro K i hi hK
  (refine runO ?_; repeat' (first | with_reducible exact trivial | ((with_reducible apply Fork.mk) <;> intro hb) | with_reducible apply Two.mk))
  · refine callV (hy (subs.length + (binds.length + i)) _ _ (p3 i (by omega))) ?_
    rintro r H' ⟨rfl, rfl⟩
    (refine runO ?_; repeat' (first | with_reducible exact trivial | ((with_reducible apply Fork.mk) <;> intro hb) | with_reducible apply Two.mk))
    refine hK _ _ (i + 1) (by omega) (by omega) ?_
    exact wkS (n0 := n0) [(n0, 0)] hG hB hC' (hcl _)
  obtain rfl : i = alts.length := by omega
  refine Fin.tellN (n0 := n0) hR (hlen _) hC' (hcl _) (.same _ rfl) ⟨?_, rfl⟩
  rw [hpl, Nat.add_assoc]
end Go.Proofs.YtehfihnfeakmaaaGreatDoor
end

section
namespace Go.Proofs.YtehfihnfeakmaaaGreatDoor
open Go
set_option linter.unusedSimpArgs false
set_option linter.unusedVariables false
set_option maxRecDepth 10000
set_option maxHeartbeats 4000000

def szC (n : Int) : Blk := .cells 0 1 [.int .i64 n]
theorem size1_ok (G : Gl) (hG : GClosed G) (x : Ex) (H : List Blk) (n : Int) (nb : Nat) (h1 : H[nb]? = some (szC n)) (h2 : 0 ≤ n) (h3 : n + 1 < 4611686018427387904) :
    ACall Tryz.prog G 99 [x.sv, .ptr nb 0 0 0] H (fun r H' => H' = H.set nb (szC (n + 1)) ∧ r = .bool true) := by
  have hlt : nb < H.length := (List.getElem?_eq_some_iff.1 h1).1
  refine ACall.of_go TB [] tabOK _ Tryz.func99 rfl (by decide) Tryz.ntmps99 (by simp) rfl (by simp only [initEnv, Nat.reduceAdd]; rfl) fun C R' hR hC hcl hB => ?_; have X := noX; have hC' := congrArg List.length hC
  have X := h1
  unfold szC at X
  (refine run ?_; repeat' (first | with_reducible exact trivial | ((with_reducible apply Fork.mk) <;> intro hb) | with_reducible apply Two.mk))
  exact Fin.tellN (n0 := H.length) hR (by simp) hC' (hcl.set rfl) (.same _ rfl) ⟨rfl, rfl⟩

theorem sum_wtE {α : Type} (f : List α → Nat) (g : α → Nat) (h0 : f [] = 0) (h1 : ∀ x l, f (x :: l) = g x + f l) : ∀ l, f l = (l.map g).sum
  | [] => by simp [h0]
  | x :: l => by rw [h1, sum_wtE f g h0 h1 l]; simp
theorem exsSize_sum (l : List Ex) : exsSize l = (l.map Ex.size).sum := sum_wtE exsSize _ (by simp [exsSize]) (fun x l => by simp only [exsSize]) l
theorem bdsSize_sum (l : List Bd) : bdsSize l = ((l.map Bd.e).map Ex.size).sum := by
  rw [List.map_map]; exact sum_wtE bdsSize _ (by simp [bdsSize]) (fun x l => by cases x; simp only [bdsSize, Bd.size, Function.comp_def, Bd.e]) l
theorem alsSize_sum (l : List Al) : alsSize l = ((l.map Al.body).map Ex.size).sum := by
  rw [List.map_map]; exact sum_wtE alsSize _ (by simp [alsSize]) (fun x l => by cases x; simp only [alsSize, Al.size, Function.comp_def, Al.body]) l
theorem Ex.size_parts (e : Ex) : e.size = 1 + (e.parts.map Ex.size).sum := by
  obtain ⟨kd, nm, nn, op, names, subs, binds, alts⟩ := e
  rw [Ex.parts_mk, Ex.size, exsSize_sum, bdsSize_sum, alsSize_sum, List.map_append, List.map_append, List.sum_append, List.sum_append]
  omega
theorem sum_take_le {l : List Nat} : ∀ (i : Nat), (l.take i).sum ≤ l.sum := by
  induction l with
  | nil => intro i; simp
  | cons x r ih =>
    intro i
    cases i with
    | zero => simp
    | succ i => simp only [List.take_succ_cons, List.sum_cons]; have := ih i; omega

def AllC (G : Gl) (m : Nat) : Prop := ∀ (e : Ex) (H : List Blk) (n : Int) (nb : Nat), e.wt ≤ m → H[nb]? = some (szC n) → 0 ≤ n → n + e.size < 4611686018427387904 →
  ACall Tryz.prog G 48 [e.sv, .fn (.func 99) [] [.ptr nb 0 0 0]] H (fun r H' => H' = H.set nb (szC (n + e.size)) ∧ r = .bool true)

theorem all1_ok (G : Gl) (hG : GClosed G) (m : Nat) (hrec : AllC G m) (p : Ex) (H : List Blk) (n : Int) (nb ib : Nat) (hp : p.wt ≤ m) (h1 : H[nb]? = some (szC n)) (hib : H[ib]? = some (.cells 0 1 [.fn (.func 99) [] [.ptr nb 0 0 0]])) (h2 : 0 ≤ n) (h3 : n + p.size < 4611686018427387904) :
    ACall Tryz.prog G 103 [p.sv, .ptr ib 0 0 0] H (fun r H' => H' = H.set nb (szC (n + p.size)) ∧ r = .bool true) := by
  have hlt : nb < H.length := (List.getElem?_eq_some_iff.1 h1).1
  have hlt2 : ib < H.length := (List.getElem?_eq_some_iff.1 hib).1
  refine ACall.of_go TB [] tabOK _ Tryz.func103 rfl (by decide) Tryz.ntmps103 (by simp) rfl (by simp only [initEnv, Nat.reduceAdd]; rfl) fun C R' hR hC hcl hB => ?_; have X := noX; have hC' := congrArg List.length hC
  have X := And.intro h1 hib
  (refine run ?_; repeat' (first | with_reducible exact trivial | ((with_reducible apply Fork.mk) <;> intro hb) | with_reducible apply Two.mk))
  refine callS (hrec p _ n nb hp (by rw [get_old hlt]; exact h1) h2 h3) ?_
  rintro r H' ⟨rfl, rfl⟩
  rw [set_old hlt]
  (refine run ?_; repeat' (first | with_reducible exact trivial | ((with_reducible apply Fork.mk) <;> intro hb) | with_reducible apply Two.mk))
  exact Fin.tellN (n0 := H.length) hR (by simp) hC' (hcl.set rfl) (.same _ rfl) ⟨rfl, rfl⟩

theorem all_ok (G : Gl) (hG : GClosed G) : ∀ m, m < 549755813888 → AllC G m
  | 0, _, e, _, _, _, h, _, _, _ => absurd e.wt_pos (by omega)
  | m + 1, hm2, e, H, n, nb, hm, h1, h2, h3 => by
    have hlt : nb < H.length := (List.getElem?_eq_some_iff.1 h1).1
    have hsz := e.size_parts
    have hrec := all_ok G hG m (by omega)
    have hs0 := e.size_pos
    refine ACall.of_go TB [] tabOK _ Tryz.func48 rfl (by decide) Tryz.ntmps48 (by simp) rfl (by simp only [initEnv, Nat.reduceAdd]; rfl) fun C R' hR hC hcl hB => ?_; have X := noX; have hC' := congrArg List.length hC
    (refine run ?_; repeat' (first | with_reducible exact trivial | ((with_reducible apply Fork.mk) <;> intro hb) | with_reducible apply Two.mk))
    refine callV (ACallV.of (first := []) (args := [e.sv]) (cap := [.ptr nb 0 0 0]) (size1_ok G hG e _ n nb (by rw [get_old hlt]; exact h1) h2 (by omega))) ?_
    rintro r H' ⟨rfl, rfl⟩
    rw [set_old hlt]
    (refine run ?_; repeat' (first | with_reducible exact trivial | ((with_reducible apply Fork.mk) <;> intro hb) | with_reducible apply Two.mk))
    have hw : ∀ i, n + 1 + (((e.parts.take i).map Ex.size).sum : Nat) ≤ n + e.size := fun i => by
      have := sum_take_le (l := e.parts.map Ex.size) i
      rw [← List.map_take] at this
      omega
    have hk : ∀ (i : Nat) (L : List Blk), ((H.set nb (szC (n + 1 + (((e.parts.take i).map Ex.size).sum : Nat))) ++ L))[nb]? = some (szC (n + 1 + (((e.parts.take i).map Ex.size).sum : Nat))) := fun i L => get_oldS hlt
    have heach := each_ok G hG e (by omega) (.fn (.func 103) [] [.ptr (H.length + 1) 0 0 0]) (fun i => H.set nb (szC (n + 1 + (((e.parts.take i).map Ex.size).sum : Nat))) ++ [.cells 0 8 [.agg e.cells], .cells 0 1 [.fn (.func 99) [] [.ptr nb 0 0 0]]]) (H.length + 2) (fun i => by simp) (by simp [SV.under, SV.underL])
      (fun h i => by have := h.set (id := nb) (b := szC (n + 1 + (((e.parts.take i).map Ex.size).sum : Nat))) rfl; rwa [set_oldS hlt] at this) (fun i p X hp => by
        have hpw := Ex.wt_parts (List.mem_of_getElem? hp)
        have hlp := (List.getElem?_eq_some_iff.1 hp)
        have hnx : ((e.parts.take (i + 1)).map Ex.size).sum = ((e.parts.take i).map Ex.size).sum + p.size := by
          rw [List.take_succ_eq_append_getElem hlp.1, hlp.2]; simp
        have hwi := hw (i + 1)
        refine ACallV.of (first := []) (args := [p.sv]) (cap := [.ptr (H.length + 1) 0 0 0]) ((all1_ok G hG m hrec p _ (n + 1 + (((e.parts.take i).map Ex.size).sum : Nat)) nb (H.length + 1) (by omega) (by rw [List.append_assoc]; exact hk i _) (by rw [List.append_assoc]; simp) (by omega) (by omega)).mono ?_)
        rintro r H' ⟨rfl, rfl⟩
        refine ⟨?_, rfl⟩
        rw [List.append_assoc, set_oldS hlt, hnx, List.append_assoc]
        congr 3
        omega)
    rw [show n + 1 + ((((e.parts.take 0).map Ex.size).sum : Nat) : Int) = n + 1 by simp] at heach
    refine callS heach ?_
    rintro r H' ⟨rfl, rfl⟩
    rw [List.take_length, show n + 1 + (((e.parts.map Ex.size).sum : Nat) : Int) = n + e.size by omega]
    (refine run ?_; repeat' (first | with_reducible exact trivial | ((with_reducible apply Fork.mk) <;> intro hb) | with_reducible apply Two.mk))
    exact Fin.tellN (n0 := H.length) hR (by simp) hC' (hcl.set rfl) (.same _ rfl) ⟨rfl, rfl⟩

theorem size_ok (G : Gl) (hG : GClosed G) (e : Ex) (H : List Blk) (hw : e.wt < 549755813887) (hs : e.size < 4611686018427387904) : ACall Tryz.prog G 43 [e.sv] H (fun r H' => H' = H ∧ r = .int .i64 e.size) := by
  refine ACall.of_go TB [] tabOK _ Tryz.func43 rfl (by decide) Tryz.ntmps43 (by simp) rfl (by simp only [initEnv, Nat.reduceAdd]; rfl) fun C R' hR hC hcl hB => ?_; have X := noX; have hC' := congrArg List.length hC
  (refine run ?_; repeat' (first | with_reducible exact trivial | ((with_reducible apply Fork.mk) <;> intro hb) | with_reducible apply Two.mk))
  refine callS (all_ok G hG e.wt (by omega) e _ 0 (H.length + 1) (Nat.le_refl _) (by rw [get_app]; rfl) (by omega) (by omega)) ?_
  rintro r H' ⟨rfl, rfl⟩
  rw [set_app, szC, Int.zero_add]
  simp only [List.set_cons_succ, List.set_cons_zero]
  (refine run ?_; repeat' (first | with_reducible exact trivial | ((with_reducible apply Fork.mk) <;> intro hb) | with_reducible apply Two.mk))
  exact Fin.tellN (n0 := H.length) hR (by simp) hC' hcl (.same _ rfl) ⟨rfl, rfl⟩
end Go.Proofs.YtehfihnfeakmaaaGreatDoor
end

section
namespace Go.Proofs.YtehfihnfeakmaaaGreatDoor
open Go
set_option linter.unusedSimpArgs false
set_option linter.unusedVariables false
set_option maxRecDepth 10000
set_option maxHeartbeats 4000000

/-- has it no alts, no binds, but where they belong? -/
def shp : Nat → Ex → Prop
  | 0, _ => True
  | m + 1, e => (e.kind ≠ 6 → e.alts = []) ∧ (e.kind ≠ 5 → e.binds = []) ∧ ∀ p ∈ e.parts, shp m p
def someS (H : List Blk) (p : Prop) : SV → List Blk → Prop := fun r H' => H' = H ∧ ∃ b, r = .bool b ∧ (b = true → p)

theorem shape2_ok (G : Gl) (hG : GClosed G) : ∀ (m : Nat) (e : Ex) (H : List Blk), e.wt ≤ m → e.wt < 4294967296 → ACall Tryz.prog G 38 [e.sv] H (someS H (shp m e))
  | 0, e, H, hw, _ => by have := e.wt_pos; omega
  | m + 1, e, H, hw, hw0 => by
    obtain ⟨kd, nm, nn, op, names, subs, binds, alts⟩ := e
    have hlen := Ex.wt_lens kd nm nn op names subs binds alts
    generalize hp : (Ex.mk kd nm nn op names subs binds alts).parts = pp
    have hpl : pp.length ≤ (Ex.mk kd nm nn op names subs binds alts).wt := by rw [← hp, Ex.parts_mk]; simp; omega
    refine ACall.of_go TB [] tabOK _ Tryz.func38 rfl (by decide) Tryz.ntmps38 (by simp) rfl (by simp only [initEnv, Nat.reduceAdd]; rfl) fun C R' hR hC hcl hB => ?_; have X := noX; have hC' := congrArg List.length hC
    (refine run ?_; repeat' (first | with_reducible exact trivial | ((with_reducible apply Fork.mk) <;> intro hb) | with_reducible apply Two.mk))
    all_goals first | exact Fin.tellN (n0 := H.length) hR rfl hC' hcl (.same _ rfl) ⟨rfl, _, rfl, fun h => by cases h⟩ | skip
    all_goals
      rename_i c1 c2
      have hq : (kd ≠ 6 → alts = []) ∧ (kd ≠ 5 → binds = []) := by
        simp only [Bool.or_eq_false_iff, Bool.and_eq_false_iff, decide_eq_false_iff_not, Decidable.not_not] at c1
        obtain ⟨⟨_, h5⟩, h6⟩ := c1
        exact ⟨fun h => List.length_eq_zero_iff.1 (by omega), fun h => List.length_eq_zero_iff.1 (by omega)⟩
      clear c1 c2
    · refine callS (args_ok G hG op _) ?_
      rintro r H' ⟨rfl, rfl⟩
      (refine run ?_; repeat' (first | with_reducible exact trivial | ((with_reducible apply Fork.mk) <;> intro hb) | with_reducible apply Two.mk))
      all_goals first | exact Fin.tellN (n0 := H.length) hR rfl hC' hcl (.same _ rfl) ⟨rfl, _, rfl, fun h => by cases h⟩ | skip
      refine go_loop (fun i : Nat => [(1, .ptr H.length 0 0 0), (6, .int .i64 i)]) (fun i => H ++ [.cells 0 8 [.agg [.int .i64 kd, .str nm, .int .i64 nn, .int .i64 op, .list 1 (names.map .str), .list 8 (exCells subs), .list 9 (bdCells binds), .list 12 (alCells alts)]]]) (fun i => alts.length - i) (fun i => i ≤ alts.length) 0 (Nat.zero_le _) ?_ ?_
      · exact wkS (n0 := H.length) [(H.length, 0)] hG hB hC' hcl
      intro K i hi hK
      (refine run ?_; repeat' (first | with_reducible exact trivial | ((with_reducible apply Fork.mk) <;> intro hb) | with_reducible apply Two.mk))
      · exact Fin.tellN (n0 := H.length) hR rfl hC' hcl (.same _ rfl) ⟨rfl, _, rfl, fun h => by cases h⟩
      · refine hK _ _ (i + 1) (by omega) (by omega) ?_
        exact wkS (n0 := H.length) [(H.length, 0)] hG hB hC' hcl
      refine callS (parts_ok G hG (Ex.mk kd nm nn op names subs binds alts) _ hw0) ?_
      rintro r H' ⟨rfl, rfl⟩
      rw [hp]
      (refine run ?_; repeat' (first | with_reducible exact trivial | ((with_reducible apply Fork.mk) <;> intro hb) | with_reducible apply Two.mk))
      refine go_loop (fun i : Nat => [(8, .list 8 (exCells pp)), (9, .int .i64 i)]) (fun i => H ++ []) (fun i => pp.length - i) (fun i => i ≤ pp.length ∧ ∀ p ∈ pp.take i, shp m p) 0 ⟨Nat.zero_le _, by simp⟩ ?_ ?_
      · exact wkS (n0 := H.length) [] hG hB hC' hcl
      rintro K2 i ⟨hi, hi2⟩ hK2
      (refine run ?_; repeat' (first | with_reducible exact trivial | ((with_reducible apply Fork.mk) <;> intro hb) | with_reducible apply Two.mk))
      · have hlt : i < pp.length := by omega
        have hpi : pp[i].wt < (Ex.mk kd nm nn op names subs binds alts).wt := by
          subst hp
          exact Ex.wt_parts (List.getElem_mem _)
        refine callS (shape2_ok G hG m pp[i] _ (by omega) (by omega)) ?_
        rintro r H' ⟨rfl, bb, rfl, hbb⟩
        cases bb
        · (refine run ?_; repeat' (first | with_reducible exact trivial | ((with_reducible apply Fork.mk) <;> intro hb) | with_reducible apply Two.mk))
          exact Fin.tellN (n0 := H.length) hR rfl hC' hcl (.same _ rfl) ⟨rfl, _, rfl, fun h => by cases h⟩
        · (refine run ?_; repeat' (first | with_reducible exact trivial | ((with_reducible apply Fork.mk) <;> intro hb) | with_reducible apply Two.mk))
          refine hK2 _ _ (i + 1) (by omega) ⟨by omega, ?_⟩ ?_
          · rw [List.take_succ_eq_append_getElem hlt]
            intro p hpm
            rcases List.mem_append.1 hpm with h | h
            · exact hi2 p h
            · rw [List.mem_singleton.1 h]; exact hbb rfl
          · exact wkS (n0 := H.length) [] hG hB hC' hcl
      · refine Fin.tellN (n0 := H.length) hR rfl hC' hcl (.same _ rfl) ⟨rfl, _, rfl, fun _ => ⟨hq.1, hq.2, ?_⟩⟩
        rw [hp]
        rwa [show i = pp.length by omega, List.take_length] at hi2
    · refine go_loop (fun i : Nat => [(1, .ptr H.length 0 0 0), (6, .int .i64 i)]) (fun i => H ++ [.cells 0 8 [.agg [.int .i64 kd, .str nm, .int .i64 nn, .int .i64 op, .list 1 (names.map .str), .list 8 (exCells subs), .list 9 (bdCells binds), .list 12 (alCells alts)]]]) (fun i => alts.length - i) (fun i => i ≤ alts.length) 0 (Nat.zero_le _) ?_ ?_
      · exact wkS (n0 := H.length) [(H.length, 0)] hG hB hC' hcl
      intro K i hi hK
      (refine run ?_; repeat' (first | with_reducible exact trivial | ((with_reducible apply Fork.mk) <;> intro hb) | with_reducible apply Two.mk))
      · exact Fin.tellN (n0 := H.length) hR rfl hC' hcl (.same _ rfl) ⟨rfl, _, rfl, fun h => by cases h⟩
      · refine hK _ _ (i + 1) (by omega) (by omega) ?_
        exact wkS (n0 := H.length) [(H.length, 0)] hG hB hC' hcl
      refine callS (parts_ok G hG (Ex.mk kd nm nn op names subs binds alts) _ hw0) ?_
      rintro r H' ⟨rfl, rfl⟩
      rw [hp]
      (refine run ?_; repeat' (first | with_reducible exact trivial | ((with_reducible apply Fork.mk) <;> intro hb) | with_reducible apply Two.mk))
      refine go_loop (fun i : Nat => [(8, .list 8 (exCells pp)), (9, .int .i64 i)]) (fun i => H ++ []) (fun i => pp.length - i) (fun i => i ≤ pp.length ∧ ∀ p ∈ pp.take i, shp m p) 0 ⟨Nat.zero_le _, by simp⟩ ?_ ?_
      · exact wkS (n0 := H.length) [] hG hB hC' hcl
      rintro K2 i ⟨hi, hi2⟩ hK2
      (refine run ?_; repeat' (first | with_reducible exact trivial | ((with_reducible apply Fork.mk) <;> intro hb) | with_reducible apply Two.mk))
      · have hlt : i < pp.length := by omega
        have hpi : pp[i].wt < (Ex.mk kd nm nn op names subs binds alts).wt := by
          subst hp
          exact Ex.wt_parts (List.getElem_mem _)
        refine callS (shape2_ok G hG m pp[i] _ (by omega) (by omega)) ?_
        rintro r H' ⟨rfl, bb, rfl, hbb⟩
        cases bb
        · (refine run ?_; repeat' (first | with_reducible exact trivial | ((with_reducible apply Fork.mk) <;> intro hb) | with_reducible apply Two.mk))
          exact Fin.tellN (n0 := H.length) hR rfl hC' hcl (.same _ rfl) ⟨rfl, _, rfl, fun h => by cases h⟩
        · (refine run ?_; repeat' (first | with_reducible exact trivial | ((with_reducible apply Fork.mk) <;> intro hb) | with_reducible apply Two.mk))
          refine hK2 _ _ (i + 1) (by omega) ⟨by omega, ?_⟩ ?_
          · rw [List.take_succ_eq_append_getElem hlt]
            intro p hpm
            rcases List.mem_append.1 hpm with h | h
            · exact hi2 p h
            · rw [List.mem_singleton.1 h]; exact hbb rfl
          · exact wkS (n0 := H.length) [] hG hB hC' hcl
      · refine Fin.tellN (n0 := H.length) hR rfl hC' hcl (.same _ rfl) ⟨rfl, _, rfl, fun _ => ⟨hq.1, hq.2, ?_⟩⟩
        rw [hp]
        rwa [show i = pp.length by omega, List.take_length] at hi2

theorem right2_ok (G : Gl) (hG : GClosed G) (e : Ex) (H : List Blk) (hw0 : e.wt < 4294967296) : ACall Tryz.prog G 15 [e.sv] H (someS H (shp e.wt e)) := by
  refine ACall.of_go TB [] tabOK _ Tryz.func15 rfl (by decide) Tryz.ntmps15 (by simp) rfl (by simp only [initEnv, Nat.reduceAdd]; rfl) fun C R' hR hC hcl hB => ?_; have X := noX; have hC' := congrArg List.length hC
  (refine run ?_; repeat' (first | with_reducible exact trivial | ((with_reducible apply Fork.mk) <;> intro hb) | with_reducible apply Two.mk))
  refine callS (shape2_ok G hG _ e _ (Nat.le_refl _) hw0) ?_
  rintro r H' ⟨rfl, bb, rfl, hbb⟩
  cases bb
  · (refine run ?_; repeat' (first | with_reducible exact trivial | ((with_reducible apply Fork.mk) <;> intro hb) | with_reducible apply Two.mk))
    exact Fin.tellN (n0 := H.length) hR rfl hC' hcl (.same _ rfl) ⟨rfl, _, rfl, fun h => by cases h⟩
  (refine run ?_; repeat' (first | with_reducible exact trivial | ((with_reducible apply Fork.mk) <;> intro hb) | with_reducible apply Two.mk))
  refine callS (whole_ok G hG _ e _ (Nat.le_refl _) hw0) ?_
  rintro r H' ⟨rfl, b2, rfl⟩
  (refine run ?_; repeat' (first | with_reducible exact trivial | ((with_reducible apply Fork.mk) <;> intro hb) | with_reducible apply Two.mk))
  exact Fin.tellN (n0 := H.length) hR rfl hC' hcl (.same _ rfl) ⟨rfl, _, rfl, fun _ => hbb rfl⟩

end Go.Proofs.YtehfihnfeakmaaaGreatDoor
end

section
namespace Go.Proofs.YtehfihnfeakmaaaGreatDoor
open Go
set_option linter.unusedSimpArgs false
set_option linter.unusedVariables false
set_option maxRecDepth 10000
set_option maxHeartbeats 4000000

/-- how often in a part, past the names that are bound in it -/
def occP (s : Str) (p : Ex × List Str) : Nat := if s ∈ p.2 then 0 else occ s p.1
theorem occB_sum (s : Str) : ∀ l : List Bd, occB s l = (l.map fun b => occ s b.e).sum
  | [] => rfl
  | b :: r => by simp only [occB, List.map_cons, List.sum_cons, occB_sum s r, occBd_eq]
theorem occL_sum (s : Str) : ∀ l : List Ex, occL s l = (l.map (occ s)).sum
  | [] => rfl
  | e :: r => by simp only [occL, List.map_cons, List.sum_cons, occL_sum s r]
theorem occA_sum (s : Str) (c : Prop) [Decidable c] : ∀ l : List Al, occA s c l = (l.map fun a => if s ∈ a.names ∨ c then 0 else occ s a.body).sum
  | [] => rfl
  | e :: r => by simp only [occA, List.map_cons, List.sum_cons, occA_sum s c r, occAl_eq]
theorem sum_zero {α : Type} {f : α → Nat} : ∀ {l : List α}, (∀ x ∈ l, f x = 0) → (l.map f).sum = 0
  | [], _ => rfl
  | x :: l, h => by rw [List.map_cons, List.sum_cons, h x (List.mem_cons_self ..), sum_zero fun y hy => h y (List.mem_cons_of_mem _ hy)]
theorem sum_congr {α : Type} {f g : α → Nat} : ∀ {l : List α}, (∀ x ∈ l, f x = g x) → (l.map f).sum = (l.map g).sum
  | [], _ => rfl
  | x :: l, h => by rw [List.map_cons, List.sum_cons, List.map_cons, List.sum_cons, h x (List.mem_cons_self ..), sum_congr fun y hy => h y (List.mem_cons_of_mem _ hy)]

theorem occ_scope (s : Str) {kd : Int} {nm : Str} {nn op : Int} {names : List Str} {subs : List Ex} {binds : List Bd} {alts : List Al} (hk : kd ≠ 1) (h6 : kd ≠ 6 → alts = []) :
    occ s (.mk kd nm nn op names subs binds alts) = ((scopeParts (.mk kd nm nn op names subs binds alts)).map (occP s)).sum := by
  rw [scopeParts, List.map_append, List.map_append, List.sum_append, List.sum_append, List.map_map, List.map_map, List.map_map]
  by_cases ho : s ∈ ownOf kd names binds
  · have hk6 : kd ≠ 6 := fun e => by subst e; simp [ownOf] at ho
    rw [h6 hk6, occ, if_neg hk, if_pos ho, sum_zero (fun x _ => by simp [occP, ho]), sum_zero (fun x _ => by simp [occP, ho])]
    rfl
  · rw [occ, if_neg hk, if_neg ho, occL_sum, occB_sum, occA_sum, Nat.add_assoc]
    congr 1
    · exact sum_congr fun x _ => by simp [occP, ho]
    · congr 1
      · exact sum_congr fun x _ => by simp [occP, ho]
      · refine sum_congr fun a _ => ?_
        by_cases h : kd = 6
        · simp [occP, h, eq_comm]
        · simp [occP, h]

theorem parts_scope (e : Ex) : e.parts = (scopeParts e).map Prod.fst := by
  obtain ⟨kd, nm, nn, op, names, subs, binds, alts⟩ := e
  rw [Ex.parts_mk, scopeParts]
  simp [Function.comp_def]

/-- what is free is used -/
theorem unb_free (s : Str) : ∀ (m : Nat) (e : Ex) (st : BO), e.wt ≤ m → shp m e → (∀ t, 0 ≤ cntB st.1 t) → (s ∈ (unbF m e st).2 ↔ s ∈ st.2 ∨ (cntB st.1 s = 0 ∧ 0 < occ s e))
  | 0, e, st, h, _, _ => absurd e.wt_pos (by omega)
  | m + 1, e, st, hm, hs, hc => by
    obtain ⟨h6, _, hp⟩ := hs
    rw [unbF]
    by_cases hk : e.kind = 1
    · rw [if_pos hk]
      obtain ⟨kd, nm, nn, op, names, subs, binds, alts⟩ := e
      rw [occ, if_pos (show kd = 1 from hk)]
      by_cases hz : cntB st.1 nm = 0
      · rw [if_pos (show cntB st.1 (Ex.mk kd nm nn op names subs binds alts).name = 0 from hz)]
        show s ∈ putO st.2 nm ↔ _
        simp only [putO]
        by_cases hns : nm = s
        · subst hns
          simp only [if_true]
          split <;> simp_all
        · simp only [if_neg hns, Nat.lt_irrefl, and_false, or_false]
          split
          · rfl
          · simp [show s ≠ nm from fun e => hns e.symm]
      · rw [if_neg (show ¬ cntB st.1 (Ex.mk kd nm nn op names subs binds alts).name = 0 from hz)]
        by_cases hns : nm = s
        · subst hns; simp [hz]
        · simp [hns]
    · rw [if_neg hk]
      have ho : occ s e = ((scopeParts e).map (occP s)).sum := by
        obtain ⟨kd, nm, nn, op, names, subs, binds, alts⟩ := e
        exact occ_scope s hk h6
      have hw : ∀ p ∈ scopeParts e, p.1.wt ≤ m ∧ shp m p.1 := fun p h => by
        have := scope_wt h
        exact ⟨by omega, hp _ (by rw [parts_scope]; exact List.mem_map_of_mem h)⟩
      rw [ho]
      clear ho hm hp h6 hk
      generalize scopeParts e = l at hw
      induction l generalizing st with
      | nil => simp
      | cons p l ih =>
        have hpw := hw p (List.mem_cons_self ..)
        have hci : ∀ t, 0 ≤ cntB (incB st.1 p.2) t := fun t => by rw [cnt_inc]; have := hc t; omega
        have h1 := unb_free s m p.1 (incB st.1 p.2, st.2) hpw.1 hpw.2 hci
        have h3 : s ∈ (l.foldl (cstep (unbF m)) (cstep (unbF m) st p)).2 ↔ (s ∈ (cstep (unbF m) st p).2 ∨ (cntB (cstep (unbF m) st p).1 s = 0 ∧ 0 < (l.map (occP s)).sum)) := ih (cstep (unbF m) st p) (fun t => by rw [cstep_cnt]; exact hc t) (fun q hq => hw q (List.mem_cons_of_mem _ hq))
        rw [List.foldl_cons, h3, cstep_cnt, List.map_cons, List.sum_cons]
        have h2 : (cstep (unbF m) st p).2 = (unbF m p.1 (incB st.1 p.2, st.2)).2 := rfl
        rw [h2, h1]
        simp only
        rw [cnt_inc, occP]
        have hcs := hc s
        by_cases hsn : s ∈ p.2
        · have := List.count_pos_iff.2 hsn
          rw [if_pos hsn]
          constructor
          · rintro ((h | h) | h)
            · exact .inl h
            · omega
            · exact .inr ⟨h.1, by omega⟩
          · rintro (h | h)
            · exact .inl (.inl h)
            · exact .inr ⟨h.1, by omega⟩
        · have := List.count_eq_zero.2 hsn
          rw [if_neg hsn, this]
          constructor
          · rintro ((h | h) | h)
            · exact .inl h
            · exact .inr ⟨by omega, by omega⟩
            · exact .inr ⟨h.1, by omega⟩
          · rintro (h | h)
            · exact .inl (.inl h)
            · by_cases h0 : 0 < occ s p.1
              · exact .inl (.inr ⟨by omega, h0⟩)
              · exact .inr ⟨h.1, by omega⟩
theorem free_used (s : Str) (e : Ex) (hs : shp e.wt e) : s ∈ freeS e ↔ 0 < occ s e := by
  rw [freeS, (sortS_perm _).mem_iff, unb_free s e.wt e ([], []) (Nat.le_refl _) hs (fun t => by simp [cntB])]
  simp [cntB]
end Go.Proofs.YtehfihnfeakmaaaGreatDoor
end

section
namespace Go.Proofs.YtehfihnfeakmaaaGreatDoor
open Go
set_option linter.unusedSimpArgs false
set_option linter.unusedVariables false

theorem sum_add {α : Type} {f g h : α → Nat} : ∀ {l : List α}, (∀ x ∈ l, f x + g x = h x) → (l.map f).sum + (l.map g).sum = (l.map h).sum
  | [], _ => rfl
  | x :: l, hh => by
    have h1 := hh x (List.mem_cons_self ..)
    have h2 := sum_add fun y hy => hh y (List.mem_cons_of_mem _ hy)
    simp only [List.map_cons, List.sum_cons]; omega
theorem sum_mul {α : Type} (k : Nat) (f : α → Nat) : ∀ l : List α, k * (l.map f).sum = (l.map fun x => k * f x).sum
  | [] => rfl
  | x :: l => by simp only [List.map_cons, List.sum_cons, Nat.mul_add, sum_mul k f l]

theorem exs_le : ∀ l : List Ex, (l.map Ex.wt).sum ≤ exsWt l
  | [] => Nat.le_refl _
  | x :: l => by simp only [List.map_cons, List.sum_cons, exsWt]; have := exs_le l; omega
theorem bds_le : ∀ l : List Bd, ((l.map Bd.e).map Ex.wt).sum ≤ bdsWt l
  | [] => Nat.le_refl _
  | x :: l => by simp only [List.map_cons, List.sum_cons, bdsWt]; have := bds_le l; have := x.wt_gt; omega
theorem als_le : ∀ l : List Al, ((l.map Al.body).map Ex.wt).sum ≤ alsWt l
  | [] => Nat.le_refl _
  | x :: l => by simp only [List.map_cons, List.sum_cons, alsWt]; have := als_le l; have := x.wt_gt; omega
theorem parts_wt (e : Ex) : 1 + (e.parts.map Ex.wt).sum ≤ e.wt := by
  obtain ⟨kd, nm, nn, op, names, subs, binds, alts⟩ := e
  rw [Ex.parts_mk, List.map_append, List.map_append, List.sum_append, List.sum_append, Ex.wt]
  have := exs_le subs
  have := bds_le binds
  have := als_le alts
  omega
theorem sum_le {α : Type} {f g : α → Nat} : ∀ {l : List α}, (∀ x ∈ l, f x ≤ g x) → (l.map f).sum ≤ (l.map g).sum
  | [], _ => Nat.le_refl _
  | x :: l, h => by
    have h1 := h x (List.mem_cons_self ..)
    have h2 := sum_le fun y hy => h y (List.mem_cons_of_mem _ hy)
    simp only [List.map_cons, List.sum_cons]; omega
theorem size_le_wt : ∀ (m : Nat) (e : Ex), e.wt ≤ m → e.size ≤ e.wt
  | 0, e, h => absurd e.wt_pos (by omega)
  | m + 1, e, h => by
    rw [e.size_parts]
    have h1 := parts_wt e
    have h2 := sum_le (f := Ex.size) (g := Ex.wt) (l := e.parts) fun p hp => size_le_wt m p (by have := Ex.wt_parts hp; omega)
    omega
end Go.Proofs.YtehfihnfeakmaaaGreatDoor
end

section
namespace Go.Proofs.YtehfihnfeakmaaaGreatDoor
open Go
set_option linter.unusedSimpArgs false
set_option linter.unusedVariables false
set_option maxRecDepth 10000
set_option maxHeartbeats 4000000

/-! ### how deep an expression is -/
def maxL (l : List Nat) : Nat := l.foldl max 0
theorem maxL_app (l : List Nat) (x : Nat) : maxL (l ++ [x]) = max (maxL l) x := by simp [maxL, List.foldl_append]
theorem maxL_le {n : Nat} : ∀ {l : List Nat}, (∀ x ∈ l, x ≤ n) → maxL l ≤ n := by
  intro l h
  have key : ∀ (l : List Nat) (a : Nat), a ≤ n → (∀ x ∈ l, x ≤ n) → l.foldl max a ≤ n := by
    intro l
    induction l with
    | nil => intro a ha _; exact ha
    | cons x r ih => intro a ha h; exact ih _ (Nat.max_le.2 ⟨ha, h x (List.mem_cons_self ..)⟩) (fun y hy => h y (List.mem_cons_of_mem _ hy))
  exact key l 0 (Nat.zero_le _) h
def depF : Nat → Ex → Nat
  | 0, _ => 0
  | m + 1, e => maxL (e.parts.map (depF m)) + 1
theorem depF_le : ∀ (m : Nat) (e : Ex), depF m e ≤ m
  | 0, _ => Nat.le_refl _
  | m + 1, e => by
    have := maxL_le (n := m) (l := e.parts.map (depF m)) (fun x hx => by
      obtain ⟨p, _, rfl⟩ := List.mem_map.1 hx
      exact depF_le m p)
    unfold depF
    omega
theorem depF_fuel : ∀ (m m' : Nat) (e : Ex), e.wt ≤ m → e.wt ≤ m' → depF m e = depF m' e
  | 0, _, e, h, _ => absurd e.wt_pos (by omega)
  | m + 1, 0, e, _, h => absurd e.wt_pos (by omega)
  | m + 1, m' + 1, e, h, h' => by
    unfold depF
    rw [List.map_congr_left (g := depF m') fun p hp => depF_fuel m m' p (by have := Ex.wt_parts hp; omega) (by have := Ex.wt_parts hp; omega)]
/-- how deep -/
def dep (e : Ex) : Nat := depF e.wt e
theorem dep_parts (e : Ex) : dep e = maxL (e.parts.map dep) + 1 := by
  have hp := e.wt_pos
  obtain ⟨m, hm⟩ : ∃ m, e.wt = m + 1 := ⟨e.wt - 1, by omega⟩
  unfold dep
  rw [hm, depF, List.map_congr_left (g := fun p => depF p.wt p) fun p hp => depF_fuel m p.wt p (by have := Ex.wt_parts hp; omega) (Nat.le_refl _)]

/-! ### all that is bound in an expression -/
def bndF : Nat → Ex → List Str
  | 0, _ => []
  | m + 1, .mk kd nm _ _ names subs binds alts => (if kd = 3 then names else []) ++ subs.flatMap (bndF m) ++ binds.flatMap (fun b => b.name :: bndF m b.e) ++ (if kd = 6 then [nm] else []) ++ alts.flatMap (fun a => a.names ++ bndF m a.body)
theorem bndF_fuel : ∀ (m m' : Nat) (e : Ex), e.wt ≤ m → e.wt ≤ m' → bndF m e = bndF m' e
  | 0, _, e, h, _ => absurd e.wt_pos (by omega)
  | m + 1, 0, e, _, h => absurd e.wt_pos (by omega)
  | m + 1, m' + 1, .mk kd nm nn op names subs binds alts, h, h' => by
    have hw : ∀ p ∈ (Ex.mk kd nm nn op names subs binds alts).parts, bndF m p = bndF m' p := fun p hp => bndF_fuel m m' p (by have := Ex.wt_parts hp; omega) (by have := Ex.wt_parts hp; omega)
    rw [Ex.parts_mk] at hw
    have h1 : subs.flatMap (bndF m) = subs.flatMap (bndF m') := by
      rw [List.flatMap_def, List.flatMap_def, List.map_congr_left (g := bndF m') fun p hp => hw p (by simp [hp])]
    have h2 : binds.flatMap (fun b => b.name :: bndF m b.e) = binds.flatMap (fun b => b.name :: bndF m' b.e) := by
      rw [List.flatMap_def, List.flatMap_def, List.map_congr_left (g := fun b => b.name :: bndF m' b.e) fun b hb => by rw [hw b.e (by simp; exact .inr (.inl ⟨b, hb, rfl⟩))]]
    have h3 : alts.flatMap (fun a => a.names ++ bndF m a.body) = alts.flatMap (fun a => a.names ++ bndF m' a.body) := by
      rw [List.flatMap_def, List.flatMap_def, List.map_congr_left (g := fun a => a.names ++ bndF m' a.body) fun a ha => by rw [hw a.body (by simp; exact .inr (.inr ⟨a, ha, rfl⟩))]]
    rw [bndF, bndF, h1, h2, h3]
theorem flat_len {α : Type} {f : α → List Str} {g : List α → Nat} {w : α → Nat} (h0 : g [] = 0) (h1 : ∀ x l, g (x :: l) = w x + g l) : ∀ {l : List α}, (∀ x ∈ l, (f x).length ≤ w x) → (l.flatMap f).length ≤ g l
  | [], _ => by simp
  | x :: r, h => by
    have h2 := flat_len (l := r) h0 h1 (fun y hy => h y (List.mem_cons_of_mem _ hy))
    have h3 := h x (List.mem_cons_self ..)
    rw [List.flatMap_cons, List.length_append, h1]
    omega
theorem bndF_len : ∀ (m : Nat) (e : Ex), (bndF m e).length ≤ e.wt
  | 0, e => by simp [bndF]
  | m + 1, .mk kd nm nn op names subs binds alts => by
    have h1 : (subs.flatMap (bndF m)).length ≤ exsWt subs := flat_len (w := Ex.wt) rfl (fun _ _ => rfl) fun x _ => bndF_len m x
    have h2 : (binds.flatMap (fun b => b.name :: bndF m b.e)).length ≤ bdsWt binds := flat_len (w := Bd.wt) rfl (fun _ _ => rfl) fun b _ => by
      have := bndF_len m b.e
      have := b.wt_gt
      simp only [List.length_cons]; omega
    have h3 : (alts.flatMap (fun a => a.names ++ bndF m a.body)).length ≤ alsWt alts := flat_len (w := Al.wt) rfl (fun _ _ => rfl) fun a _ => by
      have := bndF_len m a.body
      obtain ⟨k, s, n, l, e⟩ := a
      have := strsWt_len l
      simp only [Al.wt, Al.names, Al.body, List.length_append] at *; omega
    have h4 := strsWt_len names
    have h5 : (if kd = 3 then names else []).length ≤ names.length := by split <;> simp
    have h6 : (if kd = 6 then [nm] else []).length ≤ 1 := by split <;> simp
    simp only [bndF, List.length_append, Ex.wt]
    omega
def bnds (e : Ex) : List Str := bndF e.wt e
theorem bnds_mk (kd : Int) (nm : Str) (nn op : Int) (names : List Str) (subs : List Ex) (binds : List Bd) (alts : List Al) :
    bnds (.mk kd nm nn op names subs binds alts) = (if kd = 3 then names else []) ++ subs.flatMap bnds ++ binds.flatMap (fun b => b.name :: bnds b.e) ++ (if kd = 6 then [nm] else []) ++ alts.flatMap (fun a => a.names ++ bnds a.body) := by
  have hp := (Ex.mk kd nm nn op names subs binds alts).wt_pos
  obtain ⟨m, hm⟩ : ∃ m, (Ex.mk kd nm nn op names subs binds alts).wt = m + 1 := ⟨(Ex.mk kd nm nn op names subs binds alts).wt - 1, by omega⟩
  have hw : ∀ p ∈ (Ex.mk kd nm nn op names subs binds alts).parts, bndF m p = bnds p := fun p hp => bndF_fuel m p.wt p (by have := Ex.wt_parts hp; omega) (Nat.le_refl _)
  rw [Ex.parts_mk] at hw
  have h1 : subs.flatMap (bndF m) = subs.flatMap bnds := by
    rw [List.flatMap_def, List.flatMap_def, List.map_congr_left (g := bnds) fun p hp => hw p (by simp [hp])]
  have h2 : binds.flatMap (fun b => b.name :: bndF m b.e) = binds.flatMap (fun b => b.name :: bnds b.e) := by
    rw [List.flatMap_def, List.flatMap_def, List.map_congr_left (g := fun b => b.name :: bnds b.e) fun b hb => by rw [hw b.e (by simp; exact .inr (.inl ⟨b, hb, rfl⟩))]]
  have h3 : alts.flatMap (fun a => a.names ++ bndF m a.body) = alts.flatMap (fun a => a.names ++ bnds a.body) := by
    rw [List.flatMap_def, List.flatMap_def, List.map_congr_left (g := fun a => a.names ++ bnds a.body) fun a ha => by rw [hw a.body (by simp; exact .inr (.inr ⟨a, ha, rfl⟩))]]
  rw [bnds, hm, bndF, h1, h2, h3]
theorem bnds_sub {e p : Ex} (hp : p ∈ e.parts) {s : Str} (hs : s ∈ bnds p) : s ∈ bnds e := by
  obtain ⟨kd, nm, nn, op, names, subs, binds, alts⟩ := e
  rw [Ex.parts_mk] at hp
  rw [bnds_mk]
  simp only [List.mem_append, List.mem_flatMap, List.mem_map, List.mem_cons] at hp ⊢
  rcases hp with h | ⟨b, h, rfl⟩ | ⟨a, h, rfl⟩
  · exact .inl (.inl (.inl (.inr ⟨p, h, hs⟩)))
  · exact .inl (.inl (.inr ⟨b, h, .inr hs⟩))
  · exact .inr ⟨a, h, .inr hs⟩

/-! ### free names -/
theorem shp_mono : ∀ (m m' : Nat) (e : Ex), m' ≤ m → shp m e → shp m' e
  | _, 0, _, _, _ => trivial
  | 0, m' + 1, _, h, _ => by omega
  | m + 1, m' + 1, e, h, hs => ⟨hs.1, hs.2.1, fun p hp => shp_mono m m' p (by omega) (hs.2.2 p hp)⟩
theorem shp_part {e p : Ex} (h : shp e.wt e) (hp : p ∈ e.parts) : shp p.wt p := by
  have hw := Ex.wt_parts hp
  obtain ⟨m, hm⟩ : ∃ m, e.wt = m + 1 := ⟨e.wt - 1, by omega⟩
  rw [hm] at h
  exact shp_mono m p.wt p (by omega) (h.2.2 p hp)
theorem occS_pos {s : Str} : ∀ {l : List Ex}, 0 < occS s l → ∃ x ∈ l, 0 < occ s x
  | [], h => by simp [occS] at h
  | x :: r, h => by
    by_cases hx : 0 < occ s x
    · exact ⟨x, List.mem_cons_self .., hx⟩
    · have : 0 < occS s r := by simp only [occS, List.map_cons, List.sum_cons] at h ⊢; omega
      obtain ⟨y, h1, h2⟩ := occS_pos this
      exact ⟨y, List.mem_cons_of_mem _ h1, h2⟩
theorem free_part {e : Ex} (h : shp e.wt e) (hk : e.kind ≠ 1) {s : Str} (hs : s ∈ freeS e) : ∃ p ∈ e.parts, s ∈ freeS p := by
  rw [free_used s e h] at hs
  obtain ⟨kd, nm, nn, op, names, subs, binds, alts⟩ := e
  have hk : kd ≠ 1 := hk
  by_cases ho : s ∈ ownOf kd names binds
  · rw [occ, if_neg hk, if_pos ho] at hs; omega
  · rw [occ_us s hk ho] at hs
    obtain ⟨x, h1, h2⟩ := occS_pos hs
    have hx := usL_parts (nn := nn) (op := op) (names := names) h1
    exact ⟨x, hx, (free_used s x (shp_part h hx)).2 h2⟩
theorem unb_nodup : ∀ (m : Nat) (e : Ex) (st : BO), st.2.Nodup → (unbF m e st).2.Nodup
  | 0, e, st, h => by simpa [unbF] using h
  | m + 1, e, st, h => by
    rw [unbF]
    split
    · split
      · exact putO_nodup h _
      · exact h
    · generalize scopeParts e = l
      induction l generalizing st with
      | nil => exact h
      | cons p l ih => exact ih _ (unb_nodup m p.1 (incB st.1 p.2, st.2) h)
theorem freeS_lt (e : Ex) : (freeS e).Pairwise (fun x y => x < y) := by
  have tr : ∀ a b c : List UInt8, (decide (a ≤ b)) = true → (decide (b ≤ c)) = true → (decide (a ≤ c)) = true := fun a b c h1 h2 => by simp only [decide_eq_true_eq] at *; exact List.le_trans h1 h2
  have to : ∀ a b : List UInt8, (decide (a ≤ b) || decide (b ≤ a)) = true := fun a b => by simp only [Bool.or_eq_true, decide_eq_true_eq]; exact List.le_total a b
  have h1 : (freeS e).Pairwise (fun x y : List UInt8 => (decide (x ≤ y)) = true) := List.pairwise_mergeSort tr to _
  have h2 : (freeS e).Nodup := (sortS_perm _).nodup_iff.2 (unb_nodup _ e ([], []) List.nodup_nil)
  refine List.pairwise_iff_getElem.2 fun i j hi hj hij => ?_
  have h := List.pairwise_iff_getElem.1 h1 i j hi hj hij
  have hn := List.pairwise_iff_getElem.1 h2 i j hi hj hij
  generalize (freeS e)[i] = a at *
  generalize (freeS e)[j] = b at *
  have h : a ≤ b := of_decide_eq_true h
  rcases Classical.em (a < b) with h3 | h3
  · exact h3
  · exact (hn (List.le_antisymm h h3)).elim
/-- one name is never behind one that is no smaller -/
theorem freeS_step (e : Ex) {i : Nat} (h : i + 1 < (freeS e).length) : (strLess (freeS e)[i + 1] (freeS e)[i] || decide ((freeS e)[i + 1] = (freeS e)[i])) = false := by
  have hlt := List.pairwise_iff_getElem.1 (freeS_lt e) i (i + 1) (by omega) h (by omega)
  rw [Bool.or_eq_false_iff]
  unfold strLess
  rw [bytesLess_eq]
  refine ⟨decide_eq_false fun h2 => ?_, decide_eq_false fun h2 => ?_⟩
  · exact List.lt_irrefl (α := UInt8) _ (List.lt_trans hlt h2)
  · rw [h2] at hlt; exact List.lt_irrefl (α := UInt8) _ hlt
end Go.Proofs.YtehfihnfeakmaaaGreatDoor
end

section
namespace Go.Proofs.YtehfihnfeakmaaaGreatDoor
open Go
set_option linter.unusedSimpArgs false
set_option linter.unusedVariables false
set_option maxRecDepth 10000
set_option maxHeartbeats 4000000

theorem flat_seq {α : Type} (f : α → List Str) (pre : List Str) (l : List α) : ∃ L : Nat → List Str, L 0 = pre ∧ (∀ (i : Nat) (h : i < l.length), L (i + 1) = L i ++ f l[i]) ∧ (∀ i, (L i).length ≤ (pre ++ l.flatMap f).length) ∧ L l.length = pre ++ l.flatMap f := by
  refine ⟨fun i => pre ++ (l.take i).flatMap f, by simp, fun i h => ?_, fun i => ?_, by simp⟩
  · simp only [List.take_succ_eq_append_getElem h, List.flatMap_append, List.flatMap_cons, List.flatMap_nil, List.append_nil, List.append_assoc]
  · have h : l.flatMap f = (l.take i).flatMap f ++ (l.drop i).flatMap f := by rw [← List.flatMap_append, List.take_append_drop]
    simp only [h, List.length_append]; omega
def BndC (G : Gl) (m : Nat) : Prop := ∀ (e : Ex) (H : List Blk), e.wt ≤ m → e.wt < 4294967296 → ACall Tryz.prog G 104 [e.sv] H (fun r H' => H' = H ++ [.cells 0 1 ((bndF m e).map .str)] ∧ r = .sl H.length 0 0 (bndF m e).length)
theorem binders_ok (G : Gl) (hG : GClosed G) : ∀ m, BndC G m
  | 0, e, H, h, _ => absurd e.wt_pos (by omega)
  | m + 1, e, H, hm, hw0 => by
    have hrec := binders_ok G hG m
    obtain ⟨kd, nm, nn, op, names, subs, binds, alts⟩ := e
    have hle := Ex.wt_lens kd nm nn op names subs binds alts
    have hln := bndF_len (m + 1) (.mk kd nm nn op names subs binds alts)
    have hpw : ∀ p ∈ (Ex.mk kd nm nn op names subs binds alts).parts, p.wt ≤ m ∧ p.wt < 4294967296 := fun p hp => by have := Ex.wt_parts hp; exact ⟨by omega, by omega⟩
    rw [Ex.parts_mk] at hpw
    have eb : bndF (m + 1) (.mk kd nm nn op names subs binds alts) = (if kd = 3 then names else []) ++ subs.flatMap (bndF m) ++ binds.flatMap (fun b => b.name :: bndF m b.e) ++ (if kd = 6 then [nm] else []) ++ alts.flatMap (fun a => a.names ++ bndF m a.body) := rfl
    rw [eb] at hln ⊢
    clear eb
    have h3n : (if kd = 3 then names else []).length ≤ names.length := by split <;> simp
    generalize hl0 : (if kd = 3 then names else []) = l0 at *
    generalize hl5 : (if kd = 6 then [nm] else []) = l5 at *
    obtain ⟨L1, a1, a2, a3, a4⟩ := flat_seq (bndF m) l0 subs
    rw [← a4] at hln ⊢
    obtain ⟨L2, b1, b2, b3, b4⟩ := flat_seq (fun b : Bd => b.name :: bndF m b.e) (L1 subs.length) binds
    rw [← b4] at hln ⊢
    obtain ⟨L4, d1, d2, d3, d4⟩ := flat_seq (fun a : Al => a.names ++ bndF m a.body) (L2 binds.length ++ l5) alts
    rw [← d4] at hln ⊢
    rw [← a4] at a3
    rw [← b4] at b3
    rw [← d4] at d3
    have q4 : (L2 binds.length).length + l5.length ≤ (L4 alts.length).length := by have := d3 0; rw [d1, List.length_append] at this; exact this
    have q2 : (L1 subs.length).length ≤ (L2 binds.length).length := by have := b3 0; rw [b1] at this; exact this
    generalize hW : (Ex.mk kd nm nn op names subs binds alts).wt = W at *
    refine ACall.of_go TB [3] tabOK _ Tryz.func104 rfl (by decide) Tryz.ntmps104 (by simp) rfl (by simp only [initEnv, Nat.reduceAdd]; rfl) fun C R' hR hC hcl hB => ?_; have X := noX; have hC' := congrArg List.length hC
    (refine runC ?_; repeat' (first | with_reducible exact trivial | ((with_reducible apply Fork.mk) <;> intro hb) | with_reducible apply Two.mk))
    refine go_cut (fun _ : Unit => [(1, .ptr H.length 0 0 0), (3, .sl (H.length + 1) 0 0 l0.length)]) (fun _ => H ++ [.cells 0 8 [.agg [.int .i64 kd, .str nm, .int .i64 nn, .int .i64 op, .list 1 (names.map .str), .list 8 (exCells subs), .list 9 (bdCells binds), .list 12 (alCells alts)]], .cells 0 1 (l0.map .str)]) (fun _ => True) (fun K hK => ?_) (fun _ _ => ?_)
    · (refine runO ?_; repeat' (first | with_reducible exact trivial | ((with_reducible apply Fork.mk) <;> intro hb) | with_reducible apply Two.mk))
      · refine hK _ _ () trivial ?_
        rw [if_pos hb] at hl0
        subst hl0
        exact wkS (n0 := H.length) [(H.length, 0), (H.length + 1, 0)] hG hB hC' hcl
      · refine hK _ _ () trivial ?_
        rw [if_neg hb] at hl0
        subst hl0
        simp only [List.length_nil, List.map_nil]
        exact wkS (n0 := H.length) [(H.length, 0), (H.length + 1, 0)] hG hB hC' hcl
    (refine runO ?_; repeat' (first | with_reducible exact trivial | ((with_reducible apply Fork.mk) <;> intro hb) | with_reducible apply Two.mk))
    refine go_loop (fun i : Nat => [(1, .ptr H.length 0 0 0), (3, .sl (H.length + 1) 0 0 (L1 i).length), (18, .list 8 (exCells subs)), (19, .int .i64 subs.length), (20, .int .i64 i)])
      (fun i => H ++ [.cells 0 8 [.agg [.int .i64 kd, .str nm, .int .i64 nn, .int .i64 op, .list 1 (names.map .str), .list 8 (exCells subs), .list 9 (bdCells binds), .list 12 (alCells alts)]], .cells 0 1 ((L1 i).map .str)]) (fun i => subs.length - i) (fun i => i ≤ subs.length) 0 (Nat.zero_le _) ?_ ?_
    · rw [a1]
      exact Wk.sub (by simp [subEnv, look])
    rintro K i hi hK
    rcases Nat.lt_or_ge i subs.length with hlt | hge
    · have c1 := fun H => hrec subs[i] H (hpw _ (by simp)).1 (hpw _ (by simp)).2
      have e1 := a2 i hlt
      have e2 := a3 (i + 1)
      have e3 := a3 i
      have e4 := bndF_len m subs[i]
      have e5 := (hpw subs[i] (by simp)).2
      rw [e1, List.length_append] at e2
      generalize bndF m subs[i] = l at *
      generalize L1 i = l1 at *
      have X := And.intro noX (show (l1.map SV.str).length = l1.length ∧ (l.map SV.str).length = l.length from ⟨List.length_map .., List.length_map ..⟩)
      (refine run ?_; repeat' (first | with_reducible exact trivial | ((with_reducible apply Fork.mk) <;> intro hb) | with_reducible apply Two.mk))
      refine hK _ _ (i + 1) (by omega) (by omega) ?_
      rw [e1, List.map_append, show (l1 ++ l).length = l1.length + l.length from List.length_append ..]
      exact wkS (n0 := H.length) [(H.length, 0), (H.length + 1, 0)] hG hB hC' hcl
    obtain rfl : i = subs.length := by omega
    clear hK
    (refine runO ?_; repeat' (first | with_reducible exact trivial | ((with_reducible apply Fork.mk) <;> intro hb) | with_reducible apply Two.mk))
    refine go_loop (fun i : Nat => [(1, .ptr H.length 0 0 0), (3, .sl (H.length + 1) 0 0 (L2 i).length), (30, .list 9 (bdCells binds)), (31, .int .i64 binds.length), (32, .int .i64 i)])
      (fun i => H ++ [.cells 0 8 [.agg [.int .i64 kd, .str nm, .int .i64 nn, .int .i64 op, .list 1 (names.map .str), .list 8 (exCells subs), .list 9 (bdCells binds), .list 12 (alCells alts)]], .cells 0 1 ((L2 i).map .str)]) (fun i => binds.length - i) (fun i => i ≤ binds.length) 0 (Nat.zero_le _) ?_ ?_
    · rw [b1]
      exact Wk.sub (by simp [subEnv, look])
    rintro K i hi hK
    rcases Nat.lt_or_ge i binds.length with hlt | hge
    · have hpb := hpw binds[i].e (by simp; exact .inr (.inl ⟨_, List.getElem_mem hlt, rfl⟩))
      have c1 := fun H => hrec binds[i].e H hpb.1 hpb.2
      have e1 := b2 i hlt
      have e2 := b3 (i + 1)
      have e3 := b3 i
      have e4 := bndF_len m binds[i].e
      rw [e1, List.length_append] at e2
      simp only [List.length_cons] at e2
      generalize bndF m binds[i].e = l at *
      generalize L2 i = l1 at *
      have X := And.intro noX (show (l1.map SV.str).length = l1.length ∧ (l.map SV.str).length = l.length from ⟨List.length_map .., List.length_map ..⟩)
      (refine run ?_; repeat' (first | with_reducible exact trivial | ((with_reducible apply Fork.mk) <;> intro hb) | with_reducible apply Two.mk))
      refine hK _ _ (i + 1) (by omega) (by omega) ?_
      rw [e1, List.map_append, List.map_cons, show (l1 ++ binds[i].name :: l).length = l1.length + (1 + l.length) from by simp; omega]
      exact wkS (n0 := H.length) [(H.length, 0), (H.length + 1, 0)] hG hB hC' hcl
    obtain rfl : i = binds.length := by omega
    clear hK
    (refine runC ?_; repeat' (first | with_reducible exact trivial | ((with_reducible apply Fork.mk) <;> intro hb) | with_reducible apply Two.mk))
    refine go_condDF rfl (by omega) ?_
    (refine runC ?_; repeat' (first | with_reducible exact trivial | ((with_reducible apply Fork.mk) <;> intro hb) | with_reducible apply Two.mk))
    refine go_cut (fun _ : Unit => [(1, .ptr H.length 0 0 0), (3, .sl (H.length + 1) 0 0 (L2 binds.length ++ l5).length)]) (fun _ => H ++ [.cells 0 8 [.agg [.int .i64 kd, .str nm, .int .i64 nn, .int .i64 op, .list 1 (names.map .str), .list 8 (exCells subs), .list 9 (bdCells binds), .list 12 (alCells alts)]], .cells 0 1 ((L2 binds.length ++ l5).map .str)]) (fun _ => True) (fun K hK => ?_) (fun _ _ => ?_)
    · have X := And.intro noX (show ((L2 binds.length).map SV.str).length = (L2 binds.length).length from List.length_map ..)
      (refine runO ?_; repeat' (first | with_reducible exact trivial | ((with_reducible apply Fork.mk) <;> intro hb) | with_reducible apply Two.mk))
      · refine hK _ _ () trivial ?_
        rw [if_pos hb] at hl5
        subst hl5
        rw [List.map_append, List.length_append, List.length_singleton]
        exact wkS (n0 := H.length) [(H.length, 0), (H.length + 1, 0)] hG hB hC' hcl
      · refine hK _ _ () trivial ?_
        rw [if_neg hb] at hl5
        subst hl5
        rw [List.append_nil]
        exact wkS (n0 := H.length) [(H.length, 0), (H.length + 1, 0)] hG hB hC' hcl
    (refine runO ?_; repeat' (first | with_reducible exact trivial | ((with_reducible apply Fork.mk) <;> intro hb) | with_reducible apply Two.mk))
    refine go_loop (fun i : Nat => [(1, .ptr H.length 0 0 0), (3, .sl (H.length + 1) 0 0 (L4 i).length), (55, .list 12 (alCells alts)), (56, .int .i64 alts.length), (57, .int .i64 i)])
      (fun i => H ++ [.cells 0 8 [.agg [.int .i64 kd, .str nm, .int .i64 nn, .int .i64 op, .list 1 (names.map .str), .list 8 (exCells subs), .list 9 (bdCells binds), .list 12 (alCells alts)]], .cells 0 1 ((L4 i).map .str)]) (fun i => alts.length - i) (fun i => i ≤ alts.length) 0 (Nat.zero_le _) ?_ ?_
    · rw [d1]
      exact Wk.sub (by simp [subEnv, look])
    rintro K i hi hK
    rcases Nat.lt_or_ge i alts.length with hlt | hge
    · have hpb := hpw alts[i].body (by simp; exact .inr (.inr ⟨_, List.getElem_mem hlt, rfl⟩))
      have c1 := fun H => hrec alts[i].body H hpb.1 hpb.2
      have e1 := d2 i hlt
      have e2 := d3 (i + 1)
      have e3 := d3 i
      have e4 := bndF_len m alts[i].body
      rw [e1, List.length_append] at e2
      simp only [List.length_append] at e2
      generalize bndF m alts[i].body = l at *
      generalize L4 i = l1 at *
      have X := And.intro noX (show (l1.map SV.str).length = l1.length ∧ (l.map SV.str).length = l.length from ⟨List.length_map .., List.length_map ..⟩)
      (refine run ?_; repeat' (first | with_reducible exact trivial | ((with_reducible apply Fork.mk) <;> intro hb) | with_reducible apply Two.mk))
      refine hK _ _ (i + 1) (by omega) (by omega) ?_
      rw [e1, List.map_append, List.map_append, show (l1 ++ (alts[i].names ++ l)).length = l1.length + (alts[i].names.length + l.length) from by simp]
      exact wkS (n0 := H.length) [(H.length, 0), (H.length + 1, 0)] hG hB hC' hcl
    obtain rfl : i = alts.length := by omega
    clear hK
    (refine runO ?_; repeat' (first | with_reducible exact trivial | ((with_reducible apply Fork.mk) <;> intro hb) | with_reducible apply Two.mk))
    exact finK [(H.length + 1, 0)] (.sl H.length 0 0 (L4 alts.length).length) [.cells 0 1 ((L4 alts.length).map .str)] hR hC' hcl ⟨rfl, rfl⟩
end Go.Proofs.YtehfihnfeakmaaaGreatDoor
end

section
namespace Go.Proofs.YtehfihnfeakmaaaGreatDoor
open Go
set_option linter.unusedSimpArgs false
set_option linter.unusedVariables false
set_option maxRecDepth 10000
set_option maxHeartbeats 4000000

def DepC (G : Gl) (m : Nat) : Prop := ∀ (e : Ex) (H : List Blk), e.wt ≤ m → ACall Tryz.prog G 44 [e.sv] H (fun r H' => H' = H ∧ r = .int .i64 (depF m e))
theorem max_nat (n d : Nat) : (if (n : Int) < (d : Int) then (d : Int) else (n : Int)) = ((max n d : Nat) : Int) := by
  split <;> omega
theorem depth1_ok (G : Gl) (hG : GClosed G) (m : Nat) (hm : m < 4294967296) (hrec : DepC G m) (p : Ex) (H : List Blk) (n nb : Nat) (hp : p.wt ≤ m) (h1 : H[nb]? = some (szC n)) (hn : n < 4294967296) :
    ACall Tryz.prog G 101 [p.sv, .ptr nb 0 0 0] H (fun r H' => H' = H.set nb (szC (max n (depF m p) : Nat)) ∧ r = .bool true) := by
  have hlt : nb < H.length := (List.getElem?_eq_some_iff.1 h1).1
  have hd := depF_le m p
  have c1 := fun H => hrec p H hp
  generalize depF m p = d at *
  refine ACall.of_go TB [] tabOK _ Tryz.func101 rfl (by decide) Tryz.ntmps101 (by simp) rfl (by simp only [initEnv, Nat.reduceAdd]; rfl) fun C R' hR hC hcl hB => ?_; have X := noX; have hC' := congrArg List.length hC
  have X := And.intro h1 (show IntKind.i64.min ≤ (d : Int) ∧ (d : Int) ≤ IntKind.i64.max from ⟨by show (-9223372036854775808 : Int) ≤ _; omega, by show _ ≤ (9223372036854775807 : Int); omega⟩)
  unfold szC at X
  (refine run ?_; repeat' (first | with_reducible exact trivial | ((with_reducible apply Fork.mk) <;> intro hb) | with_reducible apply Two.mk))
  rw [max_nat]
  exact Fin.tellN (n0 := H.length) hR (by simp) hC' (hcl.set rfl) (.same _ rfl) ⟨rfl, rfl⟩
theorem maxL_take (l : List Nat) (i : Nat) (h : i < l.length) : maxL (l.take (i + 1)) = max (maxL (l.take i)) l[i] := by
  rw [List.take_succ_eq_append_getElem h, maxL_app]
theorem depth_ok (G : Gl) (hG : GClosed G) : ∀ m, m < 4294967296 → DepC G m
  | 0, _, e, _, h => absurd e.wt_pos (by omega)
  | m + 1, hm2, e, H, hm => by
    have hrec := depth_ok G hG m (by omega)
    have hmx : ∀ i, maxL ((e.parts.map (depF m)).take i) ≤ m := fun i => maxL_le fun x hx => by
      obtain ⟨p, _, rfl⟩ := List.mem_map.1 (List.mem_of_mem_take hx)
      exact depF_le m p
    refine ACall.of_go TB [] tabOK _ Tryz.func44 rfl (by decide) Tryz.ntmps44 (by simp) rfl (by simp only [initEnv, Nat.reduceAdd]; rfl) fun C R' hR hC hcl hB => ?_; have X := noX; have hC' := congrArg List.length hC
    have heach := each_ok G hG e (by omega) (.fn (.func 101) [] [.ptr (H.length + 1) 0 0 0]) (fun i => H ++ [.cells 0 8 [.agg e.cells], szC (maxL ((e.parts.map (depF m)).take i) : Nat)]) (H.length + 2) (fun i => by simp) (by simp [SV.under, SV.underL])
      (fun h i => by
        have := h.set (id := H.length + 1) (b := szC (maxL ((e.parts.map (depF m)).take i) : Nat)) rfl
        simpa using this) (fun i p X hp => by
        have hpw := Ex.wt_parts (List.mem_of_getElem? hp)
        have hlp := (List.getElem?_eq_some_iff.1 hp)
        have hli : i < (e.parts.map (depF m)).length := by simpa using hlp.1
        have hnx := maxL_take (e.parts.map (depF m)) i hli
        have hget : (e.parts.map (depF m))[i] = depF m p := by simp [hlp.2]
        rw [hget] at hnx
        have hi := hmx i
        refine ACallV.of (first := []) (args := [p.sv]) (cap := [.ptr (H.length + 1) 0 0 0]) ((depth1_ok G hG m (by omega) hrec p _ (maxL ((e.parts.map (depF m)).take i)) (H.length + 1) (by omega) (by simp) (by omega)).mono ?_)
        rintro r H' ⟨rfl, rfl⟩
        refine ⟨?_, rfl⟩
        rw [hnx]
        simp)
    have h0 : maxL ((e.parts.map (depF m)).take 0) = 0 := rfl
    have hall : maxL ((e.parts.map (depF m)).take e.parts.length) = maxL (e.parts.map (depF m)) := by
      rw [List.take_of_length_le (by simp)]
    simp only [szC, h0, hall] at heach
    have hmm := hmx e.parts.length
    rw [hall] at hmm
    unfold depF at hR
    generalize maxL (e.parts.map (depF m)) = d at *
    (refine run ?_; repeat' (first | with_reducible exact trivial | ((with_reducible apply Fork.mk) <;> intro hb) | with_reducible apply Two.mk))
    refine callS heach ?_
    rintro r H' ⟨rfl, rfl⟩
    (refine run ?_; repeat' (first | with_reducible exact trivial | ((with_reducible apply Fork.mk) <;> intro hb) | with_reducible apply Two.mk))
    exact Fin.tellN (n0 := H.length) hR (by simp) hC' hcl (.same _ rfl) ⟨rfl, by simp only [resSV]; rfl⟩
end Go.Proofs.YtehfihnfeakmaaaGreatDoor
end

section
namespace Go.Proofs.YtehfihnfeakmaaaGreatDoor
open Go
set_option linter.unusedSimpArgs false
set_option linter.unusedVariables false

section
variable {P : Program} {G : Gl} {T : Tab} {own : List Nat} {nt B : Nat} {ρ : Option Nat} {C : Cx} {rs : List ResultVar} {R : SV → List Blk → Prop} {env env2 : Env} {H X KB : List Blk} {k : List It}
theorem frzG {p : Prop} (h : p := by repeat' (first | exact FrzL.nil | (refine FrzL.cons _ _ _ _ ?_ ?_) | (apply Frz.same; exact undS) | (apply Frz.ks 3 rfl; (· exact hbS); (· omega); (· omega); (· omega); (· omega)) | (apply Frz.ks 4 rfl; (· exact hbS); (· omega); (· omega); (· omega); (· omega)) | (apply Frz.ks 5 rfl; (· exact hbS); (· omega); (· omega); (· omega); (· omega)) | (apply Frz.ks 6 rfl; (· exact hbS); (· omega); (· omega); (· omega); (· omega)) | (apply Frz.ks 7 rfl; (· exact hbS); (· omega); (· omega); (· omega); (· omega)) | fail)) : p := h
theorem wkF (ks : Keep) {n0 : Nat} (hG : GClosed G) (hB : Based G C.H.length) (hC : C.H.length = n0) (hcl : closed H) (hn : H.length = n0 := by first | rfl | (simp; done) | exact hlen _)
    (hk : KeepB (H ++ X) n0 ks ks KB := by
      repeat' (first | exact KeepB.nil | (apply KeepB.c; (· exact hbS); (· omega); (· first | omega | (simp <;> omega)); (· first | (apply FrzL.same; exact undS) | (refine FrzL.cons _ _ _ _ ?_ FrzL.nil; apply Frz.agg; exact frzG) | exact frzLS)) | exact frzS))
    (hd : (ks.map (·.1)).Nodup := by first | rfl | decide | simp)
    (he : subEnvF (H ++ X) n0 ks env2 env := by
      repeat' (first | exact True.intro | (refine And.intro ⟨_, rfl, ?_⟩ ?_) | (apply Frz.fn; (· exact frzLS); (· exact frzLS)) | (apply Frz.kp 5 rfl; (· exact hbS); (· omega); (· omega); (· omega)) | (apply Frz.kp 6 rfl; (· exact hbS); (· omega); (· omega); (· omega)) | (apply Frz.kp 7 rfl; (· exact hbS); (· omega); (· omega); (· omega)) | exact frzS)) : Wk G nt C ⟨env, H ++ X⟩ ⟨env2, H ++ KB⟩ := Wk.keepN ks hG hB hn hC hcl hk hd he
end
end Go.Proofs.YtehfihnfeakmaaaGreatDoor
end

section
namespace Go.Proofs.YtehfihnfeakmaaaGreatDoor
open Go
set_option linter.unusedVariables false

/-- a call's answer, told anew -/
theorem ACall.fin {P : Program} {G : Gl} {f : FuncId} {args : List SV} {H : List Blk} {R R' : SV → List Blk → Prop} (h : ACall P G f args H R)
    (hf : ∀ C x H', C.H = H → closed H → R x H' → Fin C H' x R') : ACall P G f args H R' :=
  ⟨h.1, fun c vs h1 h2 h3 h4 => (h.2 c vs h1 h2 h3 h4).mono fun e w' ⟨v, x, c', a1, a2, a3, a4, a5, a6⟩ =>
    let ⟨c2, y, b1, b2, b3, b4, b5⟩ := hf c x c'.H h1 (h1 ▸ h2.closed) a3 c' v rfl a4 a5 a6
    ⟨v, y, c2, a1, b1.trans a2, b2, b3, b4, b5⟩⟩
theorem ACall.argsOf {P : Program} {G : Gl} {f : FuncId} {args args' : List SV} {H : List Blk} {R : SV → List Blk → Prop} (h : ACall P G f args H R)
    (ha : ∀ c vs, RepL c args' vs → RepL c args vs) : ACall P G f args' H R :=
  ⟨h.1, fun c vs h1 h2 h3 h4 => h.2 c vs h1 h2 h3 (ha c vs h4)⟩
/-- a fresh slice that is told as a plain list -/
theorem ACall.frz {P : Program} {G : Gl} {f : FuncId} {args : List SV} {H : List Blk} {sz : Nat} {vs : List SV} {n : Nat} (hu : SV.underL H.length vs = true) (hn : vs.length = n)
    (h : ACall P G f args H (fun r H' => H' = H ++ [.cells 0 sz vs] ∧ r = .sl H.length 0 0 n)) : ACall P G f args H (fun r H' => H' = H ∧ r = .list sz vs) :=
  h.fin fun C x H' h1 hcl hr => by
    obtain ⟨rfl, rfl⟩ := hr
    exact Fin.tellN (n0 := H.length) (R0 := fun r H' => H' = H ∧ r = .list sz vs) (fun _ _ h => h) rfl (by rw [h1]) hcl (Frz.sf (g := 0) (sz := sz) (vals := vs) (List.getElem?_concat_length ..) (Nat.le_refl _) (by simp) (by rw [List.drop_zero, List.take_of_length_le (by omega)]) hu) ⟨rfl, rfl⟩
theorem Rep.nil_list {c : Cx} {sz : Nat} {v : Value} (h : Rep c .nil v) : Rep c (.list sz []) v := by
  simp only [Rep] at h ⊢
  exact ⟨none, 0, h, Nat.le_refl _, Nat.zero_le _, .inl trivial⟩
end Go.Proofs.YtehfihnfeakmaaaGreatDoor
end

section
namespace Go.Proofs.YtehfihnfeakmaaaGreatDoor
open Go
set_option linter.unusedSimpArgs false
set_option linter.unusedVariables false
set_option maxRecDepth 10000
set_option maxHeartbeats 4000000

theorem part_ok (G : Gl) (hG : GClosed G) (e : Ex) (hw : e.wt < 4294967296) (i : Nat) (hi : i < e.parts.length) (H : List Blk) : ACall Tryz.prog G 92 [e.sv, .int .i64 i] H (fun r H' => H' = H ∧ r = e.parts[i].sv) := by
  obtain ⟨kd, nm, nn, op, names, subs, binds, alts⟩ := e
  have hle := Ex.wt_lens kd nm nn op names subs binds alts
  have hpm := Ex.parts_mk kd nm nn op names subs binds alts
  have hpl : (Ex.mk kd nm nn op names subs binds alts).parts.length = subs.length + (binds.length + alts.length) := by rw [hpm]; simp
  have hg : (Ex.mk kd nm nn op names subs binds alts).parts[i]? = some (Ex.mk kd nm nn op names subs binds alts).parts[i] := List.getElem?_eq_getElem hi
  rw [hpl] at hi
  generalize (Ex.mk kd nm nn op names subs binds alts).parts[i] = x at *
  rw [hpm] at hg
  clear hpm hpl
  rcases Nat.lt_or_ge i subs.length with h1 | h1
  · rw [List.getElem?_append_left h1, List.getElem?_eq_getElem h1] at hg
    obtain rfl := Option.some.inj hg
    refine ACall.of_go TB [] tabOK _ Tryz.func92 rfl (by decide) Tryz.ntmps92 (by simp) rfl (by simp only [initEnv, Nat.reduceAdd]; rfl) fun C R' hR hC hcl hB => ?_; have X := noX; have hC' := congrArg List.length hC
    (refine run ?_; repeat' (first | with_reducible exact trivial | ((with_reducible apply Fork.mk) <;> intro hb) | with_reducible apply Two.mk))
    exact finS (n0 := H.length) hR hC' hcl (.same _ (by simp only [resSV]; exact undS)) ⟨rfl, rfl⟩
  rw [List.getElem?_append_right h1] at hg
  rcases Nat.lt_or_ge i (subs.length + binds.length) with h2 | h2
  · obtain ⟨j, rfl⟩ : ∃ j, i = subs.length + j := ⟨i - subs.length, by omega⟩
    have h3 : j < binds.length := by omega
    rw [Nat.add_sub_cancel_left, List.getElem?_append_left (by simpa using h3), List.getElem?_map, List.getElem?_eq_getElem h3] at hg
    obtain rfl := Option.some.inj hg
    have hj : ((subs.length + j : Nat) : Int) - (subs.length : Int) = (j : Int) := by omega
    refine ACall.of_go TB [] tabOK _ Tryz.func92 rfl (by decide) Tryz.ntmps92 (by simp) rfl (by simp only [initEnv, Nat.reduceAdd]; rfl) fun C R' hR hC hcl hB => ?_; have X := noX; have hC' := congrArg List.length hC
    have X := And.intro X hj
    (refine run ?_; repeat' (first | with_reducible exact trivial | ((with_reducible apply Fork.mk) <;> intro hb) | with_reducible apply Two.mk))
    all_goals first | exact finS (n0 := H.length) hR hC' hcl (.same _ (by simp only [resSV]; exact undS)) ⟨rfl, rfl⟩ | (exfalso; omega)
  · obtain ⟨j, rfl⟩ : ∃ j, i = subs.length + (binds.length + j) := ⟨i - subs.length - binds.length, by omega⟩
    have h3 : j < alts.length := by omega
    rw [Nat.add_sub_cancel_left, List.getElem?_append_right (by simp), List.length_map, Nat.add_sub_cancel_left, List.getElem?_map, List.getElem?_eq_getElem h3] at hg
    obtain rfl := Option.some.inj hg
    have hj : ((subs.length + (binds.length + j) : Nat) : Int) - (subs.length : Int) = ((binds.length + j : Nat) : Int) := by omega
    have hj2 : ((binds.length + j : Nat) : Int) - (binds.length : Int) = (j : Int) := by omega
    refine ACall.of_go TB [] tabOK _ Tryz.func92 rfl (by decide) Tryz.ntmps92 (by simp) rfl (by simp only [initEnv, Nat.reduceAdd]; rfl) fun C R' hR hC hcl hB => ?_; have X := noX; have hC' := congrArg List.length hC
    have X := And.intro X (And.intro hj hj2)
    (refine run ?_; repeat' (first | with_reducible exact trivial | ((with_reducible apply Fork.mk) <;> intro hb) | with_reducible apply Two.mk))
    all_goals first | exact finS (n0 := H.length) hR hC' hcl (.same _ (by simp only [resSV]; exact undS)) ⟨rfl, rfl⟩ | (exfalso; omega)
end Go.Proofs.YtehfihnfeakmaaaGreatDoor
end

section
namespace Go.Proofs.YtehfihnfeakmaaaGreatDoor
open Go
set_option linter.unusedSimpArgs false
set_option linter.unusedVariables false
set_option maxRecDepth 10000
set_option maxHeartbeats 4000000

def RbnC (G : Gl) (m : Nat) : Prop := ∀ (e : Ex) (H : List Blk), e.wt ≤ m → e.wt < 4294967296 → ACall Tryz.prog G 63 [e.sv] H (fun r H' => H' = H ++ [.cells 0 1 ((bndF m e).map .str)] ∧ r = .sl H.length 0 0 (bndF m e).length)
theorem rbinders_ok (G : Gl) (hG : GClosed G) : ∀ m, RbnC G m
  | 0, e, H, h, _ => absurd e.wt_pos (by omega)
  | m + 1, e, H, hm, hw0 => by
    have hrec := rbinders_ok G hG m
    obtain ⟨kd, nm, nn, op, names, subs, binds, alts⟩ := e
    have hle := Ex.wt_lens kd nm nn op names subs binds alts
    have hln := bndF_len (m + 1) (.mk kd nm nn op names subs binds alts)
    have hpw : ∀ p ∈ (Ex.mk kd nm nn op names subs binds alts).parts, p.wt ≤ m ∧ p.wt < 4294967296 := fun p hp => by have := Ex.wt_parts hp; exact ⟨by omega, by omega⟩
    rw [Ex.parts_mk] at hpw
    have eb : bndF (m + 1) (.mk kd nm nn op names subs binds alts) = (if kd = 3 then names else []) ++ subs.flatMap (bndF m) ++ binds.flatMap (fun b => b.name :: bndF m b.e) ++ (if kd = 6 then [nm] else []) ++ alts.flatMap (fun a => a.names ++ bndF m a.body) := rfl
    rw [eb] at hln ⊢
    clear eb
    have h3n : (if kd = 3 then names else []).length ≤ names.length := by split <;> simp
    generalize hl0 : (if kd = 3 then names else []) = l0 at *
    generalize hl5 : (if kd = 6 then [nm] else []) = l5 at *
    obtain ⟨L1, a1, a2, a3, a4⟩ := flat_seq (bndF m) l0 subs
    rw [← a4] at hln ⊢
    obtain ⟨L2, b1, b2, b3, b4⟩ := flat_seq (fun b : Bd => b.name :: bndF m b.e) (L1 subs.length) binds
    rw [← b4] at hln ⊢
    obtain ⟨L4, d1, d2, d3, d4⟩ := flat_seq (fun a : Al => a.names ++ bndF m a.body) (L2 binds.length ++ l5) alts
    rw [← d4] at hln ⊢
    rw [← a4] at a3
    rw [← b4] at b3
    rw [← d4] at d3
    have q4 : (L2 binds.length).length + l5.length ≤ (L4 alts.length).length := by have := d3 0; rw [d1, List.length_append] at this; exact this
    have q2 : (L1 subs.length).length ≤ (L2 binds.length).length := by have := b3 0; rw [b1] at this; exact this
    generalize hW : (Ex.mk kd nm nn op names subs binds alts).wt = W at *
    refine ACall.of_go TB [3] tabOK _ Tryz.func63 rfl (by decide) Tryz.ntmps63 (by simp) rfl (by simp only [initEnv, Nat.reduceAdd]; rfl) fun C R' hR hC hcl hB => ?_; have X := noX; have hC' := congrArg List.length hC
    (refine runC ?_; repeat' (first | with_reducible exact trivial | ((with_reducible apply Fork.mk) <;> intro hb) | with_reducible apply Two.mk))
    refine go_cut (fun _ : Unit => [(1, .ptr H.length 0 0 0), (3, .sl (H.length + 1) 0 0 l0.length)]) (fun _ => H ++ [.cells 0 8 [.agg [.int .i64 kd, .str nm, .int .i64 nn, .int .i64 op, .list 1 (names.map .str), .list 8 (exCells subs), .list 9 (bdCells binds), .list 12 (alCells alts)]], .cells 0 1 (l0.map .str)]) (fun _ => True) (fun K hK => ?_) (fun _ _ => ?_)
    · (refine runO ?_; repeat' (first | with_reducible exact trivial | ((with_reducible apply Fork.mk) <;> intro hb) | with_reducible apply Two.mk))
      · refine hK _ _ () trivial ?_
        rw [if_pos hb] at hl0
        subst hl0
        exact wkS (n0 := H.length) [(H.length, 0), (H.length + 1, 0)] hG hB hC' hcl
      · refine hK _ _ () trivial ?_
        rw [if_neg hb] at hl0
        subst hl0
        simp only [List.length_nil, List.map_nil]
        exact wkS (n0 := H.length) [(H.length, 0), (H.length + 1, 0)] hG hB hC' hcl
    (refine runO ?_; repeat' (first | with_reducible exact trivial | ((with_reducible apply Fork.mk) <;> intro hb) | with_reducible apply Two.mk))
    refine go_loop (fun i : Nat => [(1, .ptr H.length 0 0 0), (3, .sl (H.length + 1) 0 0 (L1 i).length), (4, .int .i64 i)])
      (fun i => H ++ [.cells 0 8 [.agg [.int .i64 kd, .str nm, .int .i64 nn, .int .i64 op, .list 1 (names.map .str), .list 8 (exCells subs), .list 9 (bdCells binds), .list 12 (alCells alts)]], .cells 0 1 ((L1 i).map .str)]) (fun i => subs.length - i) (fun i => i ≤ subs.length) 0 (Nat.zero_le _) ?_ ?_
    · rw [a1]
      exact Wk.sub (by simp [subEnv, look])
    rintro K i hi hK
    rcases Nat.lt_or_ge i subs.length with hlt | hge
    · have c1 := fun H => hrec subs[i] H (hpw _ (by simp)).1 (hpw _ (by simp)).2
      have e1 := a2 i hlt
      have e2 := a3 (i + 1)
      have e3 := a3 i
      have e4 := bndF_len m subs[i]
      have e5 := (hpw subs[i] (by simp)).2
      rw [e1, List.length_append] at e2
      generalize bndF m subs[i] = l at *
      generalize L1 i = l1 at *
      have X := And.intro noX (show (l1.map SV.str).length = l1.length ∧ (l.map SV.str).length = l.length from ⟨List.length_map .., List.length_map ..⟩)
      (refine run ?_; repeat' (first | with_reducible exact trivial | ((with_reducible apply Fork.mk) <;> intro hb) | with_reducible apply Two.mk))
      refine hK _ _ (i + 1) (by omega) (by omega) ?_
      rw [e1, List.map_append, show (l1 ++ l).length = l1.length + l.length from List.length_append ..]
      exact wkS (n0 := H.length) [(H.length, 0), (H.length + 1, 0)] hG hB hC' hcl
    obtain rfl : i = subs.length := by omega
    clear hK
    (refine runO ?_; repeat' (first | with_reducible exact trivial | ((with_reducible apply Fork.mk) <;> intro hb) | with_reducible apply Two.mk))
    refine go_loop (fun i : Nat => [(1, .ptr H.length 0 0 0), (3, .sl (H.length + 1) 0 0 (L2 i).length), (5, .int .i64 i)])
      (fun i => H ++ [.cells 0 8 [.agg [.int .i64 kd, .str nm, .int .i64 nn, .int .i64 op, .list 1 (names.map .str), .list 8 (exCells subs), .list 9 (bdCells binds), .list 12 (alCells alts)]], .cells 0 1 ((L2 i).map .str)]) (fun i => binds.length - i) (fun i => i ≤ binds.length) 0 (Nat.zero_le _) ?_ ?_
    · rw [b1]
      exact Wk.sub (by simp [subEnv, look])
    rintro K i hi hK
    rcases Nat.lt_or_ge i binds.length with hlt | hge
    · have hpb := hpw binds[i].e (by simp; exact .inr (.inl ⟨_, List.getElem_mem hlt, rfl⟩))
      have c1 := fun H => hrec binds[i].e H hpb.1 hpb.2
      have e1 := b2 i hlt
      have e2 := b3 (i + 1)
      have e3 := b3 i
      have e4 := bndF_len m binds[i].e
      rw [e1, List.length_append] at e2
      simp only [List.length_cons] at e2
      generalize bndF m binds[i].e = l at *
      generalize L2 i = l1 at *
      have X := And.intro noX (show (l1.map SV.str).length = l1.length ∧ (l.map SV.str).length = l.length from ⟨List.length_map .., List.length_map ..⟩)
      (refine run ?_; repeat' (first | with_reducible exact trivial | ((with_reducible apply Fork.mk) <;> intro hb) | with_reducible apply Two.mk))
      refine hK _ _ (i + 1) (by omega) (by omega) ?_
      rw [e1, List.map_append, List.map_cons, show (l1 ++ binds[i].name :: l).length = l1.length + (1 + l.length) from by simp; omega]
      exact wkS (n0 := H.length) [(H.length, 0), (H.length + 1, 0)] hG hB hC' hcl
    obtain rfl : i = binds.length := by omega
    clear hK
    (refine runC ?_; repeat' (first | with_reducible exact trivial | ((with_reducible apply Fork.mk) <;> intro hb) | with_reducible apply Two.mk))
    refine go_condDF rfl (by omega) ?_
    (refine runC ?_; repeat' (first | with_reducible exact trivial | ((with_reducible apply Fork.mk) <;> intro hb) | with_reducible apply Two.mk))
    refine go_cut (fun _ : Unit => [(1, .ptr H.length 0 0 0), (3, .sl (H.length + 1) 0 0 (L2 binds.length ++ l5).length)]) (fun _ => H ++ [.cells 0 8 [.agg [.int .i64 kd, .str nm, .int .i64 nn, .int .i64 op, .list 1 (names.map .str), .list 8 (exCells subs), .list 9 (bdCells binds), .list 12 (alCells alts)]], .cells 0 1 ((L2 binds.length ++ l5).map .str)]) (fun _ => True) (fun K hK => ?_) (fun _ _ => ?_)
    · have X := And.intro noX (show ((L2 binds.length).map SV.str).length = (L2 binds.length).length from List.length_map ..)
      (refine runO ?_; repeat' (first | with_reducible exact trivial | ((with_reducible apply Fork.mk) <;> intro hb) | with_reducible apply Two.mk))
      · refine hK _ _ () trivial ?_
        rw [if_pos hb] at hl5
        subst hl5
        rw [List.map_append, List.length_append, List.length_singleton]
        exact wkS (n0 := H.length) [(H.length, 0), (H.length + 1, 0)] hG hB hC' hcl
      · refine hK _ _ () trivial ?_
        rw [if_neg hb] at hl5
        subst hl5
        rw [List.append_nil]
        exact wkS (n0 := H.length) [(H.length, 0), (H.length + 1, 0)] hG hB hC' hcl
    (refine runO ?_; repeat' (first | with_reducible exact trivial | ((with_reducible apply Fork.mk) <;> intro hb) | with_reducible apply Two.mk))
    refine go_loop (fun i : Nat => [(1, .ptr H.length 0 0 0), (3, .sl (H.length + 1) 0 0 (L4 i).length), (6, .int .i64 i)])
      (fun i => H ++ [.cells 0 8 [.agg [.int .i64 kd, .str nm, .int .i64 nn, .int .i64 op, .list 1 (names.map .str), .list 8 (exCells subs), .list 9 (bdCells binds), .list 12 (alCells alts)]], .cells 0 1 ((L4 i).map .str)]) (fun i => alts.length - i) (fun i => i ≤ alts.length) 0 (Nat.zero_le _) ?_ ?_
    · rw [d1]
      exact Wk.sub (by simp [subEnv, look])
    rintro K i hi hK
    rcases Nat.lt_or_ge i alts.length with hlt | hge
    · have hpb := hpw alts[i].body (by simp; exact .inr (.inr ⟨_, List.getElem_mem hlt, rfl⟩))
      have c1 := fun H => hrec alts[i].body H hpb.1 hpb.2
      have e1 := d2 i hlt
      have e2 := d3 (i + 1)
      have e3 := d3 i
      have e4 := bndF_len m alts[i].body
      rw [e1, List.length_append] at e2
      simp only [List.length_append] at e2
      generalize bndF m alts[i].body = l at *
      generalize L4 i = l1 at *
      have X := And.intro noX (show (l1.map SV.str).length = l1.length ∧ (l.map SV.str).length = l.length from ⟨List.length_map .., List.length_map ..⟩)
      (refine run ?_; repeat' (first | with_reducible exact trivial | ((with_reducible apply Fork.mk) <;> intro hb) | with_reducible apply Two.mk))
      refine hK _ _ (i + 1) (by omega) (by omega) ?_
      rw [e1, List.map_append, List.map_append, show (l1 ++ (alts[i].names ++ l)).length = l1.length + (alts[i].names.length + l.length) from by simp]
      exact wkS (n0 := H.length) [(H.length, 0), (H.length + 1, 0)] hG hB hC' hcl
    obtain rfl : i = alts.length := by omega
    clear hK
    (refine runO ?_; repeat' (first | with_reducible exact trivial | ((with_reducible apply Fork.mk) <;> intro hb) | with_reducible apply Two.mk))
    exact finK [(H.length + 1, 0)] (.sl H.length 0 0 (L4 alts.length).length) [.cells 0 1 ((L4 alts.length).map .str)] hR hC' hcl ⟨rfl, rfl⟩
end Go.Proofs.YtehfihnfeakmaaaGreatDoor
end
