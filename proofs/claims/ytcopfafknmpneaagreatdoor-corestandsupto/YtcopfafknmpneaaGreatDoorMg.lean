/- A part of the proof: W1, W2, W3, W4, W5, W6. -/
import Derived.Test.YtcopfafknmpneaaGreatDoorMf
import Derived.Sort.KeysCollected

section
namespace Go.Proofs.YtcopfafknmpneaaGreatDoor
open Go
set_option linter.unusedSimpArgs false
set_option linter.unusedVariables false
set_option maxRecDepth 10000
set_option maxHeartbeats 4000000

theorem clone_strs (G : Gl) (hG : GClosed G) (l : List Str) (H : List Blk) (hl : l.length < 1099511627776) : ACall Tryz.prog G 42 [.list 1 (l.map .str)] H (fun r H' => H' = H ++ [.cells 0 1 (l.map .str)] ∧ r = .sl H.length 0 0 l.length) := by
  refine ACall.of_go TB [2,5] tabOK _ Tryz.func42 rfl (by decide) Tryz.ntmps42 (by simp) rfl (by simp only [initEnv, Nat.reduceAdd]; rfl) fun C R' hR hC hcl hB => ?_; have X := noX; have hC' := congrArg List.length hC
  (refine runO ?_; repeat' (first | with_reducible exact trivial | ((with_reducible apply Fork.mk) <;> intro hb) | with_reducible apply Two.mk))
  · obtain rfl : l = [] := List.length_eq_zero_iff.1 hb
    exact finK [(H.length + 1, 0)] (.sl H.length 0 0 0) [.cells 0 1 []] hR hC' hcl ⟨rfl, rfl⟩
  · exact finK [(H.length + 1, 0)] (.sl H.length 0 0 l.length) [.cells 0 1 (l.map .str)] hR hC' hcl ⟨rfl, rfl⟩

/-- the parts of an expression, each with the names that are bound in it besides -/
def scopeParts : Ex → List (Ex × List Str)
  | .mk kd nm _ _ names subs binds alts => subs.map (fun x => (x, ownOf kd names binds)) ++ (binds.map (fun b => (b.e, ownOf kd names binds)) ++ alts.map (fun a => (a.body, a.names ++ if kd = 6 then [nm] else [])))

theorem scope_sub {kd : Int} {nm : Str} {nn op : Int} {names : List Str} {subs : List Ex} {binds : List Bd} {alts : List Al} {i : Nat} (h : i < subs.length) : (scopeParts (.mk kd nm nn op names subs binds alts))[i]? = some (subs[i], ownOf kd names binds) := by
  simp only [scopeParts]
  rw [List.getElem?_append_left (by simpa using h), List.getElem?_map, List.getElem?_eq_getElem h]; rfl
theorem scope_bind {kd : Int} {nm : Str} {nn op : Int} {names : List Str} {subs : List Ex} {binds : List Bd} {alts : List Al} {i : Nat} (h : i < binds.length) : (scopeParts (.mk kd nm nn op names subs binds alts))[subs.length + i]? = some (binds[i].e, ownOf kd names binds) := by
  simp only [scopeParts]
  rw [List.getElem?_append_right (by simp), List.length_map, Nat.add_sub_cancel_left, List.getElem?_append_left (by simpa using h), List.getElem?_map, List.getElem?_eq_getElem h]; rfl
theorem scope_alt {kd : Int} {nm : Str} {nn op : Int} {names : List Str} {subs : List Ex} {binds : List Bd} {alts : List Al} {i : Nat} (h : i < alts.length) : (scopeParts (.mk kd nm nn op names subs binds alts))[subs.length + binds.length + i]? = some (alts[i].body, alts[i].names ++ if kd = 6 then [nm] else []) := by
  simp only [scopeParts]
  rw [List.getElem?_append_right (by simp; omega), List.length_map, show subs.length + binds.length + i - subs.length = binds.length + i by omega, List.getElem?_append_right (by simp), List.length_map, Nat.add_sub_cancel_left, List.getElem?_map, List.getElem?_eq_getElem h]; rfl

theorem scopes_ok (G : Gl) (hG : GClosed G) (e : Ex) (hw : e.wt < 549755813888) (fv : SV) (Hs : Nat → List Blk) (n0 : Nat) (hlen : ∀ i, (Hs i).length = n0) (hfu : fv.under n0 = true) (hcls : closed (Hs 0) → ∀ i, closed (Hs i))
    (hy : ∀ i p X, (scopeParts e)[i]? = some p → ACallV Tryz.prog G fv [p.1.sv, .list 1 (p.2.map .str)] (Hs i ++ X) (fun r H' => H' = Hs (i + 1) ++ X)) :
    ACall Tryz.prog G 80 [e.sv, fv] (Hs 0) (fun r H' => H' = Hs (scopeParts e).length) := by
  obtain ⟨kd, nm, nn, op, names, subs, binds, alts⟩ := e
  have hle := Ex.wt_lens kd nm nn op names subs binds alts
  have hpl : (scopeParts (Ex.mk kd nm nn op names subs binds alts)).length = subs.length + binds.length + alts.length := by simp [scopeParts]; omega
  refine ACall.of_go TB [4] tabOK _ Tryz.func80 rfl (by decide) Tryz.ntmps80 (by simp) rfl (by simp only [initEnv, Nat.reduceAdd]; rfl) fun C R' hR hC hcl hB => ?_; have X := noX; have hC' := congrArg List.length hC
  have hcl := hcls hcl
  have hC' := hC'.trans (hlen 0)
  have X := hsX Hs n0 hlen
  (refine runB ?_; repeat' (first | with_reducible exact trivial | ((with_reducible apply Fork.mk) <;> intro hb) | with_reducible apply Two.mk))
  refine go_cut (fun _ : Unit => [(1, fv), (2, .ptr n0 0 0 0), (4, .list 1 ((ownOf kd names binds).map .str))]) (fun _ => Hs 0 ++ [.cells 0 8 [.agg [.int .i64 kd, .str nm, .int .i64 nn, .int .i64 op, .list 1 (names.map .str), .list 8 (exCells subs), .list 9 (bdCells binds), .list 12 (alCells alts)]]]) (fun _ => True) (fun K hK => ?_) (fun _ _ => ?_)
  · (refine runO ?_; repeat' (first | with_reducible exact trivial | ((with_reducible apply Fork.mk) <;> intro hb) | with_reducible apply Two.mk))
    · refine hK _ _ () trivial ?_
      simp only [ownOf, if_pos hb]
      exact wkS (n0 := n0) [(n0, 0)] hG hB hC' (hcl 0)
    · refine go_loop (fun i : Nat => [(1, fv), (2, .ptr n0 0 0 0), (23, .list 9 (bdCells binds)), (24, .int .i64 binds.length), (25, .int .i64 i), (4, .sl (n0 + 1) 0 0 i)])
        (fun i => Hs 0 ++ [.cells 0 8 [.agg [.int .i64 kd, .str nm, .int .i64 nn, .int .i64 op, .list 1 (names.map .str), .list 8 (exCells subs), .list 9 (bdCells binds), .list 12 (alCells alts)]], .cells 0 1 ((binds.take i).map fun b => .str b.name)]) (fun i => binds.length - i) (fun i => i ≤ binds.length) 0 (Nat.zero_le _) ?_ ?_
      · exact wkS (n0 := n0) [(n0, 0), (n0 + 1, 0)] hG hB hC' (hcl 0)
      · intro K2 i hi hK2
        (refine runO ?_; repeat' (first | with_reducible exact trivial | ((with_reducible apply Fork.mk) <;> intro hb) | with_reducible apply Two.mk))
        · refine hK2 _ _ (i + 1) (by omega) (by omega) ?_
          simp only [List.take_succ_eq_append_getElem (show i < binds.length by omega), List.map_append, List.map_cons, List.map_nil]
          exact wkS (n0 := n0) [(n0, 0), (n0 + 1, 0)] hG hB hC' (hcl 0)
        · refine hK _ _ () trivial ?_
          obtain rfl : i = binds.length := by omega
          have e1 : ownOf kd names binds = binds.map Bd.name := by simp [ownOf, ‹kd = 5›]
          simp only [e1, List.take_length, List.map_map]
          exact wkS (n0 := n0) [(n0, 0)] hG hB hC' (hcl 0)
    · refine hK _ _ () trivial ?_
      simp only [ownOf, if_neg ‹¬ kd = 3›, if_neg ‹¬ kd = 5›, List.map_nil]
      exact wkS (n0 := n0) [(n0, 0)] hG hB hC' (hcl 0)
  · (refine runB ?_; repeat' (first | with_reducible exact trivial | ((with_reducible apply Fork.mk) <;> intro hb) | with_reducible apply Two.mk))
    refine go_cut (fun _ : Unit => [(1, fv), (2, .ptr n0 0 0 0), (4, .list 1 ((ownOf kd names binds).map .str))]) (fun _ => Hs subs.length ++ [.cells 0 8 [.agg [.int .i64 kd, .str nm, .int .i64 nn, .int .i64 op, .list 1 (names.map .str), .list 8 (exCells subs), .list 9 (bdCells binds), .list 12 (alCells alts)]]]) (fun _ => True) (fun K hK => ?_) (fun _ _ => ?_)
    · (refine runO ?_; repeat' (first | with_reducible exact trivial | ((with_reducible apply Fork.mk) <;> intro hb) | with_reducible apply Two.mk))
      refine go_loop (fun i : Nat => [(1, fv), (2, .ptr n0 0 0 0), (4, .list 1 ((ownOf kd names binds).map .str)), (36, .list 8 (exCells subs)), (37, .int .i64 subs.length), (38, .int .i64 i)])
        (fun i => Hs i ++ [.cells 0 8 [.agg [.int .i64 kd, .str nm, .int .i64 nn, .int .i64 op, .list 1 (names.map .str), .list 8 (exCells subs), .list 9 (bdCells binds), .list 12 (alCells alts)]]]) (fun i => subs.length - i) (fun i => i ≤ subs.length) 0 (Nat.zero_le _) ?_ ?_
      · exact wkS (n0 := n0) [(n0, 0)] hG hB hC' (hcl 0)
      · intro K2 i hi hK2
        (refine runO ?_; repeat' (first | with_reducible exact trivial | ((with_reducible apply Fork.mk) <;> intro hb) | with_reducible apply Two.mk))
        · refine callV (hy i _ _ (scope_sub (by omega))) ?_
          rintro r H' rfl
          (refine runO ?_; repeat' (first | with_reducible exact trivial | ((with_reducible apply Fork.mk) <;> intro hb) | with_reducible apply Two.mk))
          refine hK2 _ _ (i + 1) (by omega) (by omega) ?_
          exact wkS (n0 := n0) [(n0, 0)] hG hB hC' (hcl (i + 1))
        · obtain rfl : i = subs.length := by omega
          refine hK _ _ () trivial ?_
          exact wkS (n0 := n0) [(n0, 0)] hG hB hC' (hcl _)
    · (refine runB ?_; repeat' (first | with_reducible exact trivial | ((with_reducible apply Fork.mk) <;> intro hb) | with_reducible apply Two.mk))
      refine go_cut (fun _ : Unit => [(1, fv), (2, .ptr n0 0 0 0), (4, .list 1 ((ownOf kd names binds).map .str))]) (fun _ => Hs (subs.length + binds.length) ++ [.cells 0 8 [.agg [.int .i64 kd, .str nm, .int .i64 nn, .int .i64 op, .list 1 (names.map .str), .list 8 (exCells subs), .list 9 (bdCells binds), .list 12 (alCells alts)]]]) (fun _ => True) (fun K hK => ?_) (fun _ _ => ?_)
      · (refine runO ?_; repeat' (first | with_reducible exact trivial | ((with_reducible apply Fork.mk) <;> intro hb) | with_reducible apply Two.mk))
        refine go_loop (fun i : Nat => [(1, fv), (2, .ptr n0 0 0 0), (4, .list 1 ((ownOf kd names binds).map .str)), (48, .list 9 (bdCells binds)), (49, .int .i64 binds.length), (50, .int .i64 i)])
          (fun i => Hs (subs.length + i) ++ [.cells 0 8 [.agg [.int .i64 kd, .str nm, .int .i64 nn, .int .i64 op, .list 1 (names.map .str), .list 8 (exCells subs), .list 9 (bdCells binds), .list 12 (alCells alts)]]]) (fun i => binds.length - i) (fun i => i ≤ binds.length) 0 (Nat.zero_le _) ?_ ?_
        · exact wkS (n0 := n0) [(n0, 0)] hG hB hC' (hcl _)
        · intro K2 i hi hK2
          (refine runO ?_; repeat' (first | with_reducible exact trivial | ((with_reducible apply Fork.mk) <;> intro hb) | with_reducible apply Two.mk))
          · refine callV (hy (subs.length + i) _ _ (scope_bind (by omega))) ?_
            rintro r H' rfl
            (refine runO ?_; repeat' (first | with_reducible exact trivial | ((with_reducible apply Fork.mk) <;> intro hb) | with_reducible apply Two.mk))
            refine hK2 _ _ (i + 1) (by omega) (by omega) ?_
            exact wkS (n0 := n0) [(n0, 0)] hG hB hC' (hcl _)
          · obtain rfl : i = binds.length := by omega
            refine hK _ _ () trivial ?_
            exact wkS (n0 := n0) [(n0, 0)] hG hB hC' (hcl _)
      · (refine runO ?_; repeat' (first | with_reducible exact trivial | ((with_reducible apply Fork.mk) <;> intro hb) | with_reducible apply Two.mk))
        refine go_loop (fun i : Nat => [(1, fv), (2, .ptr n0 0 0 0), (61, .list 12 (alCells alts)), (62, .int .i64 alts.length), (63, .int .i64 i)])
          (fun i => Hs (subs.length + binds.length + i) ++ [.cells 0 8 [.agg [.int .i64 kd, .str nm, .int .i64 nn, .int .i64 op, .list 1 (names.map .str), .list 8 (exCells subs), .list 9 (bdCells binds), .list 12 (alCells alts)]]]) (fun i => alts.length - i) (fun i => i ≤ alts.length) 0 (Nat.zero_le _) ?_ ?_
        · exact wkS (n0 := n0) [(n0, 0)] hG hB hC' (hcl _)
        · intro K2 i hi hK2
          (refine runO ?_; repeat' (first | with_reducible exact trivial | ((with_reducible apply Fork.mk) <;> intro hb) | with_reducible apply Two.mk))
          · have hi' : i < alts.length := by omega
            have hnl := Al.names_lt (kd := kd) (nm := nm) (nn := nn) (op := op) (names := names) (subs := subs) (binds := binds) hi'
            refine callS (clone_strs G hG alts[i].names _ (by omega)) ?_
            rintro r H' ⟨rfl, rfl⟩
            simp only [List.append_assoc, List.cons_append, List.nil_append, List.length_append, List.length_cons, List.length_nil, List.length_set, X, Nat.reduceAdd]
            (refine runC ?_; repeat' (first | with_reducible exact trivial | ((with_reducible apply Fork.mk) <;> intro hb) | with_reducible apply Two.mk))
            refine go_cut (fun _ : Unit => [(1, fv), (2, .ptr n0 0 0 0), (61, .list 12 (alCells alts)), (62, .int .i64 alts.length), (63, .int .i64 i), (12, .ptr (n0 + 1) 0 0 0), (13, .list 1 ((alts[i].names ++ if kd = 6 then [nm] else []).map .str))])
              (fun _ => Hs (subs.length + binds.length + i) ++ [.cells 0 8 [.agg [.int .i64 kd, .str nm, .int .i64 nn, .int .i64 op, .list 1 (names.map .str), .list 8 (exCells subs), .list 9 (bdCells binds), .list 12 (alCells alts)]], .cells 0 12 [.agg (.int .i64 alts[i].kind :: .str alts[i].name :: .int .i64 alts[i].n :: .list 1 (alts[i].names.map .str) :: alts[i].body.cells)]]) (fun _ => True) (fun K3 hK3 => ?_) (fun _ _ => ?_)
            · (refine runO ?_; repeat' (first | with_reducible exact trivial | ((with_reducible apply Fork.mk) <;> intro hb) | with_reducible apply Two.mk))
              · refine hK3 _ _ () trivial ?_
                simp only [if_pos hb, List.map_append, List.map_cons, List.map_nil, Nat.add_assoc]
                exact wkS (n0 := n0) [(n0, 0), (n0 + 1, 0)] hG hB hC' (hcl _)
              · refine hK3 _ _ () trivial ?_
                simp only [if_neg hb, List.append_nil, Nat.add_assoc]
                exact wkS (n0 := n0) [(n0, 0), (n0 + 1, 0)] hG hB hC' (hcl _)
            · (refine runO ?_; repeat' (first | with_reducible exact trivial | ((with_reducible apply Fork.mk) <;> intro hb) | with_reducible apply Two.mk))
              refine callV (hy (subs.length + binds.length + i) _ _ (scope_alt hi')) ?_
              rintro r H' rfl
              (refine runO ?_; repeat' (first | with_reducible exact trivial | ((with_reducible apply Fork.mk) <;> intro hb) | with_reducible apply Two.mk))
              refine hK2 _ _ (i + 1) (by omega) (by omega) ?_
              exact wkS (n0 := n0) [(n0, 0)] hG hB hC' (hcl _)
          · obtain rfl : i = alts.length := by omega
            refine Fin.tellN (n0 := n0) hR (hlen _) hC' (hcl _) (.same _ rfl) ?_
            rw [hpl]
end Go.Proofs.YtcopfafknmpneaaGreatDoor
end

section
namespace Go.Proofs.YtcopfafknmpneaaGreatDoor
open Go
set_option linter.unusedSimpArgs false
set_option linter.unusedVariables false

/-! ### maps of strings: counts, and sets -/
def cntB : List (Str × Int) → Str → Int
  | [], _ => 0
  | (k, n) :: r, s => if s = k then n else cntB r s
def setB : List (Str × Int) → Str → Int → List (Str × Int)
  | [], s, n => [(s, n)]
  | (k, m) :: r, s, n => if s = k then (s, n) :: r else (k, m) :: setB r s n
def esB (l : List (Str × Int)) : List (SV × SV) := l.map fun p => (.str p.1, .int .i64 p.2)
def putO (l : List Str) (s : Str) : List Str := if s ∈ l then l else l ++ [s]
def esO (l : List Str) : List (SV × SV) := l.map fun s => (.str s, .bool true)

theorem findSV_esB : ∀ (l : List (Str × Int)) (s : Str), (findSV (esB l) (.str s)).getD (.int .i64 0) = .int .i64 (cntB l s)
  | [], s => rfl
  | (k, n) :: r, s => by
    simp only [esB, List.map_cons, findSV, SV.keyEq, cntB]
    by_cases h : s = k
    · simp [h]
    · simp only [beq_eq_false_iff_ne.2 h, h, if_false, Bool.false_eq_true]
      exact findSV_esB r s
theorem setSV_esB : ∀ (l : List (Str × Int)) (s : Str) (n : Int), setSV (esB l) (.str s) (.int .i64 n) = esB (setB l s n)
  | [], s, n => rfl
  | (k, m) :: r, s, n => by
    simp only [esB, List.map_cons, setSV, SV.keyEq, setB]
    by_cases h : s = k
    · simp [h]
    · simp only [beq_eq_false_iff_ne.2 h, h, if_false, Bool.false_eq_true]
      rw [show setSV (List.map _ r) (.str s) (.int .i64 n) = _ from setSV_esB r s n]
      rfl
theorem setSV_esO : ∀ (l : List Str) (s : Str), setSV (esO l) (.str s) (.bool true) = esO (putO l s)
  | [], s => rfl
  | k :: r, s => by
    simp only [esO, List.map_cons, setSV, SV.keyEq, putO]
    by_cases h : s = k
    · simp [h]
    · simp only [beq_eq_false_iff_ne.2 h, if_false, Bool.false_eq_true]
      rw [show setSV (List.map _ r) (.str s) (.bool true) = _ from setSV_esO r s]
      simp only [esO, putO, List.mem_cons, h, false_or]
      split <;> rfl
theorem cnt_set : ∀ (l : List (Str × Int)) (s : Str) (n : Int) (t : Str), cntB (setB l s n) t = if t = s then n else cntB l t
  | [], s, n, t => by simp [setB, cntB]
  | (k, m) :: r, s, n, t => by
    by_cases h : s = k
    · subst h
      by_cases ht : t = s <;> simp [setB, cntB, ht]
    · simp only [setB, if_neg h, cntB, cnt_set r s n t]
      by_cases ht : t = k
      · subst ht
        rw [if_pos rfl, if_neg (fun e => h e.symm)]
        rw [if_pos rfl]
      · rw [if_neg ht, if_neg ht]
def incB (b : List (Str × Int)) (l : List Str) : List (Str × Int) := l.foldl (fun b n => setB b n (cntB b n + 1)) b
def decB (b : List (Str × Int)) (l : List Str) : List (Str × Int) := l.foldl (fun b n => setB b n (cntB b n - 1)) b
theorem cnt_inc : ∀ (l : List Str) (b : List (Str × Int)) (s : Str), cntB (incB b l) s = cntB b s + l.count s
  | [], b, s => by simp [incB]
  | x :: l, b, s => by
    rw [incB, List.foldl_cons, ← incB, cnt_inc l, cnt_set, List.count_cons]
    by_cases h : s = x
    · subst h; simp; omega
    · have h2 : ¬ x = s := fun e => h e.symm
      simp [h, h2]
theorem cnt_dec : ∀ (l : List Str) (b : List (Str × Int)) (s : Str), cntB (decB b l) s = cntB b s - l.count s
  | [], b, s => by simp [decB]
  | x :: l, b, s => by
    rw [decB, List.foldl_cons, ← decB, cnt_dec l, cnt_set, List.count_cons]
    by_cases h : s = x
    · subst h; simp; omega
    · have h2 : ¬ x = s := fun e => h e.symm
      simp [h, h2]
theorem inc_snoc (b : List (Str × Int)) (l : List Str) (x : Str) : incB b (l ++ [x]) = setB (incB b l) x (cntB (incB b l) x + 1) := by simp [incB]
theorem dec_snoc (b : List (Str × Int)) (l : List Str) (x : Str) : decB b (l ++ [x]) = setB (decB b l) x (cntB (decB b l) x - 1) := by simp [decB]

/-! ### what the gathering of free names does to both maps -/
abbrev BO := List (Str × Int) × List Str
def cstep (f : Ex → BO → BO) (st : BO) (p : Ex × List Str) : BO := (decB (f p.1 (incB st.1 p.2, st.2)).1 p.2, (f p.1 (incB st.1 p.2, st.2)).2)
def unbF : Nat → Ex → BO → BO
  | 0, _, st => st
  | m + 1, e, st => if e.kind = 1 then (if cntB st.1 e.name = 0 then (st.1, putO st.2 e.name) else st) else (scopeParts e).foldl (cstep (unbF m)) st
theorem unb_cnt : ∀ (m : Nat) (e : Ex) (st : BO) (s : Str), cntB (unbF m e st).1 s = cntB st.1 s
  | 0, e, st, s => rfl
  | m + 1, e, st, s => by
    rw [unbF]
    split
    · split <;> rfl
    · generalize scopeParts e = l
      induction l generalizing st with
      | nil => rfl
      | cons p l ih =>
        rw [List.foldl_cons, ih]
        simp only [cstep, cnt_dec, unb_cnt m, cnt_inc]
        omega
theorem cstep_cnt (m : Nat) (st : BO) (p : Ex × List Str) (s : Str) : cntB (cstep (unbF m) st p).1 s = cntB st.1 s := by
  simp only [cstep, cnt_dec, unb_cnt m, cnt_inc]
  omega
theorem csteps_cnt (m : Nat) : ∀ (l : List (Ex × List Str)) (st : BO) (s : Str), cntB (l.foldl (cstep (unbF m)) st).1 s = cntB st.1 s
  | [], st, s => rfl
  | p :: l, st, s => by rw [List.foldl_cons, csteps_cnt m l, cstep_cnt]
theorem strsWt_app : ∀ a b : List Str, strsWt (a ++ b) = strsWt a + strsWt b
  | [], b => by simp [strsWt]
  | x :: a, b => by simp only [List.cons_append, strsWt, strsWt_app a b]; omega
theorem scope_wt {e : Ex} {p : Ex × List Str} (h : p ∈ scopeParts e) : p.1.wt + p.2.length < e.wt := by
  obtain ⟨kd, nm, nn, op, names, subs, binds, alts⟩ := e
  have h1 := strsWt_len names
  have h2 : ∀ (l : List Bd) (b : Bd), b ∈ l → b.e.wt + l.length ≤ bdsWt l := fun l => by
    induction l with
    | nil => intro b hb; cases hb
    | cons x r ih =>
      intro b hb
      simp only [bdsWt, List.length_cons]
      have hx := x.wt_gt
      rcases List.mem_cons.1 hb with rfl | hb
      · have := bdsWt_len r; omega
      · have := ih b hb; omega
  have hown : (ownOf kd names binds).length ≤ strsWt names + binds.length := by
    unfold ownOf
    split
    · omega
    · split <;> simp
  have h3 := bdsWt_len binds
  simp only [Ex.wt]
  simp only [scopeParts, List.mem_append, List.mem_map] at h
  rcases h with ⟨x, hx, rfl⟩ | ⟨b, hb, rfl⟩ | ⟨a, ha, rfl⟩
  · have := exsWt_mem hx
    simp only; omega
  · have := h2 binds b hb
    simp only
    have : (ownOf kd names binds).length ≤ strsWt names + binds.length := hown
    unfold ownOf
    split
    · omega
    · split
      · simp; omega
      · simp; omega
  · have h4 := alsWt_mem ha
    obtain ⟨ak, an, am, al, ab⟩ := a
    simp only [Al.wt] at h4
    simp only [Al.body, Al.names, List.length_append]
    have := strsWt_len al
    split <;> simp <;> omega

/-! ### heaps in which two maps turn -/
def UH (H : List Blk) (ib io : Nat) (st : BO) : List Blk := (H.set ib (.map none (esB st.1))).set io (.map none (esO st.2))
theorem esB_under (n : Nat) : ∀ l : List (Str × Int), belowE n (esB l) = true
  | [] => rfl
  | p :: l => by simp only [esB, List.map_cons, belowE, SV.under, Bool.and_self, Bool.true_and]; exact esB_under n l
theorem esO_under (n : Nat) : ∀ l : List Str, belowE n (esO l) = true
  | [] => rfl
  | p :: l => by simp only [esO, List.map_cons, belowE, SV.under, Bool.and_self, Bool.true_and]; exact esO_under n l
/-- what is known of a family of heaps -/
structure MapsAt (M : BO → List Blk) (n0 ib io : Nat) : Prop where
  len : ∀ st, (M st).length = n0
  lt : ib < n0 ∧ io < n0 ∧ ib ≠ io
  get : ∀ st, (M st)[ib]? = some (.map none (esB st.1)) ∧ (M st)[io]? = some (.map none (esO st.2))
  set : ∀ st b o, (M st).set ib (.map none (esB b)) = M (b, st.2) ∧ (M st).set io (.map none (esO o)) = M (st.1, o)
  rest : ∀ st st' i, i ≠ ib → i ≠ io → (M st)[i]? = (M st')[i]?
theorem UH_maps {H : List Blk} {ib io : Nat} {st0 : BO} (hb : H[ib]? = some (.map none (esB st0.1))) (ho : H[io]? = some (.map none (esO st0.2))) (hne : ib ≠ io) : MapsAt (UH H ib io) H.length ib io ∧ UH H ib io st0 = H := by
  have lb := (List.getElem?_eq_some_iff.1 hb).1
  have lo := (List.getElem?_eq_some_iff.1 ho).1
  refine ⟨⟨fun st => by simp [UH], ⟨lb, lo, hne⟩, fun st => ⟨?_, ?_⟩, fun st b o => ⟨?_, ?_⟩, fun st st' i h1 h2 => ?_⟩, ?_⟩
  · simp only [UH]
    rw [List.getElem?_set_ne (fun e => hne e.symm), List.getElem?_set_self lb]
  · simp only [UH]
    rw [List.getElem?_set_self (by simpa using lo)]
  · simp only [UH]
    rw [List.set_comm _ _ (fun e => hne e.symm), List.set_set]
  · simp only [UH]
    rw [List.set_set]
  · simp only [UH]
    rw [List.getElem?_set_ne (fun e => h2 e.symm), List.getElem?_set_ne (fun e => h1 e.symm), List.getElem?_set_ne (fun e => h2 e.symm), List.getElem?_set_ne (fun e => h1 e.symm)]
  · simp only [UH]
    rw [set_same hb, set_same ho]
theorem MapsAt.cls {M : BO → List Blk} {n0 ib io : Nat} (h : MapsAt M n0 ib io) {st st' : BO} (hc : closed (M st)) : closed (M st') := by
  intro B hB
  obtain ⟨i, hi, rfl⟩ := List.getElem_of_mem hB
  have hi2 : i < (M st).length := by rw [h.len] at hi ⊢; exact hi
  have hl : (M st').length = (M st).length := by rw [h.len, h.len]
  have hg : (M st')[i]? = some (M st')[i] := List.getElem?_eq_getElem hi
  rw [hl]
  show Blk.under _ ((M st')[i]) = true
  by_cases h1 : i = ib
  · subst h1; rw [(h.get st').1] at hg; rw [← Option.some.inj hg]; exact esB_under _ _
  · by_cases h2 : i = io
    · subst h2; rw [(h.get st').2] at hg; rw [← Option.some.inj hg]; exact esO_under _ _
    · rw [h.rest st' st i h1 h2, List.getElem?_eq_getElem hi2] at hg
      rw [← Option.some.inj hg]
      exact hc _ (List.getElem_mem hi2)
theorem MapsAt.app {M : BO → List Blk} {n0 ib io : Nat} (h : MapsAt M n0 ib io) (L : List Blk) : MapsAt (fun st => M st ++ L) (n0 + L.length) ib io := by
  have lb : ∀ st, ib < (M st).length := fun st => by rw [h.len]; exact h.lt.1
  have lo : ∀ st, io < (M st).length := fun st => by rw [h.len]; exact h.lt.2.1
  refine ⟨fun st => by simp [h.len], ⟨by have := h.lt.1; omega, by have := h.lt.2.1; omega, h.lt.2.2⟩, fun st => ⟨?_, ?_⟩, fun st b o => ⟨?_, ?_⟩, fun st st' i h1 h2 => ?_⟩
  · rw [List.getElem?_append_left (lb st)]; exact (h.get st).1
  · rw [List.getElem?_append_left (lo st)]; exact (h.get st).2
  · rw [set_old (lb st), (h.set st b o).1]
  · rw [set_old (lo st), (h.set st b o).2]
  · rw [List.getElem?_append, List.getElem?_append, h.len, h.len, h.rest st st' i h1 h2]
theorem MapsAt.UH {M : BO → List Blk} {n0 ib io : Nat} (h : MapsAt M n0 ib io) (st st' : BO) : UH (M st) ib io st' = M st' := by
  simp only [Go.Proofs.YtcopfafknmpneaaGreatDoor.UH]
  rw [(h.set st st'.1 []).1, (h.set _ [] st'.2).2]
/-- the same, for the reckoning -/
theorem MapsAt.X {M : BO → List Blk} {n0 ib io : Nat} (h : MapsAt M n0 ib io) : ((∀ st L, (M st ++ L)[ib]? = some (.map none (esB st.1))) ∧ (∀ st L, (M st ++ L)[io]? = some (.map none (esO st.2)))) ∧
    ((∀ st b L, (M st ++ L).set ib (.map none (esB b)) = M (b, st.2) ++ L) ∧ (∀ st o L, (M st ++ L).set io (.map none (esO o)) = M (st.1, o) ++ L)) ∧
    ((∀ st b, (M st).set ib (.map none (esB b)) = M (b, st.2)) ∧ (∀ st o, (M st).set io (.map none (esO o)) = M (st.1, o))) ∧
    ((∀ st, (M st)[ib]? = some (.map none (esB st.1))) ∧ (∀ st, (M st)[io]? = some (.map none (esO st.2)))) ∧
    ((∀ st, (M st).length = n0) ∧ (∀ st L, (M st ++ L)[n0]? = L[0]?) ∧ (∀ st L k, (M st ++ L)[n0 + k]? = L[k]?) ∧ (∀ st L x, (M st ++ L).set n0 x = M st ++ L.set 0 x) ∧ (∀ st L k x, (M st ++ L).set (n0 + k) x = M st ++ L.set k x)) := by
  have lb : ∀ st, ib < (M st).length := fun st => by rw [h.len]; exact h.lt.1
  have lo : ∀ st, io < (M st).length := fun st => by rw [h.len]; exact h.lt.2.1
  exact ⟨⟨fun st L => by rw [List.getElem?_append_left (lb st)]; exact (h.get st).1, fun st L => by rw [List.getElem?_append_left (lo st)]; exact (h.get st).2⟩,
    ⟨fun st b L => by rw [set_old (lb st), (h.set st b []).1], fun st o L => by rw [set_old (lo st), (h.set st [] o).2]⟩,
    ⟨fun st b => (h.set st b []).1, fun st o => (h.set st [] o).2⟩,
    ⟨fun st => (h.get st).1, fun st => (h.get st).2⟩, hsX M n0 h.len⟩
attribute [go_sem] findSV_esB setSV_esB setSV_esO
end Go.Proofs.YtcopfafknmpneaaGreatDoor
end

section
namespace Go.Proofs.YtcopfafknmpneaaGreatDoor
open Go
set_option linter.unusedSimpArgs false
set_option linter.unusedVariables false
set_option maxRecDepth 10000
set_option maxHeartbeats 4000000

def cntOK (b : List (Str × Int)) (w : Nat) : Prop := ∀ s, 0 ≤ cntB b s ∧ cntB b s + w < 1099511627776
def UnbOK (G : Gl) (f : Ex → BO → BO) (e : Ex) : Prop := ∀ (H : List Blk) (ib io : Nat) (st : BO), H[ib]? = some (.map none (esB st.1)) → H[io]? = some (.map none (esO st.2)) → ib ≠ io → cntOK st.1 e.wt →
  ACall Tryz.prog G 37 [e.sv, .map ib, .map io] H (fun r H' => H' = UH H ib io (f e st))

theorem unbound1_ok (G : Gl) (hG : GClosed G) (f : Ex → BO → BO) (s : Ex) (names : List Str) (hf : UnbOK G f s) (hfc : ∀ st t, cntB (f s st).1 t = cntB st.1 t) (M : BO → List Blk) (n0 ib io pb po : Nat) (hM : MapsAt M n0 ib io)
    (hpb : ∀ st L, (M st ++ L)[pb]? = some (.cells 0 1 [.map ib])) (hpo : ∀ st L, (M st ++ L)[po]? = some (.cells 0 1 [.map io])) (hp : pb < n0 ∧ po < n0) (st : BO) (hc : cntOK st.1 (s.wt + names.length)) (hw : s.wt + names.length < 549755813888) :
    ACall Tryz.prog G 81 [s.sv, .list 1 (names.map .str), .ptr pb 0 0 0, .ptr po 0 0 0] (M st) (fun r H' => H' = M (cstep f st (s, names))) := by
  refine ACall.of_go TB [] tabOK _ Tryz.func81 rfl (by decide) Tryz.ntmps81 (by simp) rfl (by simp only [initEnv, Nat.reduceAdd]; rfl) fun C R' hR hC hcl hB => ?_; have X := noX; have hC' := congrArg List.length hC
  have hC' := hC'.trans (hM.len st)
  have X := And.intro hM.X (And.intro hpb hpo)
  have hlen := hM.len
  have hcls : ∀ st', closed (M st') := fun st' => hM.cls hcl
  have hc2 := hc
  (refine runO ?_; repeat' (first | with_reducible exact trivial | ((with_reducible apply Fork.mk) <;> intro hb) | with_reducible apply Two.mk))
  refine go_loop (fun i : Nat => [(1, .list 1 (names.map .str)), (2, .ptr pb 0 0 0), (3, .ptr po 0 0 0), (4, .ptr n0 0 0 0), (10, .list 1 (names.map .str)), (11, .int .i64 names.length), (12, .int .i64 i)])
    (fun i => M (incB st.1 (names.take i), st.2) ++ [.cells 0 8 [s.sv]]) (fun i => names.length - i) (fun i => i ≤ names.length) 0 (Nat.zero_le _) ?_ ?_
  · exact wkS (n0 := n0) [(n0, 0)] hG hB hC' (hcls _)
  · intro K i hi hK
    (refine runO ?_; repeat' (first | with_reducible exact trivial | ((with_reducible apply Fork.mk) <;> intro hb) | with_reducible apply Two.mk))
    · have hi' : i < names.length := by omega
      have h1 := cnt_inc (names.take i) st.1 names[i]
      have h2 := hc2 names[i]
      have h3 : (names.take i).count names[i] ≤ (names.take i).length := List.count_le_length
      rw [List.length_take] at h3
      rw [wrap_i64 _ (by omega), ← inc_snoc, ← List.take_succ_eq_append_getElem hi']
      exact hK _ _ (i + 1) (by omega) (by omega) (wkS (n0 := n0) [(n0, 0)] hG hB hC' (hcls _))
    · obtain rfl : i = names.length := by omega
      rw [List.take_length]
      have hcall := hf (M (incB st.1 names, st.2) ++ [.cells 0 8 [s.sv]]) ib io (incB st.1 names, st.2) (hM.X.1.1 _ _) (hM.X.1.2 _ _) hM.lt.2.2 (fun t => by
        have h1 := cnt_inc names st.1 t
        have h2 := hc2 t
        have h3 : names.count t ≤ names.length := List.count_le_length
        simp only
        omega)
      rw [(hM.app _).UH] at hcall
      refine callS hcall ?_
      rintro r H' rfl
      generalize hst2 : f s (incB st.1 names, st.2) = st2
      have hcn : ∀ t, cntB st2.1 t = cntB st.1 t + names.count t := fun t => by rw [← hst2, hfc, cnt_inc]
      (refine runO ?_; repeat' (first | with_reducible exact trivial | ((with_reducible apply Fork.mk) <;> intro hb) | with_reducible apply Two.mk))
      refine go_loop (fun i : Nat => [(2, .ptr pb 0 0 0), (25, .list 1 (names.map .str)), (26, .int .i64 names.length), (27, .int .i64 i)])
        (fun i => M (decB st2.1 (names.take i), st2.2) ++ []) (fun i => names.length - i) (fun i => i ≤ names.length) 0 (Nat.zero_le _) ?_ ?_
      · exact wkS (n0 := n0) [] hG hB hC' (hcls _)
      · intro K2 i hi hK2
        (refine runO ?_; repeat' (first | with_reducible exact trivial | ((with_reducible apply Fork.mk) <;> intro hb) | with_reducible apply Two.mk))
        · have hi' : i < names.length := by omega
          have h1 := cnt_dec (names.take i) st2.1 names[i]
          rw [hcn] at h1
          have h2 := hc2 names[i]
          have h3 : (names.take i).count names[i] ≤ (names.take i).length := List.count_le_length
          have h4 : names.count names[i] ≤ names.length := List.count_le_length
          rw [List.length_take] at h3
          rw [wrap_i64 _ (by omega), ← dec_snoc, ← List.take_succ_eq_append_getElem hi']
          exact hK2 _ _ (i + 1) (by omega) (by omega) (wkS (n0 := n0) [] hG hB hC' (hcls _))
        · obtain rfl : i = names.length := by omega
          rw [List.take_length]
          refine Fin.tellN (n0 := n0) hR (hlen _) hC' (hcls _) (.same _ rfl) ?_
          simp only [cstep, hst2]

theorem unbound_ok (G : Gl) (hG : GClosed G) : ∀ (m : Nat) (e : Ex), e.wt ≤ m → e.wt < 549755813888 → UnbOK G (unbF m) e
  | 0, e, hw, _ => by have := e.wt_pos; omega
  | m + 1, e, hw, hw0 => by
    intro H ib io st hb ho hne hc
    obtain ⟨kd, nm, nn, op, names, subs, binds, alts⟩ := e
    obtain ⟨hM, hM0⟩ := UH_maps hb ho hne
    generalize UH H ib io = M at hM hM0 ⊢
    have hlt := hM.lt
    have hlen := hM.len
    rw [← hM0]
    refine ACall.of_go TB [] tabOK _ Tryz.func37 rfl (by decide) Tryz.ntmps37 (by simp) rfl (by simp only [initEnv, Nat.reduceAdd]; rfl) fun C R' hR hC hcl hB => ?_; have X := noX; have hC' := congrArg List.length hC
    have hC' := hC'.trans (hlen st)
    generalize H.length = n0 at hM hlt hlen hC' ⊢
    have X := hM.X
    have hcls : ∀ st', closed (M st') := fun st' => hM.cls hcl
    have hu : kd ≠ 1 → unbF (m + 1) (.mk kd nm nn op names subs binds alts) st = (scopeParts (.mk kd nm nn op names subs binds alts)).foldl (cstep (unbF m)) st := fun h => by rw [unbF]; exact if_neg h
    have hv : kd = 1 → unbF (m + 1) (.mk kd nm nn op names subs binds alts) st = if cntB st.1 nm = 0 then (st.1, putO st.2 nm) else st := fun h => by rw [unbF]; exact if_pos h
    (refine run ?_; repeat' (first | with_reducible exact trivial | ((with_reducible apply Fork.mk) <;> intro hb) | with_reducible apply Two.mk))
    · refine Fin.tellN (n0 := n0) hR (hlen _) hC' (hcls _) (.same _ rfl) ?_
      have h3 := ‹(decide (kd = 1) && decide (cntB st.1 nm = 0)) = true›
      simp only [Bool.and_eq_true, decide_eq_true_eq] at h3
      rw [hv hb, if_pos h3.2]
    · exfalso; simp_all
    · refine Fin.tellN (n0 := n0) hR (hlen _) hC' (hcls _) (.same _ rfl) ?_
      have h3 := ‹(decide (kd = 1) && decide (cntB st.1 nm = 0)) = false›
      simp only [Bool.and_eq_false_iff, decide_eq_false_iff_not] at h3
      rw [hv hb, if_neg (by rcases h3 with h3 | h3; exact absurd hb h3; exact h3)]
    · let stI : Nat → BO := fun i => ((scopeParts (.mk kd nm nn op names subs binds alts)).take i).foldl (cstep (unbF m)) st
      have hsc := scopes_ok G hG (.mk kd nm nn op names subs binds alts) hw0 (.fn (.func 81) [] [.ptr (n0 + 1) 0 0 0, .ptr (n0 + 2) 0 0 0])
        (fun i => M (stI i) ++ [.cells 0 8 [.agg [.int .i64 kd, .str nm, .int .i64 nn, .int .i64 op, .list 1 (names.map .str), .list 8 (exCells subs), .list 9 (bdCells binds), .list 12 (alCells alts)]], .cells 0 1 [.map ib], .cells 0 1 [.map io]]) (n0 + 3) (fun i => by simp [hlen]) (by simp [SV.under, SV.underL]) (fun hc i => (hM.app _).cls hc) (fun i p Y hp => by
          refine ACallV.of ?_
          have hpm := List.mem_of_getElem? hp
          have hpw := scope_wt hpm
          have hst : stI (i + 1) = cstep (unbF m) (stI i) p := by
            have hi := (List.getElem?_eq_some_iff.1 hp)
            obtain ⟨hi1, hi2⟩ := hi
            simp only [stI, List.take_succ_eq_append_getElem hi1, List.foldl_append, List.foldl_cons, List.foldl_nil, hi2]
          have := unbound1_ok G hG (unbF m) p.1 p.2 (unbound_ok G hG m p.1 (by omega) (by omega)) (fun st t => unb_cnt m p.1 st t) (fun st => (M st ++ [.cells 0 8 [.agg [.int .i64 kd, .str nm, .int .i64 nn, .int .i64 op, .list 1 (names.map .str), .list 8 (exCells subs), .list 9 (bdCells binds), .list 12 (alCells alts)]], .cells 0 1 [.map ib], .cells 0 1 [.map io]]) ++ Y) _ ib io (n0 + 1) (n0 + 2) ((hM.app _).app Y)
            (fun st L => by simp only [List.append_assoc, List.cons_append, X, List.getElem?_cons_succ, List.getElem?_cons_zero]) (fun st L => by simp only [List.append_assoc, List.cons_append, X, List.getElem?_cons_succ, List.getElem?_cons_zero]) (by simp; omega) (stI i) (fun t => by
              have h1 := csteps_cnt m ((scopeParts (.mk kd nm nn op names subs binds alts)).take i) st t
              have h2 := hc t
              show 0 ≤ cntB (List.foldl (cstep (unbF m)) st _).1 t ∧ cntB (List.foldl (cstep (unbF m)) st _).1 t + _ < _
              omega) (by omega)
          simp only [hst]
          exact this)
      simp only [show stI 0 = st from rfl] at hsc
      refine callS hsc ?_
      rintro r H' rfl
      have hend : stI (scopeParts (.mk kd nm nn op names subs binds alts)).length = unbF (m + 1) (.mk kd nm nn op names subs binds alts) st := by
        rw [hu hb]; simp only [stI, List.take_length]
      simp only [hend]
      (refine run ?_; repeat' (first | with_reducible exact trivial | ((with_reducible apply Fork.mk) <;> intro hb) | with_reducible apply Two.mk))
      exact Fin.tellN (n0 := n0) hR (hlen _) hC' (hcls _) (.same _ rfl) rfl
end Go.Proofs.YtcopfafknmpneaaGreatDoor
end

section
namespace Go.Proofs.YtcopfafknmpneaaGreatDoor
open Go
set_option linter.unusedSimpArgs false
set_option linter.unusedVariables false
set_option maxRecDepth 10000
set_option maxHeartbeats 4000000

/-- all have been met: some order -/
theorem met_perm {l : List Str} {born : List Nat} {idx : List Nat} (hnd : idx.Nodup) (hlt : ∀ i ∈ idx, i < l.length) (hb : born.Nodup) (hlb : born.length = l.length)
    (hall : ∀ b ∈ born, (idx.map fun i => born.getD i 0).toArray.contains b = true) : (idx.map fun i => l.getD i []).Perm l := by
  have hin : ∀ i, i < l.length → i ∈ idx := fun i hi => by
    have hi' : i < born.length := by omega
    have := hall born[i] (List.getElem_mem hi')
    simp only [List.contains_toArray, List.contains_iff_mem, List.mem_map] at this
    obtain ⟨j, hj, e⟩ := this
    have hj' : j < born.length := by have := hlt j hj; omega
    rw [List.getD_eq_getElem?_getD, List.getElem?_eq_getElem hj'] at e
    simp only [Option.getD_some] at e
    obtain rfl : j = i := (List.getElem_inj hb).1 e
    exact hj
  have hp : idx.Perm (List.range l.length) := (List.perm_ext_iff_of_nodup hnd List.nodup_range).2 fun i => by
    rw [List.mem_range]; exact ⟨hlt i, hin i⟩
  have := hp.map fun i => l.getD i []
  refine this.trans (.of_eq ?_)
  apply List.ext_getElem?
  intro i
  rw [List.getElem?_map]
  by_cases h : i < l.length
  · rw [List.getElem?_range h]; simp [h]
  · rw [List.getElem?_eq_none (by simpa using h), List.getElem?_eq_none (by omega)]; rfl
theorem met_le {n : Nat} {idx : List Nat} (hnd : idx.Nodup) (hlt : ∀ i ∈ idx, i < n) : idx.length ≤ n := by
  have hp : idx.Perm ((List.range n).filter fun i => decide (i ∈ idx)) := (List.perm_ext_iff_of_nodup hnd (List.nodup_range.filter _)).2 fun i => by
    simp only [List.mem_filter, List.mem_range, decide_eq_true_eq]
    exact ⟨fun h => ⟨hlt i h, h⟩, fun h => h.2⟩
  have h2 := List.length_filter_le (fun i => decide (i ∈ idx)) (List.range n)
  rw [← hp.length_eq, List.length_range] at h2
  exact h2

theorem keys1_ok (G : Gl) (hG : GClosed G) (n1 pb n0 bm clk : Nat) (born : List Nat) (l : List Str) (vs : List SV) (hlb : born.length = l.length) (hlv : vs.length = l.length) (hnd : born.Nodup) (M : List Str → List Blk) (hlen : ∀ s, (M s).length = n0) (h1 : n1 < n0) (hll : l.length < 1099511627776)
    (hpb : ∀ s L, (M s ++ L)[pb]? = some (.cells 0 1 [.imap bm clk born none (l.map .str) vs])) (hvs : ∀ n, SV.underL n vs = true) (hcls : closed (M []) → ∀ s, closed (M s))
    (hy : ∀ s x X, s.length < l.length → ACallV Tryz.prog G (.it n1) [.str x] (M s ++ X) (fun r H' => H' = M (s ++ [x]) ++ X ∧ r = .bool true)) :
    ACall Tryz.prog G 83 [.it n1, .ptr pb 0 0 0] (M []) (fun r H' => ∃ s, s.Perm l ∧ H' = M s) := by
  refine ACall.of_go TB [] tabOK _ Tryz.func83 rfl (by decide) Tryz.ntmps83 (by simp) rfl (by simp only [initEnv, Nat.reduceAdd]; rfl) fun C R' hR hC hcl hB => ?_; have X := noX; have hC' := congrArg List.length hC
  have hC' := hC'.trans (hlen [])
  have hcl := hcls hcl
  have hpb0 : ∀ s, (M s)[pb]? = some (.cells 0 1 [.imap bm clk born none (l.map .str) vs]) := fun s => by simpa using hpb s []
  have X := And.intro (hsX M n0 hlen) (And.intro hpb hpb0)
  have hks : ∀ n, SV.underL n (l.map SV.str) = true := fun n => strs_under n l
  have him : (SV.imap bm clk born none (l.map SV.str) vs).under n0 = true := by simp only [SV.under, hks, hvs, Bool.and_self]
  (refine run ?_; repeat' (first | with_reducible exact trivial | ((with_reducible apply Fork.mk) <;> intro hb) | with_reducible apply Two.mk))
  refine go_range rfl rfl rfl ?_
  simp only [hlen]
  (refine run ?_; repeat' (first | with_reducible exact trivial | ((with_reducible apply Fork.mk) <;> intro hb) | with_reducible apply Two.mk))
  refine go_loop (fun idx : List Nat => [(0, .it n1), (4, .imap bm clk born none (l.map .str) vs), (5, .it n0)]) (fun idx => M (idx.map fun i => l.getD i []) ++ [.obj (.mapIter (some bm) clk (idx.map fun i => born.getD i 0).toArray clk)])
    (fun idx => l.length - idx.length) (fun idx => idx.Nodup ∧ ∀ i ∈ idx, i < l.length) [] ⟨List.nodup_nil, by simp⟩ ?_ ?_
  · exact Wk.sub (by simp [subEnv, look])
  · rintro K idx ⟨hi1, hi2⟩ hK
    have hle := met_le hi1 hi2
    generalize hs : idx.map (fun i => l.getD i []) = s
    generalize hse : (idx.map fun i => born.getD i 0).toArray = seen
    (refine run ?_; repeat' (first | with_reducible exact trivial | ((with_reducible apply Fork.mk) <;> intro hb) | with_reducible apply Two.mk))
    refine go_next (tm := 4) rfl rfl (by simp only [X, List.getElem?_cons_zero]; rfl) rfl (fun hall => ?_) (fun i b q y hb hsn hq hy2 => ?_)
    · (refine run ?_; repeat' (first | with_reducible exact trivial | ((with_reducible apply Fork.mk) <;> intro hb) | with_reducible apply Two.mk))
      refine Fin.tellN (n0 := n0) hR (hlen _) hC' (hcl _) (.same _ rfl) ⟨s, ?_, rfl⟩
      rw [← hs]
      exact met_perm hi1 hi2 hnd hlb (fun b hb => by rw [hse]; exact hall b hb)
    · have hi : i < l.length := by have := (List.getElem?_eq_some_iff.1 hb).1; omega
      have hq' : q = .str l[i] := by rw [List.getElem?_map, List.getElem?_eq_getElem hi] at hq; cases hq; rfl
      subst hq'
      have hni : i ∉ idx := fun hm => by
        rw [← hse] at hsn
        have : (idx.map fun i => born.getD i 0).toArray.contains b = true := by
          simp only [List.contains_toArray, List.contains_iff_mem, List.mem_map]
          exact ⟨i, hm, by rw [List.getD_eq_getElem?_getD, hb]; rfl⟩
        rw [this] at hsn; cases hsn
      have hlt : idx.length < l.length := by
        have := met_le (n := l.length) (idx := idx ++ [i]) (List.nodup_append.2 ⟨hi1, by simp, by simp; exact fun a ha e => hni (e ▸ ha)⟩) (by simp only [List.mem_append, List.mem_singleton]; exact fun a ha => ha.elim (hi2 a) (fun e => e ▸ hi))
        simp at this; omega
      have hsl : s.length = idx.length := by rw [← hs]; simp
      simp only [X, List.set_cons_zero]
      (refine run ?_; repeat' (first | with_reducible exact trivial | ((with_reducible apply Fork.mk) <;> intro hb) | with_reducible apply Two.mk))
      refine go_entry (tm := 4) rfl rfl (by simp only [X, List.getElem?_cons_zero]; rfl) hb (by rw [List.getElem?_map, List.getElem?_eq_getElem hi]; rfl) hy2 rfl ?_
      (refine run ?_; repeat' (first | with_reducible exact trivial | ((with_reducible apply Fork.mk) <;> intro hb) | with_reducible apply Two.mk))
      refine callV (hy s l[i] _ (by omega)) ?_
      rintro r H' ⟨rfl, rfl⟩
      (refine run ?_; repeat' (first | with_reducible exact trivial | ((with_reducible apply Fork.mk) <;> intro hb) | with_reducible apply Two.mk))
      have e1 : (idx ++ [i]).map (fun i => l.getD i []) = s ++ [l[i]] := by
        rw [List.map_append, hs]; simp [hi]
      have e2 : ((idx ++ [i]).map fun i => born.getD i 0).toArray = seen.push b := by
        rw [List.map_append, ← hse]; simp [hb]
      refine hK _ _ (idx ++ [i]) (by simp; omega) ⟨List.nodup_append.2 ⟨hi1, by simp, by simp; exact fun a ha e => hni (e ▸ ha)⟩, by simp only [List.mem_append, List.mem_singleton]; exact fun a ha => ha.elim (hi2 a) (fun e => e ▸ hi)⟩ ?_
      rw [e1, e2]
      exact Wk.sub (by simp [subEnv, look])
end Go.Proofs.YtcopfafknmpneaaGreatDoor
end

section
namespace Go.Proofs.YtcopfafknmpneaaGreatDoor
open Go
set_option linter.unusedSimpArgs false
set_option linter.unusedVariables false
set_option maxRecDepth 10000
set_option maxHeartbeats 4000000

theorem closed_swap {H L L' : List Blk} (h : closed (H ++ L)) (hl : L'.length = L.length) (hu : ∀ b ∈ L', b.under (H.length + L.length) = true) : closed (H ++ L') := by
  intro B hB
  rw [List.length_append, hl]
  rcases List.mem_append.1 hB with h1 | h1
  · have := h B (List.mem_append_left _ h1)
    rwa [List.length_append] at this
  · exact hu B h1

theorem appendSeq_ok (G : Gl) (hG : GClosed G) (pb bm clk : Nat) (born : List Nat) (l : List Str) (vs : List SV) (hlb : born.length = l.length) (hlv : vs.length = l.length) (hnd : born.Nodup) (hll : l.length < 1099511627776) (H : List Blk)
    (hpb : H[pb]? = some (.cells 0 1 [.imap bm clk born none (l.map .str) vs])) (hvs : ∀ n, SV.underL n vs = true) :
    ACall Tryz.prog G 102 [.nil, .fn (.func 83) [] [.ptr pb 0 0 0]] H (fun r H' => ∃ s : List Str, s.Perm l ∧ H' = H ++ [.cells 0 1 (s.map .str)] ∧ r = .sl H.length 0 0 s.length) := by
  have hpl : pb < H.length := (List.getElem?_eq_some_iff.1 hpb).1
  refine ACall.of_go TB [] tabOK _ Tryz.func102 rfl (by decide) Tryz.ntmps102 (by simp) rfl (by simp only [initEnv, Nat.reduceAdd]; rfl) fun C R' hR hC hcl hB => ?_; have X := noX; have hC' := congrArg List.length hC
  refine go_ownNil 0 1 rfl ?_
  (refine run ?_; repeat' (first | with_reducible exact trivial | ((with_reducible apply Fork.mk) <;> intro hb) | with_reducible apply Two.mk))
  refine go_rangeFunc tabOK (σ := List Str) (ξ := Str) (fun s => H ++ [.cells s.length 1 (s.map .str), .cells 0 1 [.sl H.length s.length 0 s.length]]) (H.length + 2) (fun s => by simp) []
    [(2, .ptr (H.length + 1) 0 0 0), (6, .fn (.func 83) [] [.ptr pb 0 0 0])] (fun x => [.str x]) (fun s x => s.length < l.length) (fun s x => s ++ [x]) (fun s => s.Perm l)
    (fun x => [(7, .str x), (2, .ptr (H.length + 1) 0 0 0), (6, .fn (.func 83) [] [.ptr pb 0 0 0])]) rfl rfl (fun x => rfl) (fun x => rfl) ?_ ?_ ?_ ?_
  · exact Wk.sub (by simp [subEnv, look])
  · intro G' LO hGl hLO hy
    have := keys1_ok G' (by unfold GClosed; rw [hGl]; exact hG) (H.length + 2) pb (H.length + 3) bm clk born l vs hlb hlv hnd (fun s => (H ++ [.cells s.length 1 (s.map .str), .cells 0 1 [.sl H.length s.length 0 s.length]]) ++ [LO]) (fun s => by simp) (by omega) hll
      (fun s L => by simp only [List.append_assoc]; rw [List.getElem?_append_left hpl]; exact hpb) hvs (fun hc s => by
        simp only [List.append_assoc] at hc ⊢
        refine closed_swap hc (by simp) (fun b hb => ?_)
        simp only [List.cons_append, List.nil_append, List.mem_cons, List.not_mem_nil, or_false] at hb
        rcases hb with rfl | rfl | rfl
        · exact strs_under _ _
        · simp [Blk.under, SV.underL, SV.under]
        · simpa using hLO) (fun s x X hs => by
          have := hy s x X hs
          simpa only [List.append_assoc, List.cons_append, List.nil_append] using this)
    exact this.mono fun r H' ⟨s, h1, h2⟩ => ⟨s, h1, h2⟩
  · intro G' C' ρ' s x Y LO LB K1 K hGl hB' hCH hcl' hLO hLB hs hK1 hK
    have X := noX
    have hG' : GClosed G' := by unfold GClosed; rw [hGl]; exact hG
    simp only [List.append_assoc, List.cons_append, List.nil_append] at hcl' hCH ⊢
    (refine run ?_; repeat' (first | with_reducible exact trivial | ((with_reducible apply Fork.mk) <;> intro hb) | with_reducible apply Two.mk))
    refine hK1 _ _ (by simp [List.getElem?_append_right]) ?_
    simp only [set_app, List.set_cons_succ, List.set_cons_zero]
    (refine run ?_; repeat' (first | with_reducible exact trivial | ((with_reducible apply Fork.mk) <;> intro hb) | with_reducible apply Two.mk))
    refine hK _ _ ?_
    simp only [List.append_assoc, List.cons_append, List.nil_append, List.length_append, List.length_cons, List.length_nil, List.map_append, List.map_cons, List.map_nil, Nat.zero_add]
    exact Wk.sub trivial
  · intro s LO hs hLO
    simp only [List.append_assoc, List.cons_append, List.nil_append]
    (refine run ?_; repeat' (first | with_reducible exact trivial | ((with_reducible apply Fork.mk) <;> intro hb) | with_reducible apply Two.mk))
    refine finK [(H.length, 0)] (.sl H.length 0 0 s.length) [.cells 0 1 (s.map .str)] hR hC' hcl ⟨s, hs, rfl, rfl⟩

theorem collect_ok (G : Gl) (hG : GClosed G) (pb bm clk : Nat) (born : List Nat) (l : List Str) (vs : List SV) (hlb : born.length = l.length) (hlv : vs.length = l.length) (hnd : born.Nodup) (hll : l.length < 1099511627776) (H : List Blk)
    (hpb : H[pb]? = some (.cells 0 1 [.imap bm clk born none (l.map .str) vs])) (hvs : ∀ n, SV.underL n vs = true) :
    ACall Tryz.prog G 82 [.fn (.func 83) [] [.ptr pb 0 0 0]] H (fun r H' => ∃ s : List Str, s.Perm l ∧ H' = H ++ [.cells 0 1 (s.map .str)] ∧ r = .sl H.length 0 0 s.length) := by
  refine ACall.of_go TB [] tabOK _ Tryz.func82 rfl (by decide) Tryz.ntmps82 (by simp) rfl (by simp only [initEnv, Nat.reduceAdd]; rfl) fun C R' hR hC hcl hB => ?_; have X := noX; have hC' := congrArg List.length hC
  (refine run ?_; repeat' (first | with_reducible exact trivial | ((with_reducible apply Fork.mk) <;> intro hb) | with_reducible apply Two.mk))
  refine callS (appendSeq_ok G hG pb bm clk born l vs hlb hlv hnd hll H hpb hvs) ?_
  rintro r H' ⟨s, hs, rfl, rfl⟩
  (refine run ?_; repeat' (first | with_reducible exact trivial | ((with_reducible apply Fork.mk) <;> intro hb) | with_reducible apply Two.mk))
  exact finK [(H.length, 0)] (.sl H.length 0 0 s.length) [.cells 0 1 (s.map .str)] hR hC' hcl ⟨s, hs, rfl, rfl⟩

/-- strings, rising -/
def sortS (l : List Str) : List Str := l.mergeSort fun x y => decide (x ≤ y)
theorem sortS_perm (l : List Str) : (sortS l).Perm l := List.mergeSort_perm l _
theorem sortS_len (l : List Str) : (sortS l).length = l.length := (sortS_perm l).length_eq
theorem sortS_eq {s l : List Str} (h : s.Perm l) : sortS s = sortS l := Go.mergeSort_of_perm h
theorem sort_strs (G : Gl) (id g : Nat) (l : List Str) (H : List Blk) (hH : H[id]? = some (.cells g 1 (l.map .str))) (hl : l.length < 4611686018427387904) :
    ACall Tryz.prog G 66 [.sl id g 0 l.length] H (fun r H' => H' = H.set id (.cells g 1 ((sortS l).map .str)) ∧ r = .tuple []) :=
  ACall.of_sort encStr .str (fun s => s.length ≤ maxLen) (fun c x v => rep_str_iff c x v) (fun _ => rfl) (fun x y => decide (x ≤ y)) ⟨_, Tryz.func66, by decide, rfl⟩
    (fun blk off cap zs w h1 h2 h3 => Tryz.slices_Sort_string blk off cap zs w h1 h2 h3) (fun p cap w => Tryz.slices_Sort_string_none p cap w) id g l H hH hl
theorem sorted_ok (G : Gl) (hG : GClosed G) (pb bm clk : Nat) (born : List Nat) (l : List Str) (vs : List SV) (hlb : born.length = l.length) (hlv : vs.length = l.length) (hnd : born.Nodup) (hll : l.length < 1099511627776) (H : List Blk)
    (hpb : H[pb]? = some (.cells 0 1 [.imap bm clk born none (l.map .str) vs])) (hvs : ∀ n, SV.underL n vs = true) :
    ACall Tryz.prog G 38 [.fn (.func 83) [] [.ptr pb 0 0 0]] H (fun r H' => H' = H ++ [.cells 0 1 ((sortS l).map .str)] ∧ r = .sl H.length 0 0 l.length) := by
  refine ACall.of_go TB [] tabOK _ Tryz.func38 rfl (by decide) Tryz.ntmps38 (by simp) rfl (by simp only [initEnv, Nat.reduceAdd]; rfl) fun C R' hR hC hcl hB => ?_; have X := noX; have hC' := congrArg List.length hC
  (refine run ?_; repeat' (first | with_reducible exact trivial | ((with_reducible apply Fork.mk) <;> intro hb) | with_reducible apply Two.mk))
  refine callS (collect_ok G hG pb bm clk born l vs hlb hlv hnd hll H hpb hvs) ?_
  rintro r H' ⟨s, hs, rfl, rfl⟩
  (refine run ?_; repeat' (first | with_reducible exact trivial | ((with_reducible apply Fork.mk) <;> intro hb) | with_reducible apply Two.mk))
  have hsl := hs.length_eq
  refine callS (sort_strs G H.length 0 s _ (by simp) (by omega)) ?_
  rintro r H' ⟨rfl, rfl⟩
  rw [sortS_eq hs, hsl]
  simp only [set_app0, List.set_cons_zero]
  (refine run ?_; repeat' (first | with_reducible exact trivial | ((with_reducible apply Fork.mk) <;> intro hb) | with_reducible apply Two.mk))
  exact finK [(H.length, 0)] (.sl H.length 0 0 l.length) [.cells 0 1 ((sortS l).map .str)] hR hC' hcl ⟨rfl, rfl⟩

theorem keys_ok (G : Gl) (hG : GClosed G) (bm clk : Nat) (born : List Nat) (l : List Str) (vs : List SV) (hvs : ∀ n, SV.underL n vs = true) (H : List Blk) :
    ACall Tryz.prog G 39 [.imap bm clk born none (l.map .str) vs] H (fun r H' => H' = H ++ [.cells 0 1 [.imap bm clk born none (l.map .str) vs]] ∧ r = .fn (.func 83) [] [.ptr H.length 0 0 0]) := by
  refine ACall.of_go TB [] tabOK _ Tryz.func39 rfl (by decide) Tryz.ntmps39 (by simp) rfl (by simp only [initEnv, Nat.reduceAdd]; rfl) fun C R' hR hC hcl hB => ?_; have X := noX; have hC' := congrArg List.length hC
  have hks : ∀ n, SV.underL n (l.map SV.str) = true := fun n => strs_under n l
  (refine run ?_; repeat' (first | with_reducible exact trivial | ((with_reducible apply Fork.mk) <;> intro hb) | with_reducible apply Two.mk))
  refine finK [(H.length, 0)] (.fn (.func 83) [] [.ptr H.length 0 0 0]) [.cells 0 1 [.imap bm clk born none (l.map .str) vs]] hR hC' hcl ⟨rfl, rfl⟩ (.c (by exact hbS) (Nat.le_refl _) (Nat.zero_le _) (FrzL.same ?_) .nil) (by simp) (.fn _ _ _ _ _ .nil (.cons _ _ _ _ (Frz.kp 0 rfl (by exact hbS) (Nat.le_refl _) rfl rfl) .nil))
  simp only [List.drop_zero, SV.underL, SV.under, hks, hvs, Bool.and_self]
end Go.Proofs.YtcopfafknmpneaaGreatDoor
end

section
namespace Go.Proofs.YtcopfafknmpneaaGreatDoor
open Go
set_option linter.unusedSimpArgs false
set_option linter.unusedVariables false
set_option maxRecDepth 10000
set_option maxHeartbeats 4000000

theorem scope_sum (e : Ex) : ((scopeParts e).map fun p => p.1.wt).sum < e.wt := by
  obtain ⟨kd, nm, nn, op, names, subs, binds, alts⟩ := e
  have h1 : ∀ l : List Ex, (l.map fun x => x.wt).sum = exsWt l := fun l => by
    induction l with
    | nil => rfl
    | cons x r ih => simp only [List.map_cons, List.sum_cons, exsWt, ih]
  have h2 : ∀ l : List Bd, (l.map fun b => b.e.wt).sum ≤ bdsWt l := fun l => by
    induction l with
    | nil => exact Nat.le_refl _
    | cons x r ih => simp only [List.map_cons, List.sum_cons, bdsWt]; have := x.wt_gt; omega
  have h3 : ∀ l : List Al, (l.map fun b => b.body.wt).sum ≤ alsWt l := fun l => by
    induction l with
    | nil => exact Nat.le_refl _
    | cons x r ih => simp only [List.map_cons, List.sum_cons, alsWt]; have := x.wt_gt; omega
  have := h1 subs; have := h2 binds; have := h3 alts
  simp only [scopeParts, List.map_append, List.map_map, Function.comp_def, List.sum_append, Ex.wt]
  omega
theorem putO_len (l : List Str) (s : Str) : (putO l s).length ≤ l.length + 1 := by
  unfold putO
  split <;> simp
theorem unb_len : ∀ (m : Nat) (e : Ex) (st : BO), (unbF m e st).2.length ≤ st.2.length + e.wt
  | 0, e, st => by simp [unbF]
  | m + 1, e, st => by
    rw [unbF]
    have hp := e.wt_pos
    split
    · split
      · have := putO_len st.2 e.name; simp only; omega
      · omega
    · have hs := scope_sum e
      generalize scopeParts e = l at hs
      have key : ∀ (l : List (Ex × List Str)) (st : BO), (l.foldl (cstep (unbF m)) st).2.length ≤ st.2.length + (l.map fun p => p.1.wt).sum := fun l => by
        induction l with
        | nil => intro st; exact Nat.le_refl _
        | cons p l ih =>
          intro st
          rw [List.foldl_cons]
          have h1 := ih (cstep (unbF m) st p)
          have h2 := unb_len m p.1 (incB st.1 p.2, st.2)
          simp only [List.map_cons, List.sum_cons]
          have e : (cstep (unbF m) st p).2.length = (unbF m p.1 (incB st.1 p.2, st.2)).2.length := rfl
          rw [e] at h1
          simp only at h2
          omega
      have := key l st
      omega
theorem putO_nodup {l : List Str} (h : l.Nodup) (s : Str) : (putO l s).Nodup := by
  unfold putO
  split
  · exact h
  · rename_i hs
    exact List.nodup_append.2 ⟨h, by simp, by simp; exact fun a ha e => hs (e ▸ ha)⟩

/-- an expression's free names, rising -/
def freeS (e : Ex) : List Str := sortS (unbF e.wt e ([], [])).2

theorem free_ok (G : Gl) (hG : GClosed G) (e : Ex) (H : List Blk) (hw : e.wt < 549755813888) : ACall Tryz.prog G 13 [e.sv] H (fun r H' => H' = H ++ [.cells 0 1 ((freeS e).map .str)] ∧ r = .sl H.length 0 0 (freeS e).length) := by
  refine ACall.of_go TB [] tabOK _ Tryz.func13 rfl (by decide) Tryz.ntmps13 (by simp) rfl (by simp only [initEnv, Nat.reduceAdd]; rfl) fun C R' hR hC hcl hB => ?_; have X := noX; have hC' := congrArg List.length hC
  have hcall := unbound_ok G hG e.wt e (Nat.le_refl _) hw (H ++ [.cells 0 8 [e.sv], .map none [], .map none []]) (H.length + 2) (H.length + 1) ([], []) (by simp [esB]) (by simp [esO]) (by omega) (fun s => by simp only [cntB]; omega)
  have hlen := unb_len e.wt e ([], [])
  have hfl : (freeS e).length = (unbF e.wt e ([], [])).2.length := sortS_len _
  generalize hst : unbF e.wt e ([], []) = st at hcall hlen hfl
  (refine run ?_; repeat' (first | with_reducible exact trivial | ((with_reducible apply Fork.mk) <;> intro hb) | with_reducible apply Two.mk))
  refine callS hcall ?_
  rintro r H' rfl
  simp only [UH, set_app, List.set_cons_succ, List.set_cons_zero]
  refine go_nil ?_
  refine go_pin (t := 3) (io := H.length + 1) (kd := none) (es := esO st.2) (by exact hbS) (by omega) hB rfl (fun bm clk born hb hnd => ?_)
  have e1 : (esO st.2).map Prod.fst = st.2.map .str := by simp [esO]
  have e2 : (esO st.2).map Prod.snd = st.2.map fun _ => .bool true := by simp [esO]
  have e3 : (esO st.2).length = st.2.length := by simp [esO]
  rw [e1, e2]
  rw [e3] at hb
  simp only [set_app, List.set_cons_succ, List.set_cons_zero]
  (refine run ?_; repeat' (first | with_reducible exact trivial | ((with_reducible apply Fork.mk) <;> intro hb) | with_reducible apply Two.mk))
  refine callS (keys_ok G hG bm clk born st.2 _ (fun n => SV.underL_map fun _ _ => rfl) _) ?_
  rintro r H' ⟨rfl, rfl⟩
  simp only [List.append_assoc, List.cons_append, List.nil_append, List.length_append, List.length_cons, List.length_nil, List.length_set, X, Nat.reduceAdd]
  (refine run ?_; repeat' (first | with_reducible exact trivial | ((with_reducible apply Fork.mk) <;> intro hb) | with_reducible apply Two.mk))
  refine callS (sorted_ok G hG (H.length + 3) bm clk born st.2 (st.2.map fun _ => .bool true) hb (by simp) hnd (by simp only at hlen; simp at hlen; omega) _ (by rw [get_app]; rfl) (fun n => SV.underL_map fun _ _ => rfl)) ?_
  rintro r H' ⟨rfl, rfl⟩
  simp only [List.append_assoc, List.cons_append, List.nil_append, List.length_append, List.length_cons, List.length_nil, List.length_set, X, Nat.reduceAdd]
  (refine run ?_; repeat' (first | with_reducible exact trivial | ((with_reducible apply Fork.mk) <;> intro hb) | with_reducible apply Two.mk))
  have e4 : sortS st.2 = freeS e := by rw [freeS, hst]
  rw [e4, ← hfl]
  exact finK [(H.length + 4, 0)] (.sl H.length 0 0 (freeS e).length) [.cells 0 1 ((freeS e).map .str)] hR hC' hcl ⟨rfl, rfl⟩
end Go.Proofs.YtcopfafknmpneaaGreatDoor
end
