/- What is handed in is not written into, and the orders of a program do not hang on the order of its binds (DemandKeeps, for inputs up to the bulk). -/
import Derived.Test.YtehfihnfeakmaaaGreatDoorMf

set_option linter.unusedSimpArgs false
set_option linter.unusedVariables false
section
namespace Go.Proofs.YtehfihnfeakmaaaGreatDoor
open Go
set_option maxRecDepth 10000
set_option maxHeartbeats 4000000
theorem Bounded_ok (G : Gl) (hG : GClosed G) (e : Ex) (hw : e.wt < 4294967296) (H : List Blk) : ACall Tryz.prog G 14 [e.sv] H (fun r H' => ∃ (n : Nat) (b : Bool), (H' = H ∧ r = .tuple [.int .i64 n, .bool b]) ∧ n ≤ e.wt) := by
  refine ACall.of_go TB [] tabOK _ Tryz.func14 rfl (by decide) Tryz.ntmps14 (by simp) rfl (by simp only [initEnv, Nat.reduceAdd]; rfl) fun C R' hR hC hcl hB => ?_; have X := noX; have hC' := congrArg List.length hC
  (refine run ?_; repeat' (first | with_reducible exact trivial | ((with_reducible apply Fork.mk) <;> intro hb) | with_reducible apply Two.mk))
  refine callS (bounded_ok G hG e.wt e _ 0 (Nat.le_refl _) hw) ?_
  rintro r H' ⟨n, b, ⟨rfl, rfl⟩, hn⟩
  (refine run ?_; repeat' (first | with_reducible exact trivial | ((with_reducible apply Fork.mk) <;> intro hb) | with_reducible apply Two.mk))
  exact finS (n0 := H.length) hR hC' hcl (.same _ rfl) ⟨n, b, ⟨rfl, rfl⟩, hn⟩
theorem All_own (G : Gl) (hG : GClosed G) (cons : List Cn) (binds : List Bd) (H : List Blk) (hw : bdsWt binds < 4294967296) :
    ACall Tryz.prog G 22 [.agg [.list 4 (cnCells cons), .list 9 (bdCells binds)]] H (fun r H' => H' = H ++ [.cells 0 1 ((bindersP binds).map .str)] ∧ r = .sl H.length 0 0 (bindersP binds).length) := by
  have hle := bdsWt_len binds
  obtain ⟨L2, b1, b2, b3, b4⟩ := flat_seq (fun b : Bd => b.name :: bnds b.e) [] binds
  have e0 : bindersP binds = L2 binds.length := by rw [b4, List.nil_append]; rfl
  have hln := bindersP_len binds
  rw [e0] at hln ⊢
  rw [← b4] at b3
  have under_ints := fun n => cnCells_under n cons
  refine ACall.of_go TB [3] tabOK _ Tryz.func22 rfl (by decide) Tryz.ntmps22 (by simp) rfl (by simp only [initEnv, Nat.reduceAdd]; rfl) fun C R' hR hC hcl hB => ?_; have X := noX; have hC' := congrArg List.length hC
  (refine run ?_; repeat' (first | with_reducible exact trivial | ((with_reducible apply Fork.mk) <;> intro hb) | with_reducible apply Two.mk))
  refine go_loop (fun i : Nat => [(1, .ptr H.length 0 0 0), (3, .sl (H.length + 1) 0 0 (L2 i).length), (4, .int .i64 i)])
    (fun i => H ++ [.cells 0 2 [.agg [.list 4 (cnCells cons), .list 9 (bdCells binds)]], .cells 0 1 ((L2 i).map .str)]) (fun i => binds.length - i) (fun i => i ≤ binds.length) 0 (Nat.zero_le _) ?_ ?_
  · simp only [b1, List.length_nil, List.map_nil]
    exact wkS (n0 := H.length) [(H.length, 0), (H.length + 1, 0)] hG hB hC' hcl
  rintro K i hi hK
  rcases Nat.lt_or_ge i binds.length with hlt | hge
  · have hpb := bd_wt (List.getElem_mem hlt)
    have c1 := fun H => rbinders_ok G hG binds[i].e.wt binds[i].e H (Nat.le_refl _) (by omega)
    have e1 := b2 i hlt
    have e2 := b3 (i + 1)
    have e3 := b3 i
    have e4 := bndF_len binds[i].e.wt binds[i].e
    rw [e1, List.length_append] at e2
    simp only [List.length_cons, bnds] at e2 e1
    generalize bndF binds[i].e.wt binds[i].e = l at *
    generalize L2 i = l1 at *
    have X := And.intro noX (show (l1.map SV.str).length = l1.length ∧ (l.map SV.str).length = l.length from ⟨List.length_map .., List.length_map ..⟩)
    (refine run ?_; repeat' (first | with_reducible exact trivial | ((with_reducible apply Fork.mk) <;> intro hb) | with_reducible apply Two.mk))
    refine hK _ _ (i + 1) (by omega) (by omega) ?_
    rw [e1, List.map_append, List.map_cons, show (l1 ++ binds[i].name :: l).length = l1.length + (1 + l.length) from by simp; omega]
    exact wkS (n0 := H.length) [(H.length, 0), (H.length + 1, 0)] hG hB hC' hcl
  obtain rfl : i = binds.length := by omega
  clear hK
  have X := And.intro noX (Int.lt_irrefl (binds.length : Int))
  (refine run ?_; repeat' (first | with_reducible exact trivial | ((with_reducible apply Fork.mk) <;> intro hb) | with_reducible apply Two.mk))
  exact finK [(H.length + 1, 0)] (.sl H.length 0 0 (L2 binds.length).length) [.cells 0 1 ((L2 binds.length).map .str)] hR hC' hcl ⟨rfl, rfl⟩
theorem All_ok (G : Gl) (hG : GClosed G) (cons : List Cn) (binds : List Bd) (H : List Blk) (hw : bdsWt binds < 4294967296) :
    ACall Tryz.prog G 22 [.agg [.list 4 (cnCells cons), .list 9 (bdCells binds)]] H (fun r H' => H' = H ∧ r = .list 1 ((bindersP binds).map .str)) :=
  ACall.frz (strs_under _ _) (List.length_map ..) (All_own G hG cons binds H hw)
theorem wrap_u8 {n : Nat} (h : n < 256) : IntKind.u8.wrap (n : Int) = (n : Int) := by
  simp only [IntKind.wrap, IntKind.bits, IntKind.signed]
  simp
  omega
theorem number_ok (G : Gl) (hG : GClosed G) (s : Str) (hs : s.length < 4294967296) (H : List Blk) : ACall Tryz.prog G 62 [.str s] H (fun r H' => ∃ n : Nat, (H' = H ∧ r = .int .i64 n) ∧ n < 10000000000) := by
  refine ACall.of_go TB [] tabOK _ Tryz.func62 rfl (by decide) Tryz.ntmps62 (by simp) rfl (by simp only [initEnv, Nat.reduceAdd]; rfl) fun C R' hR hC hcl hB => ?_; have X := noX; have hC' := congrArg List.length hC
  (refine run ?_; repeat' (first | with_reducible exact trivial | ((with_reducible apply Fork.mk) <;> intro hb) | with_reducible apply Two.mk))
  · exact Fin.out hR ⟨0, ⟨rfl, rfl⟩, by omega⟩
  have hl3 : ¬ (List.length s : Int) < 3 := fun h => by rw [decide_eq_true h] at hb; simp at hb
  have hl11 : ¬ (11 : Int) < (List.length s : Int) := fun h => by rw [decide_eq_true h] at hb; simp at hb
  have h2l : 2 < s.length := by omega
  have h2 : s[2]? = some s[2] := List.getElem?_eq_getElem h2l
  have X := And.intro noX h2
  (refine run ?_; repeat' (first | with_reducible exact trivial | ((with_reducible apply Fork.mk) <;> intro hb) | with_reducible apply Two.mk))
  · exact Fin.out hR ⟨0, ⟨rfl, rfl⟩, by omega⟩
  have hpw : ∀ i, 2 ≤ i → 10 ^ (i + 1 - 2) = 10 * 10 ^ (i - 2) := fun i hi => by rw [show i + 1 - 2 = (i - 2) + 1 by omega, Nat.pow_succ]; omega
  have hpm : ∀ i, i ≤ 11 → 10 ^ (i - 2) ≤ 1000000000 := fun i hi => Nat.le_trans (Nat.pow_le_pow_right (by omega) (show i - 2 ≤ 9 by omega)) (by omega)
  refine go_loop (fun a : Nat × Nat => [(0, .str s), (3, .int .i64 (a.2 : Int)), (4, .int .i64 (a.1 : Int))]) (fun _ => H) (fun a => s.length - a.1) (fun a => (2 ≤ a.1 ∧ a.1 ≤ s.length) ∧ a.2 < 10 ^ (a.1 - 2)) (2, 0) ⟨⟨Nat.le_refl _, by simp only; omega⟩, by simp⟩ (Wk.sub (by simp [subEnv, look])) ?_
  rintro K ⟨i, n⟩ ⟨⟨hi1, hi2⟩, hn⟩ hK
  simp only at hi1 hi2 hn
  dsimp only
  have hp1 := hpw i hi1
  have hp2 := hpm i (by omega)
  generalize hPP : 10 ^ (i - 2) = pp at *
  rcases Nat.lt_or_ge i s.length with hlt | hge
  · have hg : s[i]? = some s[i] := List.getElem?_eq_getElem hlt
    have hb8 : s[i].toNat < 256 := s[i].toNat_lt
    generalize s[i] = b at *
    generalize hbn : b.toNat = bn at *
    have X := And.intro noX (And.intro hg hbn)
    (refine run ?_; repeat' (first | with_reducible exact trivial | ((with_reducible apply Fork.mk) <;> intro hb) | with_reducible apply Two.mk))
    · exact Fin.out hR ⟨0, ⟨rfl, rfl⟩, by omega⟩
    · simp only [Bool.or_eq_false_iff, decide_eq_false_iff_not] at hb
      have hw8 : IntKind.u8.wrap ((bn : Int) - 48) = ((bn - 48 : Nat) : Int) := by rw [show (bn : Int) - 48 = ((bn - 48 : Nat) : Int) by omega]; exact wrap_u8 (by omega)
      rw [hw8, wrap_i64 ((bn - 48 : Nat) : Int) (by omega), wrap_i64 _ (by omega), show 10 * (n : Int) + ((bn - 48 : Nat) : Int) = ((10 * n + (bn - 48) : Nat) : Int) by omega]
      exact hK _ _ (i + 1, 10 * n + (bn - 48)) (by simp only; omega) ⟨⟨by simp only; omega, by simp only; omega⟩, by simp only [hp1]; omega⟩ (Wk.sub (by simp [subEnv, look]))
  · have hni : ¬ (i : Int) < (List.length s : Int) := by omega
    clear hK
    have X := noX
    (refine run ?_; repeat' (first | with_reducible exact trivial | ((with_reducible apply Fork.mk) <;> intro hb) | with_reducible apply Two.mk))
    exact Fin.out hR ⟨n, ⟨rfl, rfl⟩, by omega⟩
theorem Next_ok (G : Gl) (hG : GClosed G) (cons : List Cn) (binds : List Bd) (H : List Blk) (hw : bdsWt binds < 4294967295) (hns : ∀ s ∈ bindersP binds, s.length < 4294967296) :
    ACall Tryz.prog G 21 [.agg [.list 4 (cnCells cons), .list 9 (bdCells binds)]] H (fun r H' => ∃ n : Nat, (H' = H ∧ r = .int .i64 n) ∧ n < 10000000001) := by
  have hln := bindersP_len binds
  refine ACall.of_go TB [] tabOK _ Tryz.func21 rfl (by decide) Tryz.ntmps21 (by simp) rfl (by simp only [initEnv, Nat.reduceAdd]; rfl) fun C R' hR hC hcl hB => ?_; have X := noX; have hC' := congrArg List.length hC
  (refine run ?_; repeat' (first | with_reducible exact trivial | ((with_reducible apply Fork.mk) <;> intro hb) | with_reducible apply Two.mk))
  refine callS (All_ok G hG cons binds _ (by omega)) ?_
  rintro r H' ⟨rfl, rfl⟩
  generalize bindersP binds = l at *
  (refine run ?_; repeat' (first | with_reducible exact trivial | ((with_reducible apply Fork.mk) <;> intro hb) | with_reducible apply Two.mk))
  refine go_loop (fun a : Nat × Nat => [(3, .int .i64 (a.2 : Int)), (4, .list 1 (l.map .str)), (5, .int .i64 (a.1 : Int))]) (fun a => H ++ []) (fun a => l.length - a.1) (fun a => a.1 ≤ l.length ∧ a.2 < 10000000000) (0, 0) ⟨Nat.zero_le _, by omega⟩ ?_ ?_
  · exact wkS (n0 := H.length) [] hG hB hC' hcl
  rintro K ⟨i, n⟩ ⟨hi, hn⟩ hK
  simp only at hi hn
  dsimp only
  rcases Nat.lt_or_ge i l.length with hlt | hge
  · have g1 : (l.map SV.str)[i]? = some (.str l[i]) := by simp [hlt]
    have hnum := fun H => number_ok G hG l[i] (hns _ (List.getElem_mem hlt)) H
    generalize l[i] = s at *
    have X := And.intro noX g1
    (refine run ?_; repeat' (first | with_reducible exact trivial | ((with_reducible apply Fork.mk) <;> intro hb) | with_reducible apply Two.mk))
    refine callS (hnum _) ?_
    rintro r H' ⟨n2, ⟨rfl, rfl⟩, hn2⟩
    have hmm := max_nat n n2
    have X := And.intro noX (And.intro hmm (show IntKind.i64.min ≤ (n2 : Int) ∧ (n2 : Int) ≤ IntKind.i64.max from ⟨by show (-9223372036854775808 : Int) ≤ _; omega, by show _ ≤ (9223372036854775807 : Int); omega⟩))
    (refine run ?_; repeat' (first | with_reducible exact trivial | ((with_reducible apply Fork.mk) <;> intro hb) | with_reducible apply Two.mk))
    refine hK _ _ (i + 1, max n n2) (by simp only; omega) ⟨by simp only; omega, by simp only; omega⟩ ?_
    dsimp only
    exact wkS (n0 := H.length) [] hG hB hC' hcl
  · have hni : ¬ (i : Int) < (l.length : Int) := by omega
    clear hK
    have X := noX
    (refine run ?_; repeat' (first | with_reducible exact trivial | ((with_reducible apply Fork.mk) <;> intro hb) | with_reducible apply Two.mk))
    refine finS (n0 := H.length) hR hC' hcl (.same _ rfl) ⟨n + 1, ⟨rfl, ?_⟩, by omega⟩
    simp only [resSV, Int.natCast_add, Int.natCast_one]
theorem Small_ok (G : Gl) (hG : GClosed G) (cons : List Cn) (binds : List Bd) (H : List Blk) (hw : bdsWt binds < 1073741824) (hcn : cons.length < 1099511627776) (hns : ∀ s ∈ bindersP binds, s.length < 4294967296) :
    ACall Tryz.prog G 6 [.agg [.list 4 (cnCells cons), .list 9 (bdCells binds)]] H (someB H) := by
  have hln := bindersP_len binds
  have hle := bdsWt_len binds
  have under_ints := fun n => cnCells_under n cons
  have hlm : ((bindersP binds).map SV.str).length = (bindersP binds).length := List.length_map ..
  refine ACall.of_go TB [] tabOK _ Tryz.func6 rfl (by decide) Tryz.ntmps6 (by simp) rfl (by simp only [initEnv, Nat.reduceAdd]; rfl) fun C R' hR hC hcl hB => ?_; have X := noX; have hC' := congrArg List.length hC
  (refine run ?_; repeat' (first | with_reducible exact trivial | ((with_reducible apply Fork.mk) <;> intro hb) | with_reducible apply Two.mk))
  · exact finS (n0 := H.length) hR hC' hcl (.same _ rfl) ⟨rfl, _, rfl⟩
  refine go_loop (fun a : Nat × Nat => [(1, .ptr H.length 0 0 0), (3, .int .i64 (a.2 : Int)), (4, .int .i64 (a.1 : Int))]) (fun _ => H ++ [.cells 0 2 [.agg [.list 4 (cnCells cons), .list 9 (bdCells binds)]]]) (fun a => binds.length - a.1) (fun a => a.1 ≤ binds.length ∧ a.2 ≤ bdsWt (binds.take a.1)) (0, 0) ⟨Nat.zero_le _, Nat.zero_le _⟩ ?_ ?_
  · exact wkS (n0 := H.length) [(H.length, 0)] hG hB hC' hcl
  rintro K ⟨i, n⟩ ⟨hi, hn⟩ hK
  simp only at hi hn
  dsimp only
  have hbt := bdsWt_take binds i
  rcases Nat.lt_or_ge i binds.length with hlt | hge
  · have hpb := bd_wt (List.getElem_mem hlt)
    have hbd := fun H => Bounded_ok G hG binds[i].e (by omega) H
    have hbt2 : bdsWt (binds.take (i + 1)) = bdsWt (binds.take i) + binds[i].wt := by
      rw [List.take_succ_eq_append_getElem hlt]
      have : ∀ (l : List Bd) (b : Bd), bdsWt (l ++ [b]) = bdsWt l + b.wt := fun l b => by
        induction l with
        | nil => simp [bdsWt]
        | cons x r ih => simp only [List.cons_append, bdsWt, ih]; omega
      exact this _ _
    have hbg := binds[i].wt_gt
    have hX := noX
    have X := noX
    (refine run ?_; repeat' (first | with_reducible exact trivial | ((with_reducible apply Fork.mk) <;> intro hb) | with_reducible apply Two.mk))
    refine callS (hbd _) ?_
    rintro r H' ⟨n2, b2, ⟨rfl, rfl⟩, hn2⟩
    have hnn : (n : Int) + (n2 : Int) = ((n + n2 : Nat) : Int) := by omega
    have X := And.intro noX hnn
    (refine run ?_; repeat' (first | with_reducible exact trivial | ((with_reducible apply Fork.mk) <;> intro hb) | with_reducible apply Two.mk))
    · exact finS (n0 := H.length) hR hC' hcl (.same _ rfl) ⟨rfl, _, rfl⟩
    · refine hK _ _ (i + 1, n + n2) (by simp only; omega) ⟨by simp only; omega, by simp only; omega⟩ ?_
      dsimp only
      exact wkS (n0 := H.length) [(H.length, 0)] hG hB hC' hcl
  · have hni : ¬ (i : Int) < (binds.length : Int) := by omega
    clear hK
    have c1 := fun H => All_ok G hG cons binds H (by omega)
    have X := And.intro noX (And.intro hni hlm)
    (refine run ?_; repeat' (first | with_reducible exact trivial | ((with_reducible apply Fork.mk) <;> intro hb) | with_reducible apply Two.mk))
    refine callS (Next_ok G hG cons binds _ (by omega) hns) ?_
    rintro r H' ⟨n2, ⟨rfl, rfl⟩, hn2⟩
    clear hn2
    generalize (n2 : Int) = z
    (refine run ?_; repeat' (first | with_reducible exact trivial | ((with_reducible apply Fork.mk) <;> intro hb) | with_reducible apply Two.mk))
    all_goals exact finS (n0 := H.length) hR hC' hcl (.same _ rfl) ⟨rfl, _, rfl⟩
end Go.Proofs.YtehfihnfeakmaaaGreatDoor
end

section
namespace Go.Proofs.YtehfihnfeakmaaaGreatDoor
open Go
set_option maxRecDepth 10000
set_option maxHeartbeats 4000000
theorem atoA_rg (s : Str) : -9223372036854775808 ≤ (atoA s).1 ∧ (atoA s).1 ≤ 9223372036854775807 := by
  unfold atoA
  rcases h : Lib.atoiAll s with v | _ | _
  · exact Lib.atoiAll_bounds h
  · exact ⟨show (-9223372036854775808 : Int) ≤ 0 by decide, show (0 : Int) ≤ 9223372036854775807 by decide⟩
  · exact Lib.atoiSat_bounds s
theorem pre_iff (s : Str) : s.take 2 = [116, 35] ↔ 2 ≤ s.length ∧ s.take 2 = [116, 35] := ⟨fun h => ⟨by have := congrArg List.length h; rw [List.length_take] at this; simp at this; omega, h⟩, fun h => h.2⟩
theorem hasPrefix_ok (G : Gl) (s : Str) (hs : s.length < 4294967296) (H : List Blk) : ACall Tryz.prog G 147 [.str s, .str [116, 35]] H (fun r H' => H' = H ∧ r = .bool (decide (s.take 2 = [116, 35]))) := by
  by_cases h2 : (2 : Int) ≤ (s.length : Int)
  · have h2n : 2 ≤ s.length := by omega
    refine ACall.of_go TB [] tabOK _ Tryz.func147 rfl (by decide) Tryz.ntmps147 (by simp) rfl (by simp only [initEnv, Nat.reduceAdd]; rfl) fun C R' hR hC hcl hB => ?_; have X := noX; have hC' := congrArg List.length hC
    have X := And.intro X h2
    (refine run ?_; repeat' (first | with_reducible exact trivial | ((with_reducible apply Fork.mk) <;> intro hb) | with_reducible apply Two.mk))
    exact Fin.out hR ⟨rfl, rfl⟩
  · have h2n2 : ¬ 2 ≤ s.length := by omega
    have e : decide (s.take 2 = [116, 35]) = false := decide_eq_false fun h => by have := ((pre_iff s).1 h).1; omega
    rw [e]
    refine ACall.of_go TB [] tabOK _ Tryz.func147 rfl (by decide) Tryz.ntmps147 (by simp) rfl (by simp only [initEnv, Nat.reduceAdd]; rfl) fun C R' hR hC hcl hB => ?_; have X := noX; have hC' := congrArg List.length hC
    have X := And.intro X h2
    (refine run ?_; repeat' (first | with_reducible exact trivial | ((with_reducible apply Fork.mk) <;> intro hb) | with_reducible apply Two.mk))
    refine Fin.out hR ⟨rfl, ?_⟩
    simp only [resSV]
    rw [show decide (((2 : Nat) : Int) ≤ (s.length : Int)) = false from decide_eq_false (by omega), Bool.false_and]
theorem cutP1_ok (G : Gl) (s : Str) (hs : s.length < 4294967296) (H : List Blk) : ACall Tryz.prog G 123 [.str s, .str [116, 35]] H (fun r H' => H' = H ∧ r = .tuple [.str (if s.take 2 = [116, 35] then s.drop 2 else s), .bool (decide (s.take 2 = [116, 35]))]) := by
  have c1 := fun H => hasPrefix_ok G s hs H
  by_cases h : s.take 2 = [116, 35]
  · have h2 := ((pre_iff s).1 h).1
    rw [decide_eq_true h] at *
    rw [if_pos h]
    refine ACall.of_go TB [] tabOK _ Tryz.func123 rfl (by decide) Tryz.ntmps123 (by simp) rfl (by simp only [initEnv, Nat.reduceAdd]; rfl) fun C R' hR hC hcl hB => ?_; have X := noX; have hC' := congrArg List.length hC
    (refine run ?_; repeat' (first | with_reducible exact trivial | ((with_reducible apply Fork.mk) <;> intro hb) | with_reducible apply Two.mk))
    exact Fin.out hR ⟨rfl, by rw [List.take_of_length_le (by rw [List.length_drop]; exact Nat.le_refl _)]; rfl⟩
  · rw [decide_eq_false h] at *
    rw [if_neg h]
    refine ACall.of_go TB [] tabOK _ Tryz.func123 rfl (by decide) Tryz.ntmps123 (by simp) rfl (by simp only [initEnv, Nat.reduceAdd]; rfl) fun C R' hR hC hcl hB => ?_; have X := noX; have hC' := congrArg List.length hC
    (refine run ?_; repeat' (first | with_reducible exact trivial | ((with_reducible apply Fork.mk) <;> intro hb) | with_reducible apply Two.mk))
    exact Fin.out hR ⟨rfl, rfl⟩
theorem cutPrefix_ok (G : Gl) (s : Str) (hs : s.length < 4294967296) (H : List Blk) : ACall Tryz.prog G 80 [.str s, .str [116, 35]] H (fun r H' => H' = H ∧ r = .tuple [.str (if s.take 2 = [116, 35] then s.drop 2 else s), .bool (decide (s.take 2 = [116, 35]))]) := by
  have c1 := fun H => cutP1_ok G s hs H
  refine ACall.of_go TB [] tabOK _ Tryz.func80 rfl (by decide) Tryz.ntmps80 (by simp) rfl (by simp only [initEnv, Nat.reduceAdd]; rfl) fun C R' hR hC hcl hB => ?_; have X := noX; have hC' := congrArg List.length hC
  (refine run ?_; repeat' (first | with_reducible exact trivial | ((with_reducible apply Fork.mk) <;> intro hb) | with_reducible apply Two.mk))
  exact Fin.out hR ⟨rfl, rfl⟩
theorem fold_snoc (l : List Str) (s : Str) (n : Nat) : (l ++ [s]).foldl (fun n s => max n (numS s)) n = max (l.foldl (fun n s => max n (numS s)) n) (numS s) := by rw [List.foldl_append]; rfl
theorem nxt_t {z nb : Bool} {k : Int} {ds : Str} (hnu : nb = (true && z && decide (0 < k) && decide (ds.length ≤ 9) && decide (Lib.itoa k = ds))) (h1 : (z && decide (0 < k) && decide ((ds.length : Int) ≤ 9)) = true) (h2 : Lib.itoa k = ds) : nb = true := by
  rw [hnu]
  simp only [Bool.and_eq_true, decide_eq_true_eq] at h1 ⊢
  exact ⟨⟨⟨⟨trivial, h1.1.1⟩, h1.1.2⟩, by omega⟩, h2⟩
theorem nxt_f1 {z nb : Bool} {k : Int} {ds : Str} (hnu : nb = (true && z && decide (0 < k) && decide (ds.length ≤ 9) && decide (Lib.itoa k = ds))) (h2 : ¬ Lib.itoa k = ds) : nb = false := by
  rw [hnu, decide_eq_false h2, Bool.and_false]
theorem nxt_f2 {z nb : Bool} {k : Int} {ds : Str} (hnu : nb = (true && z && decide (0 < k) && decide (ds.length ≤ 9) && decide (Lib.itoa k = ds))) (h1 : (z && decide (0 < k) && decide ((ds.length : Int) ≤ 9)) = false) : nb = false := by
  rw [hnu]
  simp only [show decide ((ds.length : Int) ≤ 9) = decide (ds.length ≤ 9) from decide_eq_decide.2 (by omega)] at h1
  rw [Bool.true_and, h1, Bool.false_and]
theorem cnext_ok (G : Gl) (hG : GClosed G) (C0 : Cx) (hb0 : G.base = some C0) (hl0 : LibAt C0) (cons : List Cn) (binds : List Bd) (H : List Blk) (hw : bdsWt binds < 4294967295) (hns : ∀ s ∈ bindersP binds, s.length < 4294967296) :
    ACall Tryz.prog G 32 [.agg [.list 4 (cnCells cons), .list 9 (bdCells binds)]] H (fun r H' => H' = H ∧ r = .int .i64 (nxtS binds)) := by
  have hln := bindersP_len binds
  have c1 := fun H => ACall.frz (strs_under _ _) (List.length_map ..) (bindersP_ok G hG cons binds H (by omega))
  have hnx : nxtS binds = (bindersP binds).foldl (fun n s => max n (numS s)) 0 + 1 := rfl
  rw [hnx]
  clear hnx
  have hflt := fun i => fold_lt ((bindersP binds).take i) 0 (by decide)
  refine ACall.of_go TB [] tabOK _ Tryz.func32 rfl (by decide) Tryz.ntmps32 (by simp) rfl (by simp only [initEnv, Nat.reduceAdd]; rfl) fun C R' hR hC hcl hB => ?_; have X := noX; have hC' := congrArg List.length hC
  generalize bindersP binds = l at *
  (refine run ?_; repeat' (first | with_reducible exact trivial | ((with_reducible apply Fork.mk) <;> intro hb) | with_reducible apply Two.mk))
  refine go_loop (fun i : Nat => [(3, .int .i64 (((l.take i).foldl (fun n s => max n (numS s)) 0 : Nat) : Int)), (11, .list 1 (l.map .str)), (12, .int .i64 l.length), (13, .int .i64 (i : Int))]) (fun a => H ++ []) (fun i => l.length - i) (fun i => i ≤ l.length) 0 (Nat.zero_le _) ?_ ?_
  · exact wkS (n0 := H.length) [] hG hB hC' hcl
  rintro K i hi hK
  have hfi := hflt i
  rcases Nat.lt_or_ge i l.length with hlt | hge
  · have g1 : (l.map SV.str)[i]? = some (.str l[i]) := by simp [hlt]
    have hsl := hns _ (List.getElem_mem hlt)
    have hsn := fold_snoc (l.take i) l[i] 0
    rw [← List.take_succ_eq_append_getElem hlt] at hsn
    have hfi2 := hflt (i + 1)
    rw [hsn] at hfi2
    have hnc := nxtC_eq l[i]
    have hnu : nxtC l[i] = (decide (l[i].take 2 = [116, 35]) && (atoA (l[i].drop 2)).2 && decide (0 < (atoA (l[i].drop 2)).1) && decide ((l[i].drop 2).length ≤ 9) && decide (Lib.itoa (atoA (l[i].drop 2)).1 = l[i].drop 2)) := rfl
    generalize l[i] = s at *
    generalize hFF : (l.take i).foldl (fun n s => max n (numS s)) 0 = n at *
    have c2 := fun H => cutPrefix_ok G s hsl H
    by_cases hp : s.take 2 = [116, 35]
    · rw [decide_eq_true hp] at c2 hnu
      rw [if_pos hp] at c2
      have hdl : (s.drop 2).length < 4294967296 := by rw [List.length_drop]; omega
      generalize s.drop 2 = ds at *
      have c3 := fun H => atoi_ok G C0 hb0 hl0 ds hdl H
      obtain ⟨hr1, hr2⟩ := atoA_rg ds
      generalize (atoA ds).2 = z at *
      generalize (atoA ds).1 = k at *
      have c4 := fun H => itoa_ok G C0 hb0 hl0 k hr1 hr2 H
      have X := And.intro noX g1
      (refine run ?_; repeat' (first | with_reducible exact trivial | ((with_reducible apply Fork.mk) <;> intro hb) | with_reducible apply Two.mk))
      · have hnt := nxt_t hnu (by assumption) (by assumption)
        rw [hnt, if_pos rfl] at hnc
        subst hnc
        have hnl := numS_lt s
        have hmm := max_nat n (numS s)
        have X := And.intro noX (And.intro hmm (show IntKind.i64.min ≤ (numS s : Int) ∧ (numS s : Int) ≤ IntKind.i64.max from ⟨by show (-9223372036854775808 : Int) ≤ _; omega, by show _ ≤ (9223372036854775807 : Int); omega⟩))
        (refine run ?_; repeat' (first | with_reducible exact trivial | ((with_reducible apply Fork.mk) <;> intro hb) | with_reducible apply Two.mk))
        refine hK _ _ (i + 1) (by omega) (by omega) ?_
        rw [hsn]
        exact wkS (n0 := H.length) [] hG hB hC' hcl
      · have hnt := nxt_f1 hnu (by assumption)
        rw [hnt, if_neg Bool.false_ne_true] at hnc
        rw [show numS s = 0 by omega, Nat.max_zero] at hsn
        refine hK _ _ (i + 1) (by omega) (by omega) ?_
        rw [hsn]
        exact wkS (n0 := H.length) [] hG hB hC' hcl
      · have hnt := nxt_f2 hnu (by assumption)
        rw [hnt, if_neg Bool.false_ne_true] at hnc
        rw [show numS s = 0 by omega, Nat.max_zero] at hsn
        refine hK _ _ (i + 1) (by omega) (by omega) ?_
        rw [hsn]
        exact wkS (n0 := H.length) [] hG hB hC' hcl
    · rw [decide_eq_false hp] at c2 hnu
      rw [if_neg hp] at c2
      have c3 := fun H => atoi_ok G C0 hb0 hl0 s hsl H
      obtain ⟨hr1, hr2⟩ := atoA_rg s
      generalize (atoA s).2 = z at *
      generalize (atoA s).1 = k at *
      have X := And.intro noX g1
      (refine run ?_; repeat' (first | with_reducible exact trivial | ((with_reducible apply Fork.mk) <;> intro hb) | with_reducible apply Two.mk))
      rw [show nxtC s = false by rw [hnu]; simp only [Bool.false_and], if_neg Bool.false_ne_true] at hnc
      rw [show numS s = 0 by omega, Nat.max_zero] at hsn
      refine hK _ _ (i + 1) (by omega) (by omega) ?_
      rw [hsn]
      exact wkS (n0 := H.length) [] hG hB hC' hcl
  · have hni : ¬ (i : Int) < (l.length : Int) := by omega
    clear hK
    rw [List.take_of_length_le hge] at hfi ⊢
    generalize l.foldl (fun n s => max n (numS s)) 0 = n at *
    have X := And.intro noX hni
    (refine run ?_; repeat' (first | with_reducible exact trivial | ((with_reducible apply Fork.mk) <;> intro hb) | with_reducible apply Two.mk))
    refine finS (n0 := H.length) hR hC' hcl (.same _ rfl) ⟨rfl, ?_⟩
    simp only [resSV, Int.natCast_add, Int.natCast_one]
end Go.Proofs.YtehfihnfeakmaaaGreatDoor
end

section
namespace Go.Proofs.YtehfihnfeakmaaaGreatDoor
open Go
set_option maxRecDepth 10000
set_option maxHeartbeats 4000000
theorem body_le (e : Ex) : (bodyE e).wt ≤ e.wt + 1 := by
  obtain ⟨kd, nm, nn, op, names, subs, binds, alts⟩ := e
  cases subs with
  | nil => show noEx.wt ≤ _; have : noEx.wt = 1 := by decide
           omega
  | cons x r => have := Ex.wt_parts (e := .mk kd nm nn op names (x :: r) binds alts) (p := x) (by rw [Ex.parts_mk]; simp)
                show x.wt ≤ _; omega
theorem ords_len (p : Pg) : (ordsS p).length ≤ p.binds.length ∧ ∀ o ∈ ordsS p, o.nums.length ≤ bdsWt p.binds + 1 := by
  refine ⟨by rw [ordsS, ordI_len]; exact List.length_filter_le .., fun o ho => ?_⟩
  rw [ordsS, ordI, ordN] at ho
  obtain ⟨b, hb, rfl⟩ := List.mem_map.1 ho
  have h1 := bd_wt (List.mem_filter.1 hb).1
  have h2 := body_le b.e
  have h3 := fst_len simS (knoF [] (ordI (lamsB p.binds) 19)) (bodyE b.e).wt (bodyE b.e)
  have h4 := numsF_len b.e.names (fstS (knoF [] (ordI (lamsB p.binds) 19)) (bodyE b.e))
  unfold fstS at h4
  simp only [ordO, fstS]
  omega
end Go.Proofs.YtehfihnfeakmaaaGreatDoor
end

section
namespace Go.Proofs.YtehfihnfeakmaaaGreatDoor
open Go
set_option maxRecDepth 10000
set_option maxHeartbeats 4000000
theorem getOd_prop {Pr : Od → Prop} {l : List Od} (h : ∀ o ∈ l, Pr o) (h0 : Pr noOd) (s : Str) : Pr (getOd l s) := by
  induction l with
  | nil => exact h0
  | cons o r ih =>
    unfold getOd findOd
    split
    · exact h o (List.mem_cons_self ..)
    · exact ih fun x hx => h x (List.mem_cons_of_mem _ hx)
theorem noOd_ok : OdOK noOd := by
  unfold OdOK noOd
  exact ⟨by simp, List.nodup_nil⟩
def itsL (n : Nat) : Str := Lib.itoa (n : Int)
theorem itsL_ok (G : Gl) (C0 : Cx) (hb0 : G.base = some C0) (hl0 : LibAt C0) (n : Nat) (h : n < 4294967296) : (itsL n).length ≤ 20 ∧ ∀ H, ACall Tryz.prog G 82 [.int .i64 (n : Int)] H (fun r H' => H' = H ∧ r = .str (itsL n)) :=
  ⟨itoa_len _ (by omega) (by omega), fun H => itoa_ok G C0 hb0 hl0 n (by omega) (by omega) H⟩
def knS (p : Pg) : List Od := knoF [] (ordsS p)
def runQ (p : Pg) : Pg := ⟨p.cons, (mapN (bdN (thrE itsL (knS p) (bdsWt p.binds))) p.binds (nxtS p.binds)).1⟩
def runS (p : Pg) : Pg := if lintS (runQ p) = 0 then runQ p else p
theorem knS_ok (p : Pg) (s : Str) : OdOK (getOd (knS p) s) := getOd_prop (fun o ho => ords_ok p o ((knoF_mem (ordsS p) [] ho).elim (fun h => by cases h) id)) noOd_ok s
theorem knS_len (p : Pg) (hw : bdsWt p.binds < 67108864) (s : Str) : (getOd (knS p) s).nums.length < 4294967296 :=
  getOd_prop (Pr := fun o => o.nums.length < 4294967296) (fun o ho => by have := (ords_len p).2 o ((knoF_mem (ordsS p) [] ho).elim (fun h => by cases h) id); omega) (by decide) s
theorem runQ_wt (p : Pg) (hw : bdsWt p.binds < 67108864) (h0 : lintS p = 0) : bdsWt (runQ p).binds ≤ 51 * bdsWt p.binds := by
  have hn := nxtS_lt p.binds
  have h := (mapN_wt (bdN (thrE itsL (knS p) (bdsWt p.binds))) Bd.wt p.binds (nxtS p.binds) (fun x hx n' hn' => by
    have h1 := bdsWt_mem hx
    rw [bdsWt_sum] at h1 hw
    have h2 := x.wt_gt
    have := thrE_wt itsL (fun n h => itoa_len _ (by omega) (by omega)) (knS p) (knS_ok p) (bdsWt p.binds) x.e n' (by rw [bdsWt_sum]; omega) ((lint0 h0).shp x hx) (by omega)
    obtain ⟨s, e⟩ := x
    simp only [bdN, Bd.wt, Bd.e, Bd.name] at this h2 ⊢
    omega)).1
  unfold runQ
  simp only
  rw [bdsWt_sum, bdsWt_sum] at *
  omega
theorem Run_bad (G : Gl) (hG : GClosed G) (p : Pg) (H : List Blk) (hw : bdsWt p.binds < 67108864) (hcn : p.cons.length < 1099511627776) (hne : ¬ lintS p = 0) :
    ACall Tryz.prog G 10 [p.sv] H (fun r H' => H' = H ∧ r = .tuple [.agg [.list 4 [], .list 9 []], .int .i64 (lintS p)]) := by
  have c1 := fun H => Orders_bad G hG p H (by omega) hcn hne
  generalize lintS p = S at *
  obtain ⟨cons, binds⟩ := p
  rw [show (Pg.mk cons binds).sv = .agg [.list 4 (cnCells cons), .list 9 (bdCells binds)] from rfl] at *
  refine ACall.of_go TB [] tabOK _ Tryz.func10 rfl (by decide) Tryz.ntmps10 (by simp) rfl (by simp only [initEnv, Nat.reduceAdd]; rfl) fun C R' hR hC hcl hB => ?_; have X := noX; have hC' := congrArg List.length hC
  have X := And.intro noX hne
  (refine run ?_; repeat' (first | with_reducible exact trivial | ((with_reducible apply Fork.mk) <;> intro hb) | with_reducible apply Two.mk))
  exact Fin.tellN (n0 := H.length) hR rfl hC' hcl (.tuple _ _ (.cons _ _ _ _ (.agg _ _ (.cons _ _ _ _ (.nil _) (.cons _ _ _ _ (.nil _) .nil))) (.cons _ _ _ _ (.same _ rfl) .nil))) ⟨rfl, rfl⟩
theorem Run_ok (G : Gl) (hG : GClosed G) (hB0 : Based G 0) (C0 : Cx) (hb0 : G.base = some C0) (hl0 : LibAt C0) (p : Pg) (H : List Blk) (hw : bdsWt p.binds < 67108864) (hcn : p.cons.length < 1073741824) (hns : ∀ s ∈ bindersP p.binds, s.length < 4294967296) (h0 : lintS p = 0) :
    ACall Tryz.prog G 10 [p.sv] H (fun r H' => H' = H ∧ r = .tuple [(runS p).sv, .int .i64 0]) := by
  have c1 := fun H => Orders_ok G hG p H (by omega) (by omega) h0
  have hlint := lint_ok G hG (runQ p) [] (by have := runQ_wt p hw h0; omega) (by unfold runQ; simp only; omega)
  have hks := knS_ok p
  have hkl := knS_len p hw
  have hth := through_ok G hG itsL (fun n h => itsL_ok G C0 hb0 hl0 n h) (knS p) hks hkl (bdsWt p.binds)
  have hthw := thrE_wt itsL (fun n h => itoa_len _ (by omega) (by omega)) (knS p) hks (bdsWt p.binds)
  have hshp := (lint0 h0).shp
  have hrs : (runS p).sv = if lintS (runQ p) = 0 then (runQ p).sv else p.sv := by unfold runS; split <;> rfl
  have hrq : runQ p = ⟨p.cons, (mapN (bdN (thrE itsL (knS p) (bdsWt p.binds))) p.binds (nxtS p.binds)).1⟩ := rfl
  have hnl := nxtS_lt p.binds
  have hol := (ords_len p).1
  have hknd : knS p = knoF [] (ordsS p) := rfl
  rw [hrs]
  clear hrs
  generalize hkk : knS p = kk at *
  generalize ordsS p = O at *
  generalize hLQ : lintS (runQ p) = LQ at *
  clear h0 hLQ hkk hks hkl
  obtain ⟨cons, binds⟩ := p
  simp only at *
  have hle := bdsWt_len binds
  have c2 := fun H => cnext_ok G hG C0 hb0 hl0 cons binds H (by omega) hns
  have hcc := fun H => cloneC_list G hG (cnCells cons) (fun n => cnCells_under n cons) H (by rw [cnCells_len]; omega)
  rw [cnCells_len] at hcc
  have hkn := fun H => knowing_ok G hG O (by omega) H
  rw [← hknd] at hkn
  clear hknd
  rw [show (Pg.mk cons binds).sv = .agg [.list 4 (cnCells cons), .list 9 (bdCells binds)] from rfl] at *
  have under_ints := fun n => cnCells_under n cons
  have esO_under := esD_under
  generalize runQ ⟨cons, binds⟩ = RQ at *
  subst hrq
  rw [show (Pg.mk cons (mapN (bdN (thrE itsL kk (bdsWt binds))) binds (nxtS binds)).1).sv = .agg [.list 4 (cnCells cons), .list 9 (bdCells (mapN (bdN (thrE itsL kk (bdsWt binds))) binds (nxtS binds)).1)] from rfl] at *
  generalize hf : bdN (thrE itsL kk (bdsWt binds)) = f at *
  have hfx : ∀ b n, f b n = (.mk b.name (thrE itsL kk (bdsWt binds) b.e n).1, (thrE itsL kk (bdsWt binds) b.e n).2) := fun b n => by rw [← hf]; rfl
  clear hf
  generalize nxtS binds = nx0 at *
  refine ACall.of_go TB [] tabOK _ Tryz.func10 rfl (by decide) Tryz.ntmps10 (by simp) rfl (by simp only [initEnv, Nat.reduceAdd]; rfl) fun C R' hR hC hcl hB => ?_; have X := noX; have hC' := congrArg List.length hC
  (refine run ?_; repeat' (first | with_reducible exact trivial | ((with_reducible apply Fork.mk) <;> intro hb) | with_reducible apply Two.mk))
  refine xcallS (hkn _) ?_
  rintro r H' ⟨rfl, rfl⟩
  simp only [List.append_assoc, List.cons_append, List.nil_append, List.length_append, List.length_cons, List.length_nil, List.length_set, X, Nat.reduceAdd]
  (refine run ?_; repeat' (first | with_reducible exact trivial | ((with_reducible apply Fork.mk) <;> intro hb) | with_reducible apply Two.mk))
  refine callS (hcc _) ?_
  rintro r H' ⟨rfl, rfl⟩
  simp only [List.append_assoc, List.cons_append, List.nil_append, List.length_append, List.length_cons, List.length_nil, List.length_set, X, Nat.reduceAdd]
  (refine run ?_; repeat' (first | with_reducible exact trivial | ((with_reducible apply Fork.mk) <;> intro hb) | with_reducible apply Two.mk))
  refine go_loop (fun a : Nat × List Bd × Nat => [(1, .ptr H.length 0 0 0), (2, .ptr (H.length + 1) 0 0 0), (6, .ptr (H.length + 3) 0 0 0), (7, .ptr (H.length + 5) 0 0 0), (30, .list 9 (bdCells binds)), (31, .int .i64 binds.length), (32, .int .i64 (a.1 : Int))])
    (fun a => H ++ [.cells 0 2 [.agg [.list 4 (cnCells cons), .list 9 (bdCells binds)]], .cells 0 2 [.agg [.nil, .nil]], .map none (esD kk), .cells 0 2 [.agg [.map (H.length + 2), .int .i64 (a.2.2 : Int)]], .cells 0 4 (cnCells cons), .cells 0 2 [.agg [.sl (H.length + 4) 0 0 cons.length, .sl (H.length + 6) 0 0 a.1]], .cells 0 9 (bdCells a.2.1)]) (fun a => binds.length - a.1)
    (fun a => (a.1 ≤ binds.length ∧ a.2.1.length = a.1 ∧ a.2.2 + bdsWt (binds.drop a.1) ≤ nx0 + bdsWt binds) ∧ mapN f binds nx0 = (a.2.1 ++ (mapN f (binds.drop a.1) a.2.2).1, (mapN f (binds.drop a.1) a.2.2).2)) (0, [], nx0) ⟨⟨Nat.zero_le _, rfl, Nat.le_refl _⟩, rfl⟩ ?_ ?_
  · refine Wk.trans (wk_ghost (id := H.length + 5) (i := 0) (j := 1) 9 ((get_app ..).trans rfl) rfl rfl) ?_
    simp only [set_app, List.set_cons_succ, List.set_cons_zero, List.append_assoc, List.cons_append, List.nil_append, List.length_append, List.length_cons, List.length_nil, Nat.reduceAdd]
    exact wkS (n0 := H.length) [(H.length, 0), (H.length + 1, 0), (H.length + 2, 0), (H.length + 3, 0), (H.length + 4, 0), (H.length + 5, 0), (H.length + 6, 0)] hG hB hC' hcl
  rintro K ⟨i, D, nx⟩ ⟨⟨hi1, hD, hnw⟩, hmp⟩ hK
  simp only at hi1 hD hnw hmp
  dsimp only
  rcases Nat.lt_or_ge i binds.length with hlt | hge
  · have hmem := List.getElem_mem hlt
    have hxw := bdsWt_mem hmem
    have hxg := binds[i].wt_gt
    have hdr := bdsWt_drop hlt
    have hxs := hshp _ hmem
    have hcall := fun L => hth binds[i].e (H ++ (.cells 0 2 [.agg [.list 4 (cnCells cons), .list 9 (bdCells binds)]] :: .cells 0 2 [.agg [.nil, .nil]] :: .map none (esD kk) :: .cells 0 2 [.agg [.map (H.length + 2), .int .i64 (nx : Int)]] :: L)) (H.length + 2) (H.length + 3) 0 nx (by omega) (by omega) hxs (by omega) (by rw [get_app]; rfl) (by rw [get_app]; rfl)
    obtain ⟨hw1, hw2⟩ := hthw binds[i].e nx (by omega) hxs (by omega)
    have hmp2 := mapN_cut hlt hmp
    have hgb : (bdCells binds)[i]? = some (.agg (.str binds[i].name :: binds[i].e.cells)) := by rw [bdCells_map, List.getElem?_map, List.getElem?_eq_getElem hlt, Option.map_some, Bd.sv, Bd.cells_eq]
    simp only [hfx] at hmp2
    generalize binds[i].wt = wb at *
    generalize binds[i].e = x at *
    generalize binds[i].name = xn at *
    generalize thrE itsL kk (bdsWt binds) x nx = yy at *
    obtain ⟨y, nx2⟩ := yy
    simp only at hw1 hw2 hmp2 hcall
    have hsn : bdCells D ++ [.agg (.str xn :: (y.cells ++ []))] = bdCells (D ++ [.mk xn y]) := by rw [List.append_nil]; simp only [bdCells_map, List.map_append, List.map_cons, List.map_nil]; rfl
    have hDl : (bdCells D).length = i := by rw [bdCells_map, List.length_map, hD]
    have X := And.intro noX hgb
    (refine run ?_; repeat' (first | with_reducible exact trivial | ((with_reducible apply Fork.mk) <;> intro hb) | with_reducible apply Two.mk))
    refine xcallS (hcall _) ?_
    rintro v H' ⟨rfl, rfl⟩
    rw [set_app]
    simp only [List.set_cons_succ, List.set_cons_zero]
    have X := And.intro noX (And.intro hgb (And.intro hsn hDl))
    (refine run ?_; repeat' (first | with_reducible exact trivial | ((with_reducible apply Fork.mk) <;> intro hb) | with_reducible apply Two.mk))
    refine hK _ _ (i + 1, D ++ [.mk xn y], nx2) (by simp only; omega) ⟨⟨by simp only; omega, by simp only [List.length_append, List.length_cons, List.length_nil]; omega, by simp only; omega⟩, hmp2⟩ ?_
    dsimp only
    exact wkS (n0 := H.length) [(H.length, 0), (H.length + 1, 0), (H.length + 2, 0), (H.length + 3, 0), (H.length + 4, 0), (H.length + 5, 0), (H.length + 6, 0)] hG hB hC' hcl
  clear hK
  have hni : ¬ (i : Int) < (binds.length : Int) := by omega
  rw [List.drop_eq_nil_of_le hge] at hmp
  simp only [mapN, List.append_nil] at hmp
  rw [hmp] at hlint hR
  simp only at hlint hR
  have hDl : (bdCells D).length = i := by rw [bdCells_map, List.length_map, hD]
  have X := And.intro noX hni
  (refine run ?_; repeat' (first | with_reducible exact trivial | ((with_reducible apply Fork.mk) <;> intro hb) | with_reducible apply Two.mk))
  refine callS (ACall.loan hG hB0 (args2 := [.agg [.list 4 (cnCells cons), .list 9 (bdCells D)]]) (y := .int .i64 LQ) ?_ (fun c c' v h => by simpa only [Rep] using h) (hlint.mono fun r H' h => h.2)) ?_
  · refine .cons _ _ _ _ (.agg _ _ (.cons _ _ _ _ ?_ (.cons _ _ _ _ ?_ .nil))) .nil
    · exact Frz.sf (g := 0) (sz := 4) (vals := cnCells cons) (by rw [get_app]; rfl) (Nat.zero_le _) (by simp) (by rw [List.drop_zero, List.take_of_length_le (by rw [cnCells_len]; exact Nat.le_refl _)]) (cnCells_under _ _)
    · exact Frz.sf (g := 0) (sz := 9) (vals := bdCells D) (by rw [get_app]; rfl) (Nat.zero_le _) (by simp) (by rw [List.drop_zero, List.take_of_length_le (by rw [hDl]; exact Nat.le_refl _)]) (bdCells_under _ _)
  rintro r H' ⟨rfl, rfl⟩
  by_cases hL : LQ = 0
  · rw [if_pos hL] at hR
    have X := And.intro noX hL
    (refine run ?_; repeat' (first | with_reducible exact trivial | ((with_reducible apply Fork.mk) <;> intro hb) | with_reducible apply Two.mk))
    refine Fin.tellN (n0 := H.length) hR rfl hC' hcl (.tuple _ _ (.cons _ _ _ _ (.agg _ _ (.cons _ _ _ _ ?_ (.cons _ _ _ _ ?_ .nil))) (.cons _ _ _ _ (.same _ rfl) .nil))) ⟨rfl, rfl⟩
    · exact Frz.sf (g := 0) (sz := 4) (vals := cnCells cons) (by rw [get_app]; rfl) (by omega) (by simp) (by rw [List.drop_zero, List.take_of_length_le (by rw [cnCells_len]; exact Nat.le_refl _)]) (cnCells_under _ _)
    · exact Frz.sf (g := 0) (sz := 9) (vals := bdCells D) (by rw [get_app]; rfl) (by omega) (by simp) (by rw [List.drop_zero, List.take_of_length_le (by rw [hDl]; exact Nat.le_refl _)]) (bdCells_under _ _)
  · rw [if_neg hL] at hR
    have X := And.intro noX hL
    (refine run ?_; repeat' (first | with_reducible exact trivial | ((with_reducible apply Fork.mk) <;> intro hb) | with_reducible apply Two.mk))
    exact Fin.tellN (n0 := H.length) hR rfl hC' hcl (.same _ (by simp only [resSV, SV.under, SV.underL, cnCells_under, bdCells_under, Bool.and_self])) ⟨rfl, rfl⟩
end Go.Proofs.YtehfihnfeakmaaaGreatDoor
end

section
namespace Go.Proofs.YtehfihnfeakmaaaGreatDoor
open Go
set_option maxRecDepth 10000
set_option maxHeartbeats 4000000
@[simp] theorem cnCells_tkAll (l : List Cn) : List.take l.length (cnCells l) = cnCells l := List.take_of_length_le (by rw [cnCells_len]; exact Nat.le_refl _)
theorem Copy_ok (G : Gl) (hG : GClosed G) (p : Pg) (H : List Blk) (hw : bdsWt p.binds < 4294967296) (hcn : p.cons.length < 1099511627776) : ACall Tryz.prog G 20 [p.sv] H (fun r H' => H' = H ∧ r = p.sv) := by
  obtain ⟨cons, binds⟩ := p
  simp only at hw hcn
  have hle := bdsWt_len binds
  have hclo := clone_ok G hG (bdsWt binds)
  rw [show (Pg.mk cons binds).sv = .agg [.list 4 (cnCells cons), .list 9 (bdCells binds)] from rfl] at *
  have under_ints := fun n => cnCells_under n cons
  refine ACall.of_go TB [5] tabOK _ Tryz.func20 rfl (by decide) Tryz.ntmps20 (by simp) rfl (by simp only [initEnv, Nat.reduceAdd]; rfl) fun C R' hR hC hcl hB => ?_; have X := noX; have hC' := congrArg List.length hC
  (refine run ?_; repeat' (first | with_reducible exact trivial | ((with_reducible apply Fork.mk) <;> intro hb) | with_reducible apply Two.mk))
  refine go_loop (fun i : Nat => [(1, .ptr H.length 0 0 0), (2, .ptr (H.length + 1) 0 0 0), (3, .ptr (H.length + 2) 0 0 0), (4, .int .i64 i)]) (fun i => H ++ [.cells 0 2 [.agg [.list 4 (cnCells cons), .list 9 (bdCells binds)]], .cells 0 2 [.agg [.nil, .nil]], .cells 0 2 [.agg [.list 4 (cnCells cons), .sl (H.length + 3) 0 0 i]], .cells 0 9 (bdCells (binds.take i))]) (fun i => binds.length - i) (fun i => i ≤ binds.length) 0 (Nat.zero_le _) ?_ ?_
  · refine Wk.trans (wk_ghost (id := H.length + 3) (i := 0) (j := 1) 9 ((get_app ..).trans rfl) rfl rfl) ?_
    simp only [set_app, List.set_cons_succ, List.set_cons_zero, List.append_assoc, List.cons_append, List.nil_append, List.length_append, List.length_cons, List.length_nil, Nat.reduceAdd, List.take_zero, bdCells]
    skip
    exact wkS (n0 := H.length) [(H.length, 0), (H.length + 1, 0), (H.length + 3, 0), (H.length + 4, 0)] hG hB hC' hcl
  rintro K i hi hK
  rcases Nat.lt_or_ge i binds.length with hlt | hge
  · have hx := bdsWt_mem (List.getElem_mem hlt)
    have hxg := binds[i].wt_gt
    have hcall := fun L => hclo binds[i].e (H ++ L) (by omega) (by omega)
    have hsn := bdCells_takeS hlt
    have hg : (bdCells binds)[i]? = some (.agg (.str binds[i].name :: binds[i].e.cells)) := by rw [bdCells_map, List.getElem?_map, List.getElem?_eq_getElem hlt, Option.map_some, Bd.sv, Bd.cells_eq]
    have htl : (bdCells (binds.take i)).length = i := by rw [bdCells_map, List.length_map, List.length_take]; omega
    generalize binds[i].e = x at *
    generalize binds[i].name = s at *
    have X := And.intro noX (And.intro hsn (And.intro hg htl))
    (refine run ?_; repeat' (first | with_reducible exact trivial | ((with_reducible apply Fork.mk) <;> intro hb) | with_reducible apply Two.mk))
    refine xcallS (hcall _) ?_
    rintro r H' ⟨rfl, rfl⟩
    (refine run ?_; repeat' (first | with_reducible exact trivial | ((with_reducible apply Fork.mk) <;> intro hb) | with_reducible apply Two.mk))
    refine hK _ _ (i + 1) (by omega) (by omega) ?_
    exact wkS (n0 := H.length) [(H.length, 0), (H.length + 1, 0), (H.length + 2, 0), (H.length + 3, 0)] hG hB hC' hcl
  clear hK
  obtain rfl : i = binds.length := by omega
  rw [List.take_length]
  have hni := Int.lt_irrefl (binds.length : Int)
  have X := And.intro noX hni
  (refine run ?_; repeat' (first | with_reducible exact trivial | ((with_reducible apply Fork.mk) <;> intro hb) | with_reducible apply Two.mk))
  exact finS (n0 := H.length) hR hC' hcl (y := (Pg.mk cons binds).sv) (.agg _ _ (.cons _ _ _ _ (.same _ undS) (.cons _ _ _ _ (Frz.sf (by rw [get_app]; rfl) (by omega) (by simp) (by simp) (bdCells_under _ _)) .nil))) ⟨rfl, rfl⟩
theorem sameP_ok (G : Gl) (hG : GClosed G) (p : Pg) (H : List Blk) (hw : bdsWt p.binds < 549755813888) (hcn : p.cons.length < 1099511627776) : ACall Tryz.prog G 13 [p.sv, p.sv] H (fun r H' => H' = H ∧ r = .bool true) := by
  obtain ⟨cons, binds⟩ := p
  simp only at hw hcn
  have hle := bdsWt_len binds
  rw [show (Pg.mk cons binds).sv = .agg [.list 4 (cnCells cons), .list 9 (bdCells binds)] from rfl] at *
  have under_ints := fun n => cnCells_under n cons
  refine ACall.of_go TB [] tabOK _ Tryz.func13 rfl (by decide) Tryz.ntmps13 (by simp) rfl (by simp only [initEnv, Nat.reduceAdd]; rfl) fun C R' hR hC hcl hB => ?_; have X := noX; have hC' := congrArg List.length hC
  (refine run ?_; repeat' (first | with_reducible exact trivial | ((with_reducible apply Fork.mk) <;> intro hb) | with_reducible apply Two.mk))
  refine go_loop (fun i : Nat => [(2, .ptr H.length 0 0 0), (3, .ptr (H.length + 1) 0 0 0), (5, .int .i64 i)]) (fun i => H ++ [.cells 0 2 [.agg [.list 4 (cnCells cons), .list 9 (bdCells binds)]], .cells 0 2 [.agg [.list 4 (cnCells cons), .list 9 (bdCells binds)]]]) (fun i => cons.length - i) (fun i => i ≤ cons.length) 0 (Nat.zero_le _) ?_ ?_
  · exact wkS (n0 := H.length) [(H.length, 0), (H.length + 1, 0)] hG hB hC' hcl
  rintro K i hi hK
  rcases Nat.lt_or_ge i cons.length with hlt | hge
  · have hg : (cnCells cons)[i]? = some (.agg [.str cons[i].name, .int .i64 cons[i].arity, .int .i64 cons[i].tag, .int .i64 cons[i].family]) := cnCells_get cons hlt
    generalize cons[i] = c at *
    have X := And.intro noX hg
    (refine run ?_; repeat' (first | with_reducible exact trivial | ((with_reducible apply Fork.mk) <;> intro hb) | with_reducible apply Two.mk))
    refine hK _ _ (i + 1) (by omega) (by omega) ?_
    exact wkS (n0 := H.length) [(H.length, 0), (H.length + 1, 0)] hG hB hC' hcl
  clear hK
  obtain rfl : i = cons.length := by omega
  have X := And.intro noX (Int.lt_irrefl (cons.length : Int))
  (refine run ?_; repeat' (first | with_reducible exact trivial | ((with_reducible apply Fork.mk) <;> intro hb) | with_reducible apply Two.mk))
  refine go_loop (fun i : Nat => [(2, .ptr H.length 0 0 0), (3, .ptr (H.length + 1) 0 0 0), (6, .int .i64 i)]) (fun i => H ++ [.cells 0 2 [.agg [.list 4 (cnCells cons), .list 9 (bdCells binds)]], .cells 0 2 [.agg [.list 4 (cnCells cons), .list 9 (bdCells binds)]]]) (fun i => binds.length - i) (fun i => i ≤ binds.length) 0 (Nat.zero_le _) ?_ ?_
  · exact wkS (n0 := H.length) [(H.length, 0), (H.length + 1, 0)] hG hB hC' hcl
  rintro K i hi hK
  rcases Nat.lt_or_ge i binds.length with hlt | hge
  · have hx := bdsWt_mem (List.getElem_mem hlt)
    have hxg := binds[i].wt_gt
    have c1 := fun H => rsame_ok G hG binds[i].e.wt binds[i].e binds[i].e H (Nat.le_refl _) (by omega) (by omega)
    rw [smE_self _ _ (Nat.le_refl _)] at c1
    have hg : (bdCells binds)[i]? = some (.agg (.str binds[i].name :: binds[i].e.cells)) := by rw [bdCells_map, List.getElem?_map, List.getElem?_eq_getElem hlt, Option.map_some, Bd.sv, Bd.cells_eq]
    generalize binds[i].e = x at *
    generalize binds[i].name = s at *
    have X := And.intro noX hg
    (refine run ?_; repeat' (first | with_reducible exact trivial | ((with_reducible apply Fork.mk) <;> intro hb) | with_reducible apply Two.mk))
    refine hK _ _ (i + 1) (by omega) (by omega) ?_
    exact wkS (n0 := H.length) [(H.length, 0), (H.length + 1, 0)] hG hB hC' hcl
  clear hK
  obtain rfl : i = binds.length := by omega
  have X := And.intro noX (Int.lt_irrefl (binds.length : Int))
  (refine run ?_; repeat' (first | with_reducible exact trivial | ((with_reducible apply Fork.mk) <;> intro hb) | with_reducible apply Two.mk))
  exact finS (n0 := H.length) hR hC' hcl (.same _ rfl) ⟨rfl, rfl⟩
theorem orders_ok (G : Gl) (hG : GClosed G) (l : List Od) (H : List Blk) (hl : l.length < 1099511627776) (hn : ∀ o ∈ l, o.nums.length < 1099511627776) : ACall Tryz.prog G 12 [.list 3 (odCells l), .list 3 (odCells l)] H (fun r H' => H' = H ∧ r = .bool true) := by
  have under_ints := odCells_under
  refine ACall.of_go TB [] tabOK _ Tryz.func12 rfl (by decide) Tryz.ntmps12 (by simp) rfl (by simp only [initEnv, Nat.reduceAdd]; rfl) fun C R' hR hC hcl hB => ?_; have X := noX; have hC' := congrArg List.length hC
  (refine run ?_; repeat' (first | with_reducible exact trivial | ((with_reducible apply Fork.mk) <;> intro hb) | with_reducible apply Two.mk))
  refine go_loop (fun i : Nat => [(0, .list 3 (odCells l)), (1, .list 3 (odCells l)), (5, .int .i64 i)]) (fun i => H) (fun i => l.length - i) (fun i => i ≤ l.length) 0 (Nat.zero_le _) ?_ ?_
  · exact Wk.sub (by simp [subEnv, look])
  rintro K i hi hK
  rcases Nat.lt_or_ge i l.length with hlt | hge
  · have hoi : l[i]? = some l[i] := List.getElem?_eq_getElem hlt
    have hol := hn l[i] (List.getElem_mem hlt)
    generalize l[i] = o at *
    obtain ⟨nm, ar, ns⟩ := o
    simp only at hol
    have X := And.intro noX hoi
    (refine run ?_; repeat' (first | with_reducible exact trivial | ((with_reducible apply Fork.mk) <;> intro hb) | with_reducible apply Two.mk))
    refine go_loop (fun k : Nat => [(0, .list 3 (odCells l)), (1, .list 3 (odCells l)), (5, .int .i64 i), (6, .int .i64 k)]) (fun i => H) (fun k => ns.length - k) (fun k => k ≤ ns.length) 0 (Nat.zero_le _) ?_ ?_
    · exact Wk.sub (by simp [subEnv, look])
    rintro K2 k hk hK2
    rcases Nat.lt_or_ge k ns.length with hltk | hgek
    · have gk : (intL ns)[k]? = some (.int .i64 ns[k]) := by simp [intL, hltk]
      generalize ns[k] = v at *
      have X := And.intro noX (And.intro hoi gk)
      (refine run ?_; repeat' (first | with_reducible exact trivial | ((with_reducible apply Fork.mk) <;> intro hb) | with_reducible apply Two.mk))
      refine hK2 _ _ (k + 1) (by omega) (by omega) ?_
      exact Wk.sub (by simp [subEnv, look])
    · have hnk : ¬ (k : Int) < (ns.length : Int) := by omega
      clear hK2
      have X := And.intro noX (And.intro hoi hnk)
      (refine run ?_; repeat' (first | with_reducible exact trivial | ((with_reducible apply Fork.mk) <;> intro hb) | with_reducible apply Two.mk))
      refine hK _ _ (i + 1) (by omega) (by omega) ?_
      exact Wk.sub (by simp [subEnv, look])
  clear hK
  have hni : ¬ (i : Int) < (l.length : Int) := by omega
  have X := And.intro noX hni
  (refine run ?_; repeat' (first | with_reducible exact trivial | ((with_reducible apply Fork.mk) <;> intro hb) | with_reducible apply Two.mk))
  exact Fin.out hR ⟨rfl, rfl⟩
end Go.Proofs.YtehfihnfeakmaaaGreatDoor
end

section
namespace Go.Proofs.YtehfihnfeakmaaaGreatDoor
open Go
set_option maxRecDepth 10000
set_option maxHeartbeats 4000000
theorem rev_get {α : Type} {l : List α} {j : Nat} (h : j < l.length) : l.reverse[j]? = some l[l.length - 1 - j] := by
  rw [List.getElem?_eq_getElem (by rw [List.length_reverse]; exact h), List.getElem_reverse]
theorem rev_take {α : Type} {l : List α} {j : Nat} (h : j < l.length) : l.reverse.take (j + 1) = l.reverse.take j ++ [l[l.length - 1 - j]] := by
  rw [List.take_add_one, rev_get h]; rfl
@[simp] theorem odCells_tkAll (l : List Od) : List.take l.length (odCells l) = odCells l := List.take_of_length_le (by rw [odCells_len]; exact Nat.le_refl _)
@[simp] theorem bdCells_revtk (l : List Bd) : List.take l.length (bdCells l.reverse) = bdCells l.reverse := List.take_of_length_le (by rw [bdCells_map, List.length_map, List.length_reverse]; exact Nat.le_refl _)
theorem demandKeeps_ok (G : Gl) (hG : GClosed G) (hB0 : Based G 0) (C0 : Cx) (hb0 : G.base = some C0) (hl0 : LibAt C0) (haw : ∀ H, ACall Tryz.prog G 7 [] H (fun r H' => H' = H ∧ r = .bool true)) (p : Pg) (H : List Blk)
    (hpw : bdsWt p.binds < 67108864) (hcn : p.cons.length < 1073741824) (hns : ∀ s ∈ bindersP p.binds, s.length < 4294967296) :
    ACall Tryz.prog G 5 [p.sv] H (fun r H' => H' = H ∧ r = .bool true) := by
  have hbad := fun H => Orders_bad G hG p H (by omega) (by omega)
  have hgood := fun H => Orders_ok G hG p H (by omega) (by omega)
  have hrb := fun H => Run_bad G hG p H hpw (by omega)
  have hrg := fun H => Run_ok G hG hB0 C0 hb0 hl0 p H hpw hcn hns
  have hcp := fun H => Copy_ok G hG p H (by omega) (by omega)
  have hsp := fun H => sameP_ok G hG p H (by omega) (by omega)
  obtain ⟨hol1, hol2⟩ := ords_len p
  have hblw := bdsWt_len p.binds
  have hor := fun H => orders_ok G hG (ordsS p) H (by omega) (fun o ho => by have := hol2 o ho; omega)
  have hbl := hblw
  have hlr := lint_rev p.cons p.binds
  have hor2 := ords_rev p.cons p.binds
  have hwr : bdsWt p.binds.reverse = bdsWt p.binds := by rw [bdsWt_sum, bdsWt_sum, List.map_reverse]; exact (List.reverse_perm _).sum_nat
  have hbad2 := fun H => Orders_bad G hG ⟨p.cons, p.binds.reverse⟩ H (by simp only; omega) (by simp only; omega)
  have hgood2 := fun H => Orders_ok G hG ⟨p.cons, p.binds.reverse⟩ H (by simp only; omega) (by simp only; omega)
  rw [hlr] at hbad2 hgood2
  generalize hRS : runS p = RS at *
  obtain ⟨cons, binds⟩ := p
  simp only at *
  generalize ordsS ⟨cons, binds⟩ = O at *
  generalize lintS ⟨cons, binds⟩ = S at *
  rw [show (Pg.mk cons binds).sv = .agg [.list 4 (cnCells cons), .list 9 (bdCells binds)] from rfl] at *
  rw [show (Pg.mk cons binds.reverse).sv = .agg [.list 4 (cnCells cons), .list 9 (bdCells binds.reverse)] from rfl] at *
  have under_ints := fun n => cnCells_under n cons
  have under_bools := odCells_under
  have c1 := haw
  refine ACall.of_go TB [10] tabOK _ Tryz.func5 rfl (by decide) Tryz.ntmps5 (by simp) rfl (by simp only [initEnv, Nat.reduceAdd]; rfl) fun C R' hR hC hcl hB => ?_; have X := noX; have hC' := congrArg List.length hC
  (refine run ?_; repeat' (first | with_reducible exact trivial | ((with_reducible apply Fork.mk) <;> intro hb) | with_reducible apply Two.mk))
  refine callS (Small_ok G hG cons binds _ (by omega) (by omega) hns) ?_
  rintro r H' ⟨rfl, b, rfl⟩
  cases b
  · (refine run ?_; repeat' (first | with_reducible exact trivial | ((with_reducible apply Fork.mk) <;> intro hb) | with_reducible apply Two.mk))
    exact finS (n0 := H.length) hR hC' hcl (.same _ rfl) ⟨rfl, rfl⟩
  (refine run ?_; repeat' (first | with_reducible exact trivial | ((with_reducible apply Fork.mk) <;> intro hb) | with_reducible apply Two.mk))
  refine callS (hcp _) ?_
  rintro r H' ⟨rfl, rfl⟩
  refine go_wkO [(1, .ptr H.length 0 0 0), (17, .agg [.list 4 (cnCells cons), .list 9 (bdCells binds)])] (H ++ [.cells 0 2 [.agg [.list 4 (cnCells cons), .list 9 (bdCells binds)]]]) (wkS (n0 := H.length) [(H.length, 0)] hG hB hC' hcl) ?_
  have c2 : ∀ H, ACall Tryz.prog G 8 [.agg [.list 4 (cnCells cons), .list 9 (bdCells binds)]] H (fun r H' => H' = H ∧ r = .tuple [.list 3 (odCells (if S = 0 then O else [])), .int .i64 S]) := fun H => by
    by_cases h0 : S = 0
    · rw [if_pos h0, h0]; exact hgood H h0
    · rw [if_neg h0]; exact hbad H h0
  have c3 : ∀ H, ACall Tryz.prog G 10 [.agg [.list 4 (cnCells cons), .list 9 (bdCells binds)]] H (fun r H' => H' = H ∧ r = .tuple [if S = 0 then RS.sv else .agg [.list 4 [], .list 9 []], .int .i64 S]) := fun H => by
    by_cases h0 : S = 0
    · rw [if_pos h0, h0]; exact hrg H h0
    · rw [if_neg h0]; exact hrb H h0
  have c4 := hsp
  have hq : ∀ H, ACall Tryz.prog G 8 [.agg [.list 4 (cnCells cons), .list 9 (bdCells binds.reverse)]] H (fun r H' => H' = H ∧ r = .tuple [.list 3 (odCells (if S = 0 then O.reverse else [])), .int .i64 S]) := fun H => by
    by_cases h0 : S = 0
    · rw [if_pos h0, h0, ← hor2 h0]; exact hgood2 H h0
    · rw [if_neg h0]; exact hbad2 H h0
  clear hgood hbad hrb hrg hgood2 hbad2
  generalize (if S = 0 then RS.sv else .agg [.list 4 [], .list 9 []]) = RV at *
  (refine run ?_; repeat' (first | with_reducible exact trivial | ((with_reducible apply Fork.mk) <;> intro hb) | with_reducible apply Two.mk))
  refine go_loop (fun j : Nat => [(1, .ptr H.length 0 0 0), (4, .list 3 (odCells (if S = 0 then O else []))), (5, .int .i64 S), (6, .ptr (H.length + 1) 0 0 0), (7, .int .i64 ((binds.length : Int) - 1 - j))]) (fun j => H ++ [.cells 0 2 [.agg [.list 4 (cnCells cons), .list 9 (bdCells binds)]], .cells 0 2 [.agg [.list 4 (cnCells cons), .sl (H.length + 2) 0 0 j]], .cells 0 9 (bdCells (binds.reverse.take j))]) (fun j => binds.length - j) (fun j => j ≤ binds.length) 0 (Nat.zero_le _) ?_ ?_
  · refine Wk.trans (wk_ghost (id := H.length + 2) (i := 0) (j := 1) 9 ((get_app ..).trans rfl) rfl rfl) ?_
    simp only [set_app, List.set_cons_succ, List.set_cons_zero, List.append_assoc, List.cons_append, List.nil_append, List.length_append, List.length_cons, List.length_nil, Nat.reduceAdd, List.take_zero, bdCells, Int.natCast_zero, Int.sub_zero]
    exact wkS (n0 := H.length) [(H.length, 0), (H.length + 2, 0), (H.length + 3, 0)] hG hB hC' hcl
  rintro K j hj hK
  rcases Nat.lt_or_ge j binds.length with hlt | hge
  · have hrt := rev_take hlt
    have hidx : binds.length - 1 - j < binds.length := by omega
    have hg : (bdCells binds)[binds.length - 1 - j]? = some (.agg (.str binds[binds.length - 1 - j].name :: binds[binds.length - 1 - j].e.cells)) := by rw [bdCells_map, List.getElem?_map, List.getElem?_eq_getElem hidx, Option.map_some, Bd.sv, Bd.cells_eq]
    have hsn : bdCells (binds.reverse.take j) ++ [.agg (.str binds[binds.length - 1 - j].name :: binds[binds.length - 1 - j].e.cells)] = bdCells (binds.reverse.take (j + 1)) := by rw [hrt]; simp only [bdCells_map, List.map_append, List.map_cons, List.map_nil, Bd.sv, Bd.cells_eq]
    have htl : (bdCells (binds.reverse.take j)).length = j := by rw [bdCells_map, List.length_map, List.length_take, List.length_reverse]; omega
    have hge0 : (0 : Int) ≤ (binds.length : Int) - 1 - j := by omega
    have hltl : (binds.length : Int) - 1 - j < (binds.length : Int) := by omega
    have htn : ((binds.length : Int) - 1 - j).toNat = binds.length - 1 - j := by omega
    generalize binds[binds.length - 1 - j] = b at *
    obtain ⟨bn, be⟩ := b
    simp only [Bd.name, Bd.e] at hg hsn
    have X := And.intro noX (And.intro hg (And.intro hsn (And.intro htl (And.intro hge0 (And.intro hltl htn)))))
    (refine run ?_; repeat' (first | with_reducible exact trivial | ((with_reducible apply Fork.mk) <;> intro hb) | with_reducible apply Two.mk))
    refine hK _ _ (j + 1) (by omega) (by omega) ?_
    rw [show (binds.length : Int) - 1 - ((j + 1 : Nat) : Int) = (binds.length : Int) - 1 - j - 1 by omega]
    exact wkS (n0 := H.length) [(H.length, 0), (H.length + 1, 0), (H.length + 2, 0)] hG hB hC' hcl
  clear hK
  obtain rfl : j = binds.length := by omega
  rw [List.take_of_length_le (by rw [List.length_reverse]; exact Nat.le_refl _)]
  have hng : ¬ (0 : Int) ≤ (binds.length : Int) - 1 - (binds.length : Int) := by omega
  have X := And.intro noX hng
  (refine runB ?_; repeat' (first | with_reducible exact trivial | ((with_reducible apply Fork.mk) <;> intro hb) | with_reducible apply Two.mk))
  refine go_wkO [(51, .agg [.list 4 (cnCells cons), .list 9 (bdCells binds.reverse)]), (4, .list 3 (odCells (if S = 0 then O else []))), (5, .int .i64 S)] (H ++ []) (wkS (n0 := H.length) [] hG hB hC' hcl) ?_
  refine callS (hq _) ?_
  rintro r H' ⟨rfl, rfl⟩
  by_cases h0 : S = 0
  rotate_left
  · have X := And.intro noX h0
    (refine run ?_; repeat' (first | with_reducible exact trivial | ((with_reducible apply Fork.mk) <;> intro hb) | with_reducible apply Two.mk))
    exact finS (n0 := H.length) hR hC' hcl (.same _ rfl) ⟨rfl, rfl⟩
  subst h0
  rw [if_pos rfl, if_pos rfl]
  have hORl : (O.reverse).length = O.length := List.length_reverse
  have X := And.intro noX hORl
  (refine run ?_; repeat' (first | with_reducible exact trivial | ((with_reducible apply Fork.mk) <;> intro hb) | with_reducible apply Two.mk))
  refine go_loop (fun j : Nat => [(4, .list 3 (odCells O)), (8, .list 3 (odCells O.reverse)), (10, .sl H.length 0 0 j), (11, .int .i64 ((O.length : Int) - 1 - j))]) (fun j => H ++ [.cells 0 3 (odCells (O.take j))]) (fun j => O.length - j) (fun j => j ≤ O.length) 0 (Nat.zero_le _) ?_ ?_
  · simp only [List.take_zero, show odCells [] = [] from rfl, Int.natCast_zero, Int.sub_zero]
    exact wkS (n0 := H.length) [(H.length, 0)] hG hB hC' hcl
  rintro K j hj hK
  rcases Nat.lt_or_ge j O.length with hlt | hge
  · have hidx : O.length - 1 - j < O.reverse.length := by rw [List.length_reverse]; omega
    have hrg : O.reverse[O.length - 1 - j]? = some O[j] := by
      rw [rev_get (by omega)]
      congr 1
      congr 1
      omega
    have hsn : odCells (O.take j) ++ [.agg O[j].cells] = odCells (O.take (j + 1)) := by rw [List.take_succ_eq_append_getElem hlt]; simp only [odCells, List.map_append, List.map_cons, List.map_nil]; rfl
    have htl : (odCells (O.take j)).length = j := by rw [odCells_len, List.length_take]; omega
    have hge0 : (0 : Int) ≤ (O.length : Int) - 1 - j := by omega
    have hltl : (O.length : Int) - 1 - j < (O.length : Int) := by omega
    have htn : ((O.length : Int) - 1 - j).toNat = O.length - 1 - j := by omega
    generalize O[j] = o at *
    obtain ⟨on, oa, ns⟩ := o
    have hoc : (Od.mk on oa ns).cells = [.str on, .int .i64 oa, .list 1 (intL ns)] := rfl
    rw [hoc] at hsn
    have X := And.intro noX (And.intro hORl (And.intro hrg (And.intro hsn (And.intro htl (And.intro hge0 (And.intro hltl htn))))))
    (refine run ?_; repeat' (first | with_reducible exact trivial | ((with_reducible apply Fork.mk) <;> intro hb) | with_reducible apply Two.mk))
    refine hK _ _ (j + 1) (by omega) (by omega) ?_
    rw [show (O.length : Int) - 1 - ((j + 1 : Nat) : Int) = (O.length : Int) - 1 - j - 1 by omega]
    exact wkS (n0 := H.length) [(H.length, 0)] hG hB hC' hcl
  clear hK
  obtain rfl : j = O.length := by omega
  rw [List.take_length]
  have hng : ¬ (0 : Int) ≤ (O.length : Int) - 1 - (O.length : Int) := by omega
  have X := And.intro noX hng
  (refine runB ?_; repeat' (first | with_reducible exact trivial | ((with_reducible apply Fork.mk) <;> intro hb) | with_reducible apply Two.mk))
  refine go_wkO [(83, .list 3 (odCells O)), (84, .list 3 (odCells O))] (H ++ []) (wkS (n0 := H.length) [] hG hB hC' hcl) ?_
  have c5 := hor
  have X := noX
  (refine run ?_; repeat' (first | with_reducible exact trivial | ((with_reducible apply Fork.mk) <;> intro hb) | with_reducible apply Two.mk))
  exact finS (n0 := H.length) hR hC' hcl (.same _ rfl) ⟨rfl, rfl⟩
end Go.Proofs.YtehfihnfeakmaaaGreatDoor
end

section
namespace Go.Proofs.YtehfihnfeakmaaaGreatDoor
open Go
set_option maxRecDepth 100000
set_option maxHeartbeats 4000000
theorem awake_run (l : Option Cx) : isT (evF2 Tryz.prog ⟨[], l⟩ TB owA gcA ovA 5000 40 7 [] []) = true := by kernel_rfl
def isS (s : Str) : Option (SV × List Blk) → Bool
  | some (.str t, _) => SV.same (.str s) (.str t)
  | _ => false
theorem itoa_run1 (l : Option Cx) : isS (its0 1) (evF2 Tryz.prog ⟨[], l⟩ TB owA gcA (fun _ _ _ => none) 5000 40 82 [.int .i64 1] []) = true := by kernel_rfl
theorem itoa_run2 (l : Option Cx) : isS (its0 2) (evF2 Tryz.prog ⟨[], l⟩ TB owA gcA (fun _ _ _ => none) 5000 40 82 [.int .i64 2] []) = true := by kernel_rfl
end Go.Proofs.YtehfihnfeakmaaaGreatDoor
end

section
namespace Go.Proofs.YtehfihnfeakmaaaGreatDoor
open Go
set_option maxRecDepth 100000
set_option maxHeartbeats 4000000
theorem sortS_at {l s : List Str} (h1 : s.Perm l) (h2 : s.Pairwise (fun x y => decide (x ≤ y) = true)) : sortS l = s := by
  rw [← sortS_eq h1, sortS]
  exact List.mergeSort_of_pairwise h2
def sN0 : List Str := [[77, 97, 105, 110, 46, 109, 97, 105, 110], [97], [98], [102], [115], [120]]
def sN1 : List Str := [[77, 97, 105, 110, 46, 109, 97, 105, 110], [97], [98], [102], [115], [116, 35, 49], [116, 35, 50], [120]]
theorem bad0 : badNames P0.binds = false := by
  have h : sortS (bindersP P0.binds) = sN0 := sortS_at (by decide +kernel) (by decide +kernel)
  unfold badNames
  rw [h]
  decide +kernel
theorem bad1 : badNames Q0.binds = false := by
  have h : sortS (bindersP Q0.binds) = sN1 := sortS_at (by decide +kernel) (by decide +kernel)
  unfold badNames
  rw [h]
  decide +kernel
theorem lintP0 : lintS P0 = 0 := by
  unfold lintS
  rw [bad0]
  decide +kernel
theorem lintQ0 : lintS Q0 = 0 := by
  unfold lintS
  rw [bad1]
  decide +kernel
theorem ordP0 : ordsS P0 = O0 := by kernel_rfl
theorem names_ok : ∀ (f : FuncId) (fn : Func), Tryz.prog.funcs[f]? = some fn → (fn.name == "runtime.NumGoroutine") = false := by
  intro f fn h
  have hall : (Tryz.prog.funcs.toList.all fun fn => !(fn.name == "runtime.NumGoroutine")) = true := by decide +kernel
  have hm : fn ∈ Tryz.prog.funcs.toList := by
    rw [← Array.getElem?_toList] at h
    exact List.mem_of_getElem? h
  have := List.all_eq_true.1 hall fn hm
  simpa using this
theorem itoa_at (G : Gl) (hG : GClosed G) (hB : Based G 0) (hl : G.l = []) (n : Nat) (hn : n = 1 ∨ n = 2) (H : List Blk) : ACall Tryz.prog G 82 [.int .i64 (n : Int)] H (fun r H' => H' = H ∧ r = .str (its0 n)) := by
  obtain ⟨l, b⟩ := G
  simp only at hl
  subst hl
  have hev := evF2_ok (P := Tryz.prog) (G := ⟨[], b⟩) (T := TB) (ow := owA) (gc := gcA) (ov := fun _ _ _ => none) (fuel := 5000) hG (fun f xs H x H' h => by cases h) tabOK mixOK names_ok 40
  have key : ∀ m : Int, isS (its0 n) (evF2 Tryz.prog ⟨[], b⟩ TB owA gcA (fun _ _ _ => none) 5000 40 82 [.int .i64 m] []) = true → ACall Tryz.prog ⟨[], b⟩ 82 [.int .i64 m] H (fun r H' => H' = H ∧ r = .str (its0 n)) := fun m hr => by
    generalize hE : evF2 Tryz.prog ⟨[], b⟩ TB owA gcA (fun _ _ _ => none) 5000 40 82 [.int .i64 m] [] = E at hr
    cases E with
    | none => cases hr
    | some r =>
      obtain ⟨v, H1⟩ := r
      cases v with
      | str t =>
        have he := SV.same_both.1 _ _ (show SV.same (.str (its0 n)) (.str t) = true from hr)
        rw [he]
        exact ACall.loan hG hB (FrzL.same rfl) (fun c c' v h => by simpa only [Rep] using h) ((hev _ _ _ _ _ hE).mono fun r H2 h => h.2)
      | _ => cases hr
  rcases hn with rfl | rfl
  · exact key 1 (itoa_run1 b)
  · exact key 2 (itoa_run2 b)
theorem ovA_ok (G : Gl) (hG : GClosed G) (hl : G.l = []) (C0 : Cx) (hb : G.base = some C0) (he : ErrAt C0) : RCok Tryz.prog G ovA := by
  have hB : Based G 0 := fun C1 h1 => by rw [hb] at h1; cases h1; rw [he.1]; exact Nat.le_refl _
  intro f xs H x H' h
  unfold ovA at h
  split at h
  · rename_i s
    cases hf : (Nat.beq f 81 && decide (s.length ≤ 18) && (Lib.atoi s).isNone) with
    | false => rw [hf] at h; cases h
    | true =>
      rw [hf, cond_true] at h
      simp only [Bool.and_eq_true, decide_eq_true_eq, Option.isNone_iff_eq_none] at hf
      obtain ⟨⟨hf, hl⟩, ha⟩ := hf
      have hf := Nat.eq_of_beq_eq_true hf
      subst hf
      cases h
      refine ACall.of_opaque (by decide) ⟨_, Tryz.func81, by decide, rfl⟩ (fun c hg => ?_) H
      obtain ⟨ev, h1, h2⟩ := he.see (hg.2 C0 hb)
      refine (Tryz.strconv_Atoi_err ⟨⟨s⟩⟩ (show s.length ≤ 18 from hl) ha ev c.w h1 h2).mono ?_
      rintro e w' ⟨N, rfl, _, _, hbw⟩
      exact ⟨_, rfl, rfl, hbw⟩
  · rename_i sz xs
    unfold ovC at h
    generalize hc : ((Nat.beq f 57 && Nat.beq sz 1) || (Nat.beq f 83 && Nat.beq sz 8) || (Nat.beq f 84 && Nat.beq sz 9) || (Nat.beq f 85 && Nat.beq sz 12) || (Nat.beq f 33 && Nat.beq sz 4)) = cl at h
    cases hc2 : (cl && SV.underL 0 xs && Nat.blt xs.length 1000) with
    | false => rw [hc2] at h; cases h
    | true =>
      rw [hc2, cond_true] at h
      cases h
      simp only [Bool.and_eq_true] at hc2
      obtain ⟨⟨h1, h2⟩, h3⟩ := hc2
      subst h1
      have h3 : xs.length < 1000 := by simpa [Nat.blt_eq] using h3
      have hu : ∀ n, SV.underL n xs = true := fun n => (SV.below_mono_both (Nat.zero_le n)).2 _ h2
      simp only [Bool.or_eq_true, Bool.and_eq_true] at hc
      rcases hc with (((hc | hc) | hc) | hc) | hc <;> (obtain ⟨a1, a2⟩ := hc; have a1 := Nat.eq_of_beq_eq_true a1; have a2 := Nat.eq_of_beq_eq_true a2; subst a1; subst a2)
      · exact cloneS_list G hG xs hu H (by omega)
      · exact cloneE_list G hG xs hu H (by omega)
      · exact cloneB_list G hG xs hu H (by omega)
      · exact cloneA_list G hG xs hu H (by omega)
      · exact cloneC_list G hG xs hu H (by omega)
  · rename_i n
    cases hf : Nat.beq f 23 with
    | false => rw [hf] at h; cases h
    | true =>
      rw [hf, cond_true] at h
      have hf := Nat.eq_of_beq_eq_true hf
      subst hf
      cases h
      exact prim_nil G hG n H
  · rename_i y _ _
    cases hf : Nat.beq f 8 with
    | true =>
      rw [hf, cond_true] at h
      have hf := Nat.eq_of_beq_eq_true hf
      subst hf
      cases hn : nilV 30 y P0.sv with
      | false => rw [hn] at h; cases h
      | true =>
        rw [hn, cond_true] at h
        cases h
        have := Orders_ok G hG P0 H (by decide +kernel) (by decide +kernel) lintP0
        rw [ordP0] at this
        exact this.nilA hn
    | false =>
      rw [hf, cond_false] at h
      cases hf2 : Nat.beq f 19 with
      | false => rw [hf2] at h; cases h
      | true =>
        rw [hf2, cond_true] at h
        have hf2 := Nat.eq_of_beq_eq_true hf2
        subst hf2
        split at h
        · rename_i z hz
          cases hn : nilV 30 z Q0.sv with
          | false => rw [hn] at h; cases h
          | true =>
            rw [hn, cond_true] at h
            cases h
            have := lint_ok G hG Q0 [] (by decide +kernel) (by decide +kernel)
            rw [lintQ0] at this
            exact ACall.loan hG hB (.cons _ _ _ _ (frzV_ok _ _ _ hz) .nil) (fun c c' v h => by simpa only [Rep] using h) ((this.nilA hn).mono fun r H2 h => h.2)
        · cases h
  · rename_i sb g0 k nm n op names id g xb xa y
    cases hf : (Nat.beq f 88 && SV.same (.agg [k, nm, n, op, names]) (.agg [.int .i64 4, .str [], .int .i64 0, .int .i64 0, .list 1 []]) && SV.same y (.list 1 (intL [0, 1]))) with
    | false => rw [hf] at h; cases h
    | true =>
      rw [hf, cond_true] at h
      simp only [Bool.and_eq_true] at hf
      obtain ⟨⟨hf, h1⟩, h2⟩ := hf
      have hf := Nat.eq_of_beq_eq_true hf
      subst hf
      have h1 := SV.same_both.1 _ _ h1
      have h2 := SV.same_both.1 _ _ h2
      cases h1
      subst h2
      split at h
      · rename_i g' xs g0' kb hH1 hH2
        cases hc : (Nat.beq g g' && Nat.beq g0 g0' && SV.same (.list 8 xs) (.list 8 (exCells S00)) && kb.under H.length && xb.under H.length && xa.under H.length && xb.leaf && xa.leaf) with
        | false => rw [hc] at h; cases h
        | true =>
          rw [hc, cond_true] at h
          cases h
          simp only [Bool.and_eq_true] at hc
          obtain ⟨⟨⟨⟨⟨⟨⟨q1, q2⟩, q3⟩, q4⟩, q5⟩, q6⟩, q7⟩, q8⟩ := hc
          have q1 := Nat.eq_of_beq_eq_true q1
          have q2 := Nat.eq_of_beq_eq_true q2
          have q3 := SV.same_both.1 _ _ q3
          cases q3
          subst q1; subst q2
          exact give_ok G hG its0 [0, 1] S00 1 4 0 0 [] [] xb xa kb H id g sb g0 hH1 hH2 q4 q5 q6 q7 q8 (by decide) (by decide) (by decide) (by decide) (fun n h1 h2 => ⟨by simp [its0], fun H => itoa_at G hG hB hl n (by simp only [List.length_cons, List.length_nil] at h2; omega) H⟩)
      · cases h
  · cases h
theorem awake_ok (G : Gl) (hG : GClosed G) (C0 : Cx) (hb : G.base = some C0) (he : ErrAt C0) (H : List Blk) : ACall Tryz.prog G 7 [] H (fun r H' => H' = H ∧ r = .bool true) := by
  have hr := awake_run (some C0)
  have hG0 : GClosed ⟨[], some C0⟩ := fun p hp => by cases hp
  have hov := ovA_ok ⟨[], some C0⟩ hG0 rfl C0 rfl he
  have hev := evF2_ok (P := Tryz.prog) (G := ⟨[], some C0⟩) (T := TB) (ow := owA) (gc := gcA) (ov := ovA) (fuel := 5000) hG0 hov tabOK mixOK names_ok 40
  generalize hE : evF2 Tryz.prog ⟨[], some C0⟩ TB owA gcA ovA 5000 40 7 [] [] = E at hr
  cases E with
  | none => cases hr
  | some r =>
    obtain ⟨v, H1⟩ := r
    cases v with
    | bool b => cases b with
      | false => cases hr
      | true => exact ACall.lift (G0 := ⟨[], some C0⟩) C0 rfl hb he.1 hG0 (fun p hp => by cases hp) ((hev _ _ _ _ _ hE).mono fun r H2 h => h.2) H
    | _ => cases hr
end Go.Proofs.YtehfihnfeakmaaaGreatDoor
end

section
namespace Go.Proofs.YtehfihnfeakmaaaGreatDoor.demandKeeps
open Go Go.ChangeShapes Go.WideShapes Go.RowKit
set_option maxRecDepth 100000 in
theorem contract (H : Type) (enc : TypeId × Value → H) (W : World) (base : Nat) (args : Array Value) (ds gs : List (DataW H)) (before : List MemPlace)
    (hval : ∀ (j : Nat) t v, Tryz.f5.params[j]? = some t → args[j]? = some v → Value.okWide Tryz.prog W .any base t v)
    (hW : DataW.Whole enc Tryz.prog Tryz.f5.params.toList Rows.demandKeepsSpec.vars false W args.toList ds gs before) (hL : laidMetH Tryz.prog Rows.demandKeepsUptoRow.laid W) (hk : Rows.uptoSmall H (ds ++ gs) = true) :
    Calls Tryz.prog 5 args W fun e W' => ∃ v, e = .returned v ∧ Rows.demandKeepsSpec.post enc Tryz.prog Tryz.f5 false true false false W args v W' := by
  have hW' := hW
  obtain ⟨p, q, hA0, hV, rfl, hfz, hnd⟩ := hW
  have hA : DataW.TrodAll enc Tryz.prog W 0 (fun _ => true) true Tryz.f5.params.toList args.toList ds p := hA0
  rw [Tryz.params5] at hA hval
  obtain ⟨v0, vs0, d0, ds0, p0, q0, hargs, rfl, rfl, h0, r0⟩ := trodAll_cons hA
  obtain ⟨rfl, rfl, rfl⟩ := trodAll_nil r0
  obtain rfl : args = #[v0] := by cases args; simp_all
  obtain ⟨rfl, rfl⟩ := trodVars_none hV
  obtain ⟨cs0, rfl, _⟩ := okWide_struct Tryz.underlying25 (hval 0 25 v0 (by simp) (by simp))
  obtain ⟨fuel0, hf0⟩ := h0
  obtain ⟨e0, hg0, _, hw0⟩ := read_pg fuel0 _ _ hf0
  have hbulk : e0.wt ≤ 1048576 := by
    simp only [Rows.uptoSmall, decide_eq_true_eq, List.append_nil, Rows.uptoBulkAll] at hk
    simp only at hw0
    omega
  refine (law_callsG (args := [e0.sv]) (vs := [.agg cs0]) (demandKeeps_ok (GB W) (gclosedB W) (based0 W) (rdC W) rfl (libAt hL) (awake_ok (GB W) (gclosedB W) (rdC W) rfl (errAt hL)) e0 [] (by unfold Pg.wt at hbulk; omega) (by have := sum_len (f := Cn.wt) (fun x => by unfold Cn.wt; omega) e0.cons; unfold Pg.wt at hbulk; omega) (fun s hs => by have := bindersP_wt hs; unfold Pg.wt at hbulk; omega)) (gokB W) ?_ (fun W' => law_post laid rfl hW' ?_ rfl (by kernel_rfl) rfl rfl rfl)).mono ?_
  · refine RepL.mk_cons ?_ (RepL.mk_nil)
    · simp only [Pg.sv, Rep]; exact ⟨cs0.toList, hg0.1, hg0.2, rfl⟩
  · intro t ht
    rw [Tryz.params5] at ht
    simp only [List.mem_cons, List.not_mem_nil, or_false] at ht
    rcases ht with rfl <;> exact ⟨by kernel_rfl, of_decide_eq_true (by kernel_rfl)⟩
  · rintro _ W' ⟨v, rfl, rfl, hp⟩
    exact ⟨_, rfl, hp⟩
theorem laid_met (os : Os) : laidMet Tryz.prog Rows.demandKeepsUptoRow.laid ((laidWorld os).forCall (fun _ _ => 0) ⟨#[], #[Value.agg #[.slice none 0 0, .slice none 0 0]], []⟩).memory :=
  laidMet_of_run' 8 (by kernel_rfl) (by kernel_rfl)
theorem reads (os : Os) {H : Type} (enc : TypeId × Value → H) : ∃ places, DataW.whole enc Tryz.prog ((laidWorld os).forCall (fun _ _ => 0) ⟨#[], #[Value.agg #[.slice none 0 0, .slice none 0 0]], []⟩).memory Tryz.f5.params.toList Rows.demandKeepsSpec.vars false (#[Value.agg #[.slice none 0 0, .slice none 0 0]] : Array Value).toList 8 = some ([.agg [.nil, .nil]], [], places) :=
  ⟨[], by kernel_rfl⟩
set_option maxRecDepth 100000 in
theorem lifted (os : Os) (started : os.Started) (H : Type) (enc : TypeId × Value → H) (F : Stop.Interp) :
    ReturnsInHanded {} Tryz.checked os 5 .any ((Rows.OpenSpec.upto Rows.demandKeepsSpec).preRow enc Tryz.prog Tryz.f5 Rows.demandKeepsUptoRow.domain false Rows.demandKeepsUptoRow.laid) (((Rows.OpenSpec.upto Rows.demandKeepsSpec).at F).post enc Tryz.prog Tryz.f5 false true false false) := by
  obtain ⟨places, hx⟩ := reads os enc
  refine returnsInHanded_of_row (C := Tryz.checked) (s := Rows.OpenSpec.upto Rows.demandKeepsSpec) own started (by kernel_rfl) Tryz.func5
    (witness_row_at (enc := enc) (C := Tryz.checked) false (laidWorld os) #[Value.agg #[.slice none 0 0, .slice none 0 0]] rfl (by kernel_rfl) (by kernel_rfl) (by kernel_rfl)
      (OpenSpec.preRow_of_cond 8 hx (by kernel_rfl) (fun k hk => by cases hk; kernel_rfl) (by kernel_rfl) (laid_met os))) ?_
  intro W base args ds gs before hval hW _ hcond _ hL _ _
  exact contract H enc W base args ds gs before hval hW hL (hcond _ rfl)
theorem said : Rows.DemandKeepsUptoSaid :=
  OpenClaim.holds_of_cond 5 Tryz.f5 rfl rfl rfl rfl rfl rfl rfl ⟨rfl, rfl, rfl, rfl, rfl⟩ rfl rfl rfl rfl rfl (by kernel_rfl) Tryz.func5 (by kernel_rfl)
    (of_decide_eq_true (by kernel_rfl)) (by unfold Func.isWrapper; first | (rw [if_pos (by decide +kernel)]; kernel_rfl) | (rw [if_neg (by decide +kernel)]; exact ⟨rfl, rfl⟩))
    (fun os started H enc _ F => by rw [OpenClaim.pre_eq_preRow]; exact lifted os started H enc F)
theorem plain (f : FuncId) (fn : Func) (hf : Tryz.pinned.checked.prog.funcNamed "teasel/teasellaw15.DemandKeeps" = some f) (hfn : Tryz.pinned.checked.prog.funcs[f]? = some fn) :
    true = Tryz.pinned.checked.prog.looks [] ∧ ∀ (j : Nat) t, fn.params[j]? = some t → Tryz.pinned.checked.prog.wantsStandIn t = false := by
  obtain rfl : f = 5 := Option.some.inj ((show Tryz.prog.funcNamed "teasel/teasellaw15.DemandKeeps" = some 5 by kernel_rfl).symm.trans hf) |>.symm
  obtain rfl : fn = Tryz.f5 := (Option.some.inj (Tryz.func5.symm.trans hfn)).symm
  refine ⟨by kernel_rfl, fun j t ht => ?_⟩
  rw [Tryz.params5] at ht
  have hm := Array.mem_of_getElem? ht
  have hm2 : t = 25 := by
    have h3 : t = 25 := by simpa using hm
    rcases h3 with rfl <;> simp
  subst hm2
  · exact (show Tryz.prog.wantsStandIn 25 = false by kernel_rfl)
theorem proved : Rows.DemandKeepsUptoCardSaid :=
  Claim7.holds_tied_plain_at .later [] _ _ _ _ said (fun _ h => by cases h) (by kernel_rfl) (fun _ h => by cases h) demandKeepsUpto_row_tie rfl ⟨rfl, rfl⟩ (by kernel_rfl) rfl plain (by kernel_rfl)
end Go.Proofs.YtehfihnfeakmaaaGreatDoor.demandKeeps
end
