/- What is looked into first is free in the expression, each name once, also of a program's functions (DemandFree, for inputs up to the bulk). -/
import Derived.Test.YtehfihnfeakmaaaGreatDoorMj
import Derived.Test.YtehfihnfeakmaaaGreatDoorCards
import Derived.Test.YtehfihnfeakmaaaGreatDoorTie
import Derived.Deep.DeepHandedRow
import Derived.Lib.LaidTab
import Derived.Stop.LaidErr

section
namespace Go.Proofs.YtehfihnfeakmaaaGreatDoor
open Go
set_option linter.unusedSimpArgs false
set_option linter.unusedVariables false

/-- the package variable of the library that the example's run reaches: it holds some error, or none -/
def ErrAt (C0 : Cx) : Prop := C0.H = [] ∧ ∃ ev, C0.w.cell? ⟨0, 0, none⟩ = some ev ∧ (ev = .nilIface ∨ ∃ te pe, ev = .iface te pe)
theorem ErrAt.see {C0 c : Cx} (h : ErrAt C0) (hg : Grow C0 c) : ∃ ev, c.w.cell? ⟨0, 0, none⟩ = some ev ∧ (ev = .nilIface ∨ ∃ te pe, ev = .iface te pe) := by
  obtain ⟨h0, ev, h1, h2⟩ := h
  refine ⟨ev, ?_, h2⟩
  have hlt : 0 < C0.w.heap.size := Lib.lt_of_cell h1
  have hold := hg.old 0 hlt (fun ⟨id, o, ⟨B, hB, _⟩, _⟩ => by rw [h0] at hB; cases hB)
  rw [← h1]
  unfold World.cell?
  rw [hold]
end Go.Proofs.YtehfihnfeakmaaaGreatDoor
end

section
namespace Go.Proofs.YtehfihnfeakmaaaGreatDoor
open Go
set_option maxRecDepth 100000
set_option maxHeartbeats 4000000

theorem awake_run (l : Option Cx) : isT (evF2 Tryz.prog ⟨[], l⟩ TB owA gcA ovA 5000 40 7 [] []) = true := by kernel_rfl
def isS (s : Str) : Option (SV × List Blk) → Bool
  | some (.str t, _) => SV.same (.str s) (.str t)
  | _ => false
theorem itoa_run1 (l : Option Cx) : isS (its0 1) (evF2 Tryz.prog ⟨[], l⟩ TB owA gcA (fun _ _ _ => none) 5000 40 82 [.int .i64 1] []) = true := by kernel_rfl
theorem itoa_run2 (l : Option Cx) : isS (its0 2) (evF2 Tryz.prog ⟨[], l⟩ TB owA gcA (fun _ _ _ => none) 5000 40 82 [.int .i64 2] []) = true := by kernel_rfl
end Go.Proofs.YtehfihnfeakmaaaGreatDoor
end

section
namespace Go.Proofs.YtehfihnfeakmaaaGreatDoor
open Go
set_option linter.unusedSimpArgs false
set_option linter.unusedVariables false
set_option maxRecDepth 100000
set_option maxHeartbeats 4000000

theorem sortS_at {l s : List Str} (h1 : s.Perm l) (h2 : s.Pairwise (fun x y => decide (x ≤ y) = true)) : sortS l = s := by
  rw [← sortS_eq h1, sortS]
  exact List.mergeSort_of_pairwise h2
def sN0 : List Str := [[77, 97, 105, 110, 46, 109, 97, 105, 110], [97], [98], [102], [115], [120]]
def sN1 : List Str := [[77, 97, 105, 110, 46, 109, 97, 105, 110], [97], [98], [102], [115], [116, 35, 49], [116, 35, 50], [120]]
theorem bad0 : badNames P0.binds = false := by
  have h : sortS (bindersP P0.binds) = sN0 := sortS_at (by decide +kernel) (by decide +kernel)
  unfold badNames
  rw [h]
  decide +kernel
theorem bad1 : badNames Q0.binds = false := by
  have h : sortS (bindersP Q0.binds) = sN1 := sortS_at (by decide +kernel) (by decide +kernel)
  unfold badNames
  rw [h]
  decide +kernel
theorem lintP0 : lintS P0 = 0 := by
  unfold lintS
  rw [bad0]
  decide +kernel
theorem lintQ0 : lintS Q0 = 0 := by
  unfold lintS
  rw [bad1]
  decide +kernel
theorem ordP0 : ordsS P0 = O0 := by kernel_rfl
theorem names_ok : ∀ (f : FuncId) (fn : Func), Tryz.prog.funcs[f]? = some fn → (fn.name == "runtime.NumGoroutine") = false := by
  intro f fn h
  have hall : (Tryz.prog.funcs.toList.all fun fn => !(fn.name == "runtime.NumGoroutine")) = true := by decide +kernel
  have hm : fn ∈ Tryz.prog.funcs.toList := by
    rw [← Array.getElem?_toList] at h
    exact List.mem_of_getElem? h
  have := List.all_eq_true.1 hall fn hm
  simpa using this
/-- what a number of one figure reads -/
theorem itoa_at (G : Gl) (hG : GClosed G) (hB : Based G 0) (hl : G.l = []) (n : Nat) (hn : n = 1 ∨ n = 2) (H : List Blk) : ACall Tryz.prog G 82 [.int .i64 (n : Int)] H (fun r H' => H' = H ∧ r = .str (its0 n)) := by
  obtain ⟨l, b⟩ := G
  simp only at hl
  subst hl
  have hev := evF2_ok (P := Tryz.prog) (G := ⟨[], b⟩) (T := TB) (ow := owA) (gc := gcA) (ov := fun _ _ _ => none) (fuel := 5000) hG (fun f xs H x H' h => by cases h) tabOK mixOK names_ok 40
  have key : ∀ m : Int, isS (its0 n) (evF2 Tryz.prog ⟨[], b⟩ TB owA gcA (fun _ _ _ => none) 5000 40 82 [.int .i64 m] []) = true → ACall Tryz.prog ⟨[], b⟩ 82 [.int .i64 m] H (fun r H' => H' = H ∧ r = .str (its0 n)) := fun m hr => by
    generalize hE : evF2 Tryz.prog ⟨[], b⟩ TB owA gcA (fun _ _ _ => none) 5000 40 82 [.int .i64 m] [] = E at hr
    cases E with
    | none => cases hr
    | some r =>
      obtain ⟨v, H1⟩ := r
      cases v with
      | str t =>
        have he := SV.same_both.1 _ _ (show SV.same (.str (its0 n)) (.str t) = true from hr)
        rw [he]
        exact ACall.loan hG hB (FrzL.same rfl) (fun c c' v h => by simpa only [Rep] using h) ((hev _ _ _ _ _ hE).mono fun r H2 h => h.2)
      | _ => cases hr
  rcases hn with rfl | rfl
  · exact key 1 (itoa_run1 b)
  · exact key 2 (itoa_run2 b)
theorem ovA_ok (G : Gl) (hG : GClosed G) (hl : G.l = []) (C0 : Cx) (hb : G.base = some C0) (he : ErrAt C0) : RCok Tryz.prog G ovA := by
  have hB : Based G 0 := fun C1 h1 => by rw [hb] at h1; cases h1; rw [he.1]; exact Nat.le_refl _
  intro f xs H x H' h
  unfold ovA at h
  split at h
  · rename_i s
    cases hf : (Nat.beq f 81 && decide (s.length ≤ 18) && (Lib.atoi s).isNone) with
    | false => rw [hf] at h; cases h
    | true =>
      rw [hf, cond_true] at h
      simp only [Bool.and_eq_true, decide_eq_true_eq, Option.isNone_iff_eq_none] at hf
      obtain ⟨⟨hf, hl⟩, ha⟩ := hf
      have hf := Nat.eq_of_beq_eq_true hf
      subst hf
      cases h
      refine ACall.of_opaque (by decide) ⟨_, Tryz.func81, by decide, rfl⟩ (fun c hg => ?_) H
      obtain ⟨ev, h1, h2⟩ := he.see (hg.2 C0 hb)
      refine (Tryz.strconv_Atoi_err ⟨⟨s⟩⟩ (show s.length ≤ 18 from hl) ha ev c.w h1 h2).mono ?_
      rintro e w' ⟨N, rfl, _, _, hbw⟩
      exact ⟨_, rfl, rfl, hbw⟩
  · rename_i sz xs
    unfold ovC at h
    generalize hc : ((Nat.beq f 57 && Nat.beq sz 1) || (Nat.beq f 83 && Nat.beq sz 8) || (Nat.beq f 84 && Nat.beq sz 9) || (Nat.beq f 85 && Nat.beq sz 12) || (Nat.beq f 33 && Nat.beq sz 4)) = cl at h
    cases hc2 : (cl && SV.underL 0 xs && Nat.blt xs.length 1000) with
    | false => rw [hc2] at h; cases h
    | true =>
      rw [hc2, cond_true] at h
      cases h
      simp only [Bool.and_eq_true] at hc2
      obtain ⟨⟨h1, h2⟩, h3⟩ := hc2
      subst h1
      have h3 : xs.length < 1000 := by simpa [Nat.blt_eq] using h3
      have hu : ∀ n, SV.underL n xs = true := fun n => (SV.below_mono_both (Nat.zero_le n)).2 _ h2
      simp only [Bool.or_eq_true, Bool.and_eq_true] at hc
      rcases hc with (((hc | hc) | hc) | hc) | hc <;> (obtain ⟨a1, a2⟩ := hc; have a1 := Nat.eq_of_beq_eq_true a1; have a2 := Nat.eq_of_beq_eq_true a2; subst a1; subst a2)
      · exact cloneS_list G hG xs hu H h3
      · exact cloneE_list G hG xs hu H h3
      · exact cloneB_list G hG xs hu H h3
      · exact cloneA_list G hG xs hu H h3
      · exact cloneC_list G hG xs hu H h3
  · rename_i n
    cases hf : Nat.beq f 23 with
    | false => rw [hf] at h; cases h
    | true =>
      rw [hf, cond_true] at h
      have hf := Nat.eq_of_beq_eq_true hf
      subst hf
      cases h
      exact prim_nil G hG n H
  · rename_i y _ _
    cases hf : Nat.beq f 8 with
    | true =>
      rw [hf, cond_true] at h
      have hf := Nat.eq_of_beq_eq_true hf
      subst hf
      cases hn : nilV 30 y P0.sv with
      | false => rw [hn] at h; cases h
      | true =>
        rw [hn, cond_true] at h
        cases h
        have := Orders_ok G hG P0 H (by decide +kernel) (by decide +kernel) lintP0
        rw [ordP0] at this
        exact this.nilA hn
    | false =>
      rw [hf, cond_false] at h
      cases hf2 : Nat.beq f 19 with
      | false => rw [hf2] at h; cases h
      | true =>
        rw [hf2, cond_true] at h
        have hf2 := Nat.eq_of_beq_eq_true hf2
        subst hf2
        split at h
        · rename_i z hz
          cases hn : nilV 30 z Q0.sv with
          | false => rw [hn] at h; cases h
          | true =>
            rw [hn, cond_true] at h
            cases h
            have := lint_ok G hG Q0 [] (by decide +kernel) (by decide +kernel)
            rw [lintQ0] at this
            exact ACall.loan hG hB (.cons _ _ _ _ (frzV_ok _ _ _ hz) .nil) (fun c c' v h => by simpa only [Rep] using h) ((this.nilA hn).mono fun r H2 h => h.2)
        · cases h
  · rename_i sb g0 k nm n op names id g xb xa y
    cases hf : (Nat.beq f 88 && SV.same (.agg [k, nm, n, op, names]) (.agg [.int .i64 4, .str [], .int .i64 0, .int .i64 0, .list 1 []]) && SV.same y (.list 1 (intL [0, 1]))) with
    | false => rw [hf] at h; cases h
    | true =>
      rw [hf, cond_true] at h
      simp only [Bool.and_eq_true] at hf
      obtain ⟨⟨hf, h1⟩, h2⟩ := hf
      have hf := Nat.eq_of_beq_eq_true hf
      subst hf
      have h1 := SV.same_both.1 _ _ h1
      have h2 := SV.same_both.1 _ _ h2
      cases h1
      subst h2
      split at h
      · rename_i g' xs g0' kb hH1 hH2
        cases hc : (Nat.beq g g' && Nat.beq g0 g0' && SV.same (.list 8 xs) (.list 8 (exCells S00)) && kb.under H.length && xb.under H.length && xa.under H.length && xb.leaf && xa.leaf) with
        | false => rw [hc] at h; cases h
        | true =>
          rw [hc, cond_true] at h
          cases h
          simp only [Bool.and_eq_true] at hc
          obtain ⟨⟨⟨⟨⟨⟨⟨q1, q2⟩, q3⟩, q4⟩, q5⟩, q6⟩, q7⟩, q8⟩ := hc
          have q1 := Nat.eq_of_beq_eq_true q1
          have q2 := Nat.eq_of_beq_eq_true q2
          have q3 := SV.same_both.1 _ _ q3
          cases q3
          subst q1; subst q2
          exact give_ok G hG its0 [0, 1] S00 1 4 0 0 [] [] xb xa kb H id g sb g0 hH1 hH2 q4 q5 q6 q7 q8 (by decide) (by decide) (by decide) (by decide) (fun n h1 h2 => ⟨by simp [its0], fun H => itoa_at G hG hB hl n (by simp only [List.length_cons, List.length_nil] at h2; omega) H⟩)
      · cases h
  · cases h
theorem awake_ok (G : Gl) (hG : GClosed G) (C0 : Cx) (hb : G.base = some C0) (he : ErrAt C0) (H : List Blk) : ACall Tryz.prog G 7 [] H (fun r H' => H' = H ∧ r = .bool true) := by
  have hr := awake_run (some C0)
  have hG0 : GClosed ⟨[], some C0⟩ := fun p hp => by cases hp
  have hov := ovA_ok ⟨[], some C0⟩ hG0 rfl C0 rfl he
  have hev := evF2_ok (P := Tryz.prog) (G := ⟨[], some C0⟩) (T := TB) (ow := owA) (gc := gcA) (ov := ovA) (fuel := 5000) hG0 hov tabOK mixOK names_ok 40
  generalize hE : evF2 Tryz.prog ⟨[], some C0⟩ TB owA gcA ovA 5000 40 7 [] [] = E at hr
  cases E with
  | none => cases hr
  | some r =>
    obtain ⟨v, H1⟩ := r
    cases v with
    | bool b => cases b with
      | false => cases hr
      | true => exact ACall.lift (G0 := ⟨[], some C0⟩) C0 rfl hb he.1 hG0 (fun p hp => by cases hp) ((hev _ _ _ _ _ hE).mono fun r H2 h => h.2) H
    | _ => cases hr
end Go.Proofs.YtehfihnfeakmaaaGreatDoor
end

section
namespace Go.Proofs.YtehfihnfeakmaaaGreatDoor
open Go Go.ChangeShapes Go.WideShapes Go.RowKit
set_option linter.unusedVariables false

section
variable {H : Type} {enc : TypeId × Value → H} {W : World} {sp : Nat → Bool}

theorem read_str (n : Nat) : Rd enc Tryz.prog W sp n 9 (fun s : Str => [.str s]) (fun s => s.length + 1) := rd_str (by kernel_rfl) (by kernel_rfl)
theorem read_int (n : Nat) : Rd enc Tryz.prog W sp n 3 (fun i : Int => [.int .i64 i]) (fun _ => 1) := rd_int (by kernel_rfl) (by kernel_rfl)
theorem read_strs (n : Nat) : Rd enc Tryz.prog W sp n 36 (fun l : List Str => [.list 1 (l.map .str)]) (fun l => 1 + strsWt l) := by
  have h := rd_slice (enc := enc) (P := Tryz.prog) (W := W) (sp := sp) (t := 36) (e := 9) false (f := fun s : Str => [SV.str s]) (wt := fun s => s.length + 1) (n := 1) (N := n) (by kernel_rfl) (by kernel_rfl) (by kernel_rfl) (by omega) (.inr rfl) (fun m _ => read_str m)
  intro cs x hx
  obtain ⟨a, h1, h2, h3⟩ := h cs x hx
  exact ⟨a, h1, h2, by show 1 + strsWt a ≤ _; rw [strsWt_sum]; exact h3⟩

theorem ex_cells (k : Int) (s : Str) (n o : Int) (l : List Str) (subs : List Ex) (binds : List Bd) (alts : List Al) :
    (Ex.mk k s n o l subs binds alts).cells = [.int .i64 k] ++ ([.str s] ++ ([.int .i64 n] ++ ([.int .i64 o] ++ ([.list 1 (l.map .str)] ++ ([.list 8 (subs.map fun x => bx true x.cells)] ++ ([.list 9 (binds.map fun x => bx true x.cells)] ++ ([.list 12 (alts.map fun x => bx true x.cells)] ++ []))))))) := by
  simp only [Ex.cells, exCells_map, bdCells_map, alCells_map]; rfl

theorem read_ex (n : Nat) : Rd enc Tryz.prog W sp n 40 Ex.cells Ex.wt ∧ Rd enc Tryz.prog W sp n 54 Bd.cells Bd.wt ∧ Rd enc Tryz.prog W sp n 60 Al.cells Al.wt := by
  induction n using Nat.strongRecOn with
  | _ n ih =>
  have hE : Rd enc Tryz.prog W sp n 40 Ex.cells Ex.wt := by
    intro cs x hx
    obtain ⟨xs, m, rfl, rfl, hl, hlen, hf⟩ := DataW.trod_struct Tryz.underlying40 hx
    obtain ⟨z0, z1, z2, z3, z4, z5, z6, z7, rfl⟩ := len_eight (show xs.length = 8 from hlen)
    have hsz : Tryz.prog.cellsOf 40 = 8 := by kernel_rfl
    have hsubs : ∀ m', m = m' + 1 → Rd enc Tryz.prog W sp m' 40 Ex.cells Ex.wt := fun m' e => (ih m' (by omega)).1
    have hbinds : ∀ m', m = m' + 1 → Rd enc Tryz.prog W sp m' 54 Bd.cells Bd.wt := fun m' e => (ih m' (by omega)).2.1
    have halts : ∀ m', m = m' + 1 → Rd enc Tryz.prog W sp m' 60 Al.cells Al.wt := fun m' e => (ih m' (by omega)).2.2
    obtain ⟨y0, k, e0, g0, w0⟩ := field_of hf 0 0 1 (by kernel_rfl) (by kernel_rfl) (read_int m) (by simp)
    obtain ⟨y1, s, e1, g1, w1⟩ := field_of hf 1 1 1 (by kernel_rfl) (by kernel_rfl) (read_str m) (by simp)
    obtain ⟨y2, i, e2, g2, w2⟩ := field_of hf 2 2 1 (by kernel_rfl) (by kernel_rfl) (read_int m) (by simp)
    obtain ⟨y3, o, e3, g3, w3⟩ := field_of hf 3 3 1 (by kernel_rfl) (by kernel_rfl) (read_int m) (by simp)
    obtain ⟨y4, l, e4, g4, w4⟩ := field_of hf 4 4 1 (by kernel_rfl) (by kernel_rfl) (read_strs m) (by simp)
    obtain ⟨y5, subs, e5, g5, w5⟩ := field_of hf 5 5 1 (by kernel_rfl) (by kernel_rfl) (rd_slice (t := 37) (e := 40) true (by kernel_rfl) (by kernel_rfl) (n := 8) (by kernel_rfl) (by omega) (.inl rfl) hsubs) (by simp)
    obtain ⟨y6, binds, e6, g6, w6⟩ := field_of hf 6 6 1 (by kernel_rfl) (by kernel_rfl) (rd_slice (t := 23) (e := 54) true (by kernel_rfl) (by kernel_rfl) (n := 9) (by kernel_rfl) (by omega) (.inl rfl) hbinds) (by simp)
    obtain ⟨y7, alts, e7, g7, w7⟩ := field_of hf 7 7 1 (by kernel_rfl) (by kernel_rfl) (rd_slice (t := 38) (e := 60) true (by kernel_rfl) (by kernel_rfl) (n := 12) (by kernel_rfl) (by omega) (.inl rfl) halts) (by simp)
    rw [hsz] at hl
    refine ⟨.mk k s i o l subs binds alts, ?_, by rw [hsz, hl], ?_⟩
    · rw [ex_cells, ← List.drop_zero (l := cs)]
      refine .cut g0 (.cut g1 (.cut g2 (.cut g3 (.cut g4 (.cut g5 (.cut g6 (.cut g7 ?_)))))))
      rw [List.drop_eq_nil_of_le (by omega)]
      exact .nil
    · cases e0; cases e1; cases e2; cases e3; cases e4; cases e5; cases e6; cases e7
      simp only [Rows.uptoBulk, Rows.uptoBulkAll, List.map_cons, List.map_nil, Ex.wt, exsWt_sum, bdsWt_sum, alsWt_sum]
      omega
  have hE' : ∀ m, n = m + 1 → Rd enc Tryz.prog W sp m 40 Ex.cells Ex.wt := fun m e => (ih m (by omega)).1
  refine ⟨hE, ?_, ?_⟩
  · intro cs x hx
    obtain ⟨xs, m, hm, rfl, hl, hlen, hf⟩ := DataW.trod_struct Tryz.underlying54 hx
    obtain ⟨z0, z1, rfl⟩ := len_two (show xs.length = 2 from hlen)
    have hsz : Tryz.prog.cellsOf 54 = 9 := by kernel_rfl
    obtain ⟨y0, s, e0, g0, w0⟩ := field_of hf 0 0 1 (by kernel_rfl) (by kernel_rfl) (read_str m) (by simp)
    obtain ⟨y1, e, e1, g1, w1⟩ := field_of hf 1 1 8 (by kernel_rfl) (by kernel_rfl) (hE' m hm) (by simp)
    rw [hsz] at hl
    refine ⟨.mk s e, ?_, by rw [hsz, hl], ?_⟩
    · have : (Bd.mk s e).cells = [.str s] ++ (e.cells ++ []) := by simp [Bd.cells]
      rw [this, ← List.drop_zero (l := cs)]
      refine .cut g0 (.cut g1 ?_)
      rw [List.drop_eq_nil_of_le (by omega)]
      exact .nil
    · cases e0; cases e1
      simp only [Rows.uptoBulk, Rows.uptoBulkAll, List.map_cons, List.map_nil, Bd.wt]
      omega
  · intro cs x hx
    obtain ⟨xs, m, hm, rfl, hl, hlen, hf⟩ := DataW.trod_struct Tryz.underlying60 hx
    obtain ⟨z0, z1, z2, z3, z4, rfl⟩ := len_five (show xs.length = 5 from hlen)
    have hsz : Tryz.prog.cellsOf 60 = 12 := by kernel_rfl
    obtain ⟨y0, k, e0, g0, w0⟩ := field_of hf 0 0 1 (by kernel_rfl) (by kernel_rfl) (read_int m) (by simp)
    obtain ⟨y1, s, e1, g1, w1⟩ := field_of hf 1 1 1 (by kernel_rfl) (by kernel_rfl) (read_str m) (by simp)
    obtain ⟨y2, i, e2, g2, w2⟩ := field_of hf 2 2 1 (by kernel_rfl) (by kernel_rfl) (read_int m) (by simp)
    obtain ⟨y3, l, e3, g3, w3⟩ := field_of hf 3 3 1 (by kernel_rfl) (by kernel_rfl) (read_strs m) (by simp)
    obtain ⟨y4, e, e4, g4, w4⟩ := field_of hf 4 4 8 (by kernel_rfl) (by kernel_rfl) (hE' m hm) (by simp)
    rw [hsz] at hl
    refine ⟨.mk k s i l e, ?_, by rw [hsz, hl], ?_⟩
    · have : (Al.mk k s i l e).cells = [.int .i64 k] ++ ([.str s] ++ ([.int .i64 i] ++ ([.list 1 (l.map .str)] ++ (e.cells ++ [])))) := by simp [Al.cells]
      rw [this, ← List.drop_zero (l := cs)]
      refine .cut g0 (.cut g1 (.cut g2 (.cut g3 (.cut g4 ?_))))
      rw [List.drop_eq_nil_of_le (by omega)]
      exact .nil
    · cases e0; cases e1; cases e2; cases e3; cases e4
      simp only [Rows.uptoBulk, Rows.uptoBulkAll, List.map_cons, List.map_nil, Al.wt]
      omega
end
end Go.Proofs.YtehfihnfeakmaaaGreatDoor
end

section
namespace Go.Proofs.YtehfihnfeakmaaaGreatDoor
open Go Go.ChangeShapes Go.WideShapes Go.RowKit
set_option linter.unusedVariables false
set_option linter.unusedSimpArgs false

theorem own : ownKnob Tryz.prog.godebug = none := by kernel_rfl
theorem laid : laidOutB Tryz.prog = true := by kernel_rfl
theorem gES : Tryz.prog.globalNamed "strconv.ErrSyntax" = some 0 := by kernel_rfl
theorem gESType : (Tryz.prog.globals[0]?).map (·.type) = some 116 := by kernel_rfl
theorem cells202 : Tryz.prog.cellsOf 202 = 1 := by kernel_rfl
theorem cells9 : Tryz.prog.cellsOf 9 = 1 := by kernel_rfl
theorem star : "*" ++ "errors.errorString" = "*errors.errorString" := by decide
theorem row200 (u : TypeId) (h : Tryz.prog.typeName? 3 u = some "*errors.errorString") : u = 200 :=
  typeName_ptr_named (nm := "errors.errorString") (by rw [star]; kernel_rfl) (by kernel_rfl) (by decide) u (by rw [star]; exact h)
/-- the laws' surroundings: nothing is known of package variables but through the world that the call begins in -/
def GB (W : World) : Gl := ⟨[], some (rdC W)⟩
theorem gclosedB (W : World) : GClosed (GB W) := fun p hp => by cases hp
theorem gokB (W : World) : GOK (GB W) (rdC W) := ⟨fun p hp => (by cases hp), fun C0 h => (by cases h; exact Grow.refl _)⟩
theorem errAt {W : World} (h : laidMetH Tryz.prog [("math/bits.deBruijn32tab", Rows.laid_math_bits_deBruijn32tab), ("math/bits.deBruijn64tab", Rows.laid_math_bits_deBruijn64tab), ("internal/strconv.uint64pow10", Rows.laid_internal_strconv_uint64pow10), ("strconv.ErrRange", Rows.laid_strconv_ErrRange), ("strconv.ErrSyntax", Rows.laid_strconv_ErrSyntax)] W) : ErrAt (rdC W) := by
  have h2 : laidMet Tryz.prog [("strconv.ErrSyntax", Rows.laid_strconv_ErrSyntax)] W := laidMet.tail (laidMet.tail (laidMet.tail (laidMet.tail h)))
  obtain ⟨a0, s0, hv0, -, -, -⟩ := laid_sentinel h2 gES gESType Tryz.underlying116 row200 Tryz.underlying200 Tryz.underlying202 rfl rfl Tryz.underlying9 cells202 cells9
  exact ⟨rfl, _, (by have h0 := World.var?_cell gES hv0 0; show W.cell? _ = _; simpa using h0), .inr ⟨_, _, rfl⟩⟩
section
variable {H : Type} {enc : TypeId × Value → H} {W : World} {sp : Nat → Bool}
theorem law_callsG {P : Program} {G : Gl} {f : FuncId} {args : List SV} {vs : List Value} (h : ACall P G f args [] (fun r H' => H' = [] ∧ r = .bool true)) (hg : GOK G (rdC W)) (hv : RepL (rdC W) args vs) {R : World → Prop} (hR : ∀ W', Below W.heap.size W W' → R W') :
    Calls P f vs.toArray W fun e W' => ∃ v, e = .returned v ∧ v = .bool true ∧ R W' := by
  refine (callsIn_wide (n := 0)).1 ((h.2 (rdC W) vs rfl (rdC_ok W) hg hv).mono ?_)
  rintro e w' ⟨v, x, c', rfl, hw, ⟨_, rfl⟩, _, hx, hg⟩
  simp only [Rep] at hx
  exact ⟨v, rfl, hx, hR _ (Grow.below hg hw)⟩
end
def valsOf : DataW Unit → List Value
  | .agg l => l.map fun
    | .lit (.int k n) => .int k n
    | _ => .nilFunc
  | _ => []
def putVals (vs : List Value) : Obj → Obj
  | .cells _ t fr => .cells vs.toArray t fr
  | o => o
/-- A WORLD FOR THE WITNESS. -/
noncomputable def laidWorld (os : Os) : World :=
  { World.holding Tryz.prog os ⟨#[], #[], []⟩ with heap := (((((((World.holding Tryz.prog os ⟨#[], #[], []⟩).heap.modify 0 (putVals [.iface 200 (.pointer (some ⟨(World.holding Tryz.prog os ⟨#[], #[], []⟩).heap.size, 0, none⟩))])).modify 1 (putVals [.iface 200 (.pointer (some ⟨(World.holding Tryz.prog os ⟨#[], #[], []⟩).heap.size + 1, 0, none⟩))])).modify 2 (putVals (valsOf Rows.laid_internal_strconv_uint64pow10))).modify 3 (putVals (valsOf Rows.laid_math_bits_deBruijn32tab))).modify 4 (putVals (valsOf Rows.laid_math_bits_deBruijn64tab))).push
      (.cells #[.string ⟨#[105, 110, 118, 97, 108, 105, 100, 32, 115, 121, 110, 116, 97, 120]⟩] 202 (0, 0))).push (.cells #[.string ⟨#[118, 97, 108, 117, 101, 32, 111, 117, 116, 32, 111, 102, 32, 114, 97, 110, 103, 101]⟩] 202 (0, 0)) }
end Go.Proofs.YtehfihnfeakmaaaGreatDoor
end

section
namespace Go.Proofs.YtehfihnfeakmaaaGreatDoor
open Go Go.ChangeShapes Go.WideShapes Go.RowKit
set_option linter.unusedVariables false
section
variable {H : Type} {enc : TypeId × Value → H} {W : World} {sp : Nat → Bool}
theorem read_bds (n : Nat) : Rd enc Tryz.prog W sp n 23 (fun l : List Bd => [.list 9 (bdCells l)]) (fun l => 1 + bdsWt l) := by
  have h := rd_slice (enc := enc) (P := Tryz.prog) (W := W) (sp := sp) (t := 23) (e := 54) true (f := Bd.cells) (wt := Bd.wt) (n := 9) (N := n) (by kernel_rfl) (by kernel_rfl) (by kernel_rfl) (by omega) (.inl rfl) (fun m _ => (read_ex m).2.1)
  intro cs x hx
  obtain ⟨a, h1, h2, h3⟩ := h cs x hx
  have e : (a.map fun x => bx true x.cells) = bdCells a := by rw [bdCells_map]; rfl
  have h1 : Good W [SV.list 9 (a.map fun x => bx true x.cells)] cs := h1
  rw [e] at h1
  exact ⟨a, h1, h2, by show 1 + bdsWt a ≤ _; rw [bdsWt_sum]; exact h3⟩
end
end Go.Proofs.YtehfihnfeakmaaaGreatDoor
end

section
namespace Go.Proofs.YtehfihnfeakmaaaGreatDoor
open Go Go.ChangeShapes Go.WideShapes Go.RowKit
set_option linter.unusedVariables false
set_option linter.unusedSimpArgs false
def Cn.wt (c : Cn) : Nat := c.name.length + 4
def Od.wt (o : Od) : Nat := o.name.length + 3 + o.nums.length
section
variable {H : Type} {enc : TypeId × Value → H} {W : World} {sp : Nat → Bool}
theorem read_cn (n : Nat) : Rd enc Tryz.prog W sp n 76 Cn.cells Cn.wt := by
  intro cs x hx
  obtain ⟨xs, m, hm, rfl, hl, hlen, hf⟩ := DataW.trod_struct Tryz.underlying76 hx
  obtain ⟨z0, z1, z2, z3, rfl⟩ : ∃ z0 z1 z2 z3, xs = [z0, z1, z2, z3] := by
    match xs, (show xs.length = 4 from hlen) with
    | [a, b, c, d], _ => exact ⟨a, b, c, d, rfl⟩
  have hsz : Tryz.prog.cellsOf 76 = 4 := by kernel_rfl
  obtain ⟨y0, s, e0, g0, w0⟩ := field_of hf 0 0 1 (by kernel_rfl) (by kernel_rfl) (read_str m) (by simp)
  obtain ⟨y1, a, e1, g1, w1⟩ := field_of hf 1 1 1 (by kernel_rfl) (by kernel_rfl) (read_int m) (by simp)
  obtain ⟨y2, b, e2, g2, w2⟩ := field_of hf 2 2 1 (by kernel_rfl) (by kernel_rfl) (read_int m) (by simp)
  obtain ⟨y3, c, e3, g3, w3⟩ := field_of hf 3 3 1 (by kernel_rfl) (by kernel_rfl) (read_int m) (by simp)
  rw [hsz] at hl
  refine ⟨⟨s, a, b, c⟩, ?_, by rw [hsz, hl], ?_⟩
  · have : (Cn.mk s a b c).cells = [.str s] ++ ([.int .i64 a] ++ ([.int .i64 b] ++ ([.int .i64 c] ++ []))) := rfl
    rw [this, ← List.drop_zero (l := cs)]
    refine .cut g0 (.cut g1 (.cut g2 (.cut g3 ?_)))
    rw [List.drop_eq_nil_of_le (by omega)]
    exact .nil
  · cases e0; cases e1; cases e2; cases e3
    simp only [Rows.uptoBulk, Rows.uptoBulkAll, List.map_cons, List.map_nil, Cn.wt]
    omega
theorem read_cns (n : Nat) : Rd enc Tryz.prog W sp n 22 (fun l : List Cn => [.list 4 (cnCells l)]) (fun l => 1 + (l.map Cn.wt).sum) :=
  rd_slice (enc := enc) (P := Tryz.prog) (W := W) (sp := sp) (t := 22) (e := 76) true (f := Cn.cells) (wt := Cn.wt) (n := 4) (N := n) (by kernel_rfl) (by kernel_rfl) (by kernel_rfl) (by omega) (.inl rfl) (fun m _ => read_cn m)
theorem read_ints (n : Nat) : Rd enc Tryz.prog W sp n 48 (fun l : List Int => [.list 1 (intL l)]) (fun l => 1 + (l.map fun _ => 1).sum) :=
  rd_slice (enc := enc) (P := Tryz.prog) (W := W) (sp := sp) (t := 48) (e := 3) false (f := fun i : Int => [SV.int .i64 i]) (wt := fun _ => 1) (n := 1) (N := n) (by kernel_rfl) (by kernel_rfl) (by kernel_rfl) (by omega) (.inr rfl) (fun m _ => read_int m)
theorem ones_sum : ∀ l : List Int, (l.map fun _ => 1).sum = l.length
  | [] => rfl
  | x :: l => by rw [List.map_cons, List.sum_cons, ones_sum l, List.length_cons]; omega
theorem read_od (n : Nat) : Rd enc Tryz.prog W sp n 50 Od.cells Od.wt := by
  intro cs x hx
  obtain ⟨xs, m, hm, rfl, hl, hlen, hf⟩ := DataW.trod_struct Tryz.underlying50 hx
  obtain ⟨z0, z1, z2, rfl⟩ : ∃ z0 z1 z2, xs = [z0, z1, z2] := by
    match xs, (show xs.length = 3 from hlen) with
    | [a, b, c], _ => exact ⟨a, b, c, rfl⟩
  have hsz : Tryz.prog.cellsOf 50 = 3 := by kernel_rfl
  obtain ⟨y0, s, e0, g0, w0⟩ := field_of hf 0 0 1 (by kernel_rfl) (by kernel_rfl) (read_str m) (by simp)
  obtain ⟨y1, a, e1, g1, w1⟩ := field_of hf 1 1 1 (by kernel_rfl) (by kernel_rfl) (read_int m) (by simp)
  obtain ⟨y2, l, e2, g2, w2⟩ := field_of hf 2 2 1 (by kernel_rfl) (by kernel_rfl) (read_ints m) (by simp)
  rw [hsz] at hl
  refine ⟨⟨s, a, l⟩, ?_, by rw [hsz, hl], ?_⟩
  · have : (Od.mk s a l).cells = [.str s] ++ ([.int .i64 a] ++ ([.list 1 (intL l)] ++ [])) := rfl
    rw [this, ← List.drop_zero (l := cs)]
    refine .cut g0 (.cut g1 (.cut g2 ?_))
    rw [List.drop_eq_nil_of_le (by omega)]
    exact .nil
  · cases e0; cases e1; cases e2
    rw [ones_sum] at w2
    simp only [Rows.uptoBulk, Rows.uptoBulkAll, List.map_cons, List.map_nil, Od.wt]
    omega
theorem read_ods (n : Nat) : Rd enc Tryz.prog W sp n 28 (fun l : List Od => [.list 3 (odCells l)]) (fun l => 1 + (l.map Od.wt).sum) :=
  rd_slice (enc := enc) (P := Tryz.prog) (W := W) (sp := sp) (t := 28) (e := 50) true (f := Od.cells) (wt := Od.wt) (n := 3) (N := n) (by kernel_rfl) (by kernel_rfl) (by kernel_rfl) (by omega) (.inl rfl) (fun m _ => read_od m)
def Pg.wt (p : Pg) : Nat := 2 + (p.cons.map Cn.wt).sum + bdsWt p.binds
theorem read_pg (n : Nat) : Rd enc Tryz.prog W sp n 25 Pg.cells Pg.wt := by
  intro cs x hx
  obtain ⟨xs, m, hm, rfl, hl, hlen, hf⟩ := DataW.trod_struct Tryz.underlying25 hx
  obtain ⟨z0, z1, rfl⟩ := len_two (show xs.length = 2 from hlen)
  have hsz : Tryz.prog.cellsOf 25 = 2 := by kernel_rfl
  obtain ⟨y0, c, e0, g0, w0⟩ := field_of hf 0 0 1 (by kernel_rfl) (by kernel_rfl) (read_cns m) (by simp)
  obtain ⟨y1, b, e1, g1, w1⟩ := field_of hf 1 1 1 (by kernel_rfl) (by kernel_rfl) (read_bds m) (by simp)
  rw [hsz] at hl
  refine ⟨⟨c, b⟩, ?_, by rw [hsz, hl], ?_⟩
  · have : (Pg.mk c b).cells = [.list 4 (cnCells c)] ++ ([.list 9 (bdCells b)] ++ []) := rfl
    rw [this, ← List.drop_zero (l := cs)]
    refine .cut g0 (.cut g1 ?_)
    rw [List.drop_eq_nil_of_le (by omega)]
    exact .nil
  · cases e0; cases e1
    simp only [Rows.uptoBulk, Rows.uptoBulkAll, List.map_cons, List.map_nil, Pg.wt]
    omega
end
/-! ### what the weights bound -/
theorem sum_len {α : Type} {f : α → Nat} (h : ∀ x, 1 ≤ f x) : ∀ l : List α, l.length ≤ (l.map f).sum
  | [] => Nat.zero_le _
  | x :: l => by have := h x; have := sum_len h l; simp only [List.length_cons, List.map_cons, List.sum_cons]; omega
theorem sum_mem {α : Type} {f : α → Nat} : ∀ {l : List α} {x : α}, x ∈ l → f x ≤ (l.map f).sum
  | y :: l, x, h => by
    simp only [List.map_cons, List.sum_cons]
    rcases List.mem_cons.1 h with rfl | h
    · omega
    · have := sum_mem (f := f) h; omega
theorem strs_wt {l : List Str} {s : Str} (h : s ∈ l) : s.length ≤ strsWt l := by
  induction l with
  | nil => cases h
  | cons x r ih =>
    simp only [strsWt]
    rcases List.mem_cons.1 h with rfl | h
    · omega
    · have := ih h; omega
theorem bnds_wt : ∀ (m : Nat) (e : Ex) {s : Str}, s ∈ bndF m e → s.length ≤ e.wt
  | 0, e, s, h => by cases h
  | m + 1, .mk kd nm nn op names subs binds alts, s, h => by
    have h1 : bndF (m + 1) (.mk kd nm nn op names subs binds alts) = (if kd = 3 then names else []) ++ subs.flatMap (bndF m) ++ binds.flatMap (fun b => b.name :: bndF m b.e) ++ (if kd = 6 then [nm] else []) ++ alts.flatMap (fun a => a.names ++ bndF m a.body) := rfl
    rw [h1] at h
    have hp := Ex.parts_mk kd nm nn op names subs binds alts
    simp only [List.mem_append, List.mem_flatMap] at h
    rcases h with (((h | ⟨x, hx, h⟩) | ⟨b, hb, h⟩) | h) | ⟨a, ha, h⟩
    · split at h
      · have := strs_wt h; simp only [Ex.wt]; omega
      · cases h
    · have := bnds_wt m x h
      have := Ex.wt_parts (e := .mk kd nm nn op names subs binds alts) (p := x) (by rw [hp]; exact List.mem_append_left _ hx)
      omega
    · rcases List.mem_cons.1 h with rfl | h
      · have h2 : b.name.length + b.e.wt ≤ b.wt := by obtain ⟨q, e⟩ := b; simp only [Bd.wt, Bd.name, Bd.e]; omega
        have h3 : b.wt ≤ bdsWt binds := by
          clear h1 h2 hp
          induction binds with
          | nil => cases hb
          | cons y r ih =>
            simp only [bdsWt]
            rcases List.mem_cons.1 hb with rfl | hb
            · omega
            · have := ih hb; omega
        simp only [Ex.wt]; omega
      · have := bnds_wt m b.e h
        have := Ex.wt_parts (e := .mk kd nm nn op names subs binds alts) (p := b.e) (by rw [hp]; exact List.mem_append_right _ (List.mem_append_left _ (List.mem_map.2 ⟨b, hb, rfl⟩)))
        omega
    · split at h
      · rw [List.mem_singleton.1 h]; simp only [Ex.wt]; omega
      · cases h
    · rcases h with h | h
      · have h2 := strs_wt h
        have h3 := alsWt_mem ha
        obtain ⟨ak, an, am, al, ab⟩ := a
        simp only [Al.wt, Al.names, Ex.wt] at *
        omega
      · have := bnds_wt m a.body h
        have := Ex.wt_parts (e := .mk kd nm nn op names subs binds alts) (p := a.body) (by rw [hp]; exact List.mem_append_right _ (List.mem_append_right _ (List.mem_map.2 ⟨a, ha, rfl⟩)))
        omega
theorem bd_wt2 {l : List Bd} {b : Bd} (hb : b ∈ l) : b.wt ≤ bdsWt l := by
  induction l with
  | nil => cases hb
  | cons y r ih =>
    simp only [bdsWt]
    rcases List.mem_cons.1 hb with rfl | hb
    · omega
    · have := ih hb; omega
theorem bindersP_wt {l : List Bd} {s : Str} (h : s ∈ bindersP l) : s.length ≤ bdsWt l := by
  obtain ⟨b, hb, h⟩ := List.mem_flatMap.1 h
  have h3 := bd_wt2 hb
  have h2 : b.name.length ≤ b.wt ∧ b.e.wt ≤ b.wt := by obtain ⟨q, e⟩ := b; simp only [Bd.wt, Bd.name, Bd.e]; omega
  rcases List.mem_cons.1 h with rfl | h
  · omega
  · have := bnds_wt _ _ h; omega
end Go.Proofs.YtehfihnfeakmaaaGreatDoor
end

section
namespace Go.Proofs.YtehfihnfeakmaaaGreatDoor
open Go
set_option linter.unusedSimpArgs false
set_option linter.unusedVariables false
set_option maxRecDepth 10000
set_option maxHeartbeats 4000000

theorem body_le (e : Ex) : (bodyE e).wt ≤ e.wt + 1 := by
  obtain ⟨kd, nm, nn, op, names, subs, binds, alts⟩ := e
  cases subs with
  | nil => show noEx.wt ≤ _; have : noEx.wt = 1 := by decide
           omega
  | cons x r => have := Ex.wt_parts (e := .mk kd nm nn op names (x :: r) binds alts) (p := x) (by rw [Ex.parts_mk]; simp)
                show x.wt ≤ _; omega
theorem ords_len (p : Pg) : (ordsS p).length ≤ p.binds.length ∧ ∀ o ∈ ordsS p, o.nums.length ≤ bdsWt p.binds + 1 := by
  refine ⟨by rw [ordsS, ordI_len]; exact List.length_filter_le .., fun o ho => ?_⟩
  rw [ordsS, ordI, ordN] at ho
  obtain ⟨b, hb, rfl⟩ := List.mem_map.1 ho
  have h1 := bd_wt (List.mem_filter.1 hb).1
  have h2 := body_le b.e
  have h3 := fst_len simS (knoF [] (ordI (lamsB p.binds) 19)) (bodyE b.e).wt (bodyE b.e)
  have h4 := numsF_len b.e.names (fstS (knoF [] (ordI (lamsB p.binds) 19)) (bodyE b.e))
  unfold fstS at h4
  simp only [ordO, fstS]
  omega
theorem demandFree_ok (G : Gl) (hG : GClosed G) (haw : ∀ H, ACall Tryz.prog G 7 [] H (fun r H' => H' = H ∧ r = .bool true)) (e : Ex) (l : List Od) (p : Pg) (H : List Blk)
    (hw : e.wt < 1073741824) (hl : l.length < 1073741824) (hn : ∀ o ∈ l, o.nums.length < 4294967296) (hpw : bdsWt p.binds < 1073741824) (hcn : p.cons.length < 1099511627776) (hns : ∀ s ∈ bindersP p.binds, s.length < 4294967296) :
    ACall Tryz.prog G 4 [e.sv, .list 3 (odCells l), p.sv] H (fun r H' => H' = H ∧ r = .bool true) := by
  have hlint := fun H => lint_ok G hG p H (by omega) hcn
  have hbad := fun H => Orders_bad G hG p H (by omega) hcn
  have hgood := fun H => Orders_ok G hG p H (by omega) hcn
  have hoks := ords_ok p
  obtain ⟨hol1, hol2⟩ := ords_len p
  have hblw := bdsWt_len p.binds
  generalize ordsS p = O at *
  generalize lintS p = S at *
  obtain ⟨cons, binds⟩ := p
  rw [show (Pg.mk cons binds).sv = .agg [.list 4 (cnCells cons), .list 9 (bdCells binds)] from rfl] at *
  simp only at hpw hcn hns hol1 hol2 hblw
  have under_ints := fun n => cnCells_under n cons
  have under_bools := odCells_under
  have c1 := haw
  refine ACall.of_go TB [] tabOK _ Tryz.func4 rfl (by decide) Tryz.ntmps4 (by simp) rfl (by simp only [initEnv, Nat.reduceAdd]; rfl) fun C R' hR hC hcl hB => ?_; have X := noX; have hC' := congrArg List.length hC
  (refine run ?_; repeat' (first | with_reducible exact trivial | ((with_reducible apply Fork.mk) <;> intro hb) | with_reducible apply Two.mk))
  refine callS (Bounded_ok G hG e (by omega) _) ?_
  rintro r H' ⟨n, b, ⟨rfl, rfl⟩, _⟩
  cases b
  · (refine run ?_; repeat' (first | with_reducible exact trivial | ((with_reducible apply Fork.mk) <;> intro hb) | with_reducible apply Two.mk))
    exact finS (n0 := H.length) hR hC' hcl (.same _ rfl) ⟨rfl, rfl⟩
  (refine run ?_; repeat' (first | with_reducible exact trivial | ((with_reducible apply Fork.mk) <;> intro hb) | with_reducible apply Two.mk))
  refine callS (right2_ok G hG e _ (by omega)) ?_
  rintro r H' ⟨rfl, b, rfl, hs⟩
  cases b
  · (refine run ?_; repeat' (first | with_reducible exact trivial | ((with_reducible apply Fork.mk) <;> intro hb) | with_reducible apply Two.mk))
    exact finS (n0 := H.length) hR hC' hcl (.same _ rfl) ⟨rfl, rfl⟩
  have hs := hs rfl
  by_cases hlen : (1000 : Int) < (l.length : Int)
  · have X := And.intro noX hlen
    (refine run ?_; repeat' (first | with_reducible exact trivial | ((with_reducible apply Fork.mk) <;> intro hb) | with_reducible apply Two.mk))
    all_goals exact finS (n0 := H.length) hR hC' hcl (.same _ rfl) ⟨rfl, rfl⟩
  have X := And.intro noX hlen
  (refine run ?_; repeat' (first | with_reducible exact trivial | ((with_reducible apply Fork.mk) <;> intro hb) | with_reducible apply Two.mk))
  refine callS (Small_ok G hG cons binds _ hpw hcn hns) ?_
  rintro r H' ⟨rfl, b, rfl⟩
  cases b
  · (refine run ?_; repeat' (first | with_reducible exact trivial | ((with_reducible apply Fork.mk) <;> intro hb) | with_reducible apply Two.mk))
    exact finS (n0 := H.length) hR hC' hcl (.same _ rfl) ⟨rfl, rfl⟩
  have c2 := fun H => ACall.frz (strs_under _ _) (List.length_map ..) (free_ok G hG e H (by omega))
  have c3 := fun H => First_ok G hG e l (by omega) (by omega) hn H
  have hused := fun s => fst_used simS (knoF [] l) s e.wt e
  have hndp := fst_nodup simS (knoF [] l) e.wt e
  have hlnF := fst_len simS (knoF [] l) e.wt e
  have hfS : fstF simS (knoF [] l) e.wt e = fstS (knoF [] l) e := rfl
  rw [hfS] at hndp hlnF
  have hfree : ∀ s ∈ fstS (knoF [] l) e, s ∈ freeS e := fun s h => (free_used s e hs).2 (hused s h)
  have hfl : (freeS e).length ≤ e.wt := by
    have := unb_len e.wt e ([], [])
    rw [freeS, sortS_len]
    simpa using this
  generalize fstS (knoF [] l) e = F at *
  generalize freeS e = FR at *
  (refine run ?_; repeat' (first | with_reducible exact trivial | ((with_reducible apply Fork.mk) <;> intro hb) | with_reducible apply Two.mk))
  refine go_loop (fun i : Nat => [(3, .ptr H.length 0 0 0), (5, .ptr (H.length + 1) 0 0 0), (9, .list 1 (FR.map .str)), (10, .list 1 (F.map .str)), (11, .int .i64 i)]) (fun _ => H ++ [.cells 0 8 [.agg e.cells], .cells 0 2 [.agg [.list 4 (cnCells cons), .list 9 (bdCells binds)]]]) (fun i => F.length - i) (fun i => i ≤ F.length) 0 (Nat.zero_le _) ?_ ?_
  · exact wkS (n0 := H.length) [(H.length, 0), (H.length + 1, 0)] hG hB hC' hcl
  rintro K i hi hK
  rcases Nat.lt_or_ge i F.length with hlt | hge
  · have g1 : (F.map SV.str)[i]? = some (.str F[i]) := by simp [hlt]
    have hm := hfree F[i] (List.getElem_mem hlt)
    have hnt : F[i] ∉ F.take i := fun h => by
      obtain ⟨j, hj, e⟩ := List.mem_take_iff_getElem.1 h
      have := (List.getElem_inj hndp).1 e
      omega
    have c4 := fun H => has_list G FR F[i] H (by omega)
    have c5 := fun H => has_list G (F.take i) F[i] H (by rw [List.length_take]; omega)
    rw [decide_eq_true hm] at c4
    rw [decide_eq_false hnt] at c5
    have htk : List.take i (F.map SV.str) = (F.take i).map SV.str := by rw [List.map_take]
    have hi0 : i - 0 = i := rfl
    generalize F[i] = s at *
    have X := And.intro noX (And.intro g1 (And.intro hi0 htk))
    (refine run ?_; repeat' (first | with_reducible exact trivial | ((with_reducible apply Fork.mk) <;> intro hb) | with_reducible apply Two.mk))
    refine hK _ _ (i + 1) (by omega) (by omega) ?_
    exact wkS (n0 := H.length) [(H.length, 0), (H.length + 1, 0)] hG hB hC' hcl
  obtain hiF : i = F.length := by omega
  have hni : ¬ (i : Int) < (F.length : Int) := by omega
  clear hK
  by_cases h0 : S = 0
  rotate_left
  · have c4 := fun H => hbad H h0
    have c5 := hlint
    have X := And.intro noX (And.intro hni h0)
    (refine run ?_; repeat' (first | with_reducible exact trivial | ((with_reducible apply Fork.mk) <;> intro hb) | with_reducible apply Two.mk))
    exact finS (n0 := H.length) hR hC' hcl (.same _ rfl) ⟨rfl, rfl⟩
  have c4 := fun H => hgood H h0
  have X := And.intro noX hni
  (refine run ?_; repeat' (first | with_reducible exact trivial | ((with_reducible apply Fork.mk) <;> intro hb) | with_reducible apply Two.mk))
  refine go_loop (fun i : Nat => [(12, .list 3 (odCells O)), (14, .int .i64 i)]) (fun _ => H ++ []) (fun i => O.length - i) (fun i => i ≤ O.length) 0 (Nat.zero_le _) ?_ ?_
  · exact wkS (n0 := H.length) [] hG hB hC' hcl
  rintro K i hi2 hK
  rcases Nat.lt_or_ge i O.length with hlt | hge2
  rotate_left
  · have hni2 : ¬ (i : Int) < (O.length : Int) := by omega
    clear hK
    have X := And.intro noX hni2
    (refine run ?_; repeat' (first | with_reducible exact trivial | ((with_reducible apply Fork.mk) <;> intro hb) | with_reducible apply Two.mk))
    exact finS (n0 := H.length) hR hC' hcl (.same _ rfl) ⟨rfl, rfl⟩
  have hoi : O[i]? = some O[i] := List.getElem?_eq_getElem hlt
  obtain ⟨hrg, hnd⟩ := hoks O[i] (List.getElem_mem hlt)
  have hnl := hol2 O[i] (List.getElem_mem hlt)
  generalize O[i] = o at *
  obtain ⟨nm, ar, ns⟩ := o
  simp only at hrg hnd hnl
  have X := And.intro noX hoi
  (refine run ?_; repeat' (first | with_reducible exact trivial | ((with_reducible apply Fork.mk) <;> intro hb) | with_reducible apply Two.mk))
  refine go_loop (fun k : Nat => [(12, .list 3 (odCells O)), (14, .int .i64 i), (15, .int .i64 k)]) (fun _ => H ++ []) (fun k => ns.length - k) (fun k => k ≤ ns.length) 0 (Nat.zero_le _) ?_ ?_
  · exact wkS (n0 := H.length) [] hG hB hC' hcl
  rintro K2 k hk hK2
  rcases Nat.lt_or_ge k ns.length with hltk | hgek
  rotate_left
  · have hnk : ¬ (k : Int) < (ns.length : Int) := by omega
    clear hK2
    have X := And.intro noX (And.intro hoi hnk)
    (refine run ?_; repeat' (first | with_reducible exact trivial | ((with_reducible apply Fork.mk) <;> intro hb) | with_reducible apply Two.mk))
    refine hK _ _ (i + 1) (by omega) (by omega) ?_
    exact wkS (n0 := H.length) [] hG hB hC' hcl
  have gk : (intL ns)[k]? = some (.int .i64 ns[k]) := by simp [intL, hltk]
  obtain ⟨hr1, hr2⟩ := hrg ns[k] (List.getElem_mem hltk)
  have hne : ∀ j (hj : j < k), ¬ ns[j]'(by omega) = ns[k] := fun j hj h => by
    have := (List.getElem_inj hnd).1 h
    omega
  have hr1' : ¬ ns[k] < 0 := by omega
  have hr2' : ¬ ar ≤ ns[k] := by omega
  generalize ns[k] = v at *
  have X := And.intro noX (And.intro hoi (And.intro gk (And.intro hr1' hr2')))
  (refine run ?_; repeat' (first | with_reducible exact trivial | ((with_reducible apply Fork.mk) <;> intro hb) | with_reducible apply Two.mk))
  refine go_loop (fun j : Nat => [(12, .list 3 (odCells O)), (14, .int .i64 i), (15, .int .i64 k), (16, .int .i64 v), (17, .int .i64 j)]) (fun _ => H ++ []) (fun j => k - j) (fun j => j ≤ k) 0 (Nat.zero_le _) ?_ ?_
  · exact wkS (n0 := H.length) [] hG hB hC' hcl
  rintro K3 j hj hK3
  rcases Nat.lt_or_ge j k with hltj | hgej
  · have gj : (intL ns)[j]? = some (.int .i64 (ns[j]'(by omega))) := by simp [intL, show j < ns.length by omega]
    have hnej := hne j hltj
    generalize ns[j]'(by omega) = w at *
    have X := And.intro noX (And.intro hoi (And.intro gj hnej))
    (refine run ?_; repeat' (first | with_reducible exact trivial | ((with_reducible apply Fork.mk) <;> intro hb) | with_reducible apply Two.mk))
    refine hK3 _ _ (j + 1) (by omega) (by omega) ?_
    exact wkS (n0 := H.length) [] hG hB hC' hcl
  · have hnj : ¬ (j : Int) < (k : Int) := by omega
    clear hK3
    have X := And.intro noX hnj
    (refine run ?_; repeat' (first | with_reducible exact trivial | ((with_reducible apply Fork.mk) <;> intro hb) | with_reducible apply Two.mk))
    refine hK2 _ _ (k + 1) (by omega) (by omega) ?_
    exact wkS (n0 := H.length) [] hG hB hC' hcl
end Go.Proofs.YtehfihnfeakmaaaGreatDoor
end

section
namespace Go.Proofs.YtehfihnfeakmaaaGreatDoor.demandFree
open Go Go.ChangeShapes Go.WideShapes Go.RowKit
set_option linter.unusedVariables false
set_option linter.unusedSimpArgs false

set_option maxRecDepth 100000 in
theorem contract (H : Type) (enc : TypeId × Value → H) (W : World) (base : Nat) (args : Array Value) (ds gs : List (DataW H)) (before : List MemPlace)
    (hval : ∀ (j : Nat) t v, Tryz.f4.params[j]? = some t → args[j]? = some v → Value.okWide Tryz.prog W .any base t v)
    (hW : DataW.Whole enc Tryz.prog Tryz.f4.params.toList Rows.demandFreeSpec.vars false W args.toList ds gs before) (hL : laidMetH Tryz.prog Rows.demandFreeUptoRow.laid W) (hk : Rows.uptoSmall H (ds ++ gs) = true) :
    Calls Tryz.prog 4 args W fun e W' => ∃ v, e = .returned v ∧ Rows.demandFreeSpec.post enc Tryz.prog Tryz.f4 false true false false W args v W' := by
  have hW' := hW
  obtain ⟨p, q, hA0, hV, rfl, hfz, hnd⟩ := hW
  have hA : DataW.TrodAll enc Tryz.prog W 0 (fun _ => true) true Tryz.f4.params.toList args.toList ds p := hA0
  rw [Tryz.params4] at hA hval
  obtain ⟨v0, vs0, d0, ds0, p0, q0, hargs, rfl, rfl, h0, r0⟩ := trodAll_cons hA
  obtain ⟨v1, vs1, d1, ds1, p1, q1, rfl, rfl, rfl, h1, r1⟩ := trodAll_cons r0
  obtain ⟨v2, vs2, d2, ds2, p2, q2, rfl, rfl, rfl, h2, r2⟩ := trodAll_cons r1
  obtain ⟨rfl, rfl, rfl⟩ := trodAll_nil r2
  obtain rfl : args = #[v0, v1, v2] := by cases args; simp_all
  obtain ⟨rfl, rfl⟩ := trodVars_none hV
  obtain ⟨cs0, rfl, _⟩ := okWide_struct Tryz.underlying40 (hval 0 40 v0 (by simp) (by simp))
  obtain ⟨fuel0, hf0⟩ := h0
  obtain ⟨e0, hg0, _, hw0⟩ := (read_ex fuel0).1 _ _ hf0
  obtain ⟨a1, len1, cap1, rfl⟩ := okWide_slice Tryz.underlying28 (hval 1 28 v1 (by simp) (by simp))
  obtain ⟨fuel1, hf1⟩ := h1
  obtain ⟨e1, hg1, _, hw1⟩ := read_ods fuel1 _ _ hf1
  obtain ⟨cs2, rfl, _⟩ := okWide_struct Tryz.underlying25 (hval 2 25 v2 (by simp) (by simp))
  obtain ⟨fuel2, hf2⟩ := h2
  obtain ⟨e2, hg2, _, hw2⟩ := read_pg fuel2 _ _ hf2
  have hbulk : e0.wt + (e1.map Od.wt).sum + e2.wt ≤ 1048576 := by
    simp only [Rows.uptoSmall, decide_eq_true_eq, List.append_nil, Rows.uptoBulkAll] at hk
    simp only at hw0 hw1 hw2
    omega
  refine (law_callsG (args := [e0.sv, .list 3 (odCells e1), e2.sv]) (vs := [.agg cs0, .slice a1 len1 cap1, .agg cs2]) (demandFree_ok (GB W) (gclosedB W) (awake_ok (GB W) (gclosedB W) (rdC W) rfl (errAt hL)) e0 e1 e2 [] (by omega) (by have := sum_len (f := Od.wt) (fun x => by unfold Od.wt; omega) e1; omega) (fun o ho => by have h1 := sum_mem (f := Od.wt) ho; have h2 : o.nums.length ≤ Od.wt o := (by unfold Od.wt; omega); omega) (by unfold Pg.wt at hbulk; omega) (by have := sum_len (f := Cn.wt) (fun x => by unfold Cn.wt; omega) e2.cons; unfold Pg.wt at hbulk; omega) (fun s hs => by have := bindersP_wt hs; unfold Pg.wt at hbulk; omega)) (gokB W) ?_ (fun W' => law_post laid rfl hW' ?_ rfl (by kernel_rfl) rfl rfl rfl)).mono ?_
  · refine RepL.mk_cons ?_ (RepL.mk_cons ?_ (RepL.mk_cons ?_ (RepL.mk_nil)))
    · simp only [Ex.sv, Rep]; exact ⟨cs0.toList, hg0.1, hg0.2, rfl⟩
    · have hq : RepL (rdC W) [.list 3 (odCells e1)] [Value.slice a1 len1 cap1] := hg1.1
      obtain ⟨u, us, q1, q2, q3⟩ := RepL.cons_iff.1 hq
      cases q3
      exact q1
    · simp only [Pg.sv, Rep]; exact ⟨cs2.toList, hg2.1, hg2.2, rfl⟩
  · intro t ht
    rw [Tryz.params4] at ht
    simp only [List.mem_cons, List.not_mem_nil, or_false] at ht
    rcases ht with rfl | rfl | rfl <;> exact ⟨by kernel_rfl, of_decide_eq_true (by kernel_rfl)⟩
  · rintro _ W' ⟨v, rfl, rfl, hp⟩
    exact ⟨_, rfl, hp⟩

theorem laid_met (os : Os) : laidMet Tryz.prog Rows.demandFreeUptoRow.laid ((laidWorld os).forCall (fun _ _ => 0) ⟨#[], #[Value.agg #[.int .i64 0, .string ⟨⟨[]⟩⟩, .int .i64 0, .int .i64 0, .slice none 0 0, .slice none 0 0, .slice none 0 0, .slice none 0 0], Value.slice none 0 0, Value.agg #[.slice none 0 0, .slice none 0 0]], []⟩).memory :=
  laidMet_of_run' 8 (by kernel_rfl) (by kernel_rfl)
theorem reads (os : Os) {H : Type} (enc : TypeId × Value → H) : ∃ places, DataW.whole enc Tryz.prog ((laidWorld os).forCall (fun _ _ => 0) ⟨#[], #[Value.agg #[.int .i64 0, .string ⟨⟨[]⟩⟩, .int .i64 0, .int .i64 0, .slice none 0 0, .slice none 0 0, .slice none 0 0, .slice none 0 0], Value.slice none 0 0, Value.agg #[.slice none 0 0, .slice none 0 0]], []⟩).memory Tryz.f4.params.toList Rows.demandFreeSpec.vars false (#[Value.agg #[.int .i64 0, .string ⟨⟨[]⟩⟩, .int .i64 0, .int .i64 0, .slice none 0 0, .slice none 0 0, .slice none 0 0, .slice none 0 0], Value.slice none 0 0, Value.agg #[.slice none 0 0, .slice none 0 0]] : Array Value).toList 8 = some ([.agg [.lit (.int .i64 0), .lit (.string []), .lit (.int .i64 0), .lit (.int .i64 0), .nil, .nil, .nil, .nil], .nil, .agg [.nil, .nil]], [], places) :=
  ⟨[], by kernel_rfl⟩
set_option maxRecDepth 100000 in
theorem lifted (os : Os) (started : os.Started) (H : Type) (enc : TypeId × Value → H) (F : Stop.Interp) :
    ReturnsInHanded {} Tryz.checked os 4 .any ((Rows.OpenSpec.upto Rows.demandFreeSpec).preRow enc Tryz.prog Tryz.f4 Rows.demandFreeUptoRow.domain false Rows.demandFreeUptoRow.laid) (((Rows.OpenSpec.upto Rows.demandFreeSpec).at F).post enc Tryz.prog Tryz.f4 false true false false) := by
  obtain ⟨places, hx⟩ := reads os enc
  refine returnsInHanded_of_row (C := Tryz.checked) (s := Rows.OpenSpec.upto Rows.demandFreeSpec) own started (by kernel_rfl) Tryz.func4
    (witness_row_at (enc := enc) (C := Tryz.checked) false (laidWorld os) #[Value.agg #[.int .i64 0, .string ⟨⟨[]⟩⟩, .int .i64 0, .int .i64 0, .slice none 0 0, .slice none 0 0, .slice none 0 0, .slice none 0 0], Value.slice none 0 0, Value.agg #[.slice none 0 0, .slice none 0 0]] rfl (by kernel_rfl) (by kernel_rfl) (by kernel_rfl)
      (OpenSpec.preRow_of_cond 8 hx (by kernel_rfl) (fun k hk => by cases hk; kernel_rfl) (by kernel_rfl) (laid_met os))) ?_
  intro W base args ds gs before hval hW _ hcond _ hL _ _
  exact contract H enc W base args ds gs before hval hW hL (hcond _ rfl)
theorem said : Rows.DemandFreeUptoSaid :=
  OpenClaim.holds_of_cond 4 Tryz.f4 rfl rfl rfl rfl rfl rfl rfl ⟨rfl, rfl, rfl, rfl, rfl⟩ rfl rfl rfl rfl rfl (by kernel_rfl) Tryz.func4 (by kernel_rfl)
    (of_decide_eq_true (by kernel_rfl)) (by unfold Func.isWrapper; first | (rw [if_pos (by decide +kernel)]; kernel_rfl) | (rw [if_neg (by decide +kernel)]; exact ⟨rfl, rfl⟩))
    (fun os started H enc _ F => by rw [OpenClaim.pre_eq_preRow]; exact lifted os started H enc F)
theorem plain (f : FuncId) (fn : Func) (hf : Tryz.pinned.checked.prog.funcNamed "teasel/teasellaw15.DemandFree" = some f) (hfn : Tryz.pinned.checked.prog.funcs[f]? = some fn) :
    true = Tryz.pinned.checked.prog.looks [] ∧ ∀ (j : Nat) t, fn.params[j]? = some t → Tryz.pinned.checked.prog.wantsStandIn t = false := by
  obtain rfl : f = 4 := Option.some.inj ((show Tryz.prog.funcNamed "teasel/teasellaw15.DemandFree" = some 4 by kernel_rfl).symm.trans hf) |>.symm
  obtain rfl : fn = Tryz.f4 := (Option.some.inj (Tryz.func4.symm.trans hfn)).symm
  refine ⟨by kernel_rfl, fun j t ht => ?_⟩
  rw [Tryz.params4] at ht
  have hm := Array.mem_of_getElem? ht
  have hm2 : t = 40 ∨ t = 28 ∨ t = 25 := by
    have h3 : t = 40 ∨ t = 28 ∨ t = 25 := by simpa using hm
    rcases h3 with rfl | rfl | rfl <;> simp
  rcases hm2 with rfl | rfl | rfl
  · exact (show Tryz.prog.wantsStandIn 40 = false by kernel_rfl)
  · exact (show Tryz.prog.wantsStandIn 28 = false by kernel_rfl)
  · exact (show Tryz.prog.wantsStandIn 25 = false by kernel_rfl)
theorem proved : Rows.DemandFreeUptoCardSaid :=
  Claim7.holds_tied_plain_at .later [] _ _ _ _ said (fun _ h => by cases h) (by kernel_rfl) (fun _ h => by cases h) demandFreeUpto_row_tie rfl ⟨rfl, rfl⟩ (by kernel_rfl) rfl plain (by kernel_rfl)
end Go.Proofs.YtehfihnfeakmaaaGreatDoor.demandFree
end
