/- A part of the proof: N3, N4, N5, M0, M1, M2, M3, M4. -/
import Derived.Test.YtcopfafknmpneaaGreatDoorMi

section
namespace Go.Proofs.YtcopfafknmpneaaGreatDoor
open Go
set_option linter.unusedSimpArgs false
set_option linter.unusedVariables false
set_option maxRecDepth 10000
set_option maxHeartbeats 4000000

def RbnC (G : Gl) (m : Nat) : Prop := ∀ (e : Ex) (H : List Blk), e.wt ≤ m → e.wt < 4294967296 → ACall Tryz.prog G 19 [e.sv] H (fun r H' => H' = H ++ [.cells 0 1 ((bndF m e).map .str)] ∧ r = .sl H.length 0 0 (bndF m e).length)
theorem rbinders_ok (G : Gl) (hG : GClosed G) : ∀ m, RbnC G m
  | 0, e, H, h, _ => absurd e.wt_pos (by omega)
  | m + 1, e, H, hm, hw0 => by
    have hrec := rbinders_ok G hG m
    obtain ⟨kd, nm, nn, op, names, subs, binds, alts⟩ := e
    have hle := Ex.wt_lens kd nm nn op names subs binds alts
    have hln := bndF_len (m + 1) (.mk kd nm nn op names subs binds alts)
    have hpw : ∀ p ∈ (Ex.mk kd nm nn op names subs binds alts).parts, p.wt ≤ m ∧ p.wt < 4294967296 := fun p hp => by have := Ex.wt_parts hp; exact ⟨by omega, by omega⟩
    rw [Ex.parts_mk] at hpw
    have eb : bndF (m + 1) (.mk kd nm nn op names subs binds alts) = (if kd = 3 then names else []) ++ subs.flatMap (bndF m) ++ binds.flatMap (fun b => b.name :: bndF m b.e) ++ (if kd = 6 then [nm] else []) ++ alts.flatMap (fun a => a.names ++ bndF m a.body) := rfl
    rw [eb] at hln ⊢
    clear eb
    have h3n : (if kd = 3 then names else []).length ≤ names.length := by split <;> simp
    generalize hl0 : (if kd = 3 then names else []) = l0 at *
    generalize hl5 : (if kd = 6 then [nm] else []) = l5 at *
    obtain ⟨L1, a1, a2, a3, a4⟩ := flat_seq (bndF m) l0 subs
    rw [← a4] at hln ⊢
    obtain ⟨L2, b1, b2, b3, b4⟩ := flat_seq (fun b : Bd => b.name :: bndF m b.e) (L1 subs.length) binds
    rw [← b4] at hln ⊢
    obtain ⟨L4, d1, d2, d3, d4⟩ := flat_seq (fun a : Al => a.names ++ bndF m a.body) (L2 binds.length ++ l5) alts
    rw [← d4] at hln ⊢
    rw [← a4] at a3
    rw [← b4] at b3
    rw [← d4] at d3
    have q4 : (L2 binds.length).length + l5.length ≤ (L4 alts.length).length := by have := d3 0; rw [d1, List.length_append] at this; exact this
    have q2 : (L1 subs.length).length ≤ (L2 binds.length).length := by have := b3 0; rw [b1] at this; exact this
    generalize hW : (Ex.mk kd nm nn op names subs binds alts).wt = W at *
    refine ACall.of_go TB [3] tabOK _ Tryz.func19 rfl (by decide) Tryz.ntmps19 (by simp) rfl (by simp only [initEnv, Nat.reduceAdd]; rfl) fun C R' hR hC hcl hB => ?_; have X := noX; have hC' := congrArg List.length hC
    (refine runC ?_; repeat' (first | with_reducible exact trivial | ((with_reducible apply Fork.mk) <;> intro hb) | with_reducible apply Two.mk))
    refine go_cut (fun _ : Unit => [(1, .ptr H.length 0 0 0), (3, .sl (H.length + 1) 0 0 l0.length)]) (fun _ => H ++ [.cells 0 8 [.agg [.int .i64 kd, .str nm, .int .i64 nn, .int .i64 op, .list 1 (names.map .str), .list 8 (exCells subs), .list 9 (bdCells binds), .list 12 (alCells alts)]], .cells 0 1 (l0.map .str)]) (fun _ => True) (fun K hK => ?_) (fun _ _ => ?_)
    · (refine runO ?_; repeat' (first | with_reducible exact trivial | ((with_reducible apply Fork.mk) <;> intro hb) | with_reducible apply Two.mk))
      · refine hK _ _ () trivial ?_
        rw [if_pos hb] at hl0
        subst hl0
        exact wkS (n0 := H.length) [(H.length, 0), (H.length + 1, 0)] hG hB hC' hcl
      · refine hK _ _ () trivial ?_
        rw [if_neg hb] at hl0
        subst hl0
        simp only [List.length_nil, List.map_nil]
        exact wkS (n0 := H.length) [(H.length, 0), (H.length + 1, 0)] hG hB hC' hcl
    (refine runO ?_; repeat' (first | with_reducible exact trivial | ((with_reducible apply Fork.mk) <;> intro hb) | with_reducible apply Two.mk))
    refine go_loop (fun i : Nat => [(1, .ptr H.length 0 0 0), (3, .sl (H.length + 1) 0 0 (L1 i).length), (4, .int .i64 i)])
      (fun i => H ++ [.cells 0 8 [.agg [.int .i64 kd, .str nm, .int .i64 nn, .int .i64 op, .list 1 (names.map .str), .list 8 (exCells subs), .list 9 (bdCells binds), .list 12 (alCells alts)]], .cells 0 1 ((L1 i).map .str)]) (fun i => subs.length - i) (fun i => i ≤ subs.length) 0 (Nat.zero_le _) ?_ ?_
    · rw [a1]
      exact Wk.sub (by simp [subEnv, look])
    rintro K i hi hK
    rcases Nat.lt_or_ge i subs.length with hlt | hge
    · have c1 := fun H => hrec subs[i] H (hpw _ (by simp)).1 (hpw _ (by simp)).2
      have e1 := a2 i hlt
      have e2 := a3 (i + 1)
      have e3 := a3 i
      have e4 := bndF_len m subs[i]
      have e5 := (hpw subs[i] (by simp)).2
      rw [e1, List.length_append] at e2
      generalize bndF m subs[i] = l at *
      generalize L1 i = l1 at *
      have X := And.intro noX (show (l1.map SV.str).length = l1.length ∧ (l.map SV.str).length = l.length from ⟨List.length_map .., List.length_map ..⟩)
      (refine run ?_; repeat' (first | with_reducible exact trivial | ((with_reducible apply Fork.mk) <;> intro hb) | with_reducible apply Two.mk))
      refine hK _ _ (i + 1) (by omega) (by omega) ?_
      rw [e1, List.map_append, show (l1 ++ l).length = l1.length + l.length from List.length_append ..]
      exact wkS (n0 := H.length) [(H.length, 0), (H.length + 1, 0)] hG hB hC' hcl
    obtain rfl : i = subs.length := by omega
    clear hK
    (refine runO ?_; repeat' (first | with_reducible exact trivial | ((with_reducible apply Fork.mk) <;> intro hb) | with_reducible apply Two.mk))
    refine go_loop (fun i : Nat => [(1, .ptr H.length 0 0 0), (3, .sl (H.length + 1) 0 0 (L2 i).length), (5, .int .i64 i)])
      (fun i => H ++ [.cells 0 8 [.agg [.int .i64 kd, .str nm, .int .i64 nn, .int .i64 op, .list 1 (names.map .str), .list 8 (exCells subs), .list 9 (bdCells binds), .list 12 (alCells alts)]], .cells 0 1 ((L2 i).map .str)]) (fun i => binds.length - i) (fun i => i ≤ binds.length) 0 (Nat.zero_le _) ?_ ?_
    · rw [b1]
      exact Wk.sub (by simp [subEnv, look])
    rintro K i hi hK
    rcases Nat.lt_or_ge i binds.length with hlt | hge
    · have hpb := hpw binds[i].e (by simp; exact .inr (.inl ⟨_, List.getElem_mem hlt, rfl⟩))
      have c1 := fun H => hrec binds[i].e H hpb.1 hpb.2
      have e1 := b2 i hlt
      have e2 := b3 (i + 1)
      have e3 := b3 i
      have e4 := bndF_len m binds[i].e
      rw [e1, List.length_append] at e2
      simp only [List.length_cons] at e2
      generalize bndF m binds[i].e = l at *
      generalize L2 i = l1 at *
      have X := And.intro noX (show (l1.map SV.str).length = l1.length ∧ (l.map SV.str).length = l.length from ⟨List.length_map .., List.length_map ..⟩)
      (refine run ?_; repeat' (first | with_reducible exact trivial | ((with_reducible apply Fork.mk) <;> intro hb) | with_reducible apply Two.mk))
      refine hK _ _ (i + 1) (by omega) (by omega) ?_
      rw [e1, List.map_append, List.map_cons, show (l1 ++ binds[i].name :: l).length = l1.length + (1 + l.length) from by simp; omega]
      exact wkS (n0 := H.length) [(H.length, 0), (H.length + 1, 0)] hG hB hC' hcl
    obtain rfl : i = binds.length := by omega
    clear hK
    (refine runC ?_; repeat' (first | with_reducible exact trivial | ((with_reducible apply Fork.mk) <;> intro hb) | with_reducible apply Two.mk))
    refine go_condDF rfl (by omega) ?_
    (refine runC ?_; repeat' (first | with_reducible exact trivial | ((with_reducible apply Fork.mk) <;> intro hb) | with_reducible apply Two.mk))
    refine go_cut (fun _ : Unit => [(1, .ptr H.length 0 0 0), (3, .sl (H.length + 1) 0 0 (L2 binds.length ++ l5).length)]) (fun _ => H ++ [.cells 0 8 [.agg [.int .i64 kd, .str nm, .int .i64 nn, .int .i64 op, .list 1 (names.map .str), .list 8 (exCells subs), .list 9 (bdCells binds), .list 12 (alCells alts)]], .cells 0 1 ((L2 binds.length ++ l5).map .str)]) (fun _ => True) (fun K hK => ?_) (fun _ _ => ?_)
    · have X := And.intro noX (show ((L2 binds.length).map SV.str).length = (L2 binds.length).length from List.length_map ..)
      (refine runO ?_; repeat' (first | with_reducible exact trivial | ((with_reducible apply Fork.mk) <;> intro hb) | with_reducible apply Two.mk))
      · refine hK _ _ () trivial ?_
        rw [if_pos hb] at hl5
        subst hl5
        rw [List.map_append, List.length_append, List.length_singleton]
        exact wkS (n0 := H.length) [(H.length, 0), (H.length + 1, 0)] hG hB hC' hcl
      · refine hK _ _ () trivial ?_
        rw [if_neg hb] at hl5
        subst hl5
        rw [List.append_nil]
        exact wkS (n0 := H.length) [(H.length, 0), (H.length + 1, 0)] hG hB hC' hcl
    (refine runO ?_; repeat' (first | with_reducible exact trivial | ((with_reducible apply Fork.mk) <;> intro hb) | with_reducible apply Two.mk))
    refine go_loop (fun i : Nat => [(1, .ptr H.length 0 0 0), (3, .sl (H.length + 1) 0 0 (L4 i).length), (6, .int .i64 i)])
      (fun i => H ++ [.cells 0 8 [.agg [.int .i64 kd, .str nm, .int .i64 nn, .int .i64 op, .list 1 (names.map .str), .list 8 (exCells subs), .list 9 (bdCells binds), .list 12 (alCells alts)]], .cells 0 1 ((L4 i).map .str)]) (fun i => alts.length - i) (fun i => i ≤ alts.length) 0 (Nat.zero_le _) ?_ ?_
    · rw [d1]
      exact Wk.sub (by simp [subEnv, look])
    rintro K i hi hK
    rcases Nat.lt_or_ge i alts.length with hlt | hge
    · have hpb := hpw alts[i].body (by simp; exact .inr (.inr ⟨_, List.getElem_mem hlt, rfl⟩))
      have c1 := fun H => hrec alts[i].body H hpb.1 hpb.2
      have e1 := d2 i hlt
      have e2 := d3 (i + 1)
      have e3 := d3 i
      have e4 := bndF_len m alts[i].body
      rw [e1, List.length_append] at e2
      simp only [List.length_append] at e2
      generalize bndF m alts[i].body = l at *
      generalize L4 i = l1 at *
      have X := And.intro noX (show (l1.map SV.str).length = l1.length ∧ (l.map SV.str).length = l.length from ⟨List.length_map .., List.length_map ..⟩)
      (refine run ?_; repeat' (first | with_reducible exact trivial | ((with_reducible apply Fork.mk) <;> intro hb) | with_reducible apply Two.mk))
      refine hK _ _ (i + 1) (by omega) (by omega) ?_
      rw [e1, List.map_append, List.map_append, show (l1 ++ (alts[i].names ++ l)).length = l1.length + (alts[i].names.length + l.length) from by simp]
      exact wkS (n0 := H.length) [(H.length, 0), (H.length + 1, 0)] hG hB hC' hcl
    obtain rfl : i = alts.length := by omega
    clear hK
    (refine runO ?_; repeat' (first | with_reducible exact trivial | ((with_reducible apply Fork.mk) <;> intro hb) | with_reducible apply Two.mk))
    exact finK [(H.length + 1, 0)] (.sl H.length 0 0 (L4 alts.length).length) [.cells 0 1 ((L4 alts.length).map .str)] hR hC' hcl ⟨rfl, rfl⟩
end Go.Proofs.YtcopfafknmpneaaGreatDoor
end

section
namespace Go.Proofs.YtcopfafknmpneaaGreatDoor
open Go
set_option linter.unusedSimpArgs false
set_option linter.unusedVariables false
set_option maxRecDepth 10000
set_option maxHeartbeats 4000000

/-- the reference's texts, on lists -/
theorem rtexts_ok (G : Gl) (hG : GClosed G) (a b : List (Str)) (ha : a.length < 1125899906842624) (hb0 : b.length < 1125899906842624) (H : List Blk) :
    ACall Tryz.prog G 56 [.list 1 (a.map SV.str), .list 1 (b.map SV.str)] H (fun r H' => H' = H ∧ r = .bool (eqL strE a b)) := by
  have h1 : (a.map SV.str).length = a.length := by simp
  have h2 : (b.map SV.str).length = b.length := by simp
  have hA1 : ∀ k : Nat, (a.map SV.str)[k]? = a[k]?.map SV.str := fun k => List.getElem?_map ..
  have hB1 : ∀ k : Nat, (b.map SV.str)[k]? = b[k]?.map SV.str := fun k => List.getElem?_map ..
  have hu1 : SV.underL H.length (a.map SV.str) = true := SV.underL_map fun _ _ => rfl
  have hu2 : SV.underL H.length (b.map SV.str) = true := SV.underL_map fun _ _ => rfl
  generalize a.map SV.str = A at *
  generalize b.map SV.str = B at *
  refine ACall.of_go TB [] tabOK _ Tryz.func56 rfl (by decide) Tryz.ntmps56 (by simp) rfl (by simp only [initEnv, Nat.reduceAdd]; rfl) fun C R' hR hC hcl hB => ?_; have X := noX; have hC' := congrArg List.length hC
  have X := And.intro X (And.intro h1 h2)
  by_cases hl : a.length = b.length
  · have hln : ((a.length : Int) = (b.length : Int)) = True := by simp [hl]
    have X := And.intro X hln
    (refine run ?_; repeat' (first | with_reducible exact trivial | ((with_reducible apply Fork.mk) <;> intro hb) | with_reducible apply Two.mk))
    clear X
    refine go_loop (fun k : Nat => [(0, .list 1 A), (1, .list 1 B), (5, .int .i64 k)]) (fun _ => H) (fun k => a.length - k) (fun k => k ≤ a.length ∧ ∀ i (h : i < a.length) (h' : i < b.length), i < k → strE a[i] b[i] = true) 0 ⟨Nat.zero_le _, fun i _ _ h => by omega⟩ (Wk.sub (by simp [subEnv, look])) ?_
    rintro K k ⟨hk, hall⟩ hK
    rcases Nat.lt_or_ge k a.length with hlt | hge
    · have hlt2 : k < b.length := by omega
      have e1 : A[k]? = some (SV.str a[k]) := by rw [hA1, List.getElem?_eq_getElem hlt]; rfl
      have e2 : B[k]? = some (SV.str b[k]) := by rw [hB1, List.getElem?_eq_getElem hlt2]; rfl
      have hno := eqL_at (p := strE) hlt hlt2
      have hyes : strE a[k] b[k] = true → ∀ i (h : i < a.length) (h' : i < b.length), i < k + 1 → strE a[i] b[i] = true := fun h i hi hi' hik => by
        rcases Nat.lt_or_ge i k with h3 | h3
        · exact hall i hi hi' h3
        · have : i = k := by omega
          subst this; exact h
      generalize a[k] = x at *
      generalize b[k] = y at *
      simp only [strE] at hno hyes
      have X := And.intro noX (And.intro h1 (And.intro h2 (And.intro e1 e2)))
      (refine run ?_; repeat' (first | with_reducible exact trivial | ((with_reducible apply Fork.mk) <;> intro hb) | with_reducible apply Two.mk))
      · refine Fin.out hR ⟨rfl, ?_⟩
        rw [hno (by first | (simpa using hb) | (revert hb; simp; done) | (cases h1 : decide (x1 = y1) <;> cases h2 : decide (x2 = y2) <;> simp_all; done) | (cases h1 : decide (x1 = y1) <;> cases h2 : decide (x2 = y2) <;> cases h3 : decide (x3 = y3) <;> cases h4 : decide (x4 = y4) <;> simp_all))]; rfl
      · exact hK _ _ (k + 1) (by omega) ⟨by omega, hyes (by first | (simpa using hb) | (revert hb; simp; done) | (cases h1 : decide (x1 = y1) <;> cases h2 : decide (x2 = y2) <;> simp_all; done) | (cases h1 : decide (x1 = y1) <;> cases h2 : decide (x2 = y2) <;> cases h3 : decide (x3 = y3) <;> cases h4 : decide (x4 = y4) <;> simp_all))⟩ (Wk.sub (by simp [subEnv, look]))
    · have : k = a.length := by omega
      subst this
      have X := And.intro noX (Int.lt_irrefl (a.length : Int))
      (refine run ?_; repeat' (first | with_reducible exact trivial | ((with_reducible apply Fork.mk) <;> intro hb) | with_reducible apply Two.mk))
      refine Fin.out hR ⟨rfl, ?_⟩
      rw [(eqL_iff strE a b).2 ⟨hl, fun i h h' => hall i h h' h⟩]; rfl
  · have hln : ((a.length : Int) = (b.length : Int)) = False := by simp; omega
    have X := And.intro X hln
    (refine run ?_; repeat' (first | with_reducible exact trivial | ((with_reducible apply Fork.mk) <;> intro hb) | with_reducible apply Two.mk))
    refine Fin.out hR ⟨rfl, ?_⟩
    rw [eqL_no hl]; rfl
end Go.Proofs.YtcopfafknmpneaaGreatDoor
end

section
namespace Go.Proofs.YtcopfafknmpneaaGreatDoor
open Go
set_option linter.unusedSimpArgs false
set_option linter.unusedVariables false
set_option maxRecDepth 10000
set_option maxHeartbeats 4000000

theorem alB_n1 {k1 k2 : Int} {s1 s2 : Str} {n1 n2 : Int} {z2 z : Bool} (h : (decide (¬ k1 = k2) || decide (¬ s1 = s2) || decide (¬ n1 = n2)) = true) : alB k1 k2 s1 s2 n1 n2 z2 z = false := by
  revert h; unfold alB; by_cases a : k1 = k2 <;> by_cases b : s1 = s2 <;> by_cases c : n1 = n2 <;> simp [a, b, c]
theorem alB_y {k1 k2 : Int} {s1 s2 : Str} {n1 n2 : Int} {z2 z : Bool} (h : (decide (¬ k1 = k2) || decide (¬ s1 = s2) || decide (¬ n1 = n2)) = false) (h2 : (!z2) = false) (h3 : (!z) = false) : alB k1 k2 s1 s2 n1 n2 z2 z = true := by
  revert h; unfold alB; by_cases a : k1 = k2 <;> by_cases b : s1 = s2 <;> by_cases c : n1 = n2 <;> simp_all
theorem alB_n2 {k1 k2 : Int} {s1 s2 : Str} {n1 n2 : Int} {z2 z : Bool} (h : (!z2) = true) : alB k1 k2 s1 s2 n1 n2 z2 z = false := by
  unfold alB; simp_all
theorem alB_n3 {k1 k2 : Int} {s1 s2 : Str} {n1 n2 : Int} {z2 z : Bool} (h : (!z) = true) : alB k1 k2 s1 s2 n1 n2 z2 z = false := by
  unfold alB; simp_all
def RsmC (G : Gl) (m : Nat) : Prop := ∀ (a b : Ex) (H : List Blk), a.wt ≤ m → a.wt < 549755813888 → b.wt < 549755813888 → ACall Tryz.prog G 23 [a.sv, b.sv] H (fun r H' => H' = H ∧ r = .bool (smE m a b))
theorem rsame_ok (G : Gl) (hG : GClosed G) : ∀ m, RsmC G m
  | 0, a, b, H, h, _, _ => absurd a.wt_pos (by omega)
  | m + 1, a, b, H, hm, ha, hb => by
    have hrec := rsame_ok G hG m
    obtain ⟨k1, s1, n1, o1, l1, u1, b1, a1⟩ := a
    obtain ⟨k2, s2, n2, o2, l2, u2, b2, a2⟩ := b
    have hle1 := Ex.wt_lens k1 s1 n1 o1 l1 u1 b1 a1
    have hle2 := Ex.wt_lens k2 s2 n2 o2 l2 u2 b2 a2
    have hw1 : (Ex.mk k1 s1 n1 o1 l1 u1 b1 a1).wt = 1 + s1.length + strsWt l1 + exsWt u1 + bdsWt b1 + alsWt a1 := by simp only [Ex.wt]
    have hw2 : (Ex.mk k2 s2 n2 o2 l2 u2 b2 a2).wt = 1 + s2.length + strsWt l2 + exsWt u2 + bdsWt b2 + alsWt a2 := by simp only [Ex.wt]
    have c1 := fun H => rtexts_ok G hG l1 l2 (by omega) (by omega) H
    have e0 : smE (m + 1) (.mk k1 s1 n1 o1 l1 u1 b1 a1) (.mk k2 s2 n2 o2 l2 u2 b2 a2) = smB k1 k2 s1 s2 n1 n2 o1 o2 (eqL strE l1 l2) (eqL (smE m) u1 u2) (eqL (bdP (smE m)) b1 b2) (eqL (alP (smE m)) a1 a2) := rfl
    rw [e0]
    clear e0
    generalize eqL strE l1 l2 = z1 at *
    by_cases hd : (decide (k1 = k2) && decide (s1 = s2) && decide (n1 = n2) && decide (o1 = o2) && z1 && decide (u1.length = u2.length) && decide (b1.length = b2.length) && decide (a1.length = a2.length)) = true
    · simp only [Bool.and_eq_true, decide_eq_true_eq] at hd
      obtain ⟨⟨⟨⟨⟨⟨⟨h1, h2⟩, h3⟩, h4⟩, h5⟩, h6⟩, h7⟩, h8⟩ := hd
      subst h1 h2 h3 h4 h5
      have hgoal : smB k1 k1 s1 s1 n1 n1 o1 o1 true (eqL (smE m) u1 u2) (eqL (bdP (smE m)) b1 b2) (eqL (alP (smE m)) a1 a2) = ((eqL (smE m) u1 u2 && eqL (bdP (smE m)) b1 b2) && eqL (alP (smE m)) a1 a2) := by simp [smB]
      rw [hgoal]
      clear hgoal
      have hn1 : ∀ {i : Nat} (h : i < u1.length) (h' : i < u2.length), smE m u1[i] u2[i] = false → eqL (smE m) u1 u2 = false := eqL_at
      have hn2 : ∀ {i : Nat} (h : i < b1.length) (h' : i < b2.length), bdP (smE m) b1[i] b2[i] = false → eqL (bdP (smE m)) b1 b2 = false := eqL_at
      have hn3 : ∀ {i : Nat} (h : i < a1.length) (h' : i < a2.length), alP (smE m) a1[i] a2[i] = false → eqL (alP (smE m)) a1 a2 = false := eqL_at
      have hy1 := (eqL_iff (smE m) u1 u2).2
      have hy2 := (eqL_iff (bdP (smE m)) b1 b2).2
      have hy3 := (eqL_iff (alP (smE m)) a1 a2).2
      generalize eqL (smE m) u1 u2 = z1 at *
      generalize eqL (bdP (smE m)) b1 b2 = z2 at *
      generalize eqL (alP (smE m)) a1 a2 = z3 at *
      refine ACall.of_go TB [] tabOK _ Tryz.func23 rfl (by decide) Tryz.ntmps23 (by simp) rfl (by simp only [initEnv, Nat.reduceAdd]; rfl) fun C R' hR hC hcl hB => ?_; have X := noX; have hC' := congrArg List.length hC
      have X := And.intro X (And.intro (show ((k1 : Int) = k1) = True from by simp) (And.intro (show (s1 = s1) = True from by simp) (And.intro (show ((u1.length : Int) = (u2.length : Int)) = True from by simp [h6]) (And.intro (show ((b1.length : Int) = (b2.length : Int)) = True from by simp [h7]) (show ((a1.length : Int) = (a2.length : Int)) = True from by simp [h8])))))
      (refine runC ?_; repeat' (first | with_reducible exact trivial | ((with_reducible apply Fork.mk) <;> intro hb) | with_reducible apply Two.mk))
      refine go_condF rfl ?_
      clear X
      (refine runO ?_; repeat' (first | with_reducible exact trivial | ((with_reducible apply Fork.mk) <;> intro hb) | with_reducible apply Two.mk))
      refine go_loop (fun k : Nat => [(2, .ptr H.length 0 0 0), (3, .ptr (H.length + 1) 0 0 0), (5, .int .i64 k)]) (fun _ => H ++ [.cells 0 8 [.agg [.int .i64 k1, .str s1, .int .i64 n1, .int .i64 o1, .list 1 (l1.map .str), .list 8 (exCells u1), .list 9 (bdCells b1), .list 12 (alCells a1)]], .cells 0 8 [.agg [.int .i64 k1, .str s1, .int .i64 n1, .int .i64 o1, .list 1 (l2.map .str), .list 8 (exCells u2), .list 9 (bdCells b2), .list 12 (alCells a2)]]]) (fun k => u1.length - k) (fun k => k ≤ u1.length ∧ ∀ i (h : i < u1.length) (h' : i < u2.length), i < k → smE m u1[i] u2[i] = true) 0 ⟨Nat.zero_le _, fun i _ _ h => by omega⟩ (wkS (n0 := H.length) [(H.length, 0), (H.length + 1, 0)] hG hB hC' hcl) ?_
      rintro K k ⟨hk, hall⟩ hK
      rcases Nat.lt_or_ge k u1.length with hlt | hge
      · have hlt2 : k < u2.length := by omega
        have hm1 := exsWt_mem (List.getElem_mem hlt)
        have hm2 := exsWt_mem (List.getElem_mem hlt2)
        have hno := hn1 hlt hlt2
        have c2 := fun H => hrec u1[k] u2[k] H (by omega) (by omega) (by omega)
        have hyes : smE m u1[k] u2[k] = true → ∀ i (h : i < u1.length) (h' : i < u2.length), i < k + 1 → smE m u1[i] u2[i] = true := fun h i hi hi' hik => by
          rcases Nat.lt_or_ge i k with h3 | h3
          · exact hall i hi hi' h3
          · have : i = k := by omega
            subst this; exact h
        generalize smE m u1[k] u2[k] = z at *
        (refine run ?_; repeat' (first | with_reducible exact trivial | ((with_reducible apply Fork.mk) <;> intro hb) | with_reducible apply Two.mk))
        · refine finS (n0 := H.length) hR hC' hcl (.same _ rfl) ⟨rfl, ?_⟩
          rw [hno (by simpa using hb)]; rfl
        · exact hK _ _ (k + 1) (by omega) ⟨by omega, hyes (by simpa using hb)⟩ (wkS (n0 := H.length) [(H.length, 0), (H.length + 1, 0)] hG hB hC' hcl)
      obtain rfl : k = u1.length := by omega
      clear hK
      have q1 := hy1 ⟨h6, fun i h h' => hall i h h' h⟩
      subst q1
      clear hall hn1 hy1
      (refine runO ?_; repeat' (first | with_reducible exact trivial | ((with_reducible apply Fork.mk) <;> intro hb) | with_reducible apply Two.mk))
      refine go_loop (fun k : Nat => [(2, .ptr H.length 0 0 0), (3, .ptr (H.length + 1) 0 0 0), (6, .int .i64 k)]) (fun _ => H ++ [.cells 0 8 [.agg [.int .i64 k1, .str s1, .int .i64 n1, .int .i64 o1, .list 1 (l1.map .str), .list 8 (exCells u1), .list 9 (bdCells b1), .list 12 (alCells a1)]], .cells 0 8 [.agg [.int .i64 k1, .str s1, .int .i64 n1, .int .i64 o1, .list 1 (l2.map .str), .list 8 (exCells u2), .list 9 (bdCells b2), .list 12 (alCells a2)]]]) (fun k => b1.length - k) (fun k => k ≤ b1.length ∧ ∀ i (h : i < b1.length) (h' : i < b2.length), i < k → bdP (smE m) b1[i] b2[i] = true) 0 ⟨Nat.zero_le _, fun i _ _ h => by omega⟩ (wkS (n0 := H.length) [(H.length, 0), (H.length + 1, 0)] hG hB hC' hcl) ?_
      rintro K k ⟨hk, hall⟩ hK
      rcases Nat.lt_or_ge k b1.length with hlt | hge
      · have hlt2 : k < b2.length := by omega
        have hm1 := bdsWt_mem (List.getElem_mem hlt)
        have hm2 := bdsWt_mem (List.getElem_mem hlt2)
        have hm3 := b1[k].wt_gt
        have hm4 := b2[k].wt_gt
        have hno := hn2 hlt hlt2
        have c2 := fun H => hrec b1[k].e b2[k].e H (by omega) (by omega) (by omega)
        have hyes : bdP (smE m) b1[k] b2[k] = true → ∀ i (h : i < b1.length) (h' : i < b2.length), i < k + 1 → bdP (smE m) b1[i] b2[i] = true := fun h i hi hi' hik => by
          rcases Nat.lt_or_ge i k with h3 | h3
          · exact hall i hi hi' h3
          · have : i = k := by omega
            subst this; exact h
        simp only [bdP] at hno hyes
        generalize smE m b1[k].e b2[k].e = z at *
        (refine run ?_; repeat' (first | with_reducible exact trivial | ((with_reducible apply Fork.mk) <;> intro hb) | with_reducible apply Two.mk))
        · refine finS (n0 := H.length) hR hC' hcl (.same _ rfl) ⟨rfl, ?_⟩
          rw [hno (by simp [bdB, hb])]; rfl
        · refine finS (n0 := H.length) hR hC' hcl (.same _ rfl) ⟨rfl, ?_⟩
          rw [hno (by simp_all [bdB])]; rfl
        · exact hK _ _ (k + 1) (by omega) ⟨by omega, hyes (by simp_all [bdB])⟩ (wkS (n0 := H.length) [(H.length, 0), (H.length + 1, 0)] hG hB hC' hcl)
      obtain rfl : k = b1.length := by omega
      clear hK
      have q2 := hy2 ⟨h7, fun i h h' => hall i h h' h⟩
      subst q2
      clear hall hn2 hy2
      (refine runO ?_; repeat' (first | with_reducible exact trivial | ((with_reducible apply Fork.mk) <;> intro hb) | with_reducible apply Two.mk))
      refine go_loop (fun k : Nat => [(2, .ptr H.length 0 0 0), (3, .ptr (H.length + 1) 0 0 0), (7, .int .i64 k)]) (fun _ => H ++ [.cells 0 8 [.agg [.int .i64 k1, .str s1, .int .i64 n1, .int .i64 o1, .list 1 (l1.map .str), .list 8 (exCells u1), .list 9 (bdCells b1), .list 12 (alCells a1)]], .cells 0 8 [.agg [.int .i64 k1, .str s1, .int .i64 n1, .int .i64 o1, .list 1 (l2.map .str), .list 8 (exCells u2), .list 9 (bdCells b2), .list 12 (alCells a2)]]]) (fun k => a1.length - k) (fun k => k ≤ a1.length ∧ ∀ i (h : i < a1.length) (h' : i < a2.length), i < k → alP (smE m) a1[i] a2[i] = true) 0 ⟨Nat.zero_le _, fun i _ _ h => by omega⟩ (wkS (n0 := H.length) [(H.length, 0), (H.length + 1, 0)] hG hB hC' hcl) ?_
      rintro K k ⟨hk, hall⟩ hK
      rcases Nat.lt_or_ge k a1.length with hlt | hge
      · have hlt2 : k < a2.length := by omega
        have hm1 := alsWt_mem (List.getElem_mem hlt)
        have hm2 := alsWt_mem (List.getElem_mem hlt2)
        have hm3 := a1[k].wt_gt
        have hm4 := a2[k].wt_gt
        have hm5 := a1[k].wt_names
        have hm6 := a2[k].wt_names
        have hno := hn3 hlt hlt2
        have c2 := fun H => hrec a1[k].body a2[k].body H (by omega) (by omega) (by omega)
        have c3 := fun H => rtexts_ok G hG a1[k].names a2[k].names (by omega) (by omega) H
        have hyes : alP (smE m) a1[k] a2[k] = true → ∀ i (h : i < a1.length) (h' : i < a2.length), i < k + 1 → alP (smE m) a1[i] a2[i] = true := fun h i hi hi' hik => by
          rcases Nat.lt_or_ge i k with h3 | h3
          · exact hall i hi hi' h3
          · have : i = k := by omega
            subst this; exact h
        simp only [alP] at hno hyes
        generalize smE m a1[k].body a2[k].body = z at *
        generalize eqL strE a1[k].names a2[k].names = z4 at *
        (refine run ?_; repeat' (first | with_reducible exact trivial | ((with_reducible apply Fork.mk) <;> intro hb) | with_reducible apply Two.mk))
        · refine finS (n0 := H.length) hR hC' hcl (.same _ rfl) ⟨rfl, ?_⟩
          rw [hno (alB_n1 hb)]; rfl
        · refine finS (n0 := H.length) hR hC' hcl (.same _ rfl) ⟨rfl, ?_⟩
          rw [hno (alB_n2 hb)]; rfl
        · refine finS (n0 := H.length) hR hC' hcl (.same _ rfl) ⟨rfl, ?_⟩
          rw [hno (alB_n3 hb)]; rfl
        · exact hK _ _ (k + 1) (by omega) ⟨by omega, hyes (alB_y (by assumption) (by assumption) (by assumption))⟩ (wkS (n0 := H.length) [(H.length, 0), (H.length + 1, 0)] hG hB hC' hcl)
      obtain rfl : k = a1.length := by omega
      clear hK
      have q3 := hy3 ⟨h8, fun i h h' => hall i h h' h⟩
      subst q3
      clear hall hn3 hy3
      (refine runO ?_; repeat' (first | with_reducible exact trivial | ((with_reducible apply Fork.mk) <;> intro hb) | with_reducible apply Two.mk))
      exact finS (n0 := H.length) hR hC' hcl (.same _ rfl) ⟨rfl, rfl⟩
    · have hno : ∀ y1 y2 y3, (u1.length ≠ u2.length → y1 = false) → (b1.length ≠ b2.length → y2 = false) → (a1.length ≠ a2.length → y3 = false) → smB k1 k2 s1 s2 n1 n2 o1 o2 z1 y1 y2 y3 = false := by
        intro y1 y2 y3 h1 h2 h3
        rw [← Bool.not_eq_true]
        intro h
        apply hd
        unfold smB at h
        simp only [Bool.and_eq_true, decide_eq_true_eq] at h ⊢
        obtain ⟨⟨⟨⟨⟨⟨⟨q1, q2⟩, q3⟩, q4⟩, q5⟩, q6⟩, q7⟩, q8⟩ := h
        refine ⟨⟨⟨⟨⟨⟨⟨q1, q2⟩, q3⟩, q4⟩, q5⟩, ?_⟩, ?_⟩, ?_⟩
        · exact Classical.byContradiction fun h => by rw [h1 h] at q6; cases q6
        · exact Classical.byContradiction fun h => by rw [h2 h] at q7; cases q7
        · exact Classical.byContradiction fun h => by rw [h3 h] at q8; cases q8
      rw [hno _ _ _ eqL_no eqL_no eqL_no]
      refine ACall.of_go TB [] tabOK _ Tryz.func23 rfl (by decide) Tryz.ntmps23 (by simp) rfl (by simp only [initEnv, Nat.reduceAdd]; rfl) fun C R' hR hC hcl hB => ?_; have X := noX; have hC' := congrArg List.length hC
      (refine runC ?_; repeat' (first | with_reducible exact trivial | ((with_reducible apply Fork.mk) <;> intro hb) | with_reducible apply Two.mk))
      · refine go_condT rfl ?_
        (refine runO ?_; repeat' (first | with_reducible exact trivial | ((with_reducible apply Fork.mk) <;> intro hb) | with_reducible apply Two.mk))
        exact finS (n0 := H.length) hR hC' hcl (.same _ rfl) ⟨rfl, rfl⟩
      · refine go_condB rfl (fun hx => ?_) (fun hx => ?_)
        · (refine runO ?_; repeat' (first | with_reducible exact trivial | ((with_reducible apply Fork.mk) <;> intro hb) | with_reducible apply Two.mk))
          exact finS (n0 := H.length) hR hC' hcl (.same _ rfl) ⟨rfl, rfl⟩
        · exact absurd (by simp at hb hx ⊢; simp [hb, hx]; omega) hd
end Go.Proofs.YtcopfafknmpneaaGreatDoor
end

section
namespace Go.Proofs.YtcopfafknmpneaaGreatDoor
open Go
set_option linter.unusedVariables false

/-- a call's answer, told anew -/
theorem ACall.fin {P : Program} {G : Gl} {f : FuncId} {args : List SV} {H : List Blk} {R R' : SV → List Blk → Prop} (h : ACall P G f args H R)
    (hf : ∀ C x H', C.H = H → closed H → R x H' → Fin C H' x R') : ACall P G f args H R' :=
  ⟨h.1, fun c vs h1 h2 h3 h4 => (h.2 c vs h1 h2 h3 h4).mono fun e w' ⟨v, x, c', a1, a2, a3, a4, a5, a6⟩ =>
    let ⟨c2, y, b1, b2, b3, b4, b5⟩ := hf c x c'.H h1 (h1 ▸ h2.closed) a3 c' v rfl a4 a5 a6
    ⟨v, y, c2, a1, b1.trans a2, b2, b3, b4, b5⟩⟩
theorem ACall.argsOf {P : Program} {G : Gl} {f : FuncId} {args args' : List SV} {H : List Blk} {R : SV → List Blk → Prop} (h : ACall P G f args H R)
    (ha : ∀ c vs, RepL c args' vs → RepL c args vs) : ACall P G f args' H R :=
  ⟨h.1, fun c vs h1 h2 h3 h4 => h.2 c vs h1 h2 h3 (ha c vs h4)⟩
/-- a fresh slice that is told as a plain list -/
theorem ACall.frz {P : Program} {G : Gl} {f : FuncId} {args : List SV} {H : List Blk} {sz : Nat} {vs : List SV} {n : Nat} (hu : SV.underL H.length vs = true) (hn : vs.length = n)
    (h : ACall P G f args H (fun r H' => H' = H ++ [.cells 0 sz vs] ∧ r = .sl H.length 0 0 n)) : ACall P G f args H (fun r H' => H' = H ∧ r = .list sz vs) :=
  h.fin fun C x H' h1 hcl hr => by
    obtain ⟨rfl, rfl⟩ := hr
    exact Fin.tellN (n0 := H.length) (R0 := fun r H' => H' = H ∧ r = .list sz vs) (fun _ _ h => h) rfl (by rw [h1]) hcl (Frz.sf (g := 0) (sz := sz) (vals := vs) (List.getElem?_concat_length ..) (Nat.le_refl _) (by simp) (by rw [List.drop_zero, List.take_of_length_le (by omega)]) hu) ⟨rfl, rfl⟩
theorem Rep.nil_list {c : Cx} {sz : Nat} {v : Value} (h : Rep c .nil v) : Rep c (.list sz []) v := by
  simp only [Rep] at h ⊢
  exact ⟨none, 0, h, Nat.le_refl _, Nat.zero_le _, .inl trivial⟩
end Go.Proofs.YtcopfafknmpneaaGreatDoor
end

section
namespace Go.Proofs.YtcopfafknmpneaaGreatDoor
open Go
set_option linter.unusedSimpArgs false
set_option linter.unusedVariables false
set_option maxRecDepth 10000
set_option maxHeartbeats 4000000

/-! ### an insertion into a rising list -/
def insR : List Str → Str → List Str
  | [], s => [s]
  | x :: r, s => if x < s then x :: insR r s else s :: x :: r
abbrev Rise (l : List Str) : Prop := l.Pairwise (fun x y => x < y)
theorem insR_mem {s t : Str} : ∀ {o : List Str}, t ∈ insR o s ↔ t = s ∨ t ∈ o
  | [] => by simp [insR]
  | x :: r => by
    rw [insR]
    split
    · rw [List.mem_cons, insR_mem, List.mem_cons]
      constructor
      · rintro (h | h | h)
        · exact .inr (.inl h)
        · exact .inl h
        · exact .inr (.inr h)
      · rintro (h | h | h)
        · exact .inr (.inl h)
        · exact .inl h
        · exact .inr (.inr h)
    · simp only [List.mem_cons]
theorem insR_len (s : Str) : ∀ o : List Str, (insR o s).length = o.length + 1
  | [] => rfl
  | x :: r => by
    rw [insR]
    split
    · rw [List.length_cons, insR_len s r, List.length_cons]
    · rfl
theorem str_tri {a b : Str} (h : ¬ a < b) (hn : a ≠ b) : b < a := by
  rcases Classical.em (b < a) with h3 | h3
  · exact h3
  · exact (hn (List.le_antisymm h3 h)).elim
theorem insR_rise {s : Str} : ∀ {o : List Str}, Rise o → s ∉ o → Rise (insR o s)
  | [], _, _ => by simp [insR, Rise]
  | x :: r, h, hs => by
    have h1 := List.pairwise_cons.1 h
    have hne : x ≠ s := fun e => hs (e ▸ List.mem_cons_self ..)
    rw [insR]
    split
    · rename_i hlt
      refine List.pairwise_cons.2 ⟨fun t ht => ?_, insR_rise h1.2 (fun h => hs (List.mem_cons_of_mem _ h))⟩
      rcases insR_mem.1 ht with rfl | ht
      · exact hlt
      · exact h1.1 t ht
    · rename_i hlt
      have hsx := str_tri hlt hne
      refine List.pairwise_cons.2 ⟨fun t ht => ?_, h⟩
      rcases List.mem_cons.1 ht with rfl | ht
      · exact hsx
      · exact List.lt_trans hsx (h1.1 t ht)
theorem rise_ext : ∀ {a b : List Str}, Rise a → Rise b → (∀ s, s ∈ a ↔ s ∈ b) → a = b
  | [], [], _, _, _ => rfl
  | [], y :: t, _, _, h => by simpa using (h y).2 (List.mem_cons_self ..)
  | x :: r, [], _, _, h => by simpa using (h x).1 (List.mem_cons_self ..)
  | x :: r, y :: t, ha, hb, h => by
    have h1 := List.pairwise_cons.1 ha
    have h2 := List.pairwise_cons.1 hb
    have hxy : x = y := by
      rcases List.mem_cons.1 ((h x).1 (List.mem_cons_self ..)) with e | e
      · exact e
      rcases List.mem_cons.1 ((h y).2 (List.mem_cons_self ..)) with e2 | e2
      · exact e2.symm
      exact (List.lt_irrefl (α := UInt8) _ (List.lt_trans (h1.1 y e2) (h2.1 x e))).elim
    subst hxy
    refine congrArg (x :: ·) (rise_ext h1.2 h2.2 fun s => ⟨fun hs => ?_, fun hs => ?_⟩)
    · rcases List.mem_cons.1 ((h s).1 (List.mem_cons_of_mem _ hs)) with e | e
      · subst e; exact (List.lt_irrefl (α := UInt8) _ (h1.1 s hs)).elim
      · exact e
    · rcases List.mem_cons.1 ((h s).2 (List.mem_cons_of_mem _ hs)) with e | e
      · subst e; exact (List.lt_irrefl (α := UInt8) _ (h2.1 s hs)).elim
      · exact e

/-! ### the reference's free names -/
def rfrF : Nat → Ex → List Str → List Str → List Str
  | 0, _, _, out => out
  | m + 1, e, bnd, out => if e.kind = 1 then (if e.name ∈ bnd ∨ e.name ∈ out then out else insR out e.name) else (scopeParts e).foldl (fun o p => rfrF m p.1 (bnd ++ p.2) o) out
theorem rfr_rise : ∀ (m : Nat) (e : Ex) (bnd out : List Str), Rise out → Rise (rfrF m e bnd out)
  | 0, _, _, _, h => h
  | m + 1, e, bnd, out, h => by
    rw [rfrF]
    split
    · split
      · exact h
      · rename_i hn
        exact insR_rise h (fun h2 => hn (.inr h2))
    · generalize scopeParts e = l
      induction l generalizing out with
      | nil => exact h
      | cons p l ih => exact ih _ (rfr_rise m p.1 _ _ h)
theorem rfr_len : ∀ (m : Nat) (e : Ex) (bnd out : List Str), (rfrF m e bnd out).length ≤ out.length + e.wt
  | 0, _, _, _ => by simp [rfrF]
  | m + 1, e, bnd, out => by
    rw [rfrF]
    have hp := e.wt_pos
    split
    · split
      · omega
      · rw [insR_len]; omega
    · have hs := scope_sum e
      generalize scopeParts e = l at hs
      have key : ∀ (l : List (Ex × List Str)) (o : List Str), (l.foldl (fun o p => rfrF m p.1 (bnd ++ p.2) o) o).length ≤ o.length + (l.map fun p => p.1.wt).sum := fun l => by
        induction l with
        | nil => intro o; exact Nat.le_refl _
        | cons p l ih =>
          intro o
          rw [List.foldl_cons]
          have h1 := ih (rfrF m p.1 (bnd ++ p.2) o)
          have h2 := rfr_len m p.1 (bnd ++ p.2) o
          simp only [List.map_cons, List.sum_cons]
          omega
      have := key l out
      omega
theorem rfr_mem : ∀ (m : Nat) (e : Ex) (bnd out : List Str) (st : BO), (∀ t, cntB st.1 t = (bnd.count t : Int)) → (∀ t, t ∈ out ↔ t ∈ st.2) → ∀ t, t ∈ rfrF m e bnd out ↔ t ∈ (unbF m e st).2
  | 0, _, _, _, _, _, ho, t => ho t
  | m + 1, e, bnd, out, st, hb, ho, t => by
    rw [rfrF, unbF]
    split
    · have hz : cntB st.1 e.name = 0 ↔ e.name ∉ bnd := by
        rw [hb]
        constructor
        · intro h hm
          have := List.count_pos_iff.2 hm
          omega
        · intro h
          rw [List.count_eq_zero.2 h]; rfl
      by_cases h1 : e.name ∈ bnd
      · rw [if_pos (.inl h1), if_neg (fun h => hz.1 h h1)]
        exact ho t
      · rw [if_pos (hz.2 h1)]
        simp only [h1, false_or, putO]
        by_cases h2 : e.name ∈ out
        · rw [if_pos h2, if_pos ((ho _).1 h2)]; exact ho t
        · rw [if_neg h2, if_neg (fun h => h2 ((ho _).2 h)), insR_mem, List.mem_append, List.mem_singleton, ho]
          exact Or.comm
    · generalize scopeParts e = l
      induction l generalizing out st with
      | nil => exact ho t
      | cons p l ih =>
        rw [List.foldl_cons, List.foldl_cons]
        refine ih (rfrF m p.1 (bnd ++ p.2) out) (cstep (unbF m) st p) (fun t => ?_) (fun t => ?_)
        · rw [cstep_cnt, hb]
        · exact rfr_mem m p.1 (bnd ++ p.2) out (incB st.1 p.2, st.2) (fun t => by simp only [cnt_inc, hb, List.count_append]; omega) ho t
theorem rfr_free (e : Ex) : rfrF e.wt e [] [] = freeS e :=
  rise_ext (rfr_rise _ _ _ _ List.Pairwise.nil) (freeS_lt e) fun s => by
    rw [rfr_mem e.wt e [] [] ([], []) (fun t => by simp [cntB]) (fun t => Iff.rfl), freeS, (sortS_perm _).mem_iff]
theorem insR_at {s : Str} : ∀ {o : List Str} {i : Nat}, i ≤ o.length → (∀ (k : Nat) (h : k < o.length), k < i → o[k] < s) → insR o s = o.take i ++ insR (o.drop i) s
  | o, 0, _, _ => by simp
  | [], i + 1, h, _ => by simp at h
  | x :: r, i + 1, h, hl => by
    have h0 : x < s := hl 0 (by simp) (by omega)
    rw [insR, if_pos h0, List.take_succ_cons, List.drop_succ_cons, List.cons_append, insR_at (by simpa using h) (fun k hk hki => hl (k + 1) (by simpa using hk) (by omega))]
theorem insR_end {s : Str} {o : List Str} {i : Nat} (hi : i ≤ o.length) (hl : ∀ (k : Nat) (h : k < o.length), k < i → o[k] < s) (he : ∀ h : i < o.length, ¬ o[i] < s) : insR o s = o.take i ++ s :: o.drop i := by
  rw [insR_at hi hl]
  rcases Nat.lt_or_ge i o.length with h | h
  · rw [List.drop_eq_getElem_cons h, insR, if_neg (he h)]
  · rw [List.drop_of_length_le h]; rfl
/-- the list behind each part -/
theorem rfr_seq (m : Nat) (e : Ex) (hk : e.kind ≠ 1) (bnd out : List Str) : ∃ O : Nat → List Str, O 0 = out ∧ (∀ j p, (scopeParts e)[j]? = some p → O (j + 1) = rfrF m p.1 (bnd ++ p.2) (O j) ∧ (O j).length + p.1.wt ≤ out.length + e.wt) ∧ O (scopeParts e).length = rfrF (m + 1) e bnd out := by
  have hs := scope_sum e
  have key : ∀ (l : List (Ex × List Str)) (o : List Str), (l.foldl (fun o p => rfrF m p.1 (bnd ++ p.2) o) o).length ≤ o.length + (l.map fun p => p.1.wt).sum := fun l => by
    induction l with
    | nil => intro o; exact Nat.le_refl _
    | cons p l ih =>
      intro o
      rw [List.foldl_cons]
      have h1 := ih (rfrF m p.1 (bnd ++ p.2) o)
      have h2 := rfr_len m p.1 (bnd ++ p.2) o
      simp only [List.map_cons, List.sum_cons]
      omega
  refine ⟨fun j => ((scopeParts e).take j).foldl (fun o p => rfrF m p.1 (bnd ++ p.2) o) out, by simp, fun j p hp => ?_, by rw [rfrF, if_neg hk]; simp only [List.take_length]⟩
  obtain ⟨hj, rfl⟩ := List.getElem?_eq_some_iff.1 hp
  refine ⟨by simp only; rw [List.take_succ_eq_append_getElem hj, List.foldl_append]; rfl, ?_⟩
  have h1 := key ((scopeParts e).take j) out
  have h2 : (((scopeParts e).take j).map fun p => p.1.wt).sum + (scopeParts e)[j].1.wt ≤ ((scopeParts e).map fun p => p.1.wt).sum := by
    conv => rhs; rw [← List.take_append_drop j (scopeParts e), List.drop_eq_getElem_cons hj]
    simp only [List.map_append, List.map_cons, List.sum_append, List.sum_cons]
    omega
  simp only
  omega
end Go.Proofs.YtcopfafknmpneaaGreatDoor
end

section
namespace Go.Proofs.YtcopfafknmpneaaGreatDoor
open Go
set_option linter.unusedSimpArgs false
set_option linter.unusedVariables false
set_option maxRecDepth 10000
set_option maxHeartbeats 4000000

theorem rwith_ok (G : Gl) (hG : GClosed G) (a b : List Str) (ha : a.length < 549755813888) (hb0 : b.length < 549755813888) (H : List Blk) :
    ACall Tryz.prog G 85 [.list 1 (a.map .str), .list 1 (b.map .str)] H (fun r H' => H' = H ∧ r = .list 1 ((a ++ b).map .str)) := by
  have h1 : (a.map SV.str).length = a.length := by simp
  have h2 : (b.map SV.str).length = b.length := by simp
  have hu : SV.underL H.length ((a ++ b).map SV.str) = true := SV.underL_map fun _ _ => rfl
  rw [List.map_append] at hu ⊢
  generalize a.map SV.str = A at *
  generalize b.map SV.str = B at *
  refine ACall.of_go TB [5] tabOK _ Tryz.func85 rfl (by decide) Tryz.ntmps85 (by simp) rfl (by simp only [initEnv, Nat.reduceAdd]; rfl) fun C R' hR hC hcl hB => ?_; have X := noX; have hC' := congrArg List.length hC
  have X := And.intro X (And.intro h1 h2)
  (refine run ?_; repeat' (first | with_reducible exact trivial | ((with_reducible apply Fork.mk) <;> intro hb) | with_reducible apply Two.mk))
  exact finS (n0 := H.length) (y := .list 1 (A ++ B)) hR hC' hcl (Frz.sf (by rw [get_app0]; rfl) (by omega) (by simp) (by rw [List.drop_zero, List.take_of_length_le (by simp; omega)]) hu) ⟨rfl, rfl⟩

theorem rnames_ok (G : Gl) (hG : GClosed G) (binds : List Bd) (hb : binds.length < 549755813888) (H : List Blk) :
    ACall Tryz.prog G 47 [.list 9 (bdCells binds)] H (fun r H' => H' = H ∧ r = .list 1 ((binds.map Bd.name).map .str)) := by
  refine ACall.of_go TB [3] tabOK _ Tryz.func47 rfl (by decide) Tryz.ntmps47 (by simp) rfl (by simp only [initEnv, Nat.reduceAdd]; rfl) fun C R' hR hC hcl hB => ?_; have X := noX; have hC' := congrArg List.length hC
  (refine run ?_; repeat' (first | with_reducible exact trivial | ((with_reducible apply Fork.mk) <;> intro hb) | with_reducible apply Two.mk))
  refine go_loop (fun i : Nat => [(0, .list 9 (bdCells binds)), (3, .sl H.length 0 0 i), (4, .int .i64 i)])
    (fun i => H ++ [.cells 0 1 ((binds.take i).map fun b => .str b.name)]) (fun i => binds.length - i) (fun i => i ≤ binds.length) 0 (Nat.zero_le _) ?_ ?_
  · exact wkS (n0 := H.length) [(H.length, 0)] hG hB hC' hcl
  rintro K i hi hK
  rcases Nat.lt_or_ge i binds.length with hlt | hge
  · (refine runO ?_; repeat' (first | with_reducible exact trivial | ((with_reducible apply Fork.mk) <;> intro hb) | with_reducible apply Two.mk))
    refine hK _ _ (i + 1) (by omega) (by omega) ?_
    simp only [List.take_succ_eq_append_getElem hlt, List.map_append, List.map_cons, List.map_nil]
    exact wkS (n0 := H.length) [(H.length, 0)] hG hB hC' hcl
  obtain rfl : i = binds.length := by omega
  clear hK
  have X := And.intro noX (Int.lt_irrefl (binds.length : Int))
  (refine run ?_; repeat' (first | with_reducible exact trivial | ((with_reducible apply Fork.mk) <;> intro hb) | with_reducible apply Two.mk))
  refine finS (n0 := H.length) (y := .list 1 ((binds.map Bd.name).map .str)) hR hC' hcl (Frz.sf (by rw [get_app0]; rfl) (by omega) (by simp) ?_ (SV.underL_map fun _ _ => rfl)) ⟨rfl, rfl⟩
  rw [List.take_length, List.drop_zero, List.take_of_length_le (by simp), List.map_map]; rfl
end Go.Proofs.YtcopfafknmpneaaGreatDoor
end

section
namespace Go.Proofs.YtcopfafknmpneaaGreatDoor
open Go
set_option linter.unusedSimpArgs false
set_option linter.unusedVariables false
set_option maxRecDepth 10000
set_option maxHeartbeats 4000000

def RfrC (G : Gl) (m : Nat) : Prop := ∀ (e : Ex) (bnd out : List Str) (H : List Blk), e.wt ≤ m → bnd.length + e.wt < 549755813888 → out.length + e.wt < 549755813888 →
  ACall Tryz.prog G 48 [e.sv, .list 1 (bnd.map .str), .list 1 (out.map .str)] H (fun r H' => H' = H ∧ r = .list 1 ((rfrF m e bnd out).map .str))
theorem str_less {a b : Str} : strLess a b = decide (a < b) := by unfold strLess; rw [bytesLess_eq]
theorem ins_take {out : List Str} {nm : Str} {i : Nat} (hi : i ≤ out.length) : List.take (min (i - 0) out.length + (1 + min (out.length - i) (List.drop i (out.map SV.str)).length)) (List.drop 0 (List.take (i - 0) (out.map SV.str) ++ SV.str nm :: List.take (out.length - i) (List.drop i (out.map SV.str)))) = (out.take i ++ nm :: out.drop i).map SV.str := by
  simp only [List.drop_zero, Nat.sub_zero]
  rw [List.take_of_length_le (l := List.drop i _) (by simp), List.take_of_length_le (by simp; omega)]
  simp [List.map_take, List.map_drop]
theorem rfree_ok (G : Gl) (hG : GClosed G) : ∀ m, RfrC G m
  | 0, e, bnd, out, H, h, _, _ => absurd e.wt_pos (by omega)
  | m + 1, e, bnd, out, H, hm, hwb, hwo => by
    have hrec := rfree_ok G hG m
    obtain ⟨kd, nm, nn, op, names, subs, binds, alts⟩ := e
    have hle := Ex.wt_lens kd nm nn op names subs binds alts
    by_cases hk : kd = 1
    · subst hk
      have er : rfrF (m + 1) (.mk 1 nm nn op names subs binds alts) bnd out = if nm ∈ bnd ∨ nm ∈ out then out else insR out nm := by rw [rfrF]; rfl
      rw [er]
      clear er
      have c1 := fun H => has_list G bnd nm H (by omega)
      have c2 := fun H => has_list G out nm H (by omega)
      by_cases h1 : nm ∈ bnd
      · rw [if_pos (.inl h1)]
        simp only [h1, decide_true] at c1
        clear c2
        refine ACall.of_go TB [9] tabOK _ Tryz.func48 rfl (by decide) Tryz.ntmps48 (by simp) rfl (by simp only [initEnv, Nat.reduceAdd]; rfl) fun C R' hR hC hcl hB => ?_; have X := noX; have hC' := congrArg List.length hC
        (refine runC ?_; repeat' (first | with_reducible exact trivial | ((with_reducible apply Fork.mk) <;> intro hb) | with_reducible apply Two.mk))
        refine go_condDT rfl trivial ?_
        (refine runO ?_; repeat' (first | with_reducible exact trivial | ((with_reducible apply Fork.mk) <;> intro hb) | with_reducible apply Two.mk))
        exact finS (n0 := H.length) hR hC' hcl (.same _ undS) ⟨rfl, rfl⟩
      simp only [h1, decide_false] at c1
      by_cases hout : nm ∈ out
      · rw [if_pos (.inr hout)]
        simp only [hout, decide_true] at c2
        refine ACall.of_go TB [9] tabOK _ Tryz.func48 rfl (by decide) Tryz.ntmps48 (by simp) rfl (by simp only [initEnv, Nat.reduceAdd]; rfl) fun C R' hR hC hcl hB => ?_; have X := noX; have hC' := congrArg List.length hC
        (refine runC ?_; repeat' (first | with_reducible exact trivial | ((with_reducible apply Fork.mk) <;> intro hb) | with_reducible apply Two.mk))
        refine go_condDT rfl trivial ?_
        (refine runO ?_; repeat' (first | with_reducible exact trivial | ((with_reducible apply Fork.mk) <;> intro hb) | with_reducible apply Two.mk))
        exact finS (n0 := H.length) hR hC' hcl (.same _ undS) ⟨rfl, rfl⟩
      · simp only [hout, decide_false] at c2
        rw [if_neg (by rintro (h | h); exact h1 h; exact hout h)]
        refine ACall.of_go TB [9] tabOK _ Tryz.func48 rfl (by decide) Tryz.ntmps48 (by simp) rfl (by simp only [initEnv, Nat.reduceAdd]; rfl) fun C R' hR hC hcl hB => ?_; have X := noX; have hC' := congrArg List.length hC
        (refine runC ?_; repeat' (first | with_reducible exact trivial | ((with_reducible apply Fork.mk) <;> intro hb) | with_reducible apply Two.mk))
        refine go_condDT rfl trivial ?_
        (refine runC ?_; repeat' (first | with_reducible exact trivial | ((with_reducible apply Fork.mk) <;> intro hb) | with_reducible apply Two.mk))
        refine go_condF rfl ?_
        clear c1 c2
        (refine runO ?_; repeat' (first | with_reducible exact trivial | ((with_reducible apply Fork.mk) <;> intro hb) | with_reducible apply Two.mk))
        refine go_loop (fun i : Nat => [(2, .list 1 (out.map .str)), (3, .ptr H.length 0 0 0), (8, .int .i64 i)]) (fun _ => H ++ [.cells 0 8 [.agg [.int .i64 1, .str nm, .int .i64 nn, .int .i64 op, .list 1 (names.map .str), .list 8 (exCells subs), .list 9 (bdCells binds), .list 12 (alCells alts)]]]) (fun i => out.length - i) (fun i => i ≤ out.length ∧ ∀ (k : Nat) (h : k < out.length), k < i → out[k] < nm) 0 ⟨Nat.zero_le _, fun k _ h => by omega⟩ (wkS (n0 := H.length) [(H.length, 0)] hG hB hC' hcl) ?_
        rintro K i ⟨hi, hall⟩ hK
        have hfin : (∀ h : i < out.length, ¬ out[i] < nm) → insR out nm = out.take i ++ nm :: out.drop i := fun h => insR_end hi hall h
        rcases Nat.lt_or_ge i out.length with hlt | hge
        · by_cases hl : out[i] < nm
          · have X := And.intro noX (show strLess out[i] nm = true by rw [str_less]; exact decide_eq_true hl)
            (refine run ?_; repeat' (first | with_reducible exact trivial | ((with_reducible apply Fork.mk) <;> intro hb) | with_reducible apply Two.mk))
            exact hK _ _ (i + 1) (by omega) ⟨by omega, fun k hk hki => by
              rcases Nat.lt_or_ge k i with h | h
              · exact hall k hk h
              · have : k = i := by omega
                subst this; exact hl⟩ (wkS (n0 := H.length) [(H.length, 0)] hG hB hC' hcl)
          · have e0 := hfin fun _ => hl
            have X := And.intro noX (show strLess out[i] nm = false by rw [str_less]; exact decide_eq_false hl)
            (refine run ?_; repeat' (first | with_reducible exact trivial | ((with_reducible apply Fork.mk) <;> intro hb) | with_reducible apply Two.mk))
            refine finS (n0 := H.length) (y := .list 1 ((insR out nm).map .str)) hR hC' hcl (Frz.sf (by rw [get_app]; rfl) (by omega) (by simp) (by rw [e0]; exact ins_take hi) (SV.underL_map fun _ _ => rfl)) ⟨rfl, rfl⟩
        · have e0 := hfin fun h => by omega
          have X := And.intro noX (show ¬ ((i : Int) < (out.length : Int)) from by omega)
          (refine run ?_; repeat' (first | with_reducible exact trivial | ((with_reducible apply Fork.mk) <;> intro hb) | with_reducible apply Two.mk))
          refine finS (n0 := H.length) (y := .list 1 ((insR out nm).map .str)) hR hC' hcl (Frz.sf (by rw [get_app]; rfl) (by omega) (by simp) (by rw [e0]; exact ins_take hi) (SV.underL_map fun _ _ => rfl)) ⟨rfl, rfl⟩
    · obtain ⟨O, o1, o2, o3⟩ := rfr_seq m (.mk kd nm nn op names subs binds alts) hk bnd out
      rw [← o3]
      clear o3
      have hpl : (scopeParts (Ex.mk kd nm nn op names subs binds alts)).length = subs.length + binds.length + alts.length := by simp [scopeParts]; omega
      rw [hpl]
      have hpw : ∀ {j : Nat} {p : Ex × List Str}, (scopeParts (Ex.mk kd nm nn op names subs binds alts))[j]? = some p → p.1.wt + p.2.length < (Ex.mk kd nm nn op names subs binds alts).wt := fun h => scope_wt (List.mem_of_getElem? h)
      have hstep : ∀ {j : Nat} {p : Ex × List Str}, (scopeParts (Ex.mk kd nm nn op names subs binds alts))[j]? = some p → ∀ H, ACall Tryz.prog G 48 [p.1.sv, .list 1 ((bnd ++ p.2).map .str), .list 1 ((O j).map .str)] H (fun r H' => H' = H ∧ r = .list 1 ((O (j + 1)).map .str)) := fun {j p} h H => by
        have h1 := hpw h
        have h2 := o2 j p h
        rw [h2.1]
        exact hrec p.1 (bnd ++ p.2) (O j) H (by omega) (by rw [List.length_append]; omega) (by omega)
      have hs1 := fun (i : Nat) (h : i < subs.length) => hstep (scope_sub (nm := nm) (nn := nn) (op := op) (kd := kd) (names := names) (binds := binds) (alts := alts) h)
      have hs2 := fun (i : Nat) (h : i < binds.length) => hstep (scope_bind (nm := nm) (nn := nn) (op := op) (kd := kd) (names := names) (subs := subs) (alts := alts) h)
      have hs3 := fun (i : Nat) (h : i < alts.length) => hstep (scope_alt (nm := nm) (nn := nn) (op := op) (kd := kd) (names := names) (subs := subs) (binds := binds) h)
      have hnl := fun (i : Nat) (h : i < alts.length) => Al.names_lt (kd := kd) (nm := nm) (nn := nn) (op := op) (names := names) (subs := subs) (binds := binds) h
      clear hstep o2
      subst o1
      simp only at hs1 hs2 hs3
      refine ACall.of_go TB [9] tabOK _ Tryz.func48 rfl (by decide) Tryz.ntmps48 (by simp) rfl (by simp only [initEnv, Nat.reduceAdd]; rfl) fun C R' hR hC hcl hB => ?_; have X := noX; have hC' := congrArg List.length hC
      have X := And.intro X (decide_eq_false hk)
      (refine runC ?_; repeat' (first | with_reducible exact trivial | ((with_reducible apply Fork.mk) <;> intro hb) | with_reducible apply Two.mk))
      refine go_condF rfl ?_
      clear X
      refine go_cut (fun _ : Unit => [(1, .list 1 (bnd.map .str)), (2, .list 1 ((O 0).map .str)), (3, .ptr H.length 0 0 0), (7, .list 1 ((bnd ++ ownOf kd names binds).map .str))]) (fun _ => H ++ [.cells 0 8 [.agg [.int .i64 kd, .str nm, .int .i64 nn, .int .i64 op, .list 1 (names.map .str), .list 8 (exCells subs), .list 9 (bdCells binds), .list 12 (alCells alts)]]]) (fun _ => True) (fun K hK => ?_) (fun _ _ => ?_)
      · have c1 := fun H => rwith_ok G hG bnd names (by omega) (by omega) H
        have c2 := fun H => rnames_ok G hG binds (by omega) H
        have c3 := fun H => rwith_ok G hG bnd (binds.map Bd.name) (by omega) (by simp; omega) H
        (refine runO ?_; repeat' (first | with_reducible exact trivial | ((with_reducible apply Fork.mk) <;> intro hb) | with_reducible apply Two.mk))
        · refine hK _ _ () trivial ?_
          simp only [ownOf, if_pos hb]
          exact wkS (n0 := H.length) [(H.length, 0)] hG hB hC' hcl
        · refine hK _ _ () trivial ?_
          have hb3 : ¬ kd = 3 := by omega
          simp only [ownOf, if_neg hb3, if_pos hb]
          exact wkS (n0 := H.length) [(H.length, 0)] hG hB hC' hcl
        · refine hK _ _ () trivial ?_
          have hb3 : ¬ kd = 3 := by assumption
          simp only [ownOf, if_neg hb3, if_neg hb, List.append_nil]
          exact wkS (n0 := H.length) [(H.length, 0)] hG hB hC' hcl
      (refine runO ?_; repeat' (first | with_reducible exact trivial | ((with_reducible apply Fork.mk) <;> intro hb) | with_reducible apply Two.mk))
      refine go_loop (fun i : Nat => [(1, .list 1 (bnd.map .str)), (2, .list 1 ((O i).map .str)), (3, .ptr H.length 0 0 0), (7, .list 1 ((bnd ++ ownOf kd names binds).map .str)), (10, .int .i64 i)])
        (fun _ => H ++ [.cells 0 8 [.agg [.int .i64 kd, .str nm, .int .i64 nn, .int .i64 op, .list 1 (names.map .str), .list 8 (exCells subs), .list 9 (bdCells binds), .list 12 (alCells alts)]]]) (fun i => subs.length - i) (fun i => i ≤ subs.length) 0 (Nat.zero_le _) (wkS (n0 := H.length) [(H.length, 0)] hG hB hC' hcl) ?_
      rintro K i hi hK
      rcases Nat.lt_or_ge i subs.length with hlt | hge
      · have c1 := hs1 i hlt
        (refine run ?_; repeat' (first | with_reducible exact trivial | ((with_reducible apply Fork.mk) <;> intro hb) | with_reducible apply Two.mk))
        exact hK _ _ (i + 1) (by omega) (by omega) (wkS (n0 := H.length) [(H.length, 0)] hG hB hC' hcl)
      obtain rfl : i = subs.length := by omega
      clear hK hs1
      (refine runO ?_; repeat' (first | with_reducible exact trivial | ((with_reducible apply Fork.mk) <;> intro hb) | with_reducible apply Two.mk))
      refine go_loop (fun i : Nat => [(1, .list 1 (bnd.map .str)), (2, .list 1 ((O (subs.length + i)).map .str)), (3, .ptr H.length 0 0 0), (7, .list 1 ((bnd ++ ownOf kd names binds).map .str)), (11, .int .i64 i)])
        (fun _ => H ++ [.cells 0 8 [.agg [.int .i64 kd, .str nm, .int .i64 nn, .int .i64 op, .list 1 (names.map .str), .list 8 (exCells subs), .list 9 (bdCells binds), .list 12 (alCells alts)]]]) (fun i => binds.length - i) (fun i => i ≤ binds.length) 0 (Nat.zero_le _) (wkS (n0 := H.length) [(H.length, 0)] hG hB hC' hcl) ?_
      rintro K i hi hK
      rcases Nat.lt_or_ge i binds.length with hlt | hge
      · have c1 := hs2 i hlt
        (refine run ?_; repeat' (first | with_reducible exact trivial | ((with_reducible apply Fork.mk) <;> intro hb) | with_reducible apply Two.mk))
        exact hK _ _ (i + 1) (by omega) (by omega) (wkS (n0 := H.length) [(H.length, 0)] hG hB hC' hcl)
      obtain rfl : i = binds.length := by omega
      clear hK hs2
      (refine runO ?_; repeat' (first | with_reducible exact trivial | ((with_reducible apply Fork.mk) <;> intro hb) | with_reducible apply Two.mk))
      refine go_loop (fun i : Nat => [(1, .list 1 (bnd.map .str)), (2, .list 1 ((O (subs.length + binds.length + i)).map .str)), (3, .ptr H.length 0 0 0), (12, .int .i64 i)])
        (fun _ => H ++ [.cells 0 8 [.agg [.int .i64 kd, .str nm, .int .i64 nn, .int .i64 op, .list 1 (names.map .str), .list 8 (exCells subs), .list 9 (bdCells binds), .list 12 (alCells alts)]]]) (fun i => alts.length - i) (fun i => i ≤ alts.length) 0 (Nat.zero_le _) (wkS (n0 := H.length) [(H.length, 0)] hG hB hC' hcl) ?_
      rintro K i hi hK
      rcases Nat.lt_or_ge i alts.length with hlt | hge
      · have c1 := fun H => rwith_ok G hG bnd alts[i].names (by omega) (by have := hnl i hlt; omega) H
        (refine runC ?_; repeat' (first | with_reducible exact trivial | ((with_reducible apply Fork.mk) <;> intro hb) | with_reducible apply Two.mk))
        refine go_condDT rfl (by omega) ?_
        (refine runC ?_; repeat' (first | with_reducible exact trivial | ((with_reducible apply Fork.mk) <;> intro hb) | with_reducible apply Two.mk))
        refine go_cut (fun _ : Unit => [(1, .list 1 (bnd.map .str)), (2, .list 1 ((O (subs.length + binds.length + i)).map .str)), (3, .ptr H.length 0 0 0), (12, .int .i64 i), (13, .list 1 ((bnd ++ (alts[i].names ++ if kd = 6 then [nm] else [])).map .str))]) (fun _ => H ++ [.cells 0 8 [.agg [.int .i64 kd, .str nm, .int .i64 nn, .int .i64 op, .list 1 (names.map .str), .list 8 (exCells subs), .list 9 (bdCells binds), .list 12 (alCells alts)]]]) (fun _ => True) (fun K2 hK2 => ?_) (fun _ _ => ?_)
        · have c2 := fun H => rwith_ok G hG (bnd ++ alts[i].names) [nm] (by have := hnl i hlt; rw [List.length_append]; omega) (by simp) H
          simp only [List.append_assoc, List.map_cons, List.map_nil] at c2
          (refine run ?_; repeat' (first | with_reducible exact trivial | ((with_reducible apply Fork.mk) <;> intro hb) | with_reducible apply Two.mk))
          · refine hK2 _ _ () trivial ?_
            simp only [if_pos hb]
            exact wkS (n0 := H.length) [(H.length, 0)] hG hB hC' hcl
          · refine hK2 _ _ () trivial ?_
            simp only [if_neg hb, List.append_nil]
            exact wkS (n0 := H.length) [(H.length, 0)] hG hB hC' hcl
        have c2 := hs3 i hlt
        (refine run ?_; repeat' (first | with_reducible exact trivial | ((with_reducible apply Fork.mk) <;> intro hb) | with_reducible apply Two.mk))
        refine hK _ _ (i + 1) (by omega) (by omega) ?_
        rw [← Nat.add_assoc subs.length binds.length (i + 1)]
        exact (wkS (n0 := H.length) [(H.length, 0)] hG hB hC' hcl)
      obtain rfl : i = alts.length := by omega
      clear hK hs3
      (refine runO ?_; repeat' (first | with_reducible exact trivial | ((with_reducible apply Fork.mk) <;> intro hb) | with_reducible apply Two.mk))
      exact finS (n0 := H.length) hR hC' hcl (.same _ undS) ⟨rfl, by rw [← Nat.add_assoc]; rfl⟩
end Go.Proofs.YtcopfafknmpneaaGreatDoor
end

section
namespace Go.Proofs.YtcopfafknmpneaaGreatDoor
open Go
set_option linter.unusedSimpArgs false
set_option linter.unusedVariables false
set_option maxRecDepth 10000
set_option maxHeartbeats 4000000

/-- both sides' free names and binders, told as plain lists -/
theorem freeL_ok (G : Gl) (hG : GClosed G) (e : Ex) (hw : e.wt < 549755813888) (H : List Blk) : ACall Tryz.prog G 13 [e.sv] H (fun r H' => H' = H ∧ r = .list 1 ((freeS e).map .str)) :=
  ACall.frz (SV.underL_map fun _ _ => rfl) (by simp) (free_ok G hG e H hw)
theorem rFreeL_ok (G : Gl) (hG : GClosed G) (e : Ex) (hw : e.wt < 549755813888) (H : List Blk) : ACall Tryz.prog G 18 [e.sv] H (fun r H' => H' = H ∧ r = .list 1 ((freeS e).map .str)) := by
  have c1 : ∀ H, ACall Tryz.prog G 48 [e.sv, .nil, .nil] H (fun r H' => H' = H ∧ r = .list 1 ((freeS e).map .str)) := fun H => by
    have h := rfree_ok G hG e.wt e [] [] H (Nat.le_refl _) (by simpa using hw) (by simpa using hw)
    rw [rfr_free] at h
    refine h.argsOf fun c vs hv => ?_
    obtain ⟨v0, r0, q0, h0, rfl⟩ := RepL.cons_iff.1 hv
    obtain ⟨v1, r1, q1, h1, rfl⟩ := RepL.cons_iff.1 h0
    obtain ⟨v2, r2, q2, h2, rfl⟩ := RepL.cons_iff.1 h1
    exact RepL.mk_cons q0 (RepL.mk_cons q1.nil_list (RepL.mk_cons q2.nil_list h2))
  refine ACall.of_go TB [] tabOK _ Tryz.func18 rfl (by decide) Tryz.ntmps18 (by simp) rfl (by simp only [initEnv, Nat.reduceAdd]; rfl) fun C R' hR hC hcl hB => ?_; have X := noX; have hC' := congrArg List.length hC
  (refine runO ?_; repeat' (first | with_reducible exact trivial | ((with_reducible apply Fork.mk) <;> intro hb) | with_reducible apply Two.mk))
  exact finS (n0 := H.length) hR hC' hcl (.same _ undS) ⟨rfl, rfl⟩
theorem bindersL_ok (G : Gl) (hG : GClosed G) (e : Ex) (hw : e.wt < 4294967296) (H : List Blk) : ACall Tryz.prog G 10 [e.sv] H (fun r H' => H' = H ∧ r = .list 1 ((bnds e).map .str)) :=
  ACall.frz (SV.underL_map fun _ _ => rfl) (by simp [bnds]) (binders_ok G hG e.wt e H (Nat.le_refl _) hw)
theorem rbindersL_ok (G : Gl) (hG : GClosed G) (e : Ex) (hw : e.wt < 4294967296) (H : List Blk) : ACall Tryz.prog G 19 [e.sv] H (fun r H' => H' = H ∧ r = .list 1 ((bnds e).map .str)) :=
  ACall.frz (SV.underL_map fun _ _ => rfl) (by simp [bnds]) (rbinders_ok G hG e.wt e H (Nat.le_refl _) hw)

theorem ltexts_ok (G : Gl) (hG : GClosed G) (a : List Str) (ha : a.length < 1125899906842624) (H : List Blk) :
    ACall Tryz.prog G 17 [.list 1 (a.map SV.str), .list 1 (a.map SV.str)] H (fun r H' => H' = H ∧ r = .bool true) := by
  refine ACall.of_go TB [] tabOK _ Tryz.func17 rfl (by decide) Tryz.ntmps17 (by simp) rfl (by simp only [initEnv, Nat.reduceAdd]; rfl) fun C R' hR hC hcl hB => ?_; have X := noX; have hC' := congrArg List.length hC
  have X := And.intro X (show ((a.length : Int) = (a.length : Int)) = True from by simp)
  (refine run ?_; repeat' (first | with_reducible exact trivial | ((with_reducible apply Fork.mk) <;> intro hb) | with_reducible apply Two.mk))
  clear X
  refine go_loop (fun k : Nat => [(0, .list 1 (a.map SV.str)), (1, .list 1 (a.map SV.str)), (5, .int .i64 k)]) (fun _ => H) (fun k => a.length - k) (fun k => k ≤ a.length) 0 (Nat.zero_le _) (Wk.sub (by simp [subEnv, look])) ?_
  rintro K k hk hK
  rcases Nat.lt_or_ge k a.length with hlt | hge
  · have X := And.intro noX (show (a[k] = a[k]) = True from by simp)
    (refine run ?_; repeat' (first | with_reducible exact trivial | ((with_reducible apply Fork.mk) <;> intro hb) | with_reducible apply Two.mk))
    exact hK _ _ (k + 1) (by omega) (by omega) (Wk.sub (by simp [subEnv, look]))
  · have : k = a.length := by omega
    subst this
    have X := And.intro noX (Int.lt_irrefl (a.length : Int))
    (refine run ?_; repeat' (first | with_reducible exact trivial | ((with_reducible apply Fork.mk) <;> intro hb) | with_reducible apply Two.mk))
    exact Fin.out hR ⟨rfl, rfl⟩
end Go.Proofs.YtcopfafknmpneaaGreatDoor
end
