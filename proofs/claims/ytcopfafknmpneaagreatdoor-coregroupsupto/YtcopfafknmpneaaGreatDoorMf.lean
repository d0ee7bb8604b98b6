/- A part of the proof: U1, U2, U3, U4, U6, U7, U8, U9, V1. -/
import Derived.Test.YtcopfafknmpneaaGreatDoorMe

section
namespace Go.Proofs.YtcopfafknmpneaaGreatDoor
open Go
set_option linter.unusedSimpArgs false
set_option linter.unusedVariables false
set_option maxRecDepth 10000

def idxFrom : Nat → List (List UInt8) → List UInt8 → Int
  | _, [], _ => -1
  | i, x :: r, v => if v = x then i else idxFrom (i + 1) r v

theorem index_list (G : Gl) (l : List (List UInt8)) (v : List UInt8) (H : List Blk) (hl : l.length < 4611686018427387904) :
    ACall Tryz.prog G 84 [.list 1 (l.map .str), .str v] H (fun r H' => H' = H ∧ r = .int .i64 (idxFrom 0 l v)) := by
  refine ACall.of_go TB [] tabOK _ Tryz.func84 rfl (by decide) Tryz.ntmps84 (by simp) rfl (by simp only [initEnv, Nat.reduceAdd]; rfl) fun C R' hR hC hcl hB => ?_; have X := noX; have hC' := congrArg List.length hC
  (refine runO ?_; repeat' (first | with_reducible exact trivial | ((with_reducible apply Fork.mk) <;> intro hb) | with_reducible apply Two.mk))
  · refine go_loop (fun i : Nat => [(0, .list 1 (l.map .str)), (1, .str v), (4, .int .i64 0), (7, .int .i64 l.length), (8, .int .i64 i)]) (fun _ => H) (fun i => l.length - i) (fun i => i ≤ l.length ∧ idxFrom i (l.drop i) v = idxFrom 0 l v) 0 (by simp) (Wk.sub ?_) ?_
    · simp (decide := true) [subEnv, look]
    intro K i hi hK
    (refine runO ?_; repeat' (first | with_reducible exact trivial | ((with_reducible apply Fork.mk) <;> intro hb) | with_reducible apply Two.mk))
    · have hi' : i < l.length := by omega
      rw [List.drop_eq_getElem_cons hi', idxFrom, if_pos hb] at hi
      exact Fin.out hR ⟨rfl, by rw [← hi.2]; rfl⟩
    · have hi' : i < l.length := by omega
      rw [List.drop_eq_getElem_cons hi', idxFrom, if_neg hb] at hi
      exact hK _ _ (i + 1) (by omega) ⟨hi', hi.2⟩ (Wk.sub (by simp [subEnv, look]))
    · rw [List.drop_of_length_le (by omega), idxFrom] at hi
      exact Fin.out hR ⟨rfl, by rw [← hi.2]; rfl⟩
end Go.Proofs.YtcopfafknmpneaaGreatDoor
end

section
namespace Go.Proofs.YtcopfafknmpneaaGreatDoor
open Go
set_option linter.unusedSimpArgs false
set_option linter.unusedVariables false
set_option maxRecDepth 10000

theorem idxFrom_ge : ∀ (l : List Str) (v : Str) (i : Nat), (idxFrom i l v = -1 ∧ v ∉ l) ∨ ((i : Int) ≤ idxFrom i l v ∧ v ∈ l)
  | [], v, i => .inl ⟨rfl, by simp⟩
  | x :: r, v, i => by
    rw [idxFrom]
    split
    · rename_i h; exact .inr ⟨Int.le_refl _, by simp [h]⟩
    · rename_i h
      rcases idxFrom_ge r v (i + 1) with h1 | h1
      · exact .inl ⟨h1.1, by simp [h, h1.2]⟩
      · exact .inr ⟨by omega, by simp [h1.2]⟩

theorem contains_list (G : Gl) (l : List Str) (v : Str) (H : List Blk) (hl : l.length < 4611686018427387904) :
    ACall Tryz.prog G 41 [.list 1 (l.map .str), .str v] H (fun r H' => H' = H ∧ r = .bool (decide (v ∈ l))) := by
  refine ACall.of_go TB [] tabOK _ Tryz.func41 rfl (by decide) Tryz.ntmps41 (by simp) rfl (by simp only [initEnv, Nat.reduceAdd]; rfl) fun C R' hR hC hcl hB => ?_; have X := noX; have hC' := congrArg List.length hC
  (refine runO ?_; repeat' (first | with_reducible exact trivial | ((with_reducible apply Fork.mk) <;> intro hb) | with_reducible apply Two.mk))
  refine go_call (xs := [.list 1 (l.map .str), .str v]) (by exact evS) rfl (index_list G l v H hl) ?_
  rintro r H' ⟨rfl, rfl⟩
  (refine runO ?_; repeat' (first | with_reducible exact trivial | ((with_reducible apply Fork.mk) <;> intro hb) | with_reducible apply Two.mk))
  refine Fin.out hR ⟨rfl, ?_⟩
  rcases idxFrom_ge l v 0 with h | h
  · simp [h.1, h.2, resSV]
  · simp only [h.2, decide_true, SV.bool.injEq, decide_eq_true_eq, resSV]; omega

theorem has_list (G : Gl) (l : List Str) (v : Str) (H : List Blk) (hl : l.length < 4611686018427387904) :
    ACall Tryz.prog G 46 [.list 1 (l.map .str), .str v] H (fun r H' => H' = H ∧ r = .bool (decide (v ∈ l))) := by
  refine ACall.of_go TB [] tabOK _ Tryz.func46 rfl (by decide) Tryz.ntmps46 (by simp) rfl (by simp only [initEnv, Nat.reduceAdd]; rfl) fun C R' hR hC hcl hB => ?_; have X := noX; have hC' := congrArg List.length hC
  (refine runO ?_; repeat' (first | with_reducible exact trivial | ((with_reducible apply Fork.mk) <;> intro hb) | with_reducible apply Two.mk))
  refine go_loop (fun i : Nat => [(0, .list 1 (l.map .str)), (1, .str v), (5, .int .i64 i)]) (fun _ => H) (fun i => l.length - i) (fun i => i ≤ l.length ∧ v ∉ l.take i) 0 (by simp) (Wk.sub (by simp [subEnv, look])) ?_
  intro K i hi hK
  (refine runO ?_; repeat' (first | with_reducible exact trivial | ((with_reducible apply Fork.mk) <;> intro hb) | with_reducible apply Two.mk))
  · have hi' : i < l.length := by omega
    exact Fin.out hR ⟨rfl, by rw [decide_eq_true (by rw [← hb]; exact List.getElem_mem hi')]; rfl⟩
  · have hi' : i < l.length := by omega
    exact hK _ _ (i + 1) (by omega) ⟨hi', by rw [List.take_succ_eq_append_getElem hi', List.mem_append]; simp only [hi.2, List.mem_singleton, false_or]; exact fun h => hb h.symm⟩ (Wk.sub (by simp [subEnv, look]))
  · have : l.take i = l := List.take_of_length_le (by omega)
    exact Fin.out hR ⟨rfl, by rw [decide_eq_false (by rw [← this]; exact hi.2)]; rfl⟩
end Go.Proofs.YtcopfafknmpneaaGreatDoor
end

section
namespace Go.Proofs.YtcopfafknmpneaaGreatDoor
open Go
set_option linter.unusedSimpArgs false
set_option linter.unusedVariables false
set_option maxRecDepth 10000
set_option maxHeartbeats 4000000

def bndL2 (F : Ex → Int × Bool) : Int → List Ex → Int × Bool
  | n, [] => (n, true)
  | n, e :: r => if n ≤ 200000 then (if (F e).2 then bndL2 F (n + (F e).1) r else (n + (F e).1, false)) else (n, true)
def bnd2 : Nat → Ex → Int × Bool
  | 0, _ => (1, false)
  | f + 1, e => bndL2 (bnd2 f) 1 e.parts
theorem bndL2_le {F : Ex → Int × Bool} {m : Int} (hF : ∀ e, 1 ≤ (F e).1 ∧ (F e).1 ≤ m) : ∀ (l : List Ex) (n : Int), 1 ≤ n → n ≤ 200000 + m → 1 ≤ (bndL2 F n l).1 ∧ (bndL2 F n l).1 ≤ 200000 + m
  | [], n, h1, h2 => ⟨h1, h2⟩
  | e :: r, n, h1, h2 => by
    rw [bndL2]
    have := hF e
    split
    · split
      · exact bndL2_le hF r _ (by omega) (by omega)
      · simp only; omega
    · exact ⟨h1, h2⟩
theorem bnd2_le : ∀ (f : Nat) (e : Ex), 1 ≤ (bnd2 f e).1 ∧ (bnd2 f e).1 ≤ 200000 * ((f : Int) + 1)
  | 0, e => by simp [bnd2]
  | f + 1, e => by
    rw [bnd2]
    have := bndL2_le (m := 200000 * ((f : Int) + 1)) (fun e => bnd2_le f e) e.parts 1 (by omega) (by omega)
    refine ⟨this.1, Int.le_trans this.2 ?_⟩
    simp only [Int.natCast_add, Int.natCast_one]; omega
theorem bounded_ok (G : Gl) (hG : GClosed G) : ∀ (f : Nat) (e : Ex) (H : List Blk), e.wt < 1099511627776 → f ≤ 2001 →
    ACall Tryz.prog G 27 [e.sv, .int .i64 (2001 - f)] H (fun r H' => H' = H ∧ r = .tuple [.int .i64 (bnd2 f e).1, .bool (bnd2 f e).2])
  | 0, e, H, hw, hf => by
    refine ACall.of_go TB [] tabOK _ Tryz.func27 rfl (by decide) Tryz.ntmps27 (by simp) rfl (by simp only [initEnv, Nat.reduceAdd]; rfl) fun C R' hR hC hcl hB => ?_; have X := noX; have hC' := congrArg List.length hC
    have hC' : C.H.length = H.length := by rw [hC]
    (refine runO ?_; repeat' (first | with_reducible exact trivial | ((with_reducible apply Fork.mk) <;> intro hb) | with_reducible apply Two.mk))
    exact Fin.tellN (n0 := H.length) hR (by simp) hC' hcl (.same _ rfl) ⟨rfl, rfl⟩
  | f + 1, e, H, hw, hf => by
    obtain ⟨k, s, n, o, l, subs, binds, alts⟩ := e
    have hlen := Ex.wt_lens k s n o l subs binds alts
    have hfb : ((f + 1 : Nat) : Int) = f + 1 := by omega
    have hP : (Ex.mk k s n o l subs binds alts).parts = subs ++ (binds.map Bd.e ++ alts.map Al.body) := Ex.parts_mk ..
    generalize hpp : (Ex.mk k s n o l subs binds alts).parts = pp at hP
    have hlp : pp.length = subs.length + binds.length + alts.length := by rw [hP]; simp; omega
    have hbn : bnd2 (f + 1) (Ex.mk k s n o l subs binds alts) = bndL2 (bnd2 f) 1 pp := by rw [bnd2, hpp]
    refine ACall.of_go TB [] tabOK _ Tryz.func27 rfl (by decide) Tryz.ntmps27 (by simp) rfl (by simp only [initEnv, Nat.reduceAdd]; rfl) fun C R' hR hC hcl hB => ?_; have X := noX; have hC' := congrArg List.length hC
    have hC' : C.H.length = H.length := by rw [hC]
    rw [hbn] at hR
    (refine runO ?_; repeat' (first | with_reducible exact trivial | ((with_reducible apply Fork.mk) <;> intro hb) | with_reducible apply Two.mk))
    refine go_loop (fun a : Nat × Int × Bool => [(1, .int .i64 (2001 - ((f + 1 : Nat) : Int))), (2, .ptr H.length 0 0 0), (6, .int .i64 a.2.1), (7, .bool a.2.2), (8, .int .i64 a.1)]) (fun _ => H ++ [.cells 0 8 [.agg [.int .i64 k, .str s, .int .i64 n, .int .i64 o, .list 1 (l.map .str), .list 8 (exCells subs), .list 9 (bdCells binds), .list 12 (alCells alts)]]])
        (fun a => pp.length - a.1) (fun a => a.1 ≤ pp.length ∧ 1 ≤ a.2.1 ∧ a.2.1 ≤ 200000 * ((f : Int) + 2) ∧ (if a.2.2 then bndL2 (bnd2 f) a.2.1 (pp.drop a.1) else (a.2.1, false)) = bndL2 (bnd2 f) 1 pp) (0, 1, true) ⟨Nat.zero_le _, Int.le_refl _, by show (1 : Int) ≤ _; omega, rfl⟩ ?_ ?_
    · exact wkS (n0 := H.length) [(H.length, 0)] hG hB (by rw [hC]) hcl
    · rintro K ⟨i, m, ok⟩ ⟨hi1, hi2, hi3, hi4⟩ hK
      simp only at hi1 hi2 hi3 hi4
      have go : ∀ (p : Ex), pp[i]? = some p → ok = true → m ≤ 200000 → (bnd2 f p).1 ≤ 200000 * ((f : Int) + 1) ∧ 1 ≤ (bnd2 f p).1 ∧ (if (bnd2 f p).2 then bndL2 (bnd2 f) (m + (bnd2 f p).1) (pp.drop (i + 1)) else (m + (bnd2 f p).1, false)) = bndL2 (bnd2 f) 1 pp := by
        intro p hp hok hm
        have hlt : i < pp.length := (List.getElem?_eq_some_iff.1 hp).1
        have hpe : pp[i] = p := (List.getElem?_eq_some_iff.1 hp).2
        have hb := bnd2_le f p
        rw [hok, if_pos rfl, List.drop_eq_getElem_cons hlt, hpe, bndL2, if_pos hm] at hi4
        exact ⟨by omega, hb.1, hi4⟩
      have call : ∀ (p : Ex) (H2 : List Blk), pp[i]? = some p → ACall Tryz.prog G 27 [p.sv, .int .i64 (2001 - ((f + 1 : Nat) : Int) + 1)] H2 (fun r H' => H' = H2 ∧ r = .tuple [.int .i64 (bnd2 f p).1, .bool (bnd2 f p).2]) := fun p H2 hp => by
        rw [show 2001 - ((f + 1 : Nat) : Int) + 1 = 2001 - (f : Int) by omega]
        exact bounded_ok G hG f p H2 (Nat.lt_trans (Ex.wt_parts (hpp ▸ List.mem_of_getElem? hp)) hw) (by omega)
      (refine runO ?_; repeat' (first | with_reducible exact trivial | ((with_reducible apply Fork.mk) <;> intro hb) | with_reducible apply Two.mk))
      · have hlt : i < subs.length := by omega
        have hp : pp[i]? = some subs[i] := by
          have : pp[i]? = subs[i]? := by rw [hP]; exact List.getElem?_append_left hlt
          rw [this]; exact List.getElem?_eq_getElem hlt
        obtain ⟨g1, g2, g3⟩ := go _ hp ‹_› ‹_›
        refine go_call ?_ rfl (call _ _ hp) ?_
        · exact evS
        rintro r H' ⟨rfl, rfl⟩
        (refine runO ?_; repeat' (first | with_reducible exact trivial | ((with_reducible apply Fork.mk) <;> intro hb) | with_reducible apply Two.mk))
        refine hK _ _ (i + 1, m + (bnd2 f subs[i]).1, (bnd2 f subs[i]).2) (by simp only; omega) ⟨by simp only; omega, by simp only; omega, by simp only; omega, g3⟩ ?_
        exact wkS (n0 := H.length) [(H.length, 0)] hG hB (by rw [hC]) hcl
      · have hlt : (((i : Int) - subs.length).toNat) < binds.length := by omega
        have hp : pp[i]? = some binds[((i : Int) - subs.length).toNat].e := by
          rw [hP, List.getElem?_append_right (by omega), List.getElem?_append_left (by simp; omega), List.getElem?_map, show i - subs.length = ((i : Int) - subs.length).toNat by omega, List.getElem?_eq_getElem hlt]; rfl
        obtain ⟨g1, g2, g3⟩ := go _ hp ‹_› ‹_›
        refine go_call ?_ rfl (call _ _ hp) ?_
        · exact evS
        rintro r H' ⟨rfl, rfl⟩
        (refine runO ?_; repeat' (first | with_reducible exact trivial | ((with_reducible apply Fork.mk) <;> intro hb) | with_reducible apply Two.mk))
        refine hK _ _ (i + 1, m + (bnd2 f binds[((i : Int) - subs.length).toNat].e).1, (bnd2 f binds[((i : Int) - subs.length).toNat].e).2) (by simp only; omega) ⟨by simp only; omega, by simp only; omega, by simp only; omega, g3⟩ ?_
        exact wkS (n0 := H.length) [(H.length, 0)] hG hB (by rw [hC]) hcl
      · have hlt : (((i : Int) - subs.length - binds.length).toNat) < alts.length := by omega
        have hp : pp[i]? = some alts[((i : Int) - subs.length - binds.length).toNat].body := by
          rw [hP, List.getElem?_append_right (by omega), List.getElem?_append_right (by simp; omega), List.getElem?_map, List.length_map, show i - subs.length - binds.length = ((i : Int) - subs.length - binds.length).toNat by omega, List.getElem?_eq_getElem hlt]; rfl
        obtain ⟨g1, g2, g3⟩ := go _ hp ‹_› ‹_›
        refine go_call ?_ rfl (call _ _ hp) ?_
        · exact evS
        rintro r H' ⟨rfl, rfl⟩
        (refine runO ?_; repeat' (first | with_reducible exact trivial | ((with_reducible apply Fork.mk) <;> intro hb) | with_reducible apply Two.mk))
        refine hK _ _ (i + 1, m + (bnd2 f alts[((i : Int) - subs.length - binds.length).toNat].body).1, (bnd2 f alts[((i : Int) - subs.length - binds.length).toNat].body).2) (by simp only; omega) ⟨by simp only; omega, by simp only; omega, by simp only; omega, g3⟩ ?_
        exact wkS (n0 := H.length) [(H.length, 0)] hG hB (by rw [hC]) hcl
      · have hm := hb
        have ho : ok = true := ‹_›
        subst ho
        rw [if_pos rfl, List.drop_eq_getElem_cons (by omega), bndL2, if_neg hm] at hi4
        exact Fin.tellN (n0 := H.length) hR (by simp) hC' hcl (.same _ rfl) ⟨rfl, by rw [← hi4]; rfl⟩
      · subst hb
        rw [if_neg (by simp)] at hi4
        exact Fin.tellN (n0 := H.length) hR (by simp) hC' hcl (.same _ rfl) ⟨rfl, by rw [← hi4]; rfl⟩
      · rw [List.drop_of_length_le (by omega), bndL2] at hi4
        refine Fin.tellN (n0 := H.length) hR (by simp) hC' hcl (.same _ rfl) ⟨rfl, ?_⟩
        cases ok
        · rw [if_neg (by simp)] at hi4; rw [← hi4]; rfl
        · rw [if_pos rfl] at hi4; rw [← hi4]; rfl
end Go.Proofs.YtcopfafknmpneaaGreatDoor
end

section
namespace Go.Proofs.YtcopfafknmpneaaGreatDoor
open Go
set_option linter.unusedSimpArgs false
set_option linter.unusedVariables false
set_option maxRecDepth 10000
set_option maxHeartbeats 4000000

/-- tally of one name -/
def tl (s : Str) (n : Int) (b : Bool) : SV := .agg [.str s, .int .i64 n, .bool b]

/-- the names that an expression binds in all its parts -/
def ownOf (k : Int) (l : List Str) (binds : List Bd) : List Str := if k = 3 then l else if k = 5 then binds.map Bd.name else []

mutual
/-- how often a name stands free -/
def occ (s : Str) : Ex → Nat
  | .mk k nm _ _ l subs binds alts => if k = 1 then (if nm = s then 1 else 0) else if s ∈ ownOf k l binds then 0 else occL s subs + occB s binds + occA s (k = 6 ∧ nm = s) alts
def occL (s : Str) : List Ex → Nat
  | [] => 0
  | e :: r => occ s e + occL s r
def occBd (s : Str) : Bd → Nat
  | .mk _ e => occ s e
def occB (s : Str) : List Bd → Nat
  | [] => 0
  | b :: r => occBd s b + occB s r
def occAl (s : Str) (c : Prop) [Decidable c] : Al → Nat
  | .mk _ _ _ l e => if s ∈ l ∨ c then 0 else occ s e
def occA (s : Str) (c : Prop) [Decidable c] : List Al → Nat
  | [] => 0
  | a :: r => occAl s c a + occA s c r
end
mutual
/-- does it stand somewhere within a Lam? -/
def insd (s : Str) (b : Bool) : Ex → Bool
  | .mk k nm _ _ l subs binds alts => if k = 1 then (b && decide (nm = s)) else if s ∈ ownOf k l binds then false else insdL s (b || decide (k = 3)) subs || insdB s (b || decide (k = 3)) binds || insdA s (b || decide (k = 3)) (k = 6 ∧ nm = s) alts
def insdL (s : Str) (b : Bool) : List Ex → Bool
  | [] => false
  | e :: r => insd s b e || insdL s b r
def insdBd (s : Str) (b : Bool) : Bd → Bool
  | .mk _ e => insd s b e
def insdB (s : Str) (b : Bool) : List Bd → Bool
  | [] => false
  | x :: r => insdBd s b x || insdB s b r
def insdAl (s : Str) (b : Bool) (c : Prop) [Decidable c] : Al → Bool
  | .mk _ _ _ l e => if s ∈ l ∨ c then false else insd s b e
def insdA (s : Str) (b : Bool) (c : Prop) [Decidable c] : List Al → Bool
  | [] => false
  | a :: r => insdAl s b c a || insdA s b c r
end

theorem Bd.mk_eta (b : Bd) : Bd.mk b.name b.e = b := by cases b; rfl
theorem Al.mk_eta (a : Al) : Al.mk a.kind a.name a.n a.names a.body = a := by cases a; rfl
theorem occBd_eq (s : Str) (b : Bd) : occBd s b = occ s b.e := by cases b; rw [occBd]; rfl
theorem occAl_eq (s : Str) (c : Prop) [Decidable c] (a : Al) : occAl s c a = if s ∈ a.names ∨ c then 0 else occ s a.body := by cases a; rw [occAl]; rfl
theorem insdBd_eq (s : Str) (q : Bool) (b : Bd) : insdBd s q b = insd s q b.e := by cases b; rw [insdBd]; rfl
theorem insdAl_eq (s : Str) (q : Bool) (c : Prop) [Decidable c] (a : Al) : insdAl s q c a = if s ∈ a.names ∨ c then false else insd s q a.body := by cases a; rw [insdAl]; rfl

mutual
theorem occ_le (s : Str) : ∀ e : Ex, occ s e ≤ e.wt
  | .mk k nm n o l subs binds alts => by
    have h1 := occL_le s subs
    have h2 := occB_le s binds
    have h3 := occA_le s (k = 6 ∧ nm = s) alts
    simp only [occ, Ex.wt]
    split
    · split <;> omega
    · split <;> omega
theorem occL_le (s : Str) : ∀ l : List Ex, occL s l ≤ exsWt l
  | [] => Nat.le_refl _
  | e :: r => by have h1 := occ_le s e; have h2 := occL_le s r; simp only [occL, exsWt]; omega
theorem occBd_le (s : Str) : ∀ b : Bd, occBd s b ≤ b.wt
  | .mk n e => by have h1 := occ_le s e; simp only [occBd, Bd.wt]; omega
theorem occB_le (s : Str) : ∀ l : List Bd, occB s l ≤ bdsWt l
  | [] => Nat.le_refl _
  | e :: r => by have h1 := occBd_le s e; have h2 := occB_le s r; simp only [occB, bdsWt]; omega
theorem occAl_le (s : Str) (c : Prop) [Decidable c] : ∀ b : Al, occAl s c b ≤ b.wt
  | .mk k nm n l e => by have h1 := occ_le s e; simp only [occAl, Al.wt]; split <;> omega
theorem occA_le (s : Str) (c : Prop) [Decidable c] : ∀ l : List Al, occA s c l ≤ alsWt l
  | [] => Nat.le_refl _
  | e :: r => by have h1 := occAl_le s c e; have h2 := occA_le s c r; simp only [occA, alsWt]; omega
end

theorem Al.wt_names (a : Al) : a.names.length ≤ a.wt := by cases a; simp only [Al.wt, Al.names]; have := strsWt_len ‹_›; omega

end Go.Proofs.YtcopfafknmpneaaGreatDoor
end

section
namespace Go.Proofs.YtcopfafknmpneaaGreatDoor
open Go
set_option linter.unusedSimpArgs false
set_option linter.unusedVariables false
set_option maxRecDepth 10000
set_option maxHeartbeats 4000000

def argsOf (op : Int) : Int := if 1 ≤ op ∧ op ≤ 8 then 2 else if op = 10 then 1 else if op = 9 ∨ op = 11 then 0 else -1

theorem args_ok (G : Gl) (hG : GClosed G) (op : Int) (H : List Blk) : ACall Tryz.prog G 86 [.int .i64 op] H (fun r H' => H' = H ∧ r = .int .i64 (argsOf op)) := by
  refine ACall.of_go TB [] tabOK _ Tryz.func86 rfl (by decide) Tryz.ntmps86 (by simp) rfl (by simp only [initEnv, Nat.reduceAdd]; rfl) fun C R' hR hC hcl hB => ?_; have X := noX; have hC' := congrArg List.length hC
  (refine runO ?_; repeat' (first | with_reducible exact trivial | ((with_reducible apply Fork.mk) <;> intro hb) | with_reducible apply Two.mk))
  all_goals
    refine Fin.out hR ⟨rfl, ?_⟩
    simp only [resSV, argsOf]
    repeat' (first | rfl | split | (exfalso; omega))

theorem parts_ok (G : Gl) (hG : GClosed G) (e : Ex) (H : List Blk) (hw : e.wt < 4294967296) : ACall Tryz.prog G 49 [e.sv] H (fun r H' => H' = H ∧ r = .list 8 (exCells e.parts)) := by
  obtain ⟨kd, nm, nn, op, names, subs, binds, alts⟩ := e
  have hlen := Ex.wt_lens kd nm nn op names subs binds alts
  refine ACall.of_go TB [3] tabOK _ Tryz.func49 rfl (by decide) Tryz.ntmps49 (by simp) rfl (by simp only [initEnv, Nat.reduceAdd]; rfl) fun C R' hR hC hcl hB => ?_; have X := noX; have hC' := congrArg List.length hC
  have hC' : C.H.length = H.length := by rw [hC]
  (refine runO ?_; repeat' (first | with_reducible exact trivial | ((with_reducible apply Fork.mk) <;> intro hb) | with_reducible apply Two.mk))
  refine go_loop (fun i : Nat => [(1, .ptr H.length 0 0 0), (3, .sl (H.length + 1) 0 0 (subs.length + i)), (4, .int .i64 i)]) (fun i => H ++ [.cells 0 8 [.agg [.int .i64 kd, .str nm, .int .i64 nn, .int .i64 op, .list 1 (names.map .str), .list 8 (exCells subs), .list 9 (bdCells binds), .list 12 (alCells alts)]], .cells 0 8 (exCells subs ++ (binds.take i).map fun b => .agg b.e.cells)])
    (fun i => binds.length - i) (fun i => i ≤ binds.length) 0 (Nat.zero_le _) ?_ ?_
  · simp only [List.take_zero, List.map_nil, List.append_nil, Nat.add_zero]
    exact wkS (n0 := H.length) [(H.length, 0), (H.length + 1, 0)] hG hB (by rw [hC]) hcl
  · intro K i hi hK
    (refine runO ?_; repeat' (first | with_reducible exact trivial | ((with_reducible apply Fork.mk) <;> intro hb) | with_reducible apply Two.mk))
    · refine hK _ _ (i + 1) (by omega) (by omega) ?_
      simp only [List.take_succ_eq_append_getElem (show i < binds.length by omega), List.map_append, List.map_cons, List.map_nil]
      exact wkS (n0 := H.length) [(H.length, 0), (H.length + 1, 0)] hG hB (by rw [hC]) hcl
    · have hi' : i = binds.length := by omega
      subst hi'
      simp only [List.take_length]
      refine go_loop (fun i : Nat => [(1, .ptr H.length 0 0 0), (3, .sl (H.length + 1) 0 0 (subs.length + binds.length + i)), (5, .int .i64 i)]) (fun i => H ++ [.cells 0 8 [.agg [.int .i64 kd, .str nm, .int .i64 nn, .int .i64 op, .list 1 (names.map .str), .list 8 (exCells subs), .list 9 (bdCells binds), .list 12 (alCells alts)]], .cells 0 8 (exCells subs ++ ((binds.map fun b => .agg b.e.cells) ++ (alts.take i).map fun a => .agg a.body.cells))])
        (fun i => alts.length - i) (fun i => i ≤ alts.length) 0 (Nat.zero_le _) ?_ ?_
      · simp only [List.take_zero, List.map_nil, List.append_nil, Nat.add_zero]
        exact wkS (n0 := H.length) [(H.length, 0), (H.length + 1, 0)] hG hB (by rw [hC]) hcl
      · intro K2 i hi hK2
        (refine runO ?_; repeat' (first | with_reducible exact trivial | ((with_reducible apply Fork.mk) <;> intro hb) | with_reducible apply Two.mk))
        · refine hK2 _ _ (i + 1) (by omega) (by omega) ?_
          simp only [List.take_succ_eq_append_getElem (show i < alts.length by omega), List.map_append, List.map_cons, List.map_nil]
          exact wkS (n0 := H.length) [(H.length, 0), (H.length + 1, 0)] hG hB (by rw [hC]) hcl
        · have hi' : i = alts.length := by omega
          subst hi'
          have hpe : exCells (Ex.mk kd nm nn op names subs binds alts).parts = exCells subs ++ ((binds.map fun b => .agg b.e.cells) ++ alts.map fun a => .agg a.body.cells) := by
            simp only [Ex.parts_mk, exCells_map, List.map_append, List.map_map]; rfl
          refine Fin.tellN (n0 := H.length) hR (by simp) hC' hcl (Frz.sf (by exact hbS) (by omega) (by simp) ?_ (exCells_under _ _)) ⟨rfl, rfl⟩
          rw [hpe, List.drop_zero, List.take_length]
          exact List.take_of_length_le (by simp [exCells_len])

end Go.Proofs.YtcopfafknmpneaaGreatDoor
end

section
namespace Go.Proofs.YtcopfafknmpneaaGreatDoor
open Go
set_option linter.unusedSimpArgs false
set_option linter.unusedVariables false
set_option maxRecDepth 10000
set_option maxHeartbeats 4000000

/-- a function that hands back some bool -/
def someB (H : List Blk) : SV → List Blk → Prop := fun r H' => H' = H ∧ ∃ b, r = .bool b

theorem whole_ok (G : Gl) (hG : GClosed G) : ∀ (m : Nat) (e : Ex) (H : List Blk), e.wt ≤ m → e.wt < 4294967296 → ACall Tryz.prog G 60 [e.sv] H (someB H)
  | 0, e, H, hw, _ => by have := e.wt_pos; omega
  | m + 1, e, H, hw, hb => by
    obtain ⟨kd, nm, nn, op, names, subs, binds, alts⟩ := e
    have hlen := Ex.wt_lens kd nm nn op names subs binds alts
    generalize hp : (Ex.mk kd nm nn op names subs binds alts).parts = pp
    have hpl : pp.length ≤ (Ex.mk kd nm nn op names subs binds alts).wt := by rw [← hp, Ex.parts_mk]; simp; omega
    refine ACall.of_go TB [] tabOK _ Tryz.func60 rfl (by decide) Tryz.ntmps60 (by simp) rfl (by simp only [initEnv, Nat.reduceAdd]; rfl) fun C R' hR hC hcl hB => ?_; have X := noX; have hC' := congrArg List.length hC
    have hC' : C.H.length = H.length := by rw [hC]
    (refine runD ?_; repeat' (first | with_reducible exact trivial | ((with_reducible apply Fork.mk) <;> intro hb) | with_reducible apply Two.mk))
    refine go_cut (fun b : Bool => [(1, .ptr H.length 0 0 0), (60, .bool b)]) (fun _ => H ++ [.cells 0 8 [.agg [.int .i64 kd, .str nm, .int .i64 nn, .int .i64 op, .list 1 (names.map .str), .list 8 (exCells subs), .list 9 (bdCells binds), .list 12 (alCells alts)]]]) (fun _ => True) (fun K hK => ?_) (fun b _ => ?_)
    · (refine run ?_; repeat' (first | with_reducible exact trivial | ((with_reducible apply Fork.mk) <;> intro hb) | with_reducible apply Two.mk))
      all_goals try (
        refine xg_call ?_ (args_ok G hG op _) ?_
        · exact evS
        rintro r H' ⟨rfl, rfl⟩
        (refine run ?_; repeat' (first | with_reducible exact trivial | ((with_reducible apply Fork.mk) <;> intro hb) | with_reducible apply Two.mk)))
      all_goals
        apply hK _ _ _ trivial
        exact wkS (n0 := H.length) [(H.length, 0)] hG hB (by rw [hC]) hcl
    (refine run ?_; repeat' (first | with_reducible exact trivial | ((with_reducible apply Fork.mk) <;> intro hb) | with_reducible apply Two.mk))
    · exact Fin.tellN (n0 := H.length) hR (by simp) hC' hcl (.same _ rfl) ⟨rfl, _, rfl⟩
    refine go_call ?_ rfl (parts_ok G hG (Ex.mk kd nm nn op names subs binds alts) _ ‹_›) ?_
    · exact evS
    rintro r H' ⟨rfl, rfl⟩
    rw [hp]
    (refine run ?_; repeat' (first | with_reducible exact trivial | ((with_reducible apply Fork.mk) <;> intro hb) | with_reducible apply Two.mk))
    refine go_loop (fun i : Nat => [(3, .list 8 (exCells pp)), (4, .int .i64 i)]) (fun i => H ++ [])
      (fun i => pp.length - i) (fun i => i ≤ pp.length) 0 (Nat.zero_le _) ?_ ?_
    · exact wkS (n0 := H.length) [] hG hB (by rw [hC]) hcl
    · intro K2 i hi hK2
      (refine run ?_; repeat' (first | with_reducible exact trivial | ((with_reducible apply Fork.mk) <;> intro hb) | with_reducible apply Two.mk))
      · have hpi : (pp[i]'(by omega)).wt < (Ex.mk kd nm nn op names subs binds alts).wt := by
          subst hp
          exact Ex.wt_parts (List.getElem_mem _)
        refine go_call ?_ rfl (whole_ok G hG m (pp[i]'(by omega)) _ (by omega) (by omega)) ?_
        · exact evS
        rintro r H' ⟨rfl, bb, rfl⟩
        (refine run ?_; repeat' (first | with_reducible exact trivial | ((with_reducible apply Fork.mk) <;> intro hb) | with_reducible apply Two.mk))
        · exact Fin.tellN (n0 := H.length) hR (by simp) hC' hcl (.same _ rfl) ⟨rfl, _, rfl⟩
        · refine hK2 _ _ (i + 1) (by omega) (by omega) ?_
          exact wkS (n0 := H.length) [] hG hB (by rw [hC]) hcl
      · exact Fin.tellN (n0 := H.length) hR (by simp) hC' hcl (.same _ rfl) ⟨rfl, _, rfl⟩
end Go.Proofs.YtcopfafknmpneaaGreatDoor
end

section
namespace Go.Proofs.YtcopfafknmpneaaGreatDoor
open Go
set_option linter.unusedSimpArgs false
set_option linter.unusedVariables false
set_option maxRecDepth 10000
set_option maxHeartbeats 4000000

theorem shape_ok (G : Gl) (hG : GClosed G) : ∀ (m : Nat) (e : Ex) (H : List Blk), e.wt ≤ m → e.wt < 4294967296 → ACall Tryz.prog G 59 [e.sv] H (someB H)
  | 0, e, H, hw, _ => by have := e.wt_pos; omega
  | m + 1, e, H, hw, hb => by
    obtain ⟨kd, nm, nn, op, names, subs, binds, alts⟩ := e
    have hlen := Ex.wt_lens kd nm nn op names subs binds alts
    generalize hp : (Ex.mk kd nm nn op names subs binds alts).parts = pp
    have hpl : pp.length ≤ (Ex.mk kd nm nn op names subs binds alts).wt := by rw [← hp, Ex.parts_mk]; simp; omega
    refine ACall.of_go TB [] tabOK _ Tryz.func59 rfl (by decide) Tryz.ntmps59 (by simp) rfl (by simp only [initEnv, Nat.reduceAdd]; rfl) fun C R' hR hC hcl hB => ?_; have X := noX; have hC' := congrArg List.length hC
    have hC' : C.H.length = H.length := by rw [hC]
    (refine run ?_; repeat' (first | with_reducible exact trivial | ((with_reducible apply Fork.mk) <;> intro hb) | with_reducible apply Two.mk))
    all_goals first | exact Fin.tellN (n0 := H.length) hR (by simp) hC' hcl (.same _ rfl) ⟨rfl, _, rfl⟩ | skip
    refine go_call ?_ rfl (args_ok G hG op _) ?_
    · exact evS
    rintro r H' ⟨rfl, rfl⟩
    (refine run ?_; repeat' (first | with_reducible exact trivial | ((with_reducible apply Fork.mk) <;> intro hb) | with_reducible apply Two.mk))
    all_goals first | exact Fin.tellN (n0 := H.length) hR (by simp) hC' hcl (.same _ rfl) ⟨rfl, _, rfl⟩ | skip
    all_goals
      refine go_loop (fun i : Nat => [(1, .ptr H.length 0 0 0), (6, .int .i64 i)]) (fun i => H ++ [.cells 0 8 [.agg [.int .i64 kd, .str nm, .int .i64 nn, .int .i64 op, .list 1 (names.map .str), .list 8 (exCells subs), .list 9 (bdCells binds), .list 12 (alCells alts)]]])
        (fun i => alts.length - i) (fun i => i ≤ alts.length) 0 (Nat.zero_le _) ?_ ?_
      · exact wkS (n0 := H.length) [(H.length, 0)] hG hB (by rw [hC]) hcl
      intro K i hi hK
      (refine run ?_; repeat' (first | with_reducible exact trivial | ((with_reducible apply Fork.mk) <;> intro hb) | with_reducible apply Two.mk))
      · exact Fin.tellN (n0 := H.length) hR (by simp) hC' hcl (.same _ rfl) ⟨rfl, _, rfl⟩
      · refine hK _ _ (i + 1) (by omega) (by omega) ?_
        exact wkS (n0 := H.length) [(H.length, 0)] hG hB (by rw [hC]) hcl
      refine go_call ?_ rfl (parts_ok G hG (Ex.mk kd nm nn op names subs binds alts) _ ‹_›) ?_
      · exact evS
      rintro r H' ⟨rfl, rfl⟩
      rw [hp]
      (refine run ?_; repeat' (first | with_reducible exact trivial | ((with_reducible apply Fork.mk) <;> intro hb) | with_reducible apply Two.mk))
      refine go_loop (fun i : Nat => [(8, .list 8 (exCells pp)), (9, .int .i64 i)]) (fun i => H ++ [])
        (fun i => pp.length - i) (fun i => i ≤ pp.length) 0 (Nat.zero_le _) ?_ ?_
      · exact wkS (n0 := H.length) [] hG hB (by rw [hC]) hcl
      · intro K2 i hi hK2
        (refine run ?_; repeat' (first | with_reducible exact trivial | ((with_reducible apply Fork.mk) <;> intro hb) | with_reducible apply Two.mk))
        · have hpi : (pp[i]'(by omega)).wt < (Ex.mk kd nm nn op names subs binds alts).wt := by
            subst hp
            exact Ex.wt_parts (List.getElem_mem _)
          refine go_call ?_ rfl (shape_ok G hG m (pp[i]'(by omega)) _ (by omega) (by omega)) ?_
          · exact evS
          rintro r H' ⟨rfl, bb, rfl⟩
          (refine run ?_; repeat' (first | with_reducible exact trivial | ((with_reducible apply Fork.mk) <;> intro hb) | with_reducible apply Two.mk))
          · exact Fin.tellN (n0 := H.length) hR (by simp) hC' hcl (.same _ rfl) ⟨rfl, _, rfl⟩
          · refine hK2 _ _ (i + 1) (by omega) (by omega) ?_
            exact wkS (n0 := H.length) [] hG hB (by rw [hC]) hcl
        · exact Fin.tellN (n0 := H.length) hR (by simp) hC' hcl (.same _ rfl) ⟨rfl, _, rfl⟩

end Go.Proofs.YtcopfafknmpneaaGreatDoor
end

section
namespace Go.Proofs.YtcopfafknmpneaaGreatDoor
open Go
set_option linter.unusedSimpArgs false
set_option linter.unusedVariables false
set_option maxRecDepth 10000
set_option maxHeartbeats 4000000

theorem right_ok (G : Gl) (hG : GClosed G) (e : Ex) (H : List Blk) (hw0 : e.wt < 4294967296) : ACall Tryz.prog G 28 [e.sv] H (someB H) := by
  refine ACall.of_go TB [] tabOK _ Tryz.func28 rfl (by decide) Tryz.ntmps28 (by simp) rfl (by simp only [initEnv, Nat.reduceAdd]; rfl) fun C R' hR hC hcl hB => ?_; have X := noX; have hC' := congrArg List.length hC
  have hC' : C.H.length = H.length := by rw [hC]
  (refine run ?_; repeat' (first | with_reducible exact trivial | ((with_reducible apply Fork.mk) <;> intro hb) | with_reducible apply Two.mk))
  refine go_call ?_ rfl (shape_ok G hG _ e _ (Nat.le_refl _) hw0) ?_
  · exact evS
  rintro r H' ⟨rfl, bb, rfl⟩
  (refine run ?_; repeat' (first | with_reducible exact trivial | ((with_reducible apply Fork.mk) <;> intro hb) | with_reducible apply Two.mk))
  · exact Fin.tellN (n0 := H.length) hR (by simp) hC' hcl (.same _ rfl) ⟨rfl, _, rfl⟩
  refine go_call ?_ rfl (whole_ok G hG _ e _ (Nat.le_refl _) hw0) ?_
  · exact evS
  rintro r H' ⟨rfl, b2, rfl⟩
  (refine run ?_; repeat' (first | with_reducible exact trivial | ((with_reducible apply Fork.mk) <;> intro hb) | with_reducible apply Two.mk))
  exact Fin.tellN (n0 := H.length) hR (by simp) hC' hcl (.same _ rfl) ⟨rfl, _, rfl⟩

theorem few_ok (G : Gl) (hG : GClosed G) (e : Ex) (H : List Blk) (hw0 : e.wt < 4294967296) : ACall Tryz.prog G 8 [e.sv] H (someB H) := by
  refine ACall.of_go TB [] tabOK _ Tryz.func8 rfl (by decide) Tryz.ntmps8 (by simp) rfl (by simp only [initEnv, Nat.reduceAdd]; rfl) fun C R' hR hC hcl hB => ?_; have X := noX; have hC' := congrArg List.length hC
  have hC' : C.H.length = H.length := by rw [hC]
  have hbd := bounded_ok G hG 2001 e (H ++ [.cells 0 8 [.agg e.cells]]) (by omega) (Nat.le_refl _)
  rw [show ((2001 : Int) - ((2001 : Nat) : Int)) = 0 from rfl] at hbd
  (refine run ?_; repeat' (first | with_reducible exact trivial | ((with_reducible apply Fork.mk) <;> intro hb) | with_reducible apply Two.mk))
  refine go_call ?_ rfl hbd ?_
  · exact evS
  rintro r H' ⟨rfl, rfl⟩
  (refine run ?_; repeat' (first | with_reducible exact trivial | ((with_reducible apply Fork.mk) <;> intro hb) | with_reducible apply Two.mk))
  refine go_call ?_ rfl (right_ok G hG e _ hw0) ?_
  · exact evS
  rintro r H' ⟨rfl, b2, rfl⟩
  (refine run ?_; repeat' (first | with_reducible exact trivial | ((with_reducible apply Fork.mk) <;> intro hb) | with_reducible apply Two.mk))
  all_goals exact Fin.tellN (n0 := H.length) hR (by simp) hC' hcl (.same _ rfl) ⟨rfl, _, rfl⟩

end Go.Proofs.YtcopfafknmpneaaGreatDoor
end

section
namespace Go.Proofs.YtcopfafknmpneaaGreatDoor
open Go
set_option linter.unusedSimpArgs false
set_option linter.unusedVariables false
set_option maxRecDepth 10000
set_option maxHeartbeats 4000000

theorem exCells_app (a b : List Ex) : exCells (a ++ b) = exCells a ++ exCells b := by simp [exCells_map]
theorem exCells_one (x : Ex) : exCells [x] = [.agg x.cells] := by simp [exCells_map, Ex.sv]
theorem exCells_takeAll (l : List Ex) : List.take l.length (exCells l) = exCells l := List.take_of_length_le (by simp [exCells_len])
/-- the parts in which a name may stand free -/
def keepA (s : Str) (c : Prop) [Decidable c] (a : Al) : Bool := !decide (s ∈ a.names ∨ c)
def occS (s : Str) (l : List Ex) : Nat := (l.map (occ s)).sum
def insS (s : Str) (b : Bool) (l : List Ex) : Bool := l.any (insd s b)
theorem occL_eq (s : Str) : ∀ l : List Ex, occL s l = occS s l
  | [] => rfl
  | e :: r => by simp only [occL, occS, List.map_cons, List.sum_cons, occL_eq s r]
theorem occB_eq (s : Str) : ∀ l : List Bd, occB s l = occS s (l.map Bd.e)
  | [] => rfl
  | e :: r => by simp only [occB, occS, List.map_cons, List.sum_cons, occB_eq s r, occBd_eq]
theorem occA_eq (s : Str) (c : Prop) [Decidable c] : ∀ l : List Al, occA s c l = occS s ((l.filter (keepA s c)).map Al.body)
  | [] => rfl
  | e :: r => by
    simp only [occA, occAl_eq, occA_eq s c r, List.filter_cons, keepA]
    by_cases h : s ∈ e.names ∨ c
    · simp [h]
    · simp [h, occS]
theorem insdL_eq (s : Str) (b : Bool) : ∀ l : List Ex, insdL s b l = insS s b l
  | [] => rfl
  | e :: r => by simp only [insdL, insS, List.any_cons, insdL_eq s b r]
theorem insdB_eq (s : Str) (b : Bool) : ∀ l : List Bd, insdB s b l = insS s b (l.map Bd.e)
  | [] => rfl
  | e :: r => by simp only [insdB, insS, List.map_cons, List.any_cons, insdB_eq s b r, insdBd_eq]
theorem insdA_eq (s : Str) (b : Bool) (c : Prop) [Decidable c] : ∀ l : List Al, insdA s b c l = insS s b ((l.filter (keepA s c)).map Al.body)
  | [] => rfl
  | e :: r => by
    simp only [insdA, insdAl_eq, insdA_eq s b c r, List.filter_cons, keepA]
    by_cases h : s ∈ e.names ∨ c
    · simp [h]
    · simp [h, insS]

def usL (s : Str) (kd : Int) (nm : Str) (subs : List Ex) (binds : List Bd) (alts : List Al) : List Ex := subs ++ (binds.map Bd.e ++ (alts.filter (keepA s (kd = 6 ∧ nm = s))).map Al.body)
theorem occS_app (s : Str) (a b : List Ex) : occS s (a ++ b) = occS s a + occS s b := by simp [occS]
theorem insS_app (s : Str) (q : Bool) (a b : List Ex) : insS s q (a ++ b) = (insS s q a || insS s q b) := by simp [insS]
theorem occ_us (s : Str) {kd : Int} {nm : Str} {nn op : Int} {names : List Str} {subs : List Ex} {binds : List Bd} {alts : List Al} (hk : kd ≠ 1) (ho : s ∉ ownOf kd names binds) :
    occ s (.mk kd nm nn op names subs binds alts) = occS s (usL s kd nm subs binds alts) := by
  rw [occ, if_neg hk, if_neg ho, occL_eq, occB_eq, occA_eq, usL, occS_app, occS_app, Nat.add_assoc]
theorem ins_us (s : Str) (b : Bool) {kd : Int} {nm : Str} {nn op : Int} {names : List Str} {subs : List Ex} {binds : List Bd} {alts : List Al} (hk : kd ≠ 1) (ho : s ∉ ownOf kd names binds) :
    insd s b (.mk kd nm nn op names subs binds alts) = insS s (b || decide (kd = 3)) (usL s kd nm subs binds alts) := by
  rw [insd, if_neg hk, if_neg ho, insdL_eq, insdB_eq, insdA_eq, usL, insS_app, insS_app, Bool.or_assoc]
theorem usL_parts {s : Str} {kd : Int} {nm : Str} {nn op : Int} {names : List Str} {subs : List Ex} {binds : List Bd} {alts : List Al} {x : Ex} (h : x ∈ usL s kd nm subs binds alts) : x ∈ (Ex.mk kd nm nn op names subs binds alts).parts := by
  rw [Ex.parts_mk]
  simp only [usL, List.mem_append, List.mem_map, List.mem_filter] at h ⊢
  rcases h with h | h | ⟨a, h, h2⟩
  · exact .inl h
  · exact .inr (.inl h)
  · exact .inr (.inr ⟨a, h.1, h2⟩)
theorem ins_law (s : Str) : ∀ (m : Nat) (e : Ex), e.wt ≤ m → insd s true e = decide (0 < occ s e) ∧ (insd s false e = true → 0 < occ s e)
  | 0, e, h => by have := e.wt_pos; omega
  | m + 1, e, h => by
    obtain ⟨kd, nm, nn, op, names, subs, binds, alts⟩ := e
    by_cases hk : kd = 1
    · subst hk
      rw [occ, insd, insd, if_pos rfl, if_pos rfl, if_pos rfl]
      by_cases hn : nm = s <;> simp [hn]
    · by_cases ho : s ∈ ownOf kd names binds
      · rw [occ, insd, insd, if_neg hk, if_neg hk, if_neg hk, if_pos ho, if_pos ho, if_pos ho]
        simp
      · rw [occ_us s hk ho, ins_us s _ hk ho, ins_us s _ hk ho, Bool.true_or, Bool.false_or]
        have hm : ∀ x ∈ usL s kd nm subs binds alts, x.wt ≤ m := fun x hx => by
          have := Ex.wt_parts (usL_parts (nn := nn) (op := op) (names := names) hx)
          omega
        generalize usL s kd nm subs binds alts = l at hm
        have h1 : insS s true l = decide (0 < occS s l) := by
          induction l with
          | nil => rfl
          | cons x r ih =>
            have h2 := (ins_law s m x (hm x (List.mem_cons_self ..))).1
            have h3 := ih (fun y hy => hm y (List.mem_cons_of_mem _ hy))
            rw [show insS s true (x :: r) = (insd s true x || insS s true r) from rfl, h2, h3, show occS s (x :: r) = occ s x + occS s r from by simp [occS]]
            by_cases ha : 0 < occ s x <;> by_cases hb : 0 < occS s r <;> simp [ha, hb] <;> omega
        refine ⟨h1, fun hi => ?_⟩
        by_cases h3 : kd = 3
        · rw [decide_eq_true h3, h1] at hi
          exact of_decide_eq_true hi
        · rw [decide_eq_false h3] at hi
          clear h1
          induction l with
          | nil => cases hi
          | cons x r ih =>
            simp only [insS, List.any_cons, Bool.or_eq_true] at hi
            simp only [occS, List.map_cons, List.sum_cons]
            rcases hi with hi | hi
            · have := (ins_law s m x (hm x (List.mem_cons_self ..))).2 hi
              omega
            · have := ih (fun y hy => hm y (List.mem_cons_of_mem _ hy)) hi
              simp only [occS] at this
              omega
theorem usL_take {s : Str} {kd : Int} {nm : Str} {subs : List Ex} {binds : List Bd} {alts : List Al} {i : Nat} (h : i < alts.length) :
    usL s kd nm subs binds (alts.take (i + 1)) = usL s kd nm subs binds (alts.take i) ++ (if keepA s (kd = 6 ∧ nm = s) alts[i] = true then [alts[i].body] else []) := by
  rw [List.take_succ_eq_append_getElem h, usL, usL, List.filter_append, List.map_append, List.append_assoc, List.append_assoc]
  congr 3
  simp only [List.filter_cons, List.filter_nil]
  split <;> simp
theorem Al.names_lt {kd : Int} {nm : Str} {nn op : Int} {names : List Str} {subs : List Ex} {binds : List Bd} {alts : List Al} {i : Nat} (h : i < alts.length) : alts[i].names.length ≤ (Ex.mk kd nm nn op names subs binds alts).wt := by
  have h1 := alsWt_mem (List.getElem_mem h)
  have h2 := Al.wt_names alts[i]
  simp only [Ex.wt]
  omega
theorem ins_step (s : Str) (q : Prop) [Decidable q] (x : Ex) : (insd s false x || (decide (0 < occ s x) && decide q)) = insd s (decide q) x := by
  obtain ⟨h1, h2⟩ := ins_law s _ x (Nat.le_refl _)
  by_cases h : q
  · simp only [h, decide_true, Bool.and_true]
    rw [h1]
    cases hi : insd s false x with
    | false => rfl
    | true => simp [h2 hi]
  · simp [h]
theorem occS_take (s : Str) (l : List Ex) (i : Nat) : occS s (l.take i) ≤ occS s l := by
  have : occS s l = occS s (l.take i) + occS s (l.drop i) := by rw [← occS_app, List.take_append_drop]
  omega
theorem occS_next {s : Str} {l : List Ex} {i : Nat} (h : i < l.length) : occS s (l.take (i + 1)) = occS s (l.take i) + occ s l[i] := by
  rw [List.take_succ_eq_append_getElem h, occS_app]
  simp [occS]
theorem insS_next {s : Str} {q : Bool} {l : List Ex} {i : Nat} (h : i < l.length) : insS s q (l.take (i + 1)) = (insS s q (l.take i) || insd s q l[i]) := by
  rw [List.take_succ_eq_append_getElem h, insS_app]
  simp [insS]
end Go.Proofs.YtcopfafknmpneaaGreatDoor
end
