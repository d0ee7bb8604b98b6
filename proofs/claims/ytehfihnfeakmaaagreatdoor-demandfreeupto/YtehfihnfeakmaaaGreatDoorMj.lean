/- A part of the proof: K8, K9, K10, L0, L1, K11, K1. -/
import Derived.Test.YtehfihnfeakmaaaGreatDoorMi

section
namespace Go.Proofs.YtehfihnfeakmaaaGreatDoor
open Go
set_option linter.unusedSimpArgs false
set_option linter.unusedVariables false
set_option maxRecDepth 10000
set_option maxHeartbeats 4000000

/-! ### the orders of a program, as data -/
def fstS (k : List Od) (e : Ex) : List Str := fstF simS k e.wt e
/-- at which places some names stand, as far as they stand there -/
def numsF (names : List Str) : List Str → List Int
  | [] => []
  | n :: r => if n ∈ names then idxFrom 0 names n :: numsF names r else []
def lamsB (l : List Bd) : List Bd := l.filter fun b => decide (b.e.kind = 3)
def bodyE (e : Ex) : Ex := e.subs.getD 0 noEx
def ordO (b : Bd) (nums : List Int) : Od := ⟨b.name, b.e.names.length, nums⟩
def ordN (lams : List Bd) (k : List Od) : List Od := lams.map fun b => ordO b (numsF b.e.names (fstS k (bodyE b.e)))
def ordI (lams : List Bd) : Nat → List Od
  | 0 => lams.map fun b => ordO b []
  | n + 1 => ordN lams (knoF [] (ordI lams n))
def ordsS (p : Pg) : List Od := ordI (lamsB p.binds) 20
theorem ordN_len (lams : List Bd) (k : List Od) : (ordN lams k).length = lams.length := by simp [ordN]
theorem ordI_len (lams : List Bd) : ∀ n, (ordI lams n).length = lams.length
  | 0 => by simp [ordI]
  | n + 1 => by rw [ordI, ordN_len]
theorem ordI_get (lams : List Bd) (n : Nat) {i : Nat} (h : i < lams.length) : ∃ nums, (ordI lams n)[i]? = some (ordO lams[i] nums) := by
  cases n with
  | zero => exact ⟨[], by simp [ordI, h]⟩
  | succ n => exact ⟨_, by simp only [ordI, ordN, List.getElem?_map, List.getElem?_eq_getElem h, Option.map_some]; rfl⟩
theorem ordI_fix {lams : List Bd} {n : Nat} (h : ordI lams (n + 1) = ordI lams n) : ∀ m, n ≤ m → ordI lams m = ordI lams n
  | 0, hm => by obtain rfl : n = 0 := by omega
                rfl
  | m + 1, hm => by
    rcases Nat.eq_or_lt_of_le hm with he | hlt
    · rw [← he]
    · rw [ordI, ordI_fix h m (by omega), ← ordI, h]
theorem numsF_len (names : List Str) : ∀ l, (numsF names l).length ≤ l.length
  | [] => Nat.le_refl _
  | n :: r => by
    rw [numsF]
    split
    · simp only [List.length_cons]; have := numsF_len names r; omega
    · simp
theorem idx_lt : ∀ (l : List Str) (v : Str) (i : Nat), v ∈ l → (i : Int) ≤ idxFrom i l v ∧ idxFrom i l v < i + l.length
  | [], v, i, h => by cases h
  | x :: r, v, i, h => by
    rw [idxFrom]
    split
    · simp only [List.length_cons]; omega
    · rename_i hne
      have hr : v ∈ r := (List.mem_cons.1 h).elim (fun e => absurd e (by first | exact hne | exact fun q => hne q.symm)) id
      have := idx_lt r v (i + 1) hr
      simp only [List.length_cons]
      omega
theorem idx_get : ∀ (l : List Str) (v : Str) (i : Nat), v ∈ l → l[(idxFrom i l v - i).toNat]? = some v
  | [], v, i, h => by cases h
  | x :: r, v, i, h => by
    rw [idxFrom]
    split
    · rename_i he; rw [Int.sub_self]; simp [he]
    · rename_i hne
      have hr : v ∈ r := (List.mem_cons.1 h).elim (fun e => absurd e (by first | exact hne | exact fun q => hne q.symm)) id
      have h1 := idx_lt r v (i + 1) hr
      have h2 := idx_get r v (i + 1) hr
      have e : (idxFrom (i + 1) r v - (i : Int)).toNat = (idxFrom (i + 1) r v - ((i + 1 : Nat) : Int)).toNat + 1 := by omega
      rw [e, List.getElem?_cons_succ]
      exact h2
theorem idx_inj {l : List Str} {v w : Str} (hv : v ∈ l) (hw : w ∈ l) (h : idxFrom 0 l v = idxFrom 0 l w) : v = w := by
  have h1 := idx_get l v 0 hv
  have h2 := idx_get l w 0 hw
  rw [h, h2] at h1
  exact (Option.some.inj h1).symm
theorem numsF_mem (names : List Str) : ∀ (l : List Str) {n : Int}, n ∈ numsF names l → ∃ s ∈ l, s ∈ names ∧ n = idxFrom 0 names s
  | [], n, h => by cases h
  | s :: r, n, h => by
    rw [numsF] at h
    split at h
    · rename_i hs
      rcases List.mem_cons.1 h with rfl | h
      · exact ⟨s, List.mem_cons_self .., hs, rfl⟩
      · obtain ⟨t, h1, h2⟩ := numsF_mem names r h
        exact ⟨t, List.mem_cons_of_mem _ h1, h2⟩
    · cases h
theorem numsF_nodup (names : List Str) : ∀ (l : List Str), l.Nodup → (numsF names l).Nodup
  | [], _ => List.nodup_nil
  | s :: r, h => by
    rw [numsF]
    rw [List.nodup_cons] at h
    split
    · rename_i hs
      rw [List.nodup_cons]
      refine ⟨fun hm => ?_, numsF_nodup names r h.2⟩
      obtain ⟨t, h1, h2, h3⟩ := numsF_mem names r hm
      have := idx_inj hs h2 h3
      exact h.1 (this ▸ h1)
    · exact List.nodup_nil
/-- what is said of orders -/
def OdOK (o : Od) : Prop := (∀ n ∈ o.nums, 0 ≤ n ∧ n < o.arity) ∧ o.nums.Nodup
theorem ords_ok (p : Pg) : ∀ o ∈ ordsS p, OdOK o := by
  intro o ho
  rw [ordsS, ordI, ordN] at ho
  obtain ⟨b, _, rfl⟩ := List.mem_map.1 ho
  refine ⟨fun n hn => ?_, numsF_nodup _ _ (fst_nodup _ _ _ _)⟩
  obtain ⟨s, _, h2, rfl⟩ := numsF_mem _ _ hn
  have := idx_lt b.e.names s 0 h2
  simp only [ordO]
  omega
theorem numsF_go (names : List Str) : ∀ (l : List Str) (i : Nat), (∀ s ∈ l.take i, s ∈ names) → i ≤ l.length → numsF names l = (l.take i).map (idxFrom 0 names) ++ numsF names (l.drop i)
  | l, 0, _, _ => rfl
  | [], i + 1, _, h => by simp at h
  | s :: r, i + 1, h, hi => by
    rw [numsF, if_pos (h s (by simp)), numsF_go names r i (fun t ht => h t (by simp [ht])) (by simpa using hi)]
    rfl

/-! ### a map of expressions -/
def esX (l : List Bd) : List (SV × SV) := l.map fun b => (.str b.name, .agg b.e.cells)
theorem setSV_esX : ∀ (l : List Bd) (b : Bd), b.name ∉ l.map Bd.name → setSV (esX l) (.str b.name) (.agg b.e.cells) = esX (l ++ [b])
  | [], c, _ => rfl
  | d :: r, c, h => by
    simp only [List.map_cons, List.mem_cons, not_or] at h
    simp only [esX, List.map_cons, setSV, SV.keyEq, List.cons_append, beq_eq_false_iff_ne.2 h.1, if_false, Bool.false_eq_true]
    rw [show setSV (List.map _ r) (.str c.name) _ = _ from setSV_esX r c h.2]
    rfl
theorem findSV_esX : ∀ (l : List Bd), (l.map Bd.name).Nodup → ∀ i (h : i < l.length), findSV (esX l) (.str l[i].name) = some (.agg l[i].e.cells)
  | [], _, i, h => by simp at h
  | d :: r, hn, i, h => by
    simp only [List.map_cons, List.nodup_cons] at hn
    cases i with
    | zero => simp [esX, findSV, SV.keyEq]
    | succ i =>
      have hi : i < r.length := by simpa using h
      have hne : ¬ r[i].name = d.name := fun e => hn.1 (e ▸ List.mem_map.2 ⟨_, List.getElem_mem hi, rfl⟩)
      have := findSV_esX r hn.2 i hi
      simp only [esX, List.map_cons, findSV, SV.keyEq, List.getElem_cons_succ, beq_eq_false_iff_ne.2 hne, if_false, Bool.false_eq_true] at this ⊢
      exact this
theorem esX_under (n : Nat) : ∀ l : List Bd, belowE n (esX l) = true
  | [] => rfl
  | p :: l => by simp only [esX, List.map_cons, belowE, SV.under, Ex.cells_under, Bool.and_self, Bool.true_and]; exact esX_under n l
theorem odCells_snoc (l : List Od) (o : Od) : odCells l ++ [.agg [.str o.name, .int .i64 o.arity, .list 1 (intL o.nums)]] = odCells (l ++ [o]) := by simp [odCells, Od.sv, Od.cells]
theorem odCells_set (l : List Od) (i : Nat) (o : Od) : (odCells l).set i (.agg [.str o.name, .int .i64 o.arity, .list 1 (intL o.nums)]) = odCells (l.set i o) := by simp [odCells, List.map_set, Od.sv, Od.cells]
theorem intL_snoc (l : List Int) (n : Int) : intL l ++ [.int .i64 n] = intL (l ++ [n]) := by simp [intL]
end Go.Proofs.YtehfihnfeakmaaaGreatDoor
end

section
namespace Go.Proofs.YtehfihnfeakmaaaGreatDoor
open Go
set_option linter.unusedSimpArgs false
set_option linter.unusedVariables false
set_option maxRecDepth 10000
set_option maxHeartbeats 4000000

/-! ### First -/
theorem First_ok (G : Gl) (hG : GClosed G) (e : Ex) (l : List Od) (hw : e.wt < 4294967296) (hl : l.length < 1099511627776) (hn : ∀ o ∈ l, o.nums.length < 4294967296) (H : List Blk) :
    ACall Tryz.prog G 17 [e.sv, .list 3 (odCells l)] H (fun r H' => H' = H ∧ r = .list 1 ((fstS (knoF [] l) e).map .str)) := by
  have hkn := fun s => knF_len (l := knoF [] l) (B := 4294967296) (fun o ho => (knoF_mem l [] ho).elim (fun h => by cases h) (hn o)) (by omega) s
  have hF := first_ok G hG (knoF [] l) hkn e.wt
  have c1 := fun H => knowing_ok G hG l hl H
  have c2 := fst_list hF e (H.length + 1) (H ++ [.cells 0 8 [.agg e.cells], .map none (esD (knoF [] l))]) (Nat.le_refl _) hw (by simp)
  have hfe : fstF simS (knoF [] l) e.wt e = fstS (knoF [] l) e := rfl
  rw [hfe] at c2
  refine ACall.of_go TB [] tabOK _ Tryz.func17 rfl (by decide) Tryz.ntmps17 (by simp) rfl (by simp only [initEnv, Nat.reduceAdd]; rfl) fun C R' hR hC hcl hB => ?_; have X := noX; have hC' := congrArg List.length hC
  (refine run ?_; repeat' (first | with_reducible exact trivial | ((with_reducible apply Fork.mk) <;> intro hb) | with_reducible apply Two.mk))
  simp only [List.append_assoc, List.cons_append, List.nil_append, List.length_append, List.length_cons, List.length_nil, List.length_set, X, Nat.reduceAdd]
  refine xcallS c2 ?_
  rintro r H' ⟨rfl, rfl⟩
  (refine run ?_; repeat' (first | with_reducible exact trivial | ((with_reducible apply Fork.mk) <;> intro hb) | with_reducible apply Two.mk))
  exact finS (n0 := H.length) hR hC' hcl (.same _ (by simp only [resSV]; exact undS)) ⟨rfl, rfl⟩

/-! ### two helpers of Orders -/
theorem knowing_sl (G : Gl) (hG : GClosed G) (l : List Od) (hl : l.length < 1099511627776) (H : List Blk) (id g : Nat) (hid : H[id]? = some (.cells g 3 (odCells l))) :
    ACall Tryz.prog G 26 [.sl id g 0 l.length] H (fun r H' => H' = H ++ [.map none (esD (knoF [] l))] ∧ r = .map H.length) := by
  have esB_under := esD_under
  have li := (List.getElem?_eq_some_iff.1 hid).1
  have hidx := fun L => (show (H ++ L)[id]? = some (.cells g 3 (odCells l)) by rw [get_old li]; exact hid)
  refine ACall.of_go TB [] tabOK _ Tryz.func26 rfl (by decide) Tryz.ntmps26 (by simp) rfl (by simp only [initEnv, Nat.reduceAdd]; rfl) fun C R' hR hC hcl hB => ?_; have X := noX; have hC' := congrArg List.length hC
  have X := And.intro noX hid
  (refine run ?_; repeat' (first | with_reducible exact trivial | ((with_reducible apply Fork.mk) <;> intro hb) | with_reducible apply Two.mk))
  refine go_loop (fun i : Nat => [(3, .map H.length), (9, .sl id g 0 l.length), (10, .int .i64 l.length), (11, .int .i64 i)]) (fun i => H ++ [.map none (esD (knoF [] (l.take i)))]) (fun i => l.length - i) (fun i => i ≤ l.length) 0 (Nat.zero_le _) ?_ ?_
  · exact wkS (n0 := H.length) [(H.length, 0)] hG hB hC' hcl
  rintro K i hi hK
  rcases Nat.lt_or_ge i l.length with hlt | hge
  · have ht := List.take_succ_eq_append_getElem hlt
    have hk := knoF_snoc (l.take i) l[i]
    rw [← ht] at hk
    have hset := setSV_esD (knoF [] (l.take i)) l[i]
    have hz := od_zero (knoF [] (l.take i)) l[i].name
    have hh := esD_has (knoF [] (l.take i)) l[i].name
    cases hf : findOd (knoF [] (l.take i)) l[i].name with
    | none =>
      have hs2 := hset hf
      rw [hf] at hk hh
      have hk : knoF [] (l.take (i + 1)) = knoF [] (l.take i) ++ [l[i]] := hk
      have hh : (findSV (esD (knoF [] (l.take i))) (.str l[i].name)).isSome = false := hh
      rw [← hk] at hs2
      have X := And.intro noX (And.intro hidx (And.intro hz (And.intro hh hs2)))
      (refine run ?_; repeat' (first | with_reducible exact trivial | ((with_reducible apply Fork.mk) <;> intro hb) | with_reducible apply Two.mk))
      exact hK _ _ (i + 1) (by omega) (by omega) (wkS (n0 := H.length) [(H.length, 0)] hG hB hC' hcl)
    | some o =>
      rw [hf] at hk hh
      have hk : knoF [] (l.take (i + 1)) = knoF [] (l.take i) := hk
      have hh : (findSV (esD (knoF [] (l.take i))) (.str l[i].name)).isSome = true := hh
      have X := And.intro noX (And.intro hidx (And.intro hz hh))
      (refine run ?_; repeat' (first | with_reducible exact trivial | ((with_reducible apply Fork.mk) <;> intro hb) | with_reducible apply Two.mk))
      refine hK _ _ (i + 1) (by omega) (by omega) ?_
      rw [hk]
      exact wkS (n0 := H.length) [(H.length, 0)] hG hB hC' hcl
  obtain rfl : i = l.length := by omega
  clear hK
  simp only [List.take_length]
  have X := And.intro noX (Int.lt_irrefl (l.length : Int))
  (refine run ?_; repeat' (first | with_reducible exact trivial | ((with_reducible apply Fork.mk) <;> intro hb) | with_reducible apply Two.mk))
  exact finK [(H.length, 0)] (.map H.length) [.map none (esD (knoF [] l))] hR hC' hcl ⟨rfl, rfl⟩
theorem equal_ok (G : Gl) (hG : GClosed G) (a b : List Int) (ha : a.length < 1099511627776) (hb0 : b.length < 1099511627776) (H : List Blk) (id g : Nat) (hid : H[id]? = some (.cells g 1 (intL a))) :
    ACall Tryz.prog G 29 [.sl id g 0 a.length, .list 1 (intL b)] H (fun r H' => H' = H ∧ r = .bool (decide (a = b))) := by
  by_cases hl : a.length = b.length
  rotate_left
  · have hli : ¬ (a.length : Int) = (b.length : Int) := by omega
    have e : decide (a = b) = false := decide_eq_false (fun h => hl (by rw [h]))
    rw [e]
    refine ACall.of_go TB [] tabOK _ Tryz.func29 rfl (by decide) Tryz.ntmps29 (by simp) rfl (by simp only [initEnv, Nat.reduceAdd]; rfl) fun C R' hR hC hcl hB => ?_; have X := noX; have hC' := congrArg List.length hC
    have X := And.intro X (And.intro hid hli)
    (refine run ?_; repeat' (first | with_reducible exact trivial | ((with_reducible apply Fork.mk) <;> intro hb) | with_reducible apply Two.mk))
    exact Fin.out hR ⟨rfl, rfl⟩
  have hli : (a.length : Int) = (b.length : Int) := by omega
  refine ACall.of_go TB [] tabOK _ Tryz.func29 rfl (by decide) Tryz.ntmps29 (by simp) rfl (by simp only [initEnv, Nat.reduceAdd]; rfl) fun C R' hR hC hcl hB => ?_; have X := noX; have hC' := congrArg List.length hC
  have X := And.intro X (And.intro hid hli)
  (refine run ?_; repeat' (first | with_reducible exact trivial | ((with_reducible apply Fork.mk) <;> intro hb) | with_reducible apply Two.mk))
  refine go_loop (fun i : Nat => [(0, .sl id g 0 a.length), (1, .list 1 (intL b)), (12, .int .i64 b.length), (13, .int .i64 i)]) (fun _ => H) (fun i => b.length - i) (fun i => i ≤ b.length ∧ a.take i = b.take i) 0 ⟨Nat.zero_le _, rfl⟩ (Wk.sub (by simp [subEnv, look])) ?_
  rintro K i ⟨hi, hti⟩ hK
  rcases Nat.lt_or_ge i b.length with hlt | hge
  · have hlt2 : i < a.length := by omega
    have g1 : (intL a)[i]? = some (.int .i64 a[i]) := by simp [intL, hlt2]
    have g2 : (intL b)[i]? = some (.int .i64 b[i]) := by simp [intL, hlt]
    have X := And.intro noX (And.intro hid (And.intro g1 g2))
    (refine run ?_; repeat' (first | with_reducible exact trivial | ((with_reducible apply Fork.mk) <;> intro hb) | with_reducible apply Two.mk))
    · have hne : ¬ a[i] = b[i] := by simpa using hb
      have e : decide (a = b) = false := decide_eq_false (fun h => hne (by subst h; rfl))
      rw [e] at hR
      exact Fin.out hR ⟨rfl, rfl⟩
    · have he : a[i] = b[i] := by simpa using hb
      refine hK _ _ (i + 1) (by omega) ⟨by omega, by rw [List.take_succ_eq_append_getElem hlt2, List.take_succ_eq_append_getElem hlt, hti, he]⟩ (Wk.sub (by simp [subEnv, look]))
  · obtain rfl : i = b.length := by omega
    clear hK
    have e : decide (a = b) = true := decide_eq_true (by rw [List.take_of_length_le (by omega), List.take_length] at hti; exact hti)
    rw [e] at hR
    have X := And.intro noX (Int.lt_irrefl (b.length : Int))
    (refine run ?_; repeat' (first | with_reducible exact trivial | ((with_reducible apply Fork.mk) <;> intro hb) | with_reducible apply Two.mk))
    exact Fin.out hR ⟨rfl, rfl⟩
end Go.Proofs.YtehfihnfeakmaaaGreatDoor
end

section
namespace Go.Proofs.YtehfihnfeakmaaaGreatDoor
open Go
set_option linter.unusedSimpArgs false
set_option linter.unusedVariables false
set_option maxRecDepth 10000
set_option maxHeartbeats 4000000

theorem equal_ls (G : Gl) (hG : GClosed G) (a b : List Int) (ha : a.length < 1099511627776) (hb0 : b.length < 1099511627776) (H : List Blk) :
    ACall Tryz.prog G 29 [.list 1 (intL a), .list 1 (intL b)] H (fun r H' => H' = H ∧ r = .bool (decide (a = b))) := by
  by_cases hl : a.length = b.length
  rotate_left
  · have hli : ¬ (a.length : Int) = (b.length : Int) := by omega
    have e : decide (a = b) = false := decide_eq_false (fun h => hl (by rw [h]))
    rw [e]
    refine ACall.of_go TB [] tabOK _ Tryz.func29 rfl (by decide) Tryz.ntmps29 (by simp) rfl (by simp only [initEnv, Nat.reduceAdd]; rfl) fun C R' hR hC hcl hB => ?_; have X := noX; have hC' := congrArg List.length hC
    have X := And.intro X hli
    (refine run ?_; repeat' (first | with_reducible exact trivial | ((with_reducible apply Fork.mk) <;> intro hb) | with_reducible apply Two.mk))
    exact Fin.out hR ⟨rfl, rfl⟩
  have hli : (a.length : Int) = (b.length : Int) := by omega
  refine ACall.of_go TB [] tabOK _ Tryz.func29 rfl (by decide) Tryz.ntmps29 (by simp) rfl (by simp only [initEnv, Nat.reduceAdd]; rfl) fun C R' hR hC hcl hB => ?_; have X := noX; have hC' := congrArg List.length hC
  have X := And.intro X hli
  (refine run ?_; repeat' (first | with_reducible exact trivial | ((with_reducible apply Fork.mk) <;> intro hb) | with_reducible apply Two.mk))
  refine go_loop (fun i : Nat => [(0, .list 1 (intL a)), (1, .list 1 (intL b)), (12, .int .i64 b.length), (13, .int .i64 i)]) (fun _ => H) (fun i => b.length - i) (fun i => i ≤ b.length ∧ a.take i = b.take i) 0 ⟨Nat.zero_le _, rfl⟩ (Wk.sub (by simp [subEnv, look])) ?_
  rintro K i ⟨hi, hti⟩ hK
  rcases Nat.lt_or_ge i b.length with hlt | hge
  · have hlt2 : i < a.length := by omega
    have g1 : (intL a)[i]? = some (.int .i64 a[i]) := by simp [intL, hlt2]
    have g2 : (intL b)[i]? = some (.int .i64 b[i]) := by simp [intL, hlt]
    have X := And.intro noX (And.intro g1 g2)
    (refine run ?_; repeat' (first | with_reducible exact trivial | ((with_reducible apply Fork.mk) <;> intro hb) | with_reducible apply Two.mk))
    · have hne : ¬ a[i] = b[i] := by simpa using hb
      have e : decide (a = b) = false := decide_eq_false (fun h => hne (by subst h; rfl))
      rw [e] at hR
      exact Fin.out hR ⟨rfl, rfl⟩
    · have he : a[i] = b[i] := by simpa using hb
      refine hK _ _ (i + 1) (by omega) ⟨by omega, by rw [List.take_succ_eq_append_getElem hlt2, List.take_succ_eq_append_getElem hlt, hti, he]⟩ (Wk.sub (by simp [subEnv, look]))
  · obtain rfl : i = b.length := by omega
    clear hK
    have e : decide (a = b) = true := decide_eq_true (by rw [List.take_of_length_le (by omega), List.take_length] at hti; exact hti)
    rw [e] at hR
    have X := And.intro noX (Int.lt_irrefl (b.length : Int))
    (refine run ?_; repeat' (first | with_reducible exact trivial | ((with_reducible apply Fork.mk) <;> intro hb) | with_reducible apply Two.mk))
    exact Fin.out hR ⟨rfl, rfl⟩
theorem Orders_bad (G : Gl) (hG : GClosed G) (p : Pg) (H : List Blk) (hw : bdsWt p.binds < 4294967295) (hcn : p.cons.length < 1099511627776) (hne : ¬ lintS p = 0) :
    ACall Tryz.prog G 8 [p.sv] H (fun r H' => H' = H ∧ r = .tuple [.list 3 [], .int .i64 (lintS p)]) := by
  have c1 := fun H => lint_ok G hG p H hw hcn
  generalize lintS p = S at *
  obtain ⟨cons, binds⟩ := p
  rw [show (Pg.mk cons binds).sv = .agg [.list 4 (cnCells cons), .list 9 (bdCells binds)] from rfl] at *
  refine ACall.of_go TB [5, 14] tabOK _ Tryz.func8 rfl (by decide) Tryz.ntmps8 (by simp) rfl (by simp only [initEnv, Nat.reduceAdd]; rfl) fun C R' hR hC hcl hB => ?_; have X := noX; have hC' := congrArg List.length hC
  have X := And.intro noX hne
  (refine run ?_; repeat' (first | with_reducible exact trivial | ((with_reducible apply Fork.mk) <;> intro hb) | with_reducible apply Two.mk))
  exact Fin.tellN (n0 := H.length) hR rfl hC' hcl (.tuple _ _ (.cons _ _ _ _ (.nil _) (.cons _ _ _ _ (.same _ rfl) .nil))) ⟨rfl, rfl⟩
theorem lamsB_snoc (l : List Bd) (b : Bd) : lamsB (l ++ [b]) = if b.e.kind = 3 then lamsB l ++ [b] else lamsB l := by
  rw [lamsB, List.filter_append, ← lamsB, List.filter_cons]
  by_cases h : b.e.kind = 3
  · simp [h]
  · simp [h]
theorem lamsB_names {l : List Bd} (h : (l.map Bd.name).Nodup) : ((lamsB l).map Bd.name).Nodup := ((List.filter_sublist (p := fun b : Bd => decide (b.e.kind = 3)) (l := l)).map Bd.name).nodup h
theorem body_wt {e : Ex} (h : e.subs.length = 1) : ∃ x, e.subs = [x] ∧ bodyE e = x ∧ x.wt < e.wt := by
  obtain ⟨kd, nm, nn, op, names, subs, binds, alts⟩ := e
  simp only [Ex.subs] at h
  obtain ⟨x, rfl⟩ := List.length_eq_one_iff.1 h
  exact ⟨x, rfl, rfl, Ex.wt_parts (by rw [Ex.parts_mk]; simp)⟩
theorem ordI_nums {lams : List Bd} (h : ∀ b ∈ lams, b.e.subs.length = 1 ∧ b.e.wt < 4294967295) (n : Nat) : ∀ o ∈ ordI lams n, o.nums.length < 4294967296 := by
  intro o ho
  cases n with
  | zero => obtain ⟨b, _, rfl⟩ := List.mem_map.1 ho; show ([] : List Int).length < _; simp
  | succ n =>
    obtain ⟨b, hb, rfl⟩ := List.mem_map.1 ho
    obtain ⟨h1, h2⟩ := h b hb
    obtain ⟨x, _, q2, q3⟩ := body_wt h1
    have h3 := numsF_len b.e.names (fstS (knoF [] (ordI lams n)) (bodyE b.e))
    have h4 := fst_len simS (knoF [] (ordI lams n)) (bodyE b.e).wt (bodyE b.e)
    rw [q2] at h3 h4
    unfold fstS at h3
    simp only [ordO, q2, fstS]
    omega
theorem Orders_ok (G : Gl) (hG : GClosed G) (p : Pg) (H : List Blk) (hw : bdsWt p.binds < 4294967295) (hcn : p.cons.length < 1099511627776) (h0 : lintS p = 0) :
    ACall Tryz.prog G 8 [p.sv] H (fun r H' => H' = H ∧ r = .tuple [.list 3 (odCells (ordsS p)), .int .i64 0]) := by
  have c1 := fun H => lint_ok G hG p H hw hcn
  rw [h0] at c1
  have hnn := binds_nodup (lint0 h0).names
  have hlam := fun b hb hk => lint_lam h0 (b := b) hb hk
  obtain ⟨cons, binds⟩ := p
  have hos : ordsS ⟨cons, binds⟩ = ordI (lamsB binds) 20 := rfl
  rw [hos]
  clear h0 hos
  simp only at hw hcn hnn hlam
  have hle := bdsWt_len binds
  rw [show (Pg.mk cons binds).sv = .agg [.list 4 (cnCells cons), .list 9 (bdCells binds)] from rfl] at *
  have esB_under := esX_under
  have esO_under := esD_under
  have under_ints := odCells_under
  refine ACall.of_go TB [5, 14] tabOK _ Tryz.func8 rfl (by decide) Tryz.ntmps8 (by simp) rfl (by simp only [initEnv, Nat.reduceAdd]; rfl) fun C R' hR hC hcl hB => ?_; have X := noX; have hC' := congrArg List.length hC
  (refine run ?_; repeat' (first | with_reducible exact trivial | ((with_reducible apply Fork.mk) <;> intro hb) | with_reducible apply Two.mk))
  refine go_loop (fun i : Nat => [(5, .sl H.length 0 0 (lamsB (binds.take i)).length), (6, .map (H.length + 1)), (25, .list 9 (bdCells binds)), (26, .int .i64 binds.length), (27, .int .i64 i)]) (fun i => H ++ [.cells 0 3 (odCells ((lamsB (binds.take i)).map fun b => ordO b [])), .map none (esX (lamsB (binds.take i)))]) (fun i => binds.length - i) (fun i => i ≤ binds.length) 0 (Nat.zero_le _) ?_ ?_
  · simp only [List.take_zero, show lamsB [] = [] from rfl, List.map_nil, List.length_nil, show odCells [] = [] from rfl]
    exact wkS (n0 := H.length) [(H.length + 1, 0), (H.length + 2, 0)] hG hB hC' hcl
  rintro K i hi hK
  rcases Nat.lt_or_ge i binds.length with hlt | hge
  · have ht := List.take_succ_eq_append_getElem hlt
    have hsn := lamsB_snoc (binds.take i) binds[i]
    rw [← ht] at hsn
    have hbi : binds[i]? = some binds[i] := List.getElem?_eq_getElem hlt
    have hnew : binds[i].name ∉ (lamsB (binds.take i)).map Bd.name := by
      have h1 : ((binds.take (i + 1)).map Bd.name).Nodup := ((List.take_sublist (i + 1) binds).map Bd.name).nodup hnn
      rw [ht, List.map_append, List.map_singleton, List.nodup_append] at h1
      intro hm
      obtain ⟨b, hb, e⟩ := List.mem_map.1 hm
      exact h1.2.2 _ (List.mem_map.2 ⟨b, (List.mem_filter.1 hb).1, e⟩) _ (List.mem_singleton.2 rfl) rfl
    have hset := setSV_esX (lamsB (binds.take i)) binds[i] hnew
    have hodl : (odCells ((lamsB (binds.take i)).map fun b => ordO b [])).length = (lamsB (binds.take i)).length := by simp [odCells]
    have hll : (lamsB (binds.take i)).length ≤ binds.length := Nat.le_trans (List.length_filter_le ..) (by rw [List.length_take]; omega)
    have hsnc := odCells_snoc ((lamsB (binds.take i)).map fun b => ordO b []) (ordO binds[i] [])
    generalize binds[i] = b at *
    obtain ⟨nm, e⟩ := b
    obtain ⟨kd, n2, nn, op, names, subs, bs, als⟩ := e
    have q1 : (Bd.mk nm (.mk kd n2 nn op names subs bs als)).name = nm := rfl
    have q2 : (Bd.mk nm (.mk kd n2 nn op names subs bs als)).e.cells = [.int .i64 kd, .str n2, .int .i64 nn, .int .i64 op, .list 1 (names.map .str), .list 8 (exCells subs), .list 9 (bdCells bs), .list 12 (alCells als)] := rfl
    have q3 : (Bd.mk nm (.mk kd n2 nn op names subs bs als)).e.kind = kd := rfl
    rw [q3] at hsn
    rw [q1, q2] at hset
    have q4 : ordO (Bd.mk nm (.mk kd n2 nn op names subs bs als)) [] = ⟨nm, names.length, []⟩ := rfl
    rw [q4] at hsnc
    have hsnc : odCells ((lamsB (binds.take i)).map fun b => ordO b []) ++ [.agg [.str nm, .int .i64 names.length, .list 1 []]] = _ := hsnc
    have X := And.intro noX (And.intro hbi (And.intro q1 (And.intro q2 (And.intro hset (And.intro hodl hsnc)))))
    (refine run ?_; repeat' (first | with_reducible exact trivial | ((with_reducible apply Fork.mk) <;> intro hb) | with_reducible apply Two.mk))
    · rw [if_pos hb] at hsn
      refine hK _ _ (i + 1) (by omega) (by omega) ?_
      rw [hsn, List.map_append, List.length_append, List.length_singleton]
      exact wkS (n0 := H.length) [(H.length, 0), (H.length + 1, 0)] hG hB hC' hcl
    · rw [if_neg hb] at hsn
      refine hK _ _ (i + 1) (by omega) (by omega) ?_
      rw [hsn]
      exact wkS (n0 := H.length) [(H.length, 0), (H.length + 1, 0)] hG hB hC' hcl
  obtain rfl : i = binds.length := by omega
  clear hK
  rw [List.take_length]
  have hln := lamsB_names hnn
  have hlb : ∀ b ∈ lamsB binds, b ∈ binds ∧ b.e.kind = 3 := fun b hb => by
    have := List.mem_filter.1 hb
    exact ⟨this.1, by simpa using this.2⟩
  have hll : (lamsB binds).length ≤ binds.length := List.length_filter_le ..
  have hbw : ∀ b ∈ lamsB binds, b.e.wt < 4294967295 := fun b hb => by have := bd_wt (hlb b hb).1; omega
  have hls : ∀ b ∈ lamsB binds, b.e.subs.length = 1 := fun b hb => hlam b (hlb b hb).1 (hlb b hb).2
  clear hlam hlb
  generalize hLL : lamsB binds = lams at *
  rw [show (lams.map fun b => ordO b []) = ordI lams 0 from rfl]
  have X := And.intro noX (Int.lt_irrefl (binds.length : Int))
  (refine run ?_; repeat' (first | with_reducible exact trivial | ((with_reducible apply Fork.mk) <;> intro hb) | with_reducible apply Two.mk))
  refine go_loop (fun r : Nat => [(5, .sl H.length 0 0 lams.length), (6, .map (H.length + 1)), (51, .int .i64 r)]) (fun r => H ++ [.cells 0 3 (odCells (ordI lams r)), .map none (esX lams)]) (fun r => 20 - r) (fun r => r ≤ 20) 0 (Nat.zero_le _) ?_ ?_
  · exact wkS (n0 := H.length) [(H.length, 0), (H.length + 1, 0)] hG hB hC' hcl
  rintro K r hr hK
  rcases Nat.lt_or_ge r 20 with hlt | hge
  rotate_left
  · obtain rfl : r = 20 := by omega
    clear hK
    have X := noX
    (refine run ?_; repeat' (first | with_reducible exact trivial | ((with_reducible apply Fork.mk) <;> intro hb) | with_reducible apply Two.mk))
    refine Fin.tellN (n0 := H.length) hR rfl hC' hcl (.tuple _ _ (.cons _ _ _ _ ?_ (.cons _ _ _ _ (.same _ rfl) .nil))) ⟨rfl, rfl⟩
    exact Frz.sf (g := 0) (sz := 3) (vals := odCells (ordI lams 20)) (by rw [get_app0]; rfl) (Nat.le_refl _) (by simp) (by rw [List.drop_zero, List.take_of_length_le (by rw [odCells_len, ordI_len]; exact Nat.le_refl _)]) (odCells_under _ _)
  have hol := ordI_len lams r
  have hks := knowing_sl G hG (ordI lams r) (by omega) (H ++ [.cells 0 3 (odCells (ordI lams r)), .map none (esX lams)]) H.length 0 (by rw [get_app0]; rfl)
  rw [hol] at hks
  have hkn := fun s => knF_len (l := knoF [] (ordI lams r)) (B := 4294967296) (fun o ho => (knoF_mem (ordI lams r) [] ho).elim (fun h => by cases h) (fun h => ordI_nums (fun b hb => ⟨hls b hb, hbw b hb⟩) r o h)) (by omega) s
  have hnew : ordI lams (r + 1) = ordN lams (knoF [] (ordI lams r)) := rfl
  generalize hk0 : knoF [] (ordI lams r) = kk at *
  have X := noX
  (refine run ?_; repeat' (first | with_reducible exact trivial | ((with_reducible apply Fork.mk) <;> intro hb) | with_reducible apply Two.mk))
  refine callS hks ?_
  rintro r' H' ⟨rfl, rfl⟩
  simp only [List.append_assoc, List.cons_append, List.nil_append, List.length_append, List.length_cons, List.length_nil, List.length_set, X, Nat.reduceAdd]
  (refine run ?_; repeat' (first | with_reducible exact trivial | ((with_reducible apply Fork.mk) <;> intro hb) | with_reducible apply Two.mk))
  have hnl := ordN_len lams kk
  rw [← hnew] at hnl
  have hng : ∀ i (h : i < lams.length), (ordI lams (r + 1))[i]? = some (ordO lams[i] (numsF lams[i].e.names (fstS kk (bodyE lams[i].e)))) := fun i h => by rw [hnew]; simp [ordN, h]
  have hog := fun i (h : i < lams.length) => ordI_get lams r h
  have hon := ordI_nums (fun b hb => ⟨hls b hb, hbw b hb⟩) r
  have hfix := fun h => ordI_fix (lams := lams) (n := r) h 20 hr
  generalize hNW : ordI lams (r + 1) = new at *
  generalize hOD : ordI lams r = old at *
  have hmix : ∀ i, i ≤ lams.length → (new.take i ++ old.drop i).length = lams.length := fun i hi => by simp only [List.length_append, List.length_take, List.length_drop]; omega
  refine go_loop (fun a : Nat × Bool => [(5, .sl H.length 0 0 lams.length), (6, .map (H.length + 1)), (9, .map (H.length + 2)), (10, .bool a.2), (51, .int .i64 r), (55, .sl H.length 0 0 lams.length), (56, .int .i64 lams.length), (57, .int .i64 a.1)]) (fun a => H ++ [.cells 0 3 (odCells (new.take a.1 ++ old.drop a.1)), .map none (esX lams), .map none (esD kk)]) (fun a => lams.length - a.1) (fun a => a.1 ≤ lams.length ∧ (a.2 = false → new.take a.1 = old.take a.1)) (0, false) ⟨Nat.zero_le _, fun _ => rfl⟩ ?_ ?_
  · simp only [List.take_zero, List.drop_zero, List.nil_append]
    exact wkS (n0 := H.length) [(H.length, 0), (H.length + 1, 0), (H.length + 2, 0)] hG hB hC' hcl
  rintro K3 ⟨i, c⟩ ⟨hi, hc⟩ hK3
  simp only at hi hc
  dsimp only
  rcases Nat.lt_or_ge i lams.length with hlti | hgei
  · obtain ⟨nums0, ho⟩ := hog i hlti
    have hn := hng i hlti
    have hfx := findSV_esX lams hln i hlti
    have hbi := hls lams[i] (List.getElem_mem hlti)
    have hbwi := hbw lams[i] (List.getElem_mem hlti)
    have hmi : (new.take i ++ old.drop i)[i]? = old[i]? := by
      rw [List.getElem?_append_right (by rw [List.length_take]; omega), List.length_take, Nat.min_eq_left (by omega), Nat.sub_self, List.getElem?_drop, Nat.add_zero]
    have hml := hmix i hi
    generalize lams[i] = b at *
    obtain ⟨nm, e⟩ := b
    obtain ⟨x, hx1, hx2, hx3⟩ := body_wt hbi
    obtain ⟨kd, n2, nn, op, names, subs, bs, als⟩ := e
    have hx1 : subs = [x] := hx1
    subst hx1
    have ho : old[i]? = some ⟨nm, names.length, nums0⟩ := ho
    have hn : new[i]? = some ⟨nm, names.length, numsF names (fstS kk x)⟩ := by rw [hn, hx2]; rfl
    rw [ho] at hmi
    have hfx : (findSV (esX lams) (.str nm)).getD (.agg [.int .i64 0, .str [], .int .i64 0, .int .i64 0, .list 1 [], .list 8 [], .list 9 [], .list 12 []]) = .agg [.int .i64 kd, .str n2, .int .i64 nn, .int .i64 op, .list 1 (names.map .str), .list 8 (exCells [x]), .list 9 (bdCells bs), .list 12 (alCells als)] := by
      have hfx : findSV (esX lams) (.str nm) = some _ := hfx
      rw [hfx]; rfl
    have hwx : x.wt < 4294967296 := by have : (Bd.mk nm (Ex.mk kd n2 nn op names [x] bs als)).e.wt < 4294967295 := hbwi; omega
    have hnl2 : names.length < 4294967296 := by have := Ex.wt_lens kd n2 nn op names [x] bs als; have : (Ex.mk kd n2 nn op names [x] bs als).wt < 4294967295 := hbwi; omega
    have hF := first_ok G hG kk hkn x.wt
    have hfl := fst_len simS kk x.wt x
    have hfS : fstF simS kk x.wt x = fstS kk x := rfl
    have hx0 : ([x] : List Ex)[0]? = some x := rfl
    have X := And.intro noX (And.intro hmi (And.intro hfx hx0))
    (refine run ?_; repeat' (first | with_reducible exact trivial | ((with_reducible apply Fork.mk) <;> intro hb) | with_reducible apply Two.mk))
    refine callS (fst_list hF x (H.length + 2) _ (Nat.le_refl _) hwx (by simp)) ?_
    rintro r' H' ⟨rfl, rfl⟩
    rw [hfS] at hfl ⊢
    generalize fstS kk x = F at *
    (refine runB ?_; repeat' (first | with_reducible exact trivial | ((with_reducible apply Fork.mk) <;> intro hb) | with_reducible apply Two.mk))
    have hgo := numsF_go names F
    have hnl3 := numsF_len names F
    generalize hNN : numsF names F = NN at *
    refine go_cut (fun _ : Unit => [(5, .sl H.length 0 0 lams.length), (6, .map (H.length + 1)), (9, .map (H.length + 2)), (10, .bool c), (11, .int .i64 i), (12, .ptr (H.length + 3) 0 0 0), (14, .list 1 (intL NN)), (51, .int .i64 r), (55, .sl H.length 0 0 lams.length), (56, .int .i64 lams.length), (57, .int .i64 i)]) (fun _ => H ++ [.cells 0 3 (odCells (new.take i ++ old.drop i)), .map none (esX lams), .map none (esD kk), .cells 0 3 [.agg [.str nm, .int .i64 names.length, .list 1 (intL nums0)]]]) (fun _ => True) (fun K4 hK4 => ?_) (fun _ _ => ?_)
    · have X := noX
      (refine run ?_; repeat' (first | with_reducible exact trivial | ((with_reducible apply Fork.mk) <;> intro hb) | with_reducible apply Two.mk))
      refine go_loop (fun q : Nat => [(5, .sl H.length 0 0 lams.length), (6, .map (H.length + 1)), (9, .map (H.length + 2)), (10, .bool c), (11, .int .i64 i), (12, .ptr (H.length + 3) 0 0 0), (13, .ptr (H.length + 4) 0 0 0), (14, .sl (H.length + 5) 0 0 q), (51, .int .i64 r), (55, .sl H.length 0 0 lams.length), (56, .int .i64 lams.length), (57, .int .i64 i), (71, .list 1 (F.map .str)), (72, .int .i64 F.length), (73, .int .i64 q)])
        (fun q => H ++ [.cells 0 3 (odCells (new.take i ++ old.drop i)), .map none (esX lams), .map none (esD kk), .cells 0 3 [.agg [.str nm, .int .i64 names.length, .list 1 (intL nums0)]], .cells 0 8 [.agg [.int .i64 kd, .str n2, .int .i64 nn, .int .i64 op, .list 1 (names.map .str), .list 8 (exCells [x]), .list 9 (bdCells bs), .list 12 (alCells als)]], .cells 0 1 (intL ((F.take q).map (idxFrom 0 names)))]) (fun q => F.length - q) (fun q => q ≤ F.length ∧ ∀ s ∈ F.take q, s ∈ names) 0 ⟨Nat.zero_le _, by simp⟩ ?_ ?_
      · simp only [List.take_zero, List.map_nil, intL]
        exact wkS (n0 := H.length) [(H.length, 0), (H.length + 1, 0), (H.length + 2, 0), (H.length + 3, 0), (H.length + 4, 0), (H.length + 5, 0)] hG hB hC' hcl
      rintro K5 q ⟨hq, hqn⟩ hK5
      have hgq := hgo q hqn hq
      have hql : (intL ((F.take q).map (idxFrom 0 names))).length = q := by simp only [intL, List.length_map, List.length_take]; omega
      rcases Nat.lt_or_ge q F.length with hltq | hgeq
      · have gq : (F.map SV.str)[q]? = some (.str F[q]) := by simp [hltq]
        have c2 := fun H => index_list G names F[q] H (by omega)
        have htq := List.take_succ_eq_append_getElem hltq
        rw [List.drop_eq_getElem_cons hltq, numsF] at hgq
        have hix := idxFrom_ge names F[q] 0
        have hisn := intL_snoc ((F.take q).map (idxFrom 0 names)) (idxFrom 0 names F[q])
        generalize F[q] = s at *
        by_cases hsn : s ∈ names
        · have hge0 : ¬ idxFrom 0 names s < 0 := by
            rcases hix with h | h
            · exact absurd hsn h.2
            · omega
          have his2 : intL ((F.take q).map (idxFrom 0 names)) ++ [.int .i64 (idxFrom 0 names s)] = intL ((F.take (q + 1)).map (idxFrom 0 names)) := by rw [hisn, htq, List.map_append]; rfl
          generalize idxFrom 0 names s = at_ at *
          have X := And.intro noX (And.intro gq (And.intro hge0 (And.intro hql his2)))
          (refine run ?_; repeat' (first | with_reducible exact trivial | ((with_reducible apply Fork.mk) <;> intro hb) | with_reducible apply Two.mk))
          refine hK5 _ _ (q + 1) (by omega) ⟨by omega, fun y hy => ?_⟩ ?_
          · rw [htq] at hy
            rcases List.mem_append.1 hy with hy | hy
            · exact hqn y hy
            · rw [List.mem_singleton.1 hy]; exact hsn
          · exact wkS (n0 := H.length) [(H.length, 0), (H.length + 1, 0), (H.length + 2, 0), (H.length + 3, 0), (H.length + 4, 0), (H.length + 5, 0)] hG hB hC' hcl
        · have hlt0 : idxFrom 0 names s < 0 := by
            rcases hix with h | h
            · omega
            · exact absurd h.2 hsn
          rw [if_neg hsn, List.append_nil] at hgq
          have hL : List.take q (intL ((F.take q).map (idxFrom 0 names))) = intL NN := by rw [List.take_of_length_le (by omega), hgq]
          have hun : SV.underL H.length (List.take q (intL ((F.take q).map (idxFrom 0 names)))) = true := by rw [hL]; exact intL_under _ _
          generalize idxFrom 0 names s = at_ at *
          have X := And.intro noX (And.intro gq hlt0)
          (refine run ?_; repeat' (first | with_reducible exact trivial | ((with_reducible apply Fork.mk) <;> intro hb) | with_reducible apply Two.mk))
          refine hK4 _ _ () trivial ?_
          rw [← hL]
          exact wkS (n0 := H.length) [(H.length, 0), (H.length + 1, 0), (H.length + 2, 0), (H.length + 3, 0)] hG hB hC' hcl
      · have hqF : q = F.length := by omega
        rw [show F.drop q = [] from List.drop_eq_nil_of_le hgeq, show numsF names [] = [] from rfl, List.append_nil] at hgq
        have hL : List.take q (intL ((F.take q).map (idxFrom 0 names))) = intL NN := by rw [List.take_of_length_le (by omega), hgq]
        have hun : SV.underL H.length (List.take q (intL ((F.take q).map (idxFrom 0 names)))) = true := by rw [hL]; exact intL_under _ _
        have hni : ¬ (q : Int) < (F.length : Int) := by omega
        have X := And.intro noX hni
        (refine run ?_; repeat' (first | with_reducible exact trivial | ((with_reducible apply Fork.mk) <;> intro hb) | with_reducible apply Two.mk))
        refine hK4 _ _ () trivial ?_
        rw [← hL]
        exact wkS (n0 := H.length) [(H.length, 0), (H.length + 1, 0), (H.length + 2, 0), (H.length + 3, 0)] hG hB hC' hcl
    have hn0l : nums0.length < 4294967296 := hon _ (List.mem_of_getElem? ho)
    have c2 := fun H => equal_ls G hG NN nums0 (by omega) (by omega) H
    have hti := List.take_succ_eq_append_getElem (l := new) (i := i) (by omega)
    have hnE : new[i]'(by omega) = ⟨nm, names.length, NN⟩ := (List.getElem?_eq_some_iff.1 hn).2
    have hoE : old[i]'(by omega) = ⟨nm, names.length, nums0⟩ := (List.getElem?_eq_some_iff.1 ho).2
    have hdi := List.drop_eq_getElem_cons (l := old) (i := i) (by omega)
    have htoi := List.take_succ_eq_append_getElem (l := old) (i := i) (by omega)
    rw [hnE] at hti
    rw [hoE] at hdi htoi
    have hst : (odCells (new.take i ++ old.drop i)).set i (.agg [.str nm, .int .i64 names.length, .list 1 (intL NN)]) = odCells (new.take (i + 1) ++ old.drop (i + 1)) := by
      have h1 := odCells_set (new.take i ++ old.drop i) i ⟨nm, names.length, NN⟩
      simp only at h1
      rw [h1, hdi, hti, List.set_append_right _ _ (by rw [List.length_take]; omega), List.length_take, Nat.min_eq_left (by omega), Nat.sub_self, List.set_cons_zero, List.append_assoc]; rfl
    by_cases heq : NN = nums0
    · have X := And.intro noX (And.intro heq hmi)
      (refine run ?_; repeat' (first | with_reducible exact trivial | ((with_reducible apply Fork.mk) <;> intro hb) | with_reducible apply Two.mk))
      refine hK3 _ _ (i + 1, c) (by simp only; omega) ⟨by simp only; omega, fun hcf => ?_⟩ ?_
      · simp only at hcf ⊢
        rw [hti, htoi, hc hcf, heq]
      · simp only
        rw [show new.take (i + 1) ++ old.drop (i + 1) = new.take i ++ old.drop i from by rw [hti, hdi, heq, List.append_assoc]; rfl]
        exact wkS (n0 := H.length) [(H.length, 0), (H.length + 1, 0), (H.length + 2, 0)] hG hB hC' hcl
    · have X := And.intro noX (And.intro heq (And.intro hmi hst))
      (refine run ?_; repeat' (first | with_reducible exact trivial | ((with_reducible apply Fork.mk) <;> intro hb) | with_reducible apply Two.mk))
      refine hK3 _ _ (i + 1, true) (by simp only; omega) ⟨by simp only; omega, fun hcf => by cases hcf⟩ ?_
      simp only
      exact wkS (n0 := H.length) [(H.length, 0), (H.length + 1, 0), (H.length + 2, 0)] hG hB hC' hcl
  have hin : i = lams.length := by omega
  have hnt : new.take i = new := List.take_of_length_le (by omega)
  have hot : old.take i = old := List.take_of_length_le (by omega)
  have hod : old.drop i = [] := List.drop_eq_nil_of_le (by omega)
  rw [hnt, hod, List.append_nil]
  have hni : ¬ (i : Int) < (lams.length : Int) := by omega
  clear hK3
  cases c
  · have hno : new = old := by have := hc rfl; rwa [hnt, hot] at this
    have X := And.intro noX hni
    (refine run ?_; repeat' (first | with_reducible exact trivial | ((with_reducible apply Fork.mk) <;> intro hb) | with_reducible apply Two.mk))
    rw [hfix (by rw [hno]), ← hno] at hR
    refine Fin.tellN (n0 := H.length) hR rfl hC' hcl (.tuple _ _ (.cons _ _ _ _ ?_ (.cons _ _ _ _ (.same _ rfl) .nil))) ⟨rfl, rfl⟩
    exact Frz.sf (g := 0) (sz := 3) (vals := odCells new) (by rw [get_app0]; rfl) (Nat.le_refl _) (by simp) (by rw [List.drop_zero, List.take_of_length_le (by rw [odCells_len, hnl]; exact Nat.le_refl _)]) (odCells_under _ _)
  · have X := And.intro noX hni
    (refine run ?_; repeat' (first | with_reducible exact trivial | ((with_reducible apply Fork.mk) <;> intro hb) | with_reducible apply Two.mk))
    refine hK _ _ (r + 1) (by omega) (by omega) ?_
    rw [hNW]
    exact wkS (n0 := H.length) [(H.length, 0), (H.length + 1, 0)] hG hB hC' hcl
end Go.Proofs.YtehfihnfeakmaaaGreatDoor
end

section
namespace Go.Proofs.YtehfihnfeakmaaaGreatDoor
open Go
set_option linter.unusedSimpArgs false
set_option linter.unusedVariables false
set_option maxRecDepth 10000
set_option maxHeartbeats 4000000

/-! ### sizes -/
def BdC (G : Gl) (m : Nat) : Prop := ∀ (e : Ex) (H : List Blk) (at_ : Nat), e.wt ≤ m → e.wt < 4294967296 → ACall Tryz.prog G 37 [e.sv, .int .i64 (at_ : Int)] H (fun r H' => ∃ (n : Nat) (b : Bool), (H' = H ∧ r = .tuple [.int .i64 n, .bool b]) ∧ n ≤ e.wt)
theorem bounded_ok (G : Gl) (hG : GClosed G) : ∀ m, BdC G m
  | 0, e, H, at_, h, _ => absurd e.wt_pos (by omega)
  | m + 1, e, H, at_, hm, hw0 => by
    have hrec := bounded_ok G hG m
    have hep := e.wt_pos
    by_cases hat : (300 : Int) < (at_ : Int)
    · refine ACall.of_go TB [] tabOK _ Tryz.func37 rfl (by decide) Tryz.ntmps37 (by simp) rfl (by simp only [initEnv, Nat.reduceAdd]; rfl) fun C R' hR hC hcl hB => ?_; have X := noX; have hC' := congrArg List.length hC
      (refine runC ?_; repeat' (first | with_reducible exact trivial | ((with_reducible apply Fork.mk) <;> intro hb) | with_reducible apply Two.mk))
      refine go_condDT rfl hat ?_
      (refine run ?_; repeat' (first | with_reducible exact trivial | ((with_reducible apply Fork.mk) <;> intro hb) | with_reducible apply Two.mk))
      exact finS (n0 := H.length) hR hC' hcl (.same _ rfl) ⟨1, false, ⟨rfl, rfl⟩, by omega⟩
    have hpt := fun i (h : i < e.parts.length) => Ex.wt_parts (List.getElem_mem h)
    have hpo := fun H i (h : i < e.parts.length) => part_ok G hG e hw0 i h H
    have hpw := parts_wt e
    have hsum : ∀ i (h : i < e.parts.length), ((e.parts.take (i + 1)).map Ex.wt).sum = ((e.parts.take i).map Ex.wt).sum + e.parts[i].wt := fun i h => by rw [List.take_succ_eq_append_getElem h, List.map_append, List.sum_append, List.map_singleton, List.sum_singleton]
    have hsml : ∀ i, ((e.parts.take i).map Ex.wt).sum ≤ (e.parts.map Ex.wt).sum := fun i => by rw [List.map_take]; exact sum_take_le i
    have hat2 : (at_ : Int) + 1 = ((at_ + 1 : Nat) : Int) := by omega
    obtain ⟨kd, nm, nn, op, names, subs, binds, alts⟩ := e
    have hle := Ex.wt_lens kd nm nn op names subs binds alts
    have hpl : (Ex.mk kd nm nn op names subs binds alts).parts.length = subs.length + binds.length + alts.length := by rw [Ex.parts_mk]; simp; omega
    generalize hP : (Ex.mk kd nm nn op names subs binds alts).parts = P at *
    generalize hW : (Ex.mk kd nm nn op names subs binds alts).wt = W at *
    refine ACall.of_go TB [] tabOK _ Tryz.func37 rfl (by decide) Tryz.ntmps37 (by simp) rfl (by simp only [initEnv, Nat.reduceAdd]; rfl) fun C R' hR hC hcl hB => ?_; have X := noX; have hC' := congrArg List.length hC
    (refine runC ?_; repeat' (first | with_reducible exact trivial | ((with_reducible apply Fork.mk) <;> intro hb) | with_reducible apply Two.mk))
    refine go_condDF rfl hat ?_
    (refine run ?_; repeat' (first | with_reducible exact trivial | ((with_reducible apply Fork.mk) <;> intro hb) | with_reducible apply Two.mk))
    refine go_loop (fun a : Nat × Nat => [(1, .int .i64 (at_ : Int)), (2, .ptr H.length 0 0 0), (6, .int .i64 (a.2 : Int)), (7, .int .i64 (a.1 : Int))]) (fun _ => H ++ [.cells 0 8 [.agg [.int .i64 kd, .str nm, .int .i64 nn, .int .i64 op, .list 1 (names.map .str), .list 8 (exCells subs), .list 9 (bdCells binds), .list 12 (alCells alts)]]]) (fun a => P.length - a.1) (fun a => a.1 ≤ P.length ∧ a.2 ≤ 1 + ((P.take a.1).map Ex.wt).sum) (0, 1) ⟨Nat.zero_le _, by simp⟩ ?_ ?_
    · exact wkS (n0 := H.length) [(H.length, 0)] hG hB hC' hcl
    rintro K ⟨i, n⟩ ⟨hi, hn⟩ hK
    simp only at hi hn
    dsimp only
    have hs2 := hsml i
    rcases Nat.lt_or_ge i P.length with hlt | hge
    · have hp1 := hpt i hlt
      have c1 := fun H => hpo H i hlt
      have hs1 := hsum i hlt
      have hs3 := hsml (i + 1)
      have hgd : (i : Int) < (subs.length : Int) + (binds.length : Int) + (alts.length : Int) := by omega
      have hcall := fun H => hrec P[i] H (at_ + 1) (by omega) (by omega)
      generalize P[i] = x at *
      have X := And.intro noX (And.intro hat2 hgd)
      (refine run ?_; repeat' (first | with_reducible exact trivial | ((with_reducible apply Fork.mk) <;> intro hb) | with_reducible apply Two.mk))
      refine callS (hcall _) ?_
      rintro r H' ⟨n2, b2, ⟨rfl, rfl⟩, hn2⟩
      have hnn : (n : Int) + (n2 : Int) = ((n + n2 : Nat) : Int) := by omega
      have X := And.intro noX hnn
      (refine run ?_; repeat' (first | with_reducible exact trivial | ((with_reducible apply Fork.mk) <;> intro hb) | with_reducible apply Two.mk))
      · exact finS (n0 := H.length) hR hC' hcl (.same _ rfl) ⟨n + n2, false, ⟨rfl, rfl⟩, by omega⟩
      · refine hK _ _ (i + 1, n + n2) (by simp only; omega) ⟨by simp only; omega, by simp only; omega⟩ ?_
        dsimp only
        exact wkS (n0 := H.length) [(H.length, 0)] hG hB hC' hcl
    · have hgd : ¬ (i : Int) < (subs.length : Int) + (binds.length : Int) + (alts.length : Int) := by omega
      have X := And.intro noX hgd
      clear hK
      (refine run ?_; repeat' (first | with_reducible exact trivial | ((with_reducible apply Fork.mk) <;> intro hb) | with_reducible apply Two.mk))
      exact finS (n0 := H.length) hR hC' hcl (.same _ rfl) ⟨n, true, ⟨rfl, rfl⟩, by omega⟩
end Go.Proofs.YtehfihnfeakmaaaGreatDoor
end

section
namespace Go.Proofs.YtehfihnfeakmaaaGreatDoor
open Go
set_option linter.unusedSimpArgs false
set_option linter.unusedVariables false
set_option maxRecDepth 10000
set_option maxHeartbeats 4000000

theorem Bounded_ok (G : Gl) (hG : GClosed G) (e : Ex) (hw : e.wt < 4294967296) (H : List Blk) : ACall Tryz.prog G 14 [e.sv] H (fun r H' => ∃ (n : Nat) (b : Bool), (H' = H ∧ r = .tuple [.int .i64 n, .bool b]) ∧ n ≤ e.wt) := by
  refine ACall.of_go TB [] tabOK _ Tryz.func14 rfl (by decide) Tryz.ntmps14 (by simp) rfl (by simp only [initEnv, Nat.reduceAdd]; rfl) fun C R' hR hC hcl hB => ?_; have X := noX; have hC' := congrArg List.length hC
  (refine run ?_; repeat' (first | with_reducible exact trivial | ((with_reducible apply Fork.mk) <;> intro hb) | with_reducible apply Two.mk))
  refine callS (bounded_ok G hG e.wt e _ 0 (Nat.le_refl _) hw) ?_
  rintro r H' ⟨n, b, ⟨rfl, rfl⟩, hn⟩
  (refine run ?_; repeat' (first | with_reducible exact trivial | ((with_reducible apply Fork.mk) <;> intro hb) | with_reducible apply Two.mk))
  exact finS (n0 := H.length) hR hC' hcl (.same _ rfl) ⟨n, b, ⟨rfl, rfl⟩, hn⟩
theorem All_own (G : Gl) (hG : GClosed G) (cons : List Cn) (binds : List Bd) (H : List Blk) (hw : bdsWt binds < 4294967296) :
    ACall Tryz.prog G 22 [.agg [.list 4 (cnCells cons), .list 9 (bdCells binds)]] H (fun r H' => H' = H ++ [.cells 0 1 ((bindersP binds).map .str)] ∧ r = .sl H.length 0 0 (bindersP binds).length) := by
  have hle := bdsWt_len binds
  obtain ⟨L2, b1, b2, b3, b4⟩ := flat_seq (fun b : Bd => b.name :: bnds b.e) [] binds
  have e0 : bindersP binds = L2 binds.length := by rw [b4, List.nil_append]; rfl
  have hln := bindersP_len binds
  rw [e0] at hln ⊢
  rw [← b4] at b3
  have under_ints := fun n => cnCells_under n cons
  refine ACall.of_go TB [3] tabOK _ Tryz.func22 rfl (by decide) Tryz.ntmps22 (by simp) rfl (by simp only [initEnv, Nat.reduceAdd]; rfl) fun C R' hR hC hcl hB => ?_; have X := noX; have hC' := congrArg List.length hC
  (refine run ?_; repeat' (first | with_reducible exact trivial | ((with_reducible apply Fork.mk) <;> intro hb) | with_reducible apply Two.mk))
  refine go_loop (fun i : Nat => [(1, .ptr H.length 0 0 0), (3, .sl (H.length + 1) 0 0 (L2 i).length), (4, .int .i64 i)])
    (fun i => H ++ [.cells 0 2 [.agg [.list 4 (cnCells cons), .list 9 (bdCells binds)]], .cells 0 1 ((L2 i).map .str)]) (fun i => binds.length - i) (fun i => i ≤ binds.length) 0 (Nat.zero_le _) ?_ ?_
  · simp only [b1, List.length_nil, List.map_nil]
    exact wkS (n0 := H.length) [(H.length, 0), (H.length + 1, 0)] hG hB hC' hcl
  rintro K i hi hK
  rcases Nat.lt_or_ge i binds.length with hlt | hge
  · have hpb := bd_wt (List.getElem_mem hlt)
    have c1 := fun H => rbinders_ok G hG binds[i].e.wt binds[i].e H (Nat.le_refl _) (by omega)
    have e1 := b2 i hlt
    have e2 := b3 (i + 1)
    have e3 := b3 i
    have e4 := bndF_len binds[i].e.wt binds[i].e
    rw [e1, List.length_append] at e2
    simp only [List.length_cons, bnds] at e2 e1
    generalize bndF binds[i].e.wt binds[i].e = l at *
    generalize L2 i = l1 at *
    have X := And.intro noX (show (l1.map SV.str).length = l1.length ∧ (l.map SV.str).length = l.length from ⟨List.length_map .., List.length_map ..⟩)
    (refine run ?_; repeat' (first | with_reducible exact trivial | ((with_reducible apply Fork.mk) <;> intro hb) | with_reducible apply Two.mk))
    refine hK _ _ (i + 1) (by omega) (by omega) ?_
    rw [e1, List.map_append, List.map_cons, show (l1 ++ binds[i].name :: l).length = l1.length + (1 + l.length) from by simp; omega]
    exact wkS (n0 := H.length) [(H.length, 0), (H.length + 1, 0)] hG hB hC' hcl
  obtain rfl : i = binds.length := by omega
  clear hK
  have X := And.intro noX (Int.lt_irrefl (binds.length : Int))
  (refine run ?_; repeat' (first | with_reducible exact trivial | ((with_reducible apply Fork.mk) <;> intro hb) | with_reducible apply Two.mk))
  exact finK [(H.length + 1, 0)] (.sl H.length 0 0 (L2 binds.length).length) [.cells 0 1 ((L2 binds.length).map .str)] hR hC' hcl ⟨rfl, rfl⟩
theorem All_ok (G : Gl) (hG : GClosed G) (cons : List Cn) (binds : List Bd) (H : List Blk) (hw : bdsWt binds < 4294967296) :
    ACall Tryz.prog G 22 [.agg [.list 4 (cnCells cons), .list 9 (bdCells binds)]] H (fun r H' => H' = H ∧ r = .list 1 ((bindersP binds).map .str)) :=
  ACall.frz (strs_under _ _) (List.length_map ..) (All_own G hG cons binds H hw)
theorem wrap_u8 {n : Nat} (h : n < 256) : IntKind.u8.wrap (n : Int) = (n : Int) := by
  simp only [IntKind.wrap, IntKind.bits, IntKind.signed]
  simp
  omega
theorem number_ok (G : Gl) (hG : GClosed G) (s : Str) (hs : s.length < 4294967296) (H : List Blk) : ACall Tryz.prog G 62 [.str s] H (fun r H' => ∃ n : Nat, (H' = H ∧ r = .int .i64 n) ∧ n < 10000000000) := by
  refine ACall.of_go TB [] tabOK _ Tryz.func62 rfl (by decide) Tryz.ntmps62 (by simp) rfl (by simp only [initEnv, Nat.reduceAdd]; rfl) fun C R' hR hC hcl hB => ?_; have X := noX; have hC' := congrArg List.length hC
  (refine run ?_; repeat' (first | with_reducible exact trivial | ((with_reducible apply Fork.mk) <;> intro hb) | with_reducible apply Two.mk))
  · exact Fin.out hR ⟨0, ⟨rfl, rfl⟩, by omega⟩
  have hl3 : ¬ (List.length s : Int) < 3 := fun h => by rw [decide_eq_true h] at hb; simp at hb
  have hl11 : ¬ (11 : Int) < (List.length s : Int) := fun h => by rw [decide_eq_true h] at hb; simp at hb
  have h2l : 2 < s.length := by omega
  have h2 : s[2]? = some s[2] := List.getElem?_eq_getElem h2l
  have X := And.intro noX h2
  (refine run ?_; repeat' (first | with_reducible exact trivial | ((with_reducible apply Fork.mk) <;> intro hb) | with_reducible apply Two.mk))
  · exact Fin.out hR ⟨0, ⟨rfl, rfl⟩, by omega⟩
  have hpw : ∀ i, 2 ≤ i → 10 ^ (i + 1 - 2) = 10 * 10 ^ (i - 2) := fun i hi => by rw [show i + 1 - 2 = (i - 2) + 1 by omega, Nat.pow_succ]; omega
  have hpm : ∀ i, i ≤ 11 → 10 ^ (i - 2) ≤ 1000000000 := fun i hi => Nat.le_trans (Nat.pow_le_pow_right (by omega) (show i - 2 ≤ 9 by omega)) (by omega)
  refine go_loop (fun a : Nat × Nat => [(0, .str s), (3, .int .i64 (a.2 : Int)), (4, .int .i64 (a.1 : Int))]) (fun _ => H) (fun a => s.length - a.1) (fun a => (2 ≤ a.1 ∧ a.1 ≤ s.length) ∧ a.2 < 10 ^ (a.1 - 2)) (2, 0) ⟨⟨Nat.le_refl _, by simp only; omega⟩, by simp⟩ (Wk.sub (by simp [subEnv, look])) ?_
  rintro K ⟨i, n⟩ ⟨⟨hi1, hi2⟩, hn⟩ hK
  simp only at hi1 hi2 hn
  dsimp only
  have hp1 := hpw i hi1
  have hp2 := hpm i (by omega)
  generalize hPP : 10 ^ (i - 2) = pp at *
  rcases Nat.lt_or_ge i s.length with hlt | hge
  · have hg : s[i]? = some s[i] := List.getElem?_eq_getElem hlt
    have hb8 : s[i].toNat < 256 := s[i].toNat_lt
    generalize s[i] = b at *
    generalize hbn : b.toNat = bn at *
    have X := And.intro noX (And.intro hg hbn)
    (refine run ?_; repeat' (first | with_reducible exact trivial | ((with_reducible apply Fork.mk) <;> intro hb) | with_reducible apply Two.mk))
    · exact Fin.out hR ⟨0, ⟨rfl, rfl⟩, by omega⟩
    · simp only [Bool.or_eq_false_iff, decide_eq_false_iff_not] at hb
      have hw8 : IntKind.u8.wrap ((bn : Int) - 48) = ((bn - 48 : Nat) : Int) := by rw [show (bn : Int) - 48 = ((bn - 48 : Nat) : Int) by omega]; exact wrap_u8 (by omega)
      rw [hw8, wrap_i64 ((bn - 48 : Nat) : Int) (by omega), wrap_i64 _ (by omega), show 10 * (n : Int) + ((bn - 48 : Nat) : Int) = ((10 * n + (bn - 48) : Nat) : Int) by omega]
      exact hK _ _ (i + 1, 10 * n + (bn - 48)) (by simp only; omega) ⟨⟨by simp only; omega, by simp only; omega⟩, by simp only [hp1]; omega⟩ (Wk.sub (by simp [subEnv, look]))
  · have hni : ¬ (i : Int) < (List.length s : Int) := by omega
    clear hK
    have X := noX
    (refine run ?_; repeat' (first | with_reducible exact trivial | ((with_reducible apply Fork.mk) <;> intro hb) | with_reducible apply Two.mk))
    exact Fin.out hR ⟨n, ⟨rfl, rfl⟩, by omega⟩
theorem Next_ok (G : Gl) (hG : GClosed G) (cons : List Cn) (binds : List Bd) (H : List Blk) (hw : bdsWt binds < 4294967295) (hns : ∀ s ∈ bindersP binds, s.length < 4294967296) :
    ACall Tryz.prog G 21 [.agg [.list 4 (cnCells cons), .list 9 (bdCells binds)]] H (fun r H' => ∃ n : Nat, (H' = H ∧ r = .int .i64 n) ∧ n < 10000000001) := by
  have hln := bindersP_len binds
  refine ACall.of_go TB [] tabOK _ Tryz.func21 rfl (by decide) Tryz.ntmps21 (by simp) rfl (by simp only [initEnv, Nat.reduceAdd]; rfl) fun C R' hR hC hcl hB => ?_; have X := noX; have hC' := congrArg List.length hC
  (refine run ?_; repeat' (first | with_reducible exact trivial | ((with_reducible apply Fork.mk) <;> intro hb) | with_reducible apply Two.mk))
  refine callS (All_ok G hG cons binds _ (by omega)) ?_
  rintro r H' ⟨rfl, rfl⟩
  generalize bindersP binds = l at *
  (refine run ?_; repeat' (first | with_reducible exact trivial | ((with_reducible apply Fork.mk) <;> intro hb) | with_reducible apply Two.mk))
  refine go_loop (fun a : Nat × Nat => [(3, .int .i64 (a.2 : Int)), (4, .list 1 (l.map .str)), (5, .int .i64 (a.1 : Int))]) (fun a => H ++ []) (fun a => l.length - a.1) (fun a => a.1 ≤ l.length ∧ a.2 < 10000000000) (0, 0) ⟨Nat.zero_le _, by omega⟩ ?_ ?_
  · exact wkS (n0 := H.length) [] hG hB hC' hcl
  rintro K ⟨i, n⟩ ⟨hi, hn⟩ hK
  simp only at hi hn
  dsimp only
  rcases Nat.lt_or_ge i l.length with hlt | hge
  · have g1 : (l.map SV.str)[i]? = some (.str l[i]) := by simp [hlt]
    have hnum := fun H => number_ok G hG l[i] (hns _ (List.getElem_mem hlt)) H
    generalize l[i] = s at *
    have X := And.intro noX g1
    (refine run ?_; repeat' (first | with_reducible exact trivial | ((with_reducible apply Fork.mk) <;> intro hb) | with_reducible apply Two.mk))
    refine callS (hnum _) ?_
    rintro r H' ⟨n2, ⟨rfl, rfl⟩, hn2⟩
    have hmm := max_nat n n2
    have X := And.intro noX (And.intro hmm (show IntKind.i64.min ≤ (n2 : Int) ∧ (n2 : Int) ≤ IntKind.i64.max from ⟨by show (-9223372036854775808 : Int) ≤ _; omega, by show _ ≤ (9223372036854775807 : Int); omega⟩))
    (refine run ?_; repeat' (first | with_reducible exact trivial | ((with_reducible apply Fork.mk) <;> intro hb) | with_reducible apply Two.mk))
    refine hK _ _ (i + 1, max n n2) (by simp only; omega) ⟨by simp only; omega, by simp only; omega⟩ ?_
    dsimp only
    exact wkS (n0 := H.length) [] hG hB hC' hcl
  · have hni : ¬ (i : Int) < (l.length : Int) := by omega
    clear hK
    have X := noX
    (refine run ?_; repeat' (first | with_reducible exact trivial | ((with_reducible apply Fork.mk) <;> intro hb) | with_reducible apply Two.mk))
    refine finS (n0 := H.length) hR hC' hcl (.same _ rfl) ⟨n + 1, ⟨rfl, ?_⟩, by omega⟩
    simp only [resSV, Int.natCast_add, Int.natCast_one]
theorem Small_ok (G : Gl) (hG : GClosed G) (cons : List Cn) (binds : List Bd) (H : List Blk) (hw : bdsWt binds < 1073741824) (hcn : cons.length < 1099511627776) (hns : ∀ s ∈ bindersP binds, s.length < 4294967296) :
    ACall Tryz.prog G 6 [.agg [.list 4 (cnCells cons), .list 9 (bdCells binds)]] H (someB H) := by
  have hln := bindersP_len binds
  have hle := bdsWt_len binds
  have under_ints := fun n => cnCells_under n cons
  have hlm : ((bindersP binds).map SV.str).length = (bindersP binds).length := List.length_map ..
  refine ACall.of_go TB [] tabOK _ Tryz.func6 rfl (by decide) Tryz.ntmps6 (by simp) rfl (by simp only [initEnv, Nat.reduceAdd]; rfl) fun C R' hR hC hcl hB => ?_; have X := noX; have hC' := congrArg List.length hC
  (refine run ?_; repeat' (first | with_reducible exact trivial | ((with_reducible apply Fork.mk) <;> intro hb) | with_reducible apply Two.mk))
  · exact finS (n0 := H.length) hR hC' hcl (.same _ rfl) ⟨rfl, _, rfl⟩
  refine go_loop (fun a : Nat × Nat => [(1, .ptr H.length 0 0 0), (3, .int .i64 (a.2 : Int)), (4, .int .i64 (a.1 : Int))]) (fun _ => H ++ [.cells 0 2 [.agg [.list 4 (cnCells cons), .list 9 (bdCells binds)]]]) (fun a => binds.length - a.1) (fun a => a.1 ≤ binds.length ∧ a.2 ≤ bdsWt (binds.take a.1)) (0, 0) ⟨Nat.zero_le _, Nat.zero_le _⟩ ?_ ?_
  · exact wkS (n0 := H.length) [(H.length, 0)] hG hB hC' hcl
  rintro K ⟨i, n⟩ ⟨hi, hn⟩ hK
  simp only at hi hn
  dsimp only
  have hbt := bdsWt_take binds i
  rcases Nat.lt_or_ge i binds.length with hlt | hge
  · have hpb := bd_wt (List.getElem_mem hlt)
    have hbd := fun H => Bounded_ok G hG binds[i].e (by omega) H
    have hbt2 : bdsWt (binds.take (i + 1)) = bdsWt (binds.take i) + binds[i].wt := by
      rw [List.take_succ_eq_append_getElem hlt]
      have : ∀ (l : List Bd) (b : Bd), bdsWt (l ++ [b]) = bdsWt l + b.wt := fun l b => by
        induction l with
        | nil => simp [bdsWt]
        | cons x r ih => simp only [List.cons_append, bdsWt, ih]; omega
      exact this _ _
    have hbg := binds[i].wt_gt
    have hX := noX
    have X := noX
    (refine run ?_; repeat' (first | with_reducible exact trivial | ((with_reducible apply Fork.mk) <;> intro hb) | with_reducible apply Two.mk))
    refine callS (hbd _) ?_
    rintro r H' ⟨n2, b2, ⟨rfl, rfl⟩, hn2⟩
    have hnn : (n : Int) + (n2 : Int) = ((n + n2 : Nat) : Int) := by omega
    have X := And.intro noX hnn
    (refine run ?_; repeat' (first | with_reducible exact trivial | ((with_reducible apply Fork.mk) <;> intro hb) | with_reducible apply Two.mk))
    · exact finS (n0 := H.length) hR hC' hcl (.same _ rfl) ⟨rfl, _, rfl⟩
    · refine hK _ _ (i + 1, n + n2) (by simp only; omega) ⟨by simp only; omega, by simp only; omega⟩ ?_
      dsimp only
      exact wkS (n0 := H.length) [(H.length, 0)] hG hB hC' hcl
  · have hni : ¬ (i : Int) < (binds.length : Int) := by omega
    clear hK
    have c1 := fun H => All_ok G hG cons binds H (by omega)
    have X := And.intro noX (And.intro hni hlm)
    (refine run ?_; repeat' (first | with_reducible exact trivial | ((with_reducible apply Fork.mk) <;> intro hb) | with_reducible apply Two.mk))
    refine callS (Next_ok G hG cons binds _ (by omega) hns) ?_
    rintro r H' ⟨n2, ⟨rfl, rfl⟩, hn2⟩
    clear hn2
    generalize (n2 : Int) = z
    (refine run ?_; repeat' (first | with_reducible exact trivial | ((with_reducible apply Fork.mk) <;> intro hb) | with_reducible apply Two.mk))
    all_goals exact finS (n0 := H.length) hR hC' hcl (.same _ rfl) ⟨rfl, _, rfl⟩
end Go.Proofs.YtehfihnfeakmaaaGreatDoor
end

section
namespace Go.Proofs.YtehfihnfeakmaaaGreatDoor
open Go
set_option linter.unusedSimpArgs false
set_option linter.unusedVariables false
set_option maxRecDepth 10000
set_option maxHeartbeats 4000000

/-! ### looking into something ahead of an expression -/
def ahV (a : Ex) (t : Str) (b : List SV) : List SV := [.int .i64 6, .str t, .int .i64 0, .int .i64 0, .list 1 [], .list 8 [.agg a.cells], .list 9 [], .list 12 [.agg ([.int .i64 3, .str [], .int .i64 0, .list 1 []] ++ b)]]
theorem ahV_len (a : Ex) (t : Str) (b : List SV) : (ahV a t b).length = 8 := rfl
theorem ahV_under (n : Nat) (a : Ex) (t : Str) {b : List SV} (h : SV.underL n b = true) : SV.underL n (ahV a t b) = true := by
  simp only [ahV, SV.underL, SV.under, Ex.cells_under, SV.underL_append, h, Bool.and_self]
theorem ahead_ok (G : Gl) (hG : GClosed G) (a : Ex) (t : Str) (b : List SV) (hb8 : b.length = 8) (H : List Blk) (hbu : SV.underL H.length b = true) :
    ACall Tryz.prog G 87 [.agg a.cells, .str t, .agg b] H (fun r H' => H' = H ∧ r = .agg (ahV a t b)) := by
  have hau := ahV_under H.length a t hbu
  obtain ⟨k2, n2, nn2, op2, ns2, ss2, bs2, as2⟩ := a
  match b, hb8 with
  | [b0, b1, b2, b3, b4, b5, b6, b7], _ =>
    refine ACall.of_go TB [] tabOK _ Tryz.func87 rfl (by decide) Tryz.ntmps87 (by simp) rfl (by simp only [initEnv, Nat.reduceAdd]; rfl) fun C R' hR hC hcl hB => ?_; have X := noX; have hC' := congrArg List.length hC
    (refine run ?_; repeat' (first | with_reducible exact trivial | ((with_reducible apply Fork.mk) <;> intro hb) | with_reducible apply Two.mk))
    exact finS (n0 := H.length) hR hC' hcl (.same _ (by simp only [resSV, SV.under]; exact hau)) ⟨rfl, rfl⟩

/-! ### ranges over a list, backwards -/
theorem backwardS_ok (G : Gl) (hG : GClosed G) (l : List Str) (H : List Blk) : ACall Tryz.prog G 127 [.list 1 (l.map .str)] H (fun r H' => H' = H ∧ r = .fn (.func 154) [] [.pto (.list 1 (l.map .str))]) := by
  refine ACall.of_go TB [] tabOK _ Tryz.func127 rfl (by decide) Tryz.ntmps127 (by simp) rfl (by simp only [initEnv, Nat.reduceAdd]; rfl) fun C R' hR hC hcl hB => ?_; have X := noX; have hC' := congrArg List.length hC
  (refine runO ?_; repeat' (first | with_reducible exact trivial | ((with_reducible apply Fork.mk) <;> intro hb) | with_reducible apply Two.mk))
  refine Fin.tellN (n0 := H.length) hR (by simp) (by rw [hC]) hcl (.fn _ _ _ _ _ .nil (.cons _ _ _ _ ?_ .nil)) ⟨rfl, rfl⟩
  refine .ptr _ _ _ _ _ _ _ (by exact hbS) (Nat.le_refl _) (by simp) rfl (.same _ ?_)
  exact strs_under _ _
theorem backwardS1_ok (G : Gl) (l : List Str) (hl : l.length < 1099511627776) (n1 : Nat) (Hs : Nat → List Blk)
    (hy : ∀ i (h : i < l.length) X, ACallV Tryz.prog G (.it n1) [.int .i64 i, .str l[i]] (Hs (i + 1) ++ X) (fun r H' => H' = Hs i ++ X ∧ r = .bool true)) :
    ACall Tryz.prog G 154 [.it n1, .pto (.list 1 (l.map .str))] (Hs l.length) (fun r H' => H' = Hs 0) := by
  have hlm : (l.map SV.str).length = l.length := List.length_map ..
  refine ACall.of_go TB [] tabOK _ Tryz.func154 rfl (by decide) Tryz.ntmps154 (by simp) rfl (by simp only [initEnv, Nat.reduceAdd]; rfl) fun C R' hR hC hcl hB => ?_; have X := noX; have hC' := congrArg List.length hC
  have X := And.intro X hlm
  (refine runO ?_; repeat' (first | with_reducible exact trivial | ((with_reducible apply Fork.mk) <;> intro hb) | with_reducible apply Two.mk))
  refine go_loop (fun a : Nat => [(0, .it n1), (1, .pto (.list 1 (l.map .str))), (3, .int .i64 ((a : Int) - 1))]) (fun a => Hs a) (fun a => a) (fun a => a ≤ l.length) l.length (Nat.le_refl _) (Wk.sub (by simp [subEnv, look])) ?_
  intro K a ha hK
  rcases Nat.eq_zero_or_pos a with h0 | hpos
  · subst h0
    have hn : ¬ (0 : Int) ≤ ((0 : Nat) : Int) - 1 := by omega
    have X := And.intro noX hn
    clear hK
    (refine runO ?_; repeat' (first | with_reducible exact trivial | ((with_reducible apply Fork.mk) <;> intro hb) | with_reducible apply Two.mk))
    exact Fin.out hR rfl
  · obtain ⟨b, rfl⟩ : ∃ b, a = b + 1 := ⟨a - 1, by omega⟩
    have hlt : b < l.length := by omega
    have e : (((b + 1 : Nat) : Int) - 1) = (b : Int) := by omega
    have hge : (0 : Int) ≤ (b : Int) := by omega
    have g1 : (l.map SV.str)[b]? = some (.str l[b]) := by simp [hlt]
    have hcall := hy b hlt []
    rw [List.append_nil, List.append_nil] at hcall
    have X := And.intro noX (And.intro e (And.intro hge g1))
    rw [e]
    (refine runO ?_; repeat' (first | with_reducible exact trivial | ((with_reducible apply Fork.mk) <;> intro hb) | with_reducible apply Two.mk))
    refine go_callV rfl ?_ rfl hcall ?_
    · exact evS
    rintro r H' ⟨rfl, rfl⟩
    (refine runO ?_; repeat' (first | with_reducible exact trivial | ((with_reducible apply Fork.mk) <;> intro hb) | with_reducible apply Two.mk))
    refine hK _ _ b (by omega) (by omega) ?_
    exact Wk.sub (by simp [subEnv, look])

/-! ### give -/
def varE (t : Str) : Ex := .mk 1 t 0 0 [] [] [] []
def itT (its : Nat → Str) (n : Nat) : Str := [116, 35] ++ its n
/-- the names and arguments that a call is given ahead of it, its arguments then, the next number -/
def givF (its : Nat → Str) : List Int → List Ex → Nat → List (Str × Ex) × List Ex × Nat
  | [], S, nx => ([], S, nx)
  | n :: r, S, nx =>
    if (S.getD (n.toNat + 1) noEx).kind = 1 then ([], S, nx)
    else if (S.getD (n.toNat + 1) noEx).kind = 2 ∨ (S.getD (n.toNat + 1) noEx).kind = 3 ∨ (S.getD (n.toNat + 1) noEx).kind = 7 then givF its r S nx
    else ((itT its nx, S.getD (n.toNat + 1) noEx) :: (givF its r (S.set (n.toNat + 1) (varE (itT its nx))) (nx + 1)).1, (givF its r (S.set (n.toNat + 1) (varE (itT its nx))) (nx + 1)).2)
theorem givF_len (its : Nat → Str) : ∀ (ns : List Int) (S : List Ex) (nx : Nat), (givF its ns S nx).1.length ≤ ns.length
  | [], _, _ => Nat.le_refl _
  | n :: r, S, nx => by
    rw [givF]
    split
    · exact Nat.zero_le _
    · split
      · exact Nat.le_succ_of_le (givF_len its r S nx)
      · exact Nat.succ_le_succ (givF_len its r _ (nx + 1))
def wrapV (P : List (Str × Ex)) (b : List SV) : List SV := P.foldr (fun p b => ahV p.2 p.1 b) b
theorem exCells_set (S : List Ex) (i : Nat) (x : Ex) : (exCells S).set i (.agg x.cells) = exCells (S.set i x) := by simp [exCells_map, List.map_set]; rfl
/-- a heap in which a list of expressions and a state turn -/
theorem givQ {H : List Blk} {id g sb g0 : Nat} {S0 : List Ex} {kb : SV} {nx0 : Int} (h1 : H[id]? = some (.cells g 8 (exCells S0))) (h2 : H[sb]? = some (.cells g0 2 [.agg [kb, .int .i64 nx0]])) (hkb : kb.under H.length = true) :
    ∃ Q : List Ex → Int → List Blk, Q S0 nx0 = H ∧ (∀ S nx, (H.set id (.cells g 8 (exCells S))).set sb (.cells g0 2 [.agg [kb, .int .i64 nx]]) = Q S nx) ∧ (∀ S nx, (Q S nx).length = H.length) ∧
      ((∀ S nx L, (Q S nx ++ L)[id]? = some (.cells g 8 (exCells S))) ∧ (∀ S nx L, (Q S nx ++ L)[sb]? = some (.cells g0 2 [.agg [kb, .int .i64 nx]])) ∧ (∀ S nx S' L, (Q S nx ++ L).set id (.cells g 8 (exCells S')) = Q S' nx ++ L) ∧ (∀ S nx nx' L, (Q S nx ++ L).set sb (.cells g0 2 [.agg [kb, .int .i64 nx']]) = Q S nx' ++ L)) ∧ (closed H → ∀ S nx, closed (Q S nx)) := by
  have l1 := (List.getElem?_eq_some_iff.1 h1).1
  have l2 := (List.getElem?_eq_some_iff.1 h2).1
  have hne : id ≠ sb := fun e => by
    rw [e, h2] at h1
    have := Option.some.inj h1
    simp at this
  refine ⟨fun S nx => (H.set id (.cells g 8 (exCells S))).set sb (.cells g0 2 [.agg [kb, .int .i64 nx]]), by simp only; rw [set_same h1, set_same h2], fun _ _ => rfl, fun S nx => by simp, ⟨fun S nx L => ?_, fun S nx L => ?_, fun S nx S' L => ?_, fun S nx nx' L => ?_⟩, fun hc S nx => (hc.set (b := .cells g 8 (exCells S)) (exCells_under _ _)).set ?_⟩
  · rw [List.getElem?_append_left (by simpa using l1), List.getElem?_set_ne (fun e => hne e.symm), List.getElem?_set_self l1]
  · rw [List.getElem?_append_left (by simpa using l2), List.getElem?_set_self (by simpa using l2)]
  · rw [set_old (by simpa using l1), List.set_comm _ _ (fun e => hne e.symm), List.set_set]
  · rw [set_old (by simpa using l2), List.set_set]
  · simp only [List.length_set, Blk.under, SV.underL, SV.under, hkb, Bool.and_self]
theorem nd5 (n : Nat) : [n, n + 1, n + 2, n + 3, n + 4].Nodup := by
  refine List.pairwise_iff_getElem.2 fun i j hi hj hij => ?_
  have h : ∀ q (hq : q < 5), ([n, n + 1, n + 2, n + 3, n + 4] : List Nat)[q] = n + q := fun q hq => by
    match q, hq with
    | 0, _ => rfl
    | 1, _ => rfl
    | 2, _ => rfl
    | 3, _ => rfl
    | 4, _ => rfl
  rw [h i hi, h j hj]; omega
theorem nd4 (n : Nat) : [n, n + 1, n + 3, n + 4].Nodup := by
  have h := nd5 n
  simp only [List.nodup_cons, List.mem_cons, List.not_mem_nil, or_false, not_or] at h ⊢
  exact ⟨⟨h.1.1, h.1.2.2.1, h.1.2.2.2⟩, ⟨h.2.1.2.1, h.2.1.2.2⟩, h.2.2.2⟩
/-- what is wrapped, step by step -/
theorem wrapW (P : List (Str × Ex)) {E : List SV} {n0 : Nat} (hE : SV.underL n0 (List.drop 0 [SV.agg E]) = true) (h8 : E.length = 8) :
    ∃ W : Nat → List SV, E = W P.length ∧ wrapV P E = W 0 ∧ (∀ j (h : j < P.length), ahV P[j].2 P[j].1 (W (j + 1)) = W j) ∧ (∀ j, (W j).length = 8) ∧ (∀ n, n0 ≤ n → ∀ j, SV.underL n (W j) = true) := by
  refine ⟨fun j => wrapV (P.drop j) E, by simp only [List.drop_length]; rfl, by simp only [List.drop_zero], fun j h => by simp only; rw [List.drop_eq_getElem_cons h]; rfl, fun j => ?_, fun n hn j => ?_⟩
  · simp only
    generalize P.drop j = Q
    cases Q with
    | nil => exact h8
    | cons p r => rfl
  · simp only
    generalize P.drop j = Q
    induction Q with
    | nil => exact (SV.below_mono_both hn).2 E (by simpa only [List.drop_zero, SV.underL, SV.under, Bool.and_true] using hE)
    | cons p r ih => exact ahV_under n p.2 p.1 ih
theorem exCells_at {L : List Ex} {j : Nat} (h : j < L.length) : (exCells L)[j]? = some (.agg L[j].cells) := by
  rw [exCells_map]; simp [h]; rfl
theorem give_ok (G : Gl) (hG : GClosed G) (its : Nat → Str) (ns : List Int) (S0 : List Ex) (nx0 : Nat) (kd nn op : Int) (nm : Str) (names : List Str) (xb xa kb : SV) (H : List Blk) (id g sb g0 : Nat)
    (h1 : H[id]? = some (.cells g 8 (exCells S0))) (h2 : H[sb]? = some (.cells g0 2 [.agg [kb, .int .i64 nx0]])) (hkb : kb.under H.length = true) (hxb : xb.under H.length = true) (hxa : xa.under H.length = true) (hxbl : xb.leaf = true) (hxal : xa.leaf = true)
    (hrg : ∀ n ∈ ns, 0 ≤ n ∧ n + 1 < (S0.length : Int)) (hns : ns.length < 4294967296) (hS : S0.length < 4294967296) (hnx : nx0 < 4294967296)
    (hit : ∀ n, nx0 ≤ n → n < nx0 + ns.length → (its n).length < 100 ∧ ∀ H, ACall Tryz.prog G 82 [.int .i64 (n : Int)] H (fun r H' => H' = H ∧ r = .str (its n))) :
    ACall Tryz.prog G 88 [.ptr sb g0 0 0, .agg [.int .i64 kd, .str nm, .int .i64 nn, .int .i64 op, .list 1 (names.map .str), .sl id g 0 S0.length, xb, xa], .list 1 (intL ns)] H (fun r H' => H' = (H.set id (.cells g 8 (exCells (givF its ns S0 nx0).2.1))).set sb (.cells g0 2 [.agg [kb, .int .i64 ((givF its ns S0 nx0).2.2 : Int)]]) ∧ r = .agg (wrapV (givF its ns S0 nx0).1 [.int .i64 kd, .str nm, .int .i64 nn, .int .i64 op, .list 1 (names.map .str), .sl id g 0 S0.length, xb, xa])) := by
  obtain ⟨Q, q0, qd, hlen, qx, qc⟩ := givQ h1 h2 hkb
  have l1 := (List.getElem?_eq_some_iff.1 h1).1
  have l2 := (List.getElem?_eq_some_iff.1 h2).1
  simp only [qd]
  rw [← q0]
  refine ACall.of_go TB [7] tabOK _ Tryz.func88 rfl (by decide) Tryz.ntmps88 (by simp) rfl (by simp only [initEnv, Nat.reduceAdd]; rfl) fun C R' hR hC hcl hB => ?_; have X := noX; have hC' := congrArg List.length hC
  have hC' := hC'.trans (hlen _ _)
  have hcls : ∀ S nx, closed (Q S nx) := fun S nx => qc (q0 ▸ hcl) S nx
  generalize hn0 : H.length = n0 at *
  have hx2 : (∀ S nx, (Q S nx).length = n0) ∧ (∀ S nx L, (Q S nx ++ L)[n0]? = L[0]?) ∧ (∀ S nx L k, (Q S nx ++ L)[n0 + k]? = L[k]?) ∧ (∀ S nx L x, (Q S nx ++ L).set n0 x = Q S nx ++ L.set 0 x) ∧ (∀ S nx L k x, (Q S nx ++ L).set (n0 + k) x = Q S nx ++ L.set k x) :=
    ⟨hlen, fun S nx L => by rw [← hlen S nx]; exact get_app0 _ _, fun S nx L k => by rw [← hlen S nx]; exact get_app _ _ _, fun S nx L x => by rw [← hlen S nx]; exact set_app0 _ _ _, fun S nx L k x => by rw [← hlen S nx]; exact set_app _ _ _ _⟩
  obtain ⟨hx21, hx22, hx23, hx24, hx25⟩ := hx2
  have hE0 : SV.underL n0 (List.drop 0 [SV.agg [.int .i64 kd, .str nm, .int .i64 nn, .int .i64 op, .list 1 (names.map .str), .sl id g 0 S0.length, xb, xa]]) = true := by
    simp only [List.drop_zero, SV.underL, SV.under, hxb, hxa, strs_under, l1, decide_true, Bool.and_self, Bool.and_true]
  have X := And.intro noX (And.intro qx (And.intro hx21 (And.intro hx22 (And.intro hx23 (And.intro hx24 hx25)))))
  (refine runB ?_; repeat' (first | with_reducible exact trivial | ((with_reducible apply Fork.mk) <;> intro hb) | with_reducible apply Two.mk))
  refine go_wkC _ _ (wk_ghostC (id := n0 + 3) (g := 0) (s := 1) (i := 0) (vals := [.nil]) 8 (by rw [hx23]; rfl) rfl) ?_
  simp only [hx25, hx21, List.length_append, List.length_cons, List.length_nil, List.set_cons_succ, List.set_cons_zero, Nat.reduceAdd, List.append_assoc, List.cons_append, List.nil_append]
  refine go_cut (fun _ : Unit => [(4, .ptr n0 0 0 0), (6, .ptr (n0 + 1) 0 0 0), (7, .list 1 (((givF its ns S0 nx0).1.map Prod.fst).map .str)), (8, .ptr (n0 + 2) 0 0 0)])
    (fun _ => Q (givF its ns S0 nx0).2.1 (givF its ns S0 nx0).2.2 ++ [.cells 0 8 [.agg [.int .i64 kd, .str nm, .int .i64 nn, .int .i64 op, .list 1 (names.map .str), .sl id g 0 S0.length, xb, xa]], .cells 0 8 [.agg [.int .i64 0, .str [], .int .i64 0, .int .i64 0, .list 1 [], .list 8 [], .list 9 [], .list 12 []]], .cells 0 1 [.sl (n0 + 3) 0 0 (givF its ns S0 nx0).1.length], .cells 0 8 (exCells ((givF its ns S0 nx0).1.map Prod.snd))]) (fun _ => True) (fun K0 hK0 => ?_) (fun _ _ => ?_)
  · (refine run ?_; repeat' (first | with_reducible exact trivial | ((with_reducible apply Fork.mk) <;> intro hb) | with_reducible apply Two.mk))
    refine go_loop (fun a : Nat × List Ex × List (Str × Ex) × Nat => [(0, .ptr sb g0 0 0), (4, .ptr n0 0 0 0), (6, .ptr (n0 + 1) 0 0 0), (7, .sl (n0 + 2) 0 0 a.2.2.1.length), (8, .ptr (n0 + 3) 0 0 0), (15, .list 1 (intL ns)), (16, .int .i64 ns.length), (17, .int .i64 (a.1 : Int))])
      (fun a => Q a.2.1 a.2.2.2 ++ [.cells 0 8 [.agg [.int .i64 kd, .str nm, .int .i64 nn, .int .i64 op, .list 1 (names.map .str), .sl id g 0 S0.length, xb, xa]], .cells 0 8 [.agg [.int .i64 0, .str [], .int .i64 0, .int .i64 0, .list 1 [], .list 8 [], .list 9 [], .list 12 []]], .cells 0 1 ((a.2.2.1.map Prod.fst).map .str), .cells 0 1 [.sl (n0 + 4) 0 0 a.2.2.1.length], .cells 0 8 (exCells (a.2.2.1.map Prod.snd))]) (fun a => ns.length - a.1)
      (fun a => (a.1 ≤ ns.length ∧ a.2.1.length = S0.length ∧ a.2.2.1.length ≤ a.1 ∧ nx0 ≤ a.2.2.2 ∧ a.2.2.2 ≤ nx0 + a.1) ∧ givF its ns S0 nx0 = (a.2.2.1 ++ (givF its (ns.drop a.1) a.2.1 a.2.2.2).1, (givF its (ns.drop a.1) a.2.1 a.2.2.2).2)) (0, S0, [], nx0) ⟨⟨Nat.zero_le _, rfl, Nat.le_refl _, Nat.le_refl _, Nat.le_refl _⟩, rfl⟩ ?_ ?_
    · simp only [List.length_nil, List.map_nil, exCells]
      exact wkS (n0 := n0) [(n0, 0), (n0 + 1, 0), (n0 + 2, 0), (n0 + 3, 0), (n0 + 4, 0)] hG hB hC' (hcls _ _) (hn := hlen _ _) (hd := nd5 n0)
    rintro K ⟨i, S, P, nx⟩ ⟨⟨hi, hSl, hPl, hnl, hnu⟩, hgv⟩ hK
    simp only at hi hSl hPl hnl hnu hgv
    dsimp only
    rcases Nat.lt_or_ge i ns.length with hlt | hge
    rotate_left
    · have hni : ¬ (i : Int) < (ns.length : Int) := by omega
      rw [List.drop_eq_nil_of_le hge] at hgv
      simp only [givF, List.append_nil] at hgv
      clear hK
      have X := And.intro (And.intro noX (And.intro qx (And.intro hx21 (And.intro hx22 (And.intro hx23 (And.intro hx24 hx25)))))) hni
      (refine run ?_; repeat' (first | with_reducible exact trivial | ((with_reducible apply Fork.mk) <;> intro hb) | with_reducible apply Two.mk))
      refine hK0 _ _ () trivial ?_
      simp only [hgv]
      exact wkS (n0 := n0) [(n0, 0), (n0 + 1, 0), (n0 + 3, 0), (n0 + 4, 0)] hG hB hC' (hcls _ _) (hn := hlen _ _) (hd := nd4 n0)
    have hg1 : (intL ns)[i]? = some (.int .i64 ns[i]) := by simp [intL, hlt]
    obtain ⟨hr1, hr2⟩ := hrg ns[i] (List.getElem_mem hlt)
    rw [List.drop_eq_getElem_cons hlt, givF] at hgv
    generalize ns[i] = n at *
    have hidx : (n + 1).toNat = n.toNat + 1 := by omega
    have hlt2 : n.toNat + 1 < S.length := by omega
    have hSx : S[n.toNat + 1]? = some S[n.toNat + 1] := List.getElem?_eq_getElem hlt2
    have hgd : S.getD (n.toNat + 1) noEx = S[n.toNat + 1] := by rw [List.getD_eq_getElem?_getD, hSx]; rfl
    rw [hgd] at hgv
    have hsn1 : ∀ t, (P.map Prod.fst).map SV.str ++ [SV.str t] = ((P ++ [(t, S[n.toNat + 1])]).map Prod.fst).map SV.str := fun t => by simp
    have hsn2 : ∀ t, exCells (P.map Prod.snd) ++ [.agg S[n.toNat + 1].cells] = exCells ((P ++ [(t, S[n.toNat + 1])]).map Prod.snd) := fun t => by rw [exCells_snoc2, List.map_append]; rfl
    have hst : ∀ t, (exCells S).set (n.toNat + 1) (.agg [.int .i64 1, .str t, .int .i64 0, .int .i64 0, .list 1 [], .list 8 [], .list 9 [], .list 12 []]) = exCells (S.set (n.toNat + 1) (varE t)) := fun t => exCells_set S _ (varE t)
    generalize S[n.toNat + 1] = x at *
    obtain ⟨k2, n2, nn2, op2, ns2, ss2, bs2, as2⟩ := x
    have hk : (Ex.mk k2 n2 nn2 op2 ns2 ss2 bs2 as2).kind = k2 := rfl
    rw [hk] at hgv
    have hb1 : 0 ≤ n + 1 := by omega
    have hb2 : n + 1 < (S.length : Int) := by omega
    by_cases h1 : k2 = 1
    · rw [if_pos h1] at hgv
      simp only [List.append_nil] at hgv
      clear hK
      have X := And.intro (And.intro noX (And.intro qx (And.intro hx21 (And.intro hx22 (And.intro hx23 (And.intro hx24 hx25)))))) (And.intro hg1 (And.intro hidx (And.intro hSx (And.intro hSl h1))))
      (refine run ?_; repeat' (first | with_reducible exact trivial | ((with_reducible apply Fork.mk) <;> intro hb) | with_reducible apply Two.mk))
      refine hK0 _ _ () trivial ?_
      simp only [hgv]
      exact wkS (n0 := n0) [(n0, 0), (n0 + 1, 0), (n0 + 3, 0), (n0 + 4, 0)] hG hB hC' (hcls _ _) (hn := hlen _ _) (hd := nd4 n0)
    rw [if_neg h1] at hgv
    by_cases h2 : k2 = 2 ∨ k2 = 3 ∨ k2 = 7
    · rw [if_pos h2] at hgv
      have X := And.intro (And.intro noX (And.intro qx (And.intro hx21 (And.intro hx22 (And.intro hx23 (And.intro hx24 hx25)))))) (And.intro hg1 (And.intro hidx (And.intro hSx (And.intro hSl h1))))
      (refine run ?_; repeat' (first | with_reducible exact trivial | ((with_reducible apply Fork.mk) <;> intro hb) | with_reducible apply Two.mk))
      · refine hK _ _ (i + 1, S, P, nx) (by simp only; omega) ⟨⟨by simp only; omega, hSl, by simp only; omega, hnl, by simp only; omega⟩, hgv⟩ ?_
        dsimp only
        exact wkS (n0 := n0) [(n0, 0), (n0 + 1, 0), (n0 + 2, 0), (n0 + 3, 0), (n0 + 4, 0)] hG hB hC' (hcls _ _) (hn := hlen _ _) (hd := nd5 n0)
      · exfalso
        simp only [Bool.or_eq_false_iff, decide_eq_false_iff_not] at hb
        rcases h2 with h | h | h
        · exact hb.1.1 h
        · exact hb.1.2 h
        · exact hb.2 h
    rw [if_neg h2] at hgv
    obtain ⟨hil, hic⟩ := hit nx (by omega) (by omega)
    have hnxe : (nx : Int) + 1 = ((nx + 1 : Nat) : Int) := by omega
    obtain ⟨tt, htt⟩ : ∃ tt, itT its nx = tt := ⟨_, rfl⟩
    have ht1 : ([116, 35] ++ its nx : Str) = tt := htt
    have ht2 : (116 :: 35 :: its nx : Str) = tt := htt
    rw [htt] at hgv
    have e1 := hsn1 tt
    have e2 := hsn2 tt
    have e3 := hst tt
    clear hsn1 hsn2 hst
    have hmx : 2 + (its nx).length ≤ maxLen := by unfold maxLen; omega
    have hl1 : ((P.map Prod.fst).map SV.str).length = P.length := by simp
    have hl2 : (exCells (P.map Prod.snd)).length = P.length := by rw [exCells_len]; simp
    have hcx : (Ex.mk k2 n2 nn2 op2 ns2 ss2 bs2 as2).cells = [.int .i64 k2, .str n2, .int .i64 nn2, .int .i64 op2, .list 1 (ns2.map .str), .list 8 (exCells ss2), .list 9 (bdCells bs2), .list 12 (alCells as2)] := rfl
    rw [hcx] at e2
    have X := And.intro (And.intro noX (And.intro qx (And.intro hx21 (And.intro hx22 (And.intro hx23 (And.intro hx24 hx25)))))) (And.intro hg1 (And.intro hidx (And.intro hSx (And.intro hSl (And.intro h1 (And.intro hnxe (And.intro e1 (And.intro e2 (And.intro e3 (And.intro hl1 (And.intro hl2 (And.intro ht1 (And.intro ht2 hmx)))))))))))))
    (refine run ?_; repeat' (first | with_reducible exact trivial | ((with_reducible apply Fork.mk) <;> intro hb) | with_reducible apply Two.mk))
    · exfalso
      simp only [Bool.or_eq_true, decide_eq_true_eq] at hb
      exact h2 (by rcases hb with (h | h) | h; exact .inl h; exact .inr (.inl h); exact .inr (.inr h))
    refine callS (hic _) ?_
    rintro r H' ⟨rfl, rfl⟩
    (refine run ?_; repeat' (first | with_reducible exact trivial | ((with_reducible apply Fork.mk) <;> intro hb) | with_reducible apply Two.mk))
    refine hK _ _ (i + 1, S.set (n.toNat + 1) (varE tt), P ++ [(tt, .mk k2 n2 nn2 op2 ns2 ss2 bs2 as2)], nx + 1) (by simp only; omega) ⟨⟨by simp only; omega, by simp only [List.length_set]; omega, by simp only [List.length_append, List.length_cons, List.length_nil]; omega, by simp only; omega, by simp only; omega⟩, by simp only [hgv, List.append_assoc, List.cons_append, List.nil_append]⟩ ?_
    dsimp only
    rw [List.length_append, List.length_cons, List.length_nil]
    exact wkS (n0 := n0) [(n0, 0), (n0 + 1, 0), (n0 + 2, 0), (n0 + 3, 0), (n0 + 4, 0)] hG hB hC' (hcls _ _) (hn := hlen _ _) (hd := nd5 n0)
  · have hfl := givF_len its ns S0 nx0
    generalize givF its ns S0 nx0 = FF at hR hfl ⊢
    obtain ⟨PF, SF, nxF⟩ := FF
    obtain ⟨W, hW1, hW2, hW3, hW4, hW5⟩ := wrapW PF hE0 rfl
    simp only at hR hfl ⊢
    rw [hW2] at hR
    rw [hW1]
    have hPl : PF.length < 1099511627776 := by omega
    have hall : ∀ j (h : j < PF.length), (exCells (PF.map Prod.snd))[j]? = some (.agg PF[j].2.cells) := fun j h => by rw [exCells_at (by simpa using h)]; simp
    have hnl : ((PF.map Prod.fst)).length = PF.length := by simp
    have X := And.intro noX (And.intro qx (And.intro hx21 (And.intro hx22 (And.intro hx23 (And.intro hx24 hx25)))))
    (refine run ?_; repeat' (first | with_reducible exact trivial | ((with_reducible apply Fork.mk) <;> intro hb) | with_reducible apply Two.mk))
    refine callS (backwardS_ok G hG (PF.map Prod.fst) _) ?_
    rintro r H' ⟨rfl, rfl⟩
    (refine run ?_; repeat' (first | with_reducible exact trivial | ((with_reducible apply Fork.mk) <;> intro hb) | with_reducible apply Two.mk))
    refine go_rangeFunc tabOK (σ := Nat) (ξ := Nat × Str × Ex) (fun j => Q SF nxF ++ [.cells 0 8 [.agg (W j)], .cells 0 8 [.agg [.int .i64 0, .str [], .int .i64 0, .int .i64 0, .list 1 [], .list 8 [], .list 9 [], .list 12 []]], .cells 0 1 [.sl (n0 + 3) 0 0 PF.length], .cells 0 8 (exCells (PF.map Prod.snd))]) (n0 + 4) (fun s => by rw [List.length_append, hlen]; rfl) PF.length
      [(4, .ptr n0 0 0 0), (6, .ptr (n0 + 1) 0 0 0), (8, .ptr (n0 + 2) 0 0 0), (73, .fn (.func 154) [] [.pto (.list 1 ((PF.map Prod.fst).map .str))])] (fun x => [.int .i64 x.1, .str x.2.1]) (fun s x => s = x.1 + 1 ∧ PF[x.1]? = some x.2) (fun s x => x.1) (fun s => s = 0)
      (fun x => [(75, .str x.2.1), (74, .int .i64 x.1), (4, .ptr n0 0 0 0), (6, .ptr (n0 + 1) 0 0 0), (8, .ptr (n0 + 2) 0 0 0), (73, .fn (.func 154) [] [.pto (.list 1 ((PF.map Prod.fst).map .str))])]) rfl rfl (fun x => rfl) (fun x => rfl) ?_ ?_ ?_ ?_
    · exact Wk.sub (by simp [subEnv, look])
    · intro G' LO hGl hLO hy
      have := backwardS1_ok G' (PF.map Prod.fst) (by omega) (n0 + 4) (fun i => (Q SF nxF ++ [.cells 0 8 [.agg (W i)], .cells 0 8 [.agg [.int .i64 0, .str [], .int .i64 0, .int .i64 0, .list 1 [], .list 8 [], .list 9 [], .list 12 []]], .cells 0 1 [.sl (n0 + 3) 0 0 PF.length], .cells 0 8 (exCells (PF.map Prod.snd))]) ++ [LO]) (fun i hi Y => by
        have := hy (i + 1) (i, PF[i]'(by omega)) Y ⟨rfl, List.getElem?_eq_getElem _⟩
        simpa only [List.getElem_map, List.append_assoc, List.cons_append, List.nil_append] using this)
      rw [hnl] at this
      exact this.mono fun r H' h => ⟨0, rfl, h⟩
    · rintro G' C' ρ' s ⟨j, t, x⟩ Y LO LB K1 K hGl hB' hCH hcl' hLO hLB ⟨hs, hb⟩ hK1 hK
      subst hs
      have hj : j < PF.length := (List.getElem?_eq_some_iff.1 hb).1
      have hbe : PF[j] = (t, x) := (List.getElem?_eq_some_iff.1 hb).2
      have hw := hW3 j hj
      have ha := hall j hj
      rw [hbe] at hw ha
      simp only at hw ha
      have h8 := hW4 (j + 1)
      have hG' : GClosed G' := by unfold GClosed; rw [hGl]; exact hG
      have X := And.intro noX (And.intro qx (And.intro hx21 (And.intro hx22 (And.intro hx23 (And.intro hx24 (And.intro hx25 (And.intro ha h8)))))))
      clear hall hW3 hW2 hW1
      simp only [List.append_assoc, List.cons_append, List.nil_append] at hcl' hCH ⊢
      (refine run ?_; repeat' (first | with_reducible exact trivial | ((with_reducible apply Fork.mk) <;> intro hb) | with_reducible apply Two.mk))
      refine hK1 _ _ (by rw [hx23]; rfl) ?_
      simp only [hx25, List.set_cons_succ, List.set_cons_zero]
      obtain ⟨xk, xn, xnn, xop, xns, xss, xbs, xas⟩ := x
      generalize hWj : W (j + 1) = b at *
      obtain ⟨y0, y1, y2, y3, y4, y5, y6, y7, rfl⟩ : ∃ y0 y1 y2 y3 y4 y5 y6 y7, b = [y0, y1, y2, y3, y4, y5, y6, y7] := by
        match b, h8 with
        | [y0, y1, y2, y3, y4, y5, y6, y7], _ => exact ⟨_, _, _, _, _, _, _, _, rfl⟩
      have h8j := hW4 j
      have X := And.intro (And.intro noX (And.intro qx (And.intro hx21 (And.intro hx22 (And.intro hx23 (And.intro hx24 (And.intro hx25 (And.intro ha h8)))))))) h8j
      (refine run ?_; repeat' (first | with_reducible exact trivial | ((with_reducible apply Fork.mk) <;> intro hb) | with_reducible apply Two.mk))
      refine xcallS (ahead_ok G' hG' (.mk xk xn xnn xop xns xss xbs xas) t [y0, y1, y2, y3, y4, y5, y6, y7] rfl _ (by rw [← hWj]; exact hW5 _ (by rw [List.length_append, hlen]; omega) _)) ?_
      rintro r H' ⟨rfl, rfl⟩
      rw [hw]
      (refine run ?_; repeat' (first | with_reducible exact trivial | ((with_reducible apply Fork.mk) <;> intro hb) | with_reducible apply Two.mk))
      refine hK _ _ ?_
      simp only [List.append_assoc, List.cons_append, List.nil_append]
      exact Wk.sub (by simp [subEnv])
    · intro s LO hs hLO
      subst hs
      simp only [List.append_assoc, List.cons_append, List.nil_append]
      have h80 := hW4 0
      have X := And.intro (And.intro noX (And.intro qx (And.intro hx21 (And.intro hx22 (And.intro hx23 (And.intro hx24 hx25)))))) h80
      (refine run ?_; repeat' (first | with_reducible exact trivial | ((with_reducible apply Fork.mk) <;> intro hb) | with_reducible apply Two.mk))
      exact finS (n0 := n0) hR hC' (hcls _ _) (.same _ (by simp only [resSV, SV.under]; exact hW5 _ (Nat.le_refl _) 0)) ⟨rfl, rfl⟩ (hn := hlen _ _)
end Go.Proofs.YtehfihnfeakmaaaGreatDoor
end

section
namespace Go.Proofs.YtehfihnfeakmaaaGreatDoor
open Go
set_option linter.unusedSimpArgs false
set_option linter.unusedVariables false
set_option maxRecDepth 10000
set_option maxHeartbeats 4000000

/-! ### copies of lists that hold nothing of anybody -/
theorem cloneS_list (G : Gl) (hG : GClosed G) (xs : List SV) (hu0 : ∀ n, SV.underL n xs = true) (H : List Blk) (hl : xs.length < 1000) : ACall Tryz.prog G 57 [.list 1 xs] H (fun r H' => H' = H ++ [.cells 0 1 xs] ∧ r = .sl H.length 0 0 xs.length) := by
  have hu : SV.underL H.length (List.drop 0 xs) = true := hu0 _
  refine ACall.of_go TB [2,5] tabOK _ Tryz.func57 rfl (by decide) Tryz.ntmps57 (by simp) rfl (by simp only [initEnv, Nat.reduceAdd]; rfl) fun C R' hR hC hcl hB => ?_; have X := noX; have hC' := congrArg List.length hC
  (refine runO ?_; repeat' (first | with_reducible exact trivial | ((with_reducible apply Fork.mk) <;> intro hb) | with_reducible apply Two.mk))
  · obtain rfl : xs = [] := List.length_eq_zero_iff.1 hb
    exact finK [(H.length + 1, 0)] (.sl H.length 0 0 0) [.cells 0 1 []] hR hC' hcl ⟨rfl, rfl⟩
  · exact finK [(H.length + 1, 0)] (.sl H.length 0 0 xs.length) [.cells 0 1 xs] hR hC' hcl ⟨rfl, rfl⟩
theorem cloneE_list (G : Gl) (hG : GClosed G) (xs : List SV) (hu0 : ∀ n, SV.underL n xs = true) (H : List Blk) (hl : xs.length < 1000) : ACall Tryz.prog G 83 [.list 8 xs] H (fun r H' => H' = H ++ [.cells 0 8 xs] ∧ r = .sl H.length 0 0 xs.length) := by
  have hu : SV.underL H.length (List.drop 0 xs) = true := hu0 _
  refine ACall.of_go TB [2,5] tabOK _ Tryz.func83 rfl (by decide) Tryz.ntmps83 (by simp) rfl (by simp only [initEnv, Nat.reduceAdd]; rfl) fun C R' hR hC hcl hB => ?_; have X := noX; have hC' := congrArg List.length hC
  (refine runO ?_; repeat' (first | with_reducible exact trivial | ((with_reducible apply Fork.mk) <;> intro hb) | with_reducible apply Two.mk))
  · obtain rfl : xs = [] := List.length_eq_zero_iff.1 hb
    exact finK [(H.length + 1, 0)] (.sl H.length 0 0 0) [.cells 0 8 []] hR hC' hcl ⟨rfl, rfl⟩
  · exact finK [(H.length + 1, 0)] (.sl H.length 0 0 xs.length) [.cells 0 8 xs] hR hC' hcl ⟨rfl, rfl⟩
theorem cloneB_list (G : Gl) (hG : GClosed G) (xs : List SV) (hu0 : ∀ n, SV.underL n xs = true) (H : List Blk) (hl : xs.length < 1000) : ACall Tryz.prog G 84 [.list 9 xs] H (fun r H' => H' = H ++ [.cells 0 9 xs] ∧ r = .sl H.length 0 0 xs.length) := by
  have hu : SV.underL H.length (List.drop 0 xs) = true := hu0 _
  refine ACall.of_go TB [2,5] tabOK _ Tryz.func84 rfl (by decide) Tryz.ntmps84 (by simp) rfl (by simp only [initEnv, Nat.reduceAdd]; rfl) fun C R' hR hC hcl hB => ?_; have X := noX; have hC' := congrArg List.length hC
  (refine runO ?_; repeat' (first | with_reducible exact trivial | ((with_reducible apply Fork.mk) <;> intro hb) | with_reducible apply Two.mk))
  · obtain rfl : xs = [] := List.length_eq_zero_iff.1 hb
    exact finK [(H.length + 1, 0)] (.sl H.length 0 0 0) [.cells 0 9 []] hR hC' hcl ⟨rfl, rfl⟩
  · exact finK [(H.length + 1, 0)] (.sl H.length 0 0 xs.length) [.cells 0 9 xs] hR hC' hcl ⟨rfl, rfl⟩
theorem cloneA_list (G : Gl) (hG : GClosed G) (xs : List SV) (hu0 : ∀ n, SV.underL n xs = true) (H : List Blk) (hl : xs.length < 1000) : ACall Tryz.prog G 85 [.list 12 xs] H (fun r H' => H' = H ++ [.cells 0 12 xs] ∧ r = .sl H.length 0 0 xs.length) := by
  have hu : SV.underL H.length (List.drop 0 xs) = true := hu0 _
  refine ACall.of_go TB [2,5] tabOK _ Tryz.func85 rfl (by decide) Tryz.ntmps85 (by simp) rfl (by simp only [initEnv, Nat.reduceAdd]; rfl) fun C R' hR hC hcl hB => ?_; have X := noX; have hC' := congrArg List.length hC
  (refine runO ?_; repeat' (first | with_reducible exact trivial | ((with_reducible apply Fork.mk) <;> intro hb) | with_reducible apply Two.mk))
  · obtain rfl : xs = [] := List.length_eq_zero_iff.1 hb
    exact finK [(H.length + 1, 0)] (.sl H.length 0 0 0) [.cells 0 12 []] hR hC' hcl ⟨rfl, rfl⟩
  · exact finK [(H.length + 1, 0)] (.sl H.length 0 0 xs.length) [.cells 0 12 xs] hR hC' hcl ⟨rfl, rfl⟩
theorem cloneC_list (G : Gl) (hG : GClosed G) (xs : List SV) (hu0 : ∀ n, SV.underL n xs = true) (H : List Blk) (hl : xs.length < 1000) : ACall Tryz.prog G 33 [.list 4 xs] H (fun r H' => H' = H ++ [.cells 0 4 xs] ∧ r = .sl H.length 0 0 xs.length) := by
  have hu : SV.underL H.length (List.drop 0 xs) = true := hu0 _
  refine ACall.of_go TB [2,5] tabOK _ Tryz.func33 rfl (by decide) Tryz.ntmps33 (by simp) rfl (by simp only [initEnv, Nat.reduceAdd]; rfl) fun C R' hR hC hcl hB => ?_; have X := noX; have hC' := congrArg List.length hC
  (refine runO ?_; repeat' (first | with_reducible exact trivial | ((with_reducible apply Fork.mk) <;> intro hb) | with_reducible apply Two.mk))
  · obtain rfl : xs = [] := List.length_eq_zero_iff.1 hb
    exact finK [(H.length + 1, 0)] (.sl H.length 0 0 0) [.cells 0 4 []] hR hC' hcl ⟨rfl, rfl⟩
  · exact finK [(H.length + 1, 0)] (.sl H.length 0 0 xs.length) [.cells 0 4 xs] hR hC' hcl ⟨rfl, rfl⟩
/-! ### what is lent: a call that only reads may be told of lists -/
theorem ACall.loan {P : Program} {G : Gl} {f : FuncId} {args args2 : List SV} {H : List Blk} {y : SV} (hG : GClosed G) (hB : Based G 0) (hf : FrzL H 0 [] args args2) (hy : ∀ c c' v, Rep c y v → Rep c' y v)
    (h : ACall P G f args2 [] (fun r _ => r = y)) : ACall P G f args H (fun r H' => H' = H ∧ r = y) := by
  refine ⟨h.1, fun c vs hH hc hg hv => ?_⟩
  subst hH
  have hk : KeepOK (H := []) (X := c.H) [] [] := KeepOK.nil
  have h00 := Cx.keep (θ := c.θ) (H := []) (X := c.H) (w := c.w) hc hk (fun B hB => by cases hB)
  have hv2 := (Frz.rep (θ := c.θ) (H := []) (X := c.H) (w := c.w) hc hk).2 hf vs hv
  have hg2 : GOK G ⟨thK c.θ ([] ++ c.H) 0 [], [], c.w⟩ := ⟨fun p hp => (Rep.keep_both (θ := c.θ) (H := []) (X := c.H) (w := c.w) hk).1 _ _ (hg.1 p hp) (hG p hp), fun C1 e => h00.2 C1 (hB C1 e) (hg.2 C1 e)⟩
  refine (h.2 ⟨thK c.θ ([] ++ c.H) 0 [], [], c.w⟩ vs rfl h00.1 hg2 hv2).mono ?_
  rintro e w' ⟨v, x, c', e1, e2, e3, e4, e5, e6⟩
  subst e2
  have hold : ∀ k, k < c.w.heap.size → c'.w.heap[k]? = c.w.heap[k]? := fun k hk => e6.old k hk (fun ⟨id, o, ⟨B, hB, _⟩, _⟩ => by cases hB)
  obtain ⟨g1, g2⟩ := Cx.world hc (w' := c'.w) hold e6.size e6.os e6.tape e6.output
  exact ⟨v, x, { c with w := c'.w }, e1, rfl, ⟨rfl, e3⟩, g2, by rw [e3] at e5 ⊢; exact hy _ _ _ e5, g1⟩
/-! ### a slice that is nil may be told as an empty list -/
def nilVL (f : SV → SV → Bool) : List SV → List SV → Bool
  | [], [] => true
  | x :: xs, y :: ys => f x y && nilVL f xs ys
  | _, _ => false
def nilV : Nat → SV → SV → Bool
  | 0, _, _ => false
  | d + 1, x, y => match x, y with
    | .agg a, .agg b => nilVL (nilV d) a b
    | .list s a, .list t b => Nat.beq s t && nilVL (nilV d) a b
    | .nil, .list _ [] => true
    | x, y => SV.same x y
theorem nilVL_ok {f : SV → SV → Bool} (hf : ∀ x y, f x y = true → ∀ c v, Rep c x v → Rep c y v) : ∀ {xs ys : List SV}, nilVL f xs ys = true → xs.length = ys.length ∧ ∀ c vs, RepL c xs vs → RepL c ys vs
  | [], [], _ => ⟨rfl, fun _ _ h => h⟩
  | x :: xs, y :: ys, h => by
    simp only [nilVL, Bool.and_eq_true] at h
    obtain ⟨h1, h2⟩ := nilVL_ok hf h.2
    refine ⟨by simp [h1], fun c vs hv => ?_⟩
    obtain ⟨u, us, a1, a2, rfl⟩ := RepL.cons_iff.1 hv
    exact RepL.mk_cons (hf _ _ h.1 _ _ a1) (h2 _ _ a2)
  | [], _ :: _, h => by cases h
  | _ :: _, [], h => by cases h
theorem nilV_ok : ∀ (d : Nat) (x y : SV), nilV d x y = true → ∀ c v, Rep c x v → Rep c y v
  | 0, _, _, h => by cases h
  | d + 1, x, y, h => by
    unfold nilV at h
    split at h
    · rename_i a b
      obtain ⟨_, h2⟩ := nilVL_ok (nilV_ok d) h
      intro c v hv
      simp only [Rep] at hv ⊢
      obtain ⟨vs, e1, e2, e3⟩ := hv
      exact ⟨vs, h2 _ _ e1, e2, e3⟩
    · rename_i s a t b
      simp only [Bool.and_eq_true] at h
      obtain ⟨h1, h2⟩ := nilVL_ok (nilV_ok d) h.2
      have hs := Nat.eq_of_beq_eq_true h.1
      subst hs
      intro c v hv
      simp only [Rep] at hv ⊢
      obtain ⟨p, cap, e1, e2, e3, e4⟩ := hv
      refine ⟨p, cap, by rw [e1, h1], by omega, e3, ?_⟩
      rcases e4 with e4 | ⟨b', o, vs, q1, q2, q3⟩
      · left
        subst e4
        exact List.length_eq_zero_iff.1 (by rw [← h1]; rfl)
      · exact .inr ⟨b', o, vs, q1, h2 _ _ q2, q3⟩
    · intro c v hv
      simp only [Rep] at hv ⊢
      exact ⟨none, 0, hv, Nat.le_refl _, Nat.zero_le _, .inl trivial⟩
    · rw [SV.same_both.1 _ _ h]
      exact fun _ _ h => h
theorem ACall.nilA {P : Program} {G : Gl} {f : FuncId} {x y : SV} {H : List Blk} {R : SV → List Blk → Prop} (h : ACall P G f [y] H R) {d : Nat} (hn : nilV d x y = true) : ACall P G f [x] H R :=
  ⟨h.1, fun c vs h1 h2 h3 h4 => h.2 c vs h1 h2 h3 (by
    obtain ⟨u, us, a1, a2, rfl⟩ := RepL.cons_iff.1 h4
    exact RepL.mk_cons (nilV_ok d _ _ hn _ _ a1) a2)⟩
/-! ### the example's own function -/
def primV (n : Int) (xs : List SV) : SV := .agg [.int .i64 8, .str [], .int .i64 0, .int .i64 n, .list 1 [], .list 8 xs, .list 9 [], .list 12 []]
theorem prim_list (G : Gl) (hG : GClosed G) (n : Int) (H : List Blk) : ACall Tryz.prog G 23 [.int .i64 n, .list 8 []] H (fun r H' => H' = H ∧ r = primV n []) := by
  refine ACall.of_go TB [] tabOK _ Tryz.func23 rfl (by decide) Tryz.ntmps23 (by simp) rfl (by simp only [initEnv, Nat.reduceAdd]; rfl) fun C R' hR hC hcl hB => ?_; have X := noX; have hC' := congrArg List.length hC
  (refine run ?_; repeat' (first | with_reducible exact trivial | ((with_reducible apply Fork.mk) <;> intro hb) | with_reducible apply Two.mk))
  exact finS (n0 := H.length) hR hC' hcl (.same _ rfl) ⟨rfl, rfl⟩
theorem prim_nil (G : Gl) (hG : GClosed G) (n : Int) (H : List Blk) : ACall Tryz.prog G 23 [.int .i64 n, .nil] H (fun r H' => H' = H ∧ r = primV n []) :=
  ⟨(prim_list G hG n H).1, fun c vs h1 h2 h3 h4 => (prim_list G hG n H).2 c vs h1 h2 h3 (by
    obtain ⟨u, us, a1, a2, rfl⟩ := RepL.cons_iff.1 h4
    obtain ⟨u2, us2, a3, a4, rfl⟩ := RepL.cons_iff.1 a2
    exact RepL.mk_cons a1 (RepL.mk_cons (nilV_ok 1 .nil (.list 8 []) rfl _ _ a3) a4))⟩
/-! ### the chapter's example -/
def nF : Str := [102]
def getE : Ex := .mk 8 [] 0 9 [] [] [] []
def caseE (t : Str) (a b : Ex) : Ex := .mk 6 t 0 0 [] [a] [] [.mk 3 [] 0 [] b]
def callE (l : List Ex) : Ex := .mk 4 [] 0 0 [] l [] []
def EF : Ex := .mk 3 [] 0 0 [[97], [98]] [.mk 6 [120] 0 0 [] [.mk 8 [] 0 8 [] [varE [97], .mk 2 [] 0 0 [] [] [] []] [] []] [] [.mk 1 [80, 114, 105, 109, 46, 84, 114, 117, 101] 0 [] (varE [98]), .mk 1 [80, 114, 105, 109, 46, 70, 97, 108, 115, 101] 0 [] (.mk 8 [] 0 1 [] [varE [98], varE [97]] [] [])]] [] []
def EM0 : Ex := .mk 3 [] 0 0 [[115]] [callE [varE nF, getE, getE]] [] []
def EM : Ex := .mk 3 [] 0 0 [[115]] [caseE [116, 35, 49] getE (caseE [116, 35, 50] getE (callE [varE nF, varE [116, 35, 49], varE [116, 35, 50]]))] [] []
def P0 : Pg := ⟨kno4, [.mk nF EF, .mk mainN EM0]⟩
def O0 : List Od := [⟨nF, 2, [0, 1]⟩, ⟨mainN, 1, []⟩]
def Q0 : Pg := ⟨kno4, [.mk nF EF, .mk mainN EM]⟩
def its0 (n : Nat) : Str := [UInt8.ofNat (48 + n)]
def S00 : List Ex := [varE nF, getE, getE]
def ovC (f : FuncId) (sz : Nat) (xs : List SV) (H : List Blk) : Option (SV × List Blk) :=
  bif ((Nat.beq f 57 && Nat.beq sz 1) || (Nat.beq f 83 && Nat.beq sz 8) || (Nat.beq f 84 && Nat.beq sz 9) || (Nat.beq f 85 && Nat.beq sz 12) || (Nat.beq f 33 && Nat.beq sz 4)) && SV.underL 0 xs && Nat.blt xs.length 1000
  then some (.sl H.length 0 0 xs.length, H ++ [.cells 0 sz xs]) else none
/-- what is known already -/
def ovA : RC := fun f args H => match args with
  | [.str s] => bif Nat.beq f 81 && decide (s.length ≤ 18) && (Lib.atoi s).isNone then some (.tuple [.int .i64 0, .ptr H.length 0 0 0], H ++ [.dead]) else none
  | [.list sz xs] => ovC f sz xs H
  | [.int .i64 n, .nil] => bif Nat.beq f 23 then some (primV n [], H) else none
  | [x] => bif Nat.beq f 8 then (bif nilV 30 x P0.sv then some (.tuple [.list 3 (odCells O0), .int .i64 0], H) else none)
    else bif Nat.beq f 19 then (match frzV H 0 30 x with
      | some y => bif nilV 30 y Q0.sv then some (.int .i64 0, H) else none
      | none => none) else none
  | [.ptr sb g0 0 0, .agg [k, nm, n, op, names, .sl id g 0 3, xb, xa], y] => bif Nat.beq f 88 && SV.same (.agg [k, nm, n, op, names]) (.agg [.int .i64 4, .str [], .int .i64 0, .int .i64 0, .list 1 []]) && SV.same y (.list 1 (intL [0, 1])) then (match H[id]?, H[sb]? with
      | some (.cells g' 8 xs), some (.cells g0' 2 [.agg [kb, .int .i64 1]]) =>
        bif Nat.beq g g' && Nat.beq g0 g0' && SV.same (.list 8 xs) (.list 8 (exCells S00)) && kb.under H.length && xb.under H.length && xa.under H.length && xb.leaf && xa.leaf then
          some (.agg (wrapV (givF its0 [0, 1] S00 1).1 [.int .i64 4, .str [], .int .i64 0, .int .i64 0, .list 1 [], .sl id g 0 3, xb, xa]), (H.set id (.cells g 8 (exCells (givF its0 [0, 1] S00 1).2.1))).set sb (.cells g0 2 [.agg [kb, .int .i64 ((givF its0 [0, 1] S00 1).2.2 : Int)]])) else none
      | _, _ => none) else none
  | _ => none
def owA (f : FuncId) : List Nat := []
def gcA (f : FuncId) : Bool := Nat.beq f 34 || Nat.beq f 27 || Nat.beq f 114
def isT : Option (SV × List Blk) → Bool
  | some (.bool true, _) => true
  | _ => false
end Go.Proofs.YtehfihnfeakmaaaGreatDoor
end
