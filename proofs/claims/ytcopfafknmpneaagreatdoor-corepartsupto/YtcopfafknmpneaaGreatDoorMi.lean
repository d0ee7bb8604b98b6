/- A part of the proof: D0, D1, D2, D3, K1, K2. -/
import Derived.Test.YtcopfafknmpneaaGreatDoorMh

section
namespace Go.Proofs.YtcopfafknmpneaaGreatDoor
open Go
set_option linter.unusedSimpArgs false
set_option linter.unusedVariables false
set_option maxRecDepth 10000
set_option maxHeartbeats 4000000

/-! ### how deep an expression is -/
def maxL (l : List Nat) : Nat := l.foldl max 0
theorem maxL_app (l : List Nat) (x : Nat) : maxL (l ++ [x]) = max (maxL l) x := by simp [maxL, List.foldl_append]
theorem maxL_le {n : Nat} : ∀ {l : List Nat}, (∀ x ∈ l, x ≤ n) → maxL l ≤ n := by
  intro l h
  have key : ∀ (l : List Nat) (a : Nat), a ≤ n → (∀ x ∈ l, x ≤ n) → l.foldl max a ≤ n := by
    intro l
    induction l with
    | nil => intro a ha _; exact ha
    | cons x r ih => intro a ha h; exact ih _ (Nat.max_le.2 ⟨ha, h x (List.mem_cons_self ..)⟩) (fun y hy => h y (List.mem_cons_of_mem _ hy))
  exact key l 0 (Nat.zero_le _) h
def depF : Nat → Ex → Nat
  | 0, _ => 0
  | m + 1, e => maxL (e.parts.map (depF m)) + 1
theorem depF_le : ∀ (m : Nat) (e : Ex), depF m e ≤ m
  | 0, _ => Nat.le_refl _
  | m + 1, e => by
    have := maxL_le (n := m) (l := e.parts.map (depF m)) (fun x hx => by
      obtain ⟨p, _, rfl⟩ := List.mem_map.1 hx
      exact depF_le m p)
    unfold depF
    omega
theorem depF_fuel : ∀ (m m' : Nat) (e : Ex), e.wt ≤ m → e.wt ≤ m' → depF m e = depF m' e
  | 0, _, e, h, _ => absurd e.wt_pos (by omega)
  | m + 1, 0, e, _, h => absurd e.wt_pos (by omega)
  | m + 1, m' + 1, e, h, h' => by
    unfold depF
    rw [List.map_congr_left (g := depF m') fun p hp => depF_fuel m m' p (by have := Ex.wt_parts hp; omega) (by have := Ex.wt_parts hp; omega)]
/-- how deep -/
def dep (e : Ex) : Nat := depF e.wt e
theorem dep_parts (e : Ex) : dep e = maxL (e.parts.map dep) + 1 := by
  have hp := e.wt_pos
  obtain ⟨m, hm⟩ : ∃ m, e.wt = m + 1 := ⟨e.wt - 1, by omega⟩
  unfold dep
  rw [hm, depF, List.map_congr_left (g := fun p => depF p.wt p) fun p hp => depF_fuel m p.wt p (by have := Ex.wt_parts hp; omega) (Nat.le_refl _)]

/-! ### all that is bound in an expression -/
def bndF : Nat → Ex → List Str
  | 0, _ => []
  | m + 1, .mk kd nm _ _ names subs binds alts => (if kd = 3 then names else []) ++ subs.flatMap (bndF m) ++ binds.flatMap (fun b => b.name :: bndF m b.e) ++ (if kd = 6 then [nm] else []) ++ alts.flatMap (fun a => a.names ++ bndF m a.body)
theorem bndF_fuel : ∀ (m m' : Nat) (e : Ex), e.wt ≤ m → e.wt ≤ m' → bndF m e = bndF m' e
  | 0, _, e, h, _ => absurd e.wt_pos (by omega)
  | m + 1, 0, e, _, h => absurd e.wt_pos (by omega)
  | m + 1, m' + 1, .mk kd nm nn op names subs binds alts, h, h' => by
    have hw : ∀ p ∈ (Ex.mk kd nm nn op names subs binds alts).parts, bndF m p = bndF m' p := fun p hp => bndF_fuel m m' p (by have := Ex.wt_parts hp; omega) (by have := Ex.wt_parts hp; omega)
    rw [Ex.parts_mk] at hw
    have h1 : subs.flatMap (bndF m) = subs.flatMap (bndF m') := by
      rw [List.flatMap_def, List.flatMap_def, List.map_congr_left (g := bndF m') fun p hp => hw p (by simp [hp])]
    have h2 : binds.flatMap (fun b => b.name :: bndF m b.e) = binds.flatMap (fun b => b.name :: bndF m' b.e) := by
      rw [List.flatMap_def, List.flatMap_def, List.map_congr_left (g := fun b => b.name :: bndF m' b.e) fun b hb => by rw [hw b.e (by simp; exact .inr (.inl ⟨b, hb, rfl⟩))]]
    have h3 : alts.flatMap (fun a => a.names ++ bndF m a.body) = alts.flatMap (fun a => a.names ++ bndF m' a.body) := by
      rw [List.flatMap_def, List.flatMap_def, List.map_congr_left (g := fun a => a.names ++ bndF m' a.body) fun a ha => by rw [hw a.body (by simp; exact .inr (.inr ⟨a, ha, rfl⟩))]]
    rw [bndF, bndF, h1, h2, h3]
theorem flat_len {α : Type} {f : α → List Str} {g : List α → Nat} {w : α → Nat} (h0 : g [] = 0) (h1 : ∀ x l, g (x :: l) = w x + g l) : ∀ {l : List α}, (∀ x ∈ l, (f x).length ≤ w x) → (l.flatMap f).length ≤ g l
  | [], _ => by simp
  | x :: r, h => by
    have h2 := flat_len (l := r) h0 h1 (fun y hy => h y (List.mem_cons_of_mem _ hy))
    have h3 := h x (List.mem_cons_self ..)
    rw [List.flatMap_cons, List.length_append, h1]
    omega
theorem bndF_len : ∀ (m : Nat) (e : Ex), (bndF m e).length ≤ e.wt
  | 0, e => by simp [bndF]
  | m + 1, .mk kd nm nn op names subs binds alts => by
    have h1 : (subs.flatMap (bndF m)).length ≤ exsWt subs := flat_len (w := Ex.wt) rfl (fun _ _ => rfl) fun x _ => bndF_len m x
    have h2 : (binds.flatMap (fun b => b.name :: bndF m b.e)).length ≤ bdsWt binds := flat_len (w := Bd.wt) rfl (fun _ _ => rfl) fun b _ => by
      have := bndF_len m b.e
      have := b.wt_gt
      simp only [List.length_cons]; omega
    have h3 : (alts.flatMap (fun a => a.names ++ bndF m a.body)).length ≤ alsWt alts := flat_len (w := Al.wt) rfl (fun _ _ => rfl) fun a _ => by
      have := bndF_len m a.body
      obtain ⟨k, s, n, l, e⟩ := a
      have := strsWt_len l
      simp only [Al.wt, Al.names, Al.body, List.length_append] at *; omega
    have h4 := strsWt_len names
    have h5 : (if kd = 3 then names else []).length ≤ names.length := by split <;> simp
    have h6 : (if kd = 6 then [nm] else []).length ≤ 1 := by split <;> simp
    simp only [bndF, List.length_append, Ex.wt]
    omega
def bnds (e : Ex) : List Str := bndF e.wt e
theorem bnds_mk (kd : Int) (nm : Str) (nn op : Int) (names : List Str) (subs : List Ex) (binds : List Bd) (alts : List Al) :
    bnds (.mk kd nm nn op names subs binds alts) = (if kd = 3 then names else []) ++ subs.flatMap bnds ++ binds.flatMap (fun b => b.name :: bnds b.e) ++ (if kd = 6 then [nm] else []) ++ alts.flatMap (fun a => a.names ++ bnds a.body) := by
  have hp := (Ex.mk kd nm nn op names subs binds alts).wt_pos
  obtain ⟨m, hm⟩ : ∃ m, (Ex.mk kd nm nn op names subs binds alts).wt = m + 1 := ⟨(Ex.mk kd nm nn op names subs binds alts).wt - 1, by omega⟩
  have hw : ∀ p ∈ (Ex.mk kd nm nn op names subs binds alts).parts, bndF m p = bnds p := fun p hp => bndF_fuel m p.wt p (by have := Ex.wt_parts hp; omega) (Nat.le_refl _)
  rw [Ex.parts_mk] at hw
  have h1 : subs.flatMap (bndF m) = subs.flatMap bnds := by
    rw [List.flatMap_def, List.flatMap_def, List.map_congr_left (g := bnds) fun p hp => hw p (by simp [hp])]
  have h2 : binds.flatMap (fun b => b.name :: bndF m b.e) = binds.flatMap (fun b => b.name :: bnds b.e) := by
    rw [List.flatMap_def, List.flatMap_def, List.map_congr_left (g := fun b => b.name :: bnds b.e) fun b hb => by rw [hw b.e (by simp; exact .inr (.inl ⟨b, hb, rfl⟩))]]
  have h3 : alts.flatMap (fun a => a.names ++ bndF m a.body) = alts.flatMap (fun a => a.names ++ bnds a.body) := by
    rw [List.flatMap_def, List.flatMap_def, List.map_congr_left (g := fun a => a.names ++ bnds a.body) fun a ha => by rw [hw a.body (by simp; exact .inr (.inr ⟨a, ha, rfl⟩))]]
  rw [bnds, hm, bndF, h1, h2, h3]
theorem bnds_sub {e p : Ex} (hp : p ∈ e.parts) {s : Str} (hs : s ∈ bnds p) : s ∈ bnds e := by
  obtain ⟨kd, nm, nn, op, names, subs, binds, alts⟩ := e
  rw [Ex.parts_mk] at hp
  rw [bnds_mk]
  simp only [List.mem_append, List.mem_flatMap, List.mem_map, List.mem_cons] at hp ⊢
  rcases hp with h | ⟨b, h, rfl⟩ | ⟨a, h, rfl⟩
  · exact .inl (.inl (.inl (.inr ⟨p, h, hs⟩)))
  · exact .inl (.inl (.inr ⟨b, h, .inr hs⟩))
  · exact .inr ⟨a, h, .inr hs⟩

/-! ### free names -/
theorem shp_mono : ∀ (m m' : Nat) (e : Ex), m' ≤ m → shp m e → shp m' e
  | _, 0, _, _, _ => trivial
  | 0, m' + 1, _, h, _ => by omega
  | m + 1, m' + 1, e, h, hs => ⟨hs.1, hs.2.1, fun p hp => shp_mono m m' p (by omega) (hs.2.2 p hp)⟩
theorem shp_part {e p : Ex} (h : shp e.wt e) (hp : p ∈ e.parts) : shp p.wt p := by
  have hw := Ex.wt_parts hp
  obtain ⟨m, hm⟩ : ∃ m, e.wt = m + 1 := ⟨e.wt - 1, by omega⟩
  rw [hm] at h
  exact shp_mono m p.wt p (by omega) (h.2.2 p hp)
theorem occS_pos {s : Str} : ∀ {l : List Ex}, 0 < occS s l → ∃ x ∈ l, 0 < occ s x
  | [], h => by simp [occS] at h
  | x :: r, h => by
    by_cases hx : 0 < occ s x
    · exact ⟨x, List.mem_cons_self .., hx⟩
    · have : 0 < occS s r := by simp only [occS, List.map_cons, List.sum_cons] at h ⊢; omega
      obtain ⟨y, h1, h2⟩ := occS_pos this
      exact ⟨y, List.mem_cons_of_mem _ h1, h2⟩
theorem free_part {e : Ex} (h : shp e.wt e) (hk : e.kind ≠ 1) {s : Str} (hs : s ∈ freeS e) : ∃ p ∈ e.parts, s ∈ freeS p := by
  rw [free_used s e h] at hs
  obtain ⟨kd, nm, nn, op, names, subs, binds, alts⟩ := e
  have hk : kd ≠ 1 := hk
  by_cases ho : s ∈ ownOf kd names binds
  · rw [occ, if_neg hk, if_pos ho] at hs; omega
  · rw [occ_us s hk ho] at hs
    obtain ⟨x, h1, h2⟩ := occS_pos hs
    have hx := usL_parts (nn := nn) (op := op) (names := names) h1
    exact ⟨x, hx, (free_used s x (shp_part h hx)).2 h2⟩
theorem unb_nodup : ∀ (m : Nat) (e : Ex) (st : BO), st.2.Nodup → (unbF m e st).2.Nodup
  | 0, e, st, h => by simpa [unbF] using h
  | m + 1, e, st, h => by
    rw [unbF]
    split
    · split
      · exact putO_nodup h _
      · exact h
    · generalize scopeParts e = l
      induction l generalizing st with
      | nil => exact h
      | cons p l ih => exact ih _ (unb_nodup m p.1 (incB st.1 p.2, st.2) h)
theorem freeS_lt (e : Ex) : (freeS e).Pairwise (fun x y => x < y) := by
  have tr : ∀ a b c : List UInt8, (decide (a ≤ b)) = true → (decide (b ≤ c)) = true → (decide (a ≤ c)) = true := fun a b c h1 h2 => by simp only [decide_eq_true_eq] at *; exact List.le_trans h1 h2
  have to : ∀ a b : List UInt8, (decide (a ≤ b) || decide (b ≤ a)) = true := fun a b => by simp only [Bool.or_eq_true, decide_eq_true_eq]; exact List.le_total a b
  have h1 : (freeS e).Pairwise (fun x y : List UInt8 => (decide (x ≤ y)) = true) := List.pairwise_mergeSort tr to _
  have h2 : (freeS e).Nodup := (sortS_perm _).nodup_iff.2 (unb_nodup _ e ([], []) List.nodup_nil)
  refine List.pairwise_iff_getElem.2 fun i j hi hj hij => ?_
  have h := List.pairwise_iff_getElem.1 h1 i j hi hj hij
  have hn := List.pairwise_iff_getElem.1 h2 i j hi hj hij
  generalize (freeS e)[i] = a at *
  generalize (freeS e)[j] = b at *
  have h : a ≤ b := of_decide_eq_true h
  rcases Classical.em (a < b) with h3 | h3
  · exact h3
  · exact (hn (List.le_antisymm h h3)).elim
/-- one name is never behind one that is no smaller -/
theorem freeS_step (e : Ex) {i : Nat} (h : i + 1 < (freeS e).length) : (strLess (freeS e)[i + 1] (freeS e)[i] || decide ((freeS e)[i + 1] = (freeS e)[i])) = false := by
  have hlt := List.pairwise_iff_getElem.1 (freeS_lt e) i (i + 1) (by omega) h (by omega)
  rw [Bool.or_eq_false_iff]
  unfold strLess
  rw [bytesLess_eq]
  refine ⟨decide_eq_false fun h2 => ?_, decide_eq_false fun h2 => ?_⟩
  · exact List.lt_irrefl (α := UInt8) _ (List.lt_trans hlt h2)
  · rw [h2] at hlt; exact List.lt_irrefl (α := UInt8) _ hlt
end Go.Proofs.YtcopfafknmpneaaGreatDoor
end

section
namespace Go.Proofs.YtcopfafknmpneaaGreatDoor
open Go
set_option linter.unusedSimpArgs false
set_option linter.unusedVariables false
set_option maxRecDepth 10000
set_option maxHeartbeats 4000000

theorem has10_list (G : Gl) (l : List Str) (v : Str) (H : List Blk) (hl : l.length < 4611686018427387904) :
    ACall Tryz.prog G 14 [.list 1 (l.map .str), .str v] H (fun r H' => H' = H ∧ r = .bool (decide (v ∈ l))) := by
  refine ACall.of_go TB [] tabOK _ Tryz.func14 rfl (by decide) Tryz.ntmps14 (by simp) rfl (by simp only [initEnv, Nat.reduceAdd]; rfl) fun C R' hR hC hcl hB => ?_; have X := noX; have hC' := congrArg List.length hC
  (refine runO ?_; repeat' (first | with_reducible exact trivial | ((with_reducible apply Fork.mk) <;> intro hb) | with_reducible apply Two.mk))
  refine go_loop (fun i : Nat => [(0, .list 1 (l.map .str)), (1, .str v), (5, .int .i64 i)]) (fun _ => H) (fun i => l.length - i) (fun i => i ≤ l.length ∧ v ∉ l.take i) 0 (by simp) (Wk.sub (by simp [subEnv, look])) ?_
  intro K i hi hK
  (refine runO ?_; repeat' (first | with_reducible exact trivial | ((with_reducible apply Fork.mk) <;> intro hb) | with_reducible apply Two.mk))
  · have hi' : i < l.length := by omega
    exact Fin.out hR ⟨rfl, by rw [decide_eq_true (by rw [← hb]; exact List.getElem_mem hi')]; rfl⟩
  · have hi' : i < l.length := by omega
    exact hK _ _ (i + 1) (by omega) ⟨hi', by rw [List.take_succ_eq_append_getElem hi', List.mem_append]; simp only [hi.2, List.mem_singleton, false_or]; exact fun h => hb h.symm⟩ (Wk.sub (by simp [subEnv, look]))
  · have : l.take i = l := List.take_of_length_le (by omega)
    exact Fin.out hR ⟨rfl, by rw [decide_eq_false (by rw [← this]; exact hi.2)]; rfl⟩
end Go.Proofs.YtcopfafknmpneaaGreatDoor
end

section
namespace Go.Proofs.YtcopfafknmpneaaGreatDoor
open Go
set_option linter.unusedSimpArgs false
set_option linter.unusedVariables false
set_option maxRecDepth 10000
set_option maxHeartbeats 4000000

def DepC (G : Gl) (m : Nat) : Prop := ∀ (e : Ex) (H : List Blk), e.wt ≤ m → ACall Tryz.prog G 12 [e.sv] H (fun r H' => H' = H ∧ r = .int .i64 (depF m e))
theorem max_nat (n d : Nat) : (if (n : Int) < (d : Int) then (d : Int) else (n : Int)) = ((max n d : Nat) : Int) := by
  split <;> omega
theorem depth1_ok (G : Gl) (hG : GClosed G) (m : Nat) (hm : m < 4294967296) (hrec : DepC G m) (p : Ex) (H : List Blk) (n nb : Nat) (hp : p.wt ≤ m) (h1 : H[nb]? = some (szC n)) (hn : n < 4294967296) :
    ACall Tryz.prog G 36 [p.sv, .ptr nb 0 0 0] H (fun r H' => H' = H.set nb (szC (max n (depF m p) : Nat)) ∧ r = .bool true) := by
  have hlt : nb < H.length := (List.getElem?_eq_some_iff.1 h1).1
  have hd := depF_le m p
  have c1 := fun H => hrec p H hp
  generalize depF m p = d at *
  refine ACall.of_go TB [] tabOK _ Tryz.func36 rfl (by decide) Tryz.ntmps36 (by simp) rfl (by simp only [initEnv, Nat.reduceAdd]; rfl) fun C R' hR hC hcl hB => ?_; have X := noX; have hC' := congrArg List.length hC
  have X := And.intro h1 (show IntKind.i64.min ≤ (d : Int) ∧ (d : Int) ≤ IntKind.i64.max from ⟨by show (-9223372036854775808 : Int) ≤ _; omega, by show _ ≤ (9223372036854775807 : Int); omega⟩)
  unfold szC at X
  (refine run ?_; repeat' (first | with_reducible exact trivial | ((with_reducible apply Fork.mk) <;> intro hb) | with_reducible apply Two.mk))
  rw [max_nat]
  exact Fin.tellN (n0 := H.length) hR (by simp) hC' (hcl.set rfl) (.same _ rfl) ⟨rfl, rfl⟩
theorem maxL_take (l : List Nat) (i : Nat) (h : i < l.length) : maxL (l.take (i + 1)) = max (maxL (l.take i)) l[i] := by
  rw [List.take_succ_eq_append_getElem h, maxL_app]
theorem depth_ok (G : Gl) (hG : GClosed G) : ∀ m, m < 4294967296 → DepC G m
  | 0, _, e, _, h => absurd e.wt_pos (by omega)
  | m + 1, hm2, e, H, hm => by
    have hrec := depth_ok G hG m (by omega)
    have hmx : ∀ i, maxL ((e.parts.map (depF m)).take i) ≤ m := fun i => maxL_le fun x hx => by
      obtain ⟨p, _, rfl⟩ := List.mem_map.1 (List.mem_of_mem_take hx)
      exact depF_le m p
    refine ACall.of_go TB [] tabOK _ Tryz.func12 rfl (by decide) Tryz.ntmps12 (by simp) rfl (by simp only [initEnv, Nat.reduceAdd]; rfl) fun C R' hR hC hcl hB => ?_; have X := noX; have hC' := congrArg List.length hC
    have heach := each_ok G hG e (by omega) (.fn (.func 36) [] [.ptr (H.length + 1) 0 0 0]) (fun i => H ++ [.cells 0 8 [.agg e.cells], szC (maxL ((e.parts.map (depF m)).take i) : Nat)]) (H.length + 2) (fun i => by simp) (by simp [SV.under, SV.underL])
      (fun h i => by
        have := h.set (id := H.length + 1) (b := szC (maxL ((e.parts.map (depF m)).take i) : Nat)) rfl
        simpa using this) (fun i p X hp => by
        have hpw := Ex.wt_parts (List.mem_of_getElem? hp)
        have hlp := (List.getElem?_eq_some_iff.1 hp)
        have hli : i < (e.parts.map (depF m)).length := by simpa using hlp.1
        have hnx := maxL_take (e.parts.map (depF m)) i hli
        have hget : (e.parts.map (depF m))[i] = depF m p := by simp [hlp.2]
        rw [hget] at hnx
        have hi := hmx i
        refine ACallV.of (first := []) (args := [p.sv]) (cap := [.ptr (H.length + 1) 0 0 0]) ((depth1_ok G hG m (by omega) hrec p _ (maxL ((e.parts.map (depF m)).take i)) (H.length + 1) (by omega) (by simp) (by omega)).mono ?_)
        rintro r H' ⟨rfl, rfl⟩
        refine ⟨?_, rfl⟩
        rw [hnx]
        simp)
    have h0 : maxL ((e.parts.map (depF m)).take 0) = 0 := rfl
    have hall : maxL ((e.parts.map (depF m)).take e.parts.length) = maxL (e.parts.map (depF m)) := by
      rw [List.take_of_length_le (by simp)]
    simp only [szC, h0, hall] at heach
    have hmm := hmx e.parts.length
    rw [hall] at hmm
    unfold depF at hR
    generalize maxL (e.parts.map (depF m)) = d at *
    (refine run ?_; repeat' (first | with_reducible exact trivial | ((with_reducible apply Fork.mk) <;> intro hb) | with_reducible apply Two.mk))
    refine callS heach ?_
    rintro r H' ⟨rfl, rfl⟩
    (refine run ?_; repeat' (first | with_reducible exact trivial | ((with_reducible apply Fork.mk) <;> intro hb) | with_reducible apply Two.mk))
    exact Fin.tellN (n0 := H.length) hR (by simp) hC' hcl (.same _ rfl) ⟨rfl, by simp only [resSV]; rfl⟩
end Go.Proofs.YtcopfafknmpneaaGreatDoor
end

section
namespace Go.Proofs.YtcopfafknmpneaaGreatDoor
open Go
set_option linter.unusedSimpArgs false
set_option linter.unusedVariables false
set_option maxRecDepth 10000
set_option maxHeartbeats 4000000

theorem flat_seq {α : Type} (f : α → List Str) (pre : List Str) (l : List α) : ∃ L : Nat → List Str, L 0 = pre ∧ (∀ (i : Nat) (h : i < l.length), L (i + 1) = L i ++ f l[i]) ∧ (∀ i, (L i).length ≤ (pre ++ l.flatMap f).length) ∧ L l.length = pre ++ l.flatMap f := by
  refine ⟨fun i => pre ++ (l.take i).flatMap f, by simp, fun i h => ?_, fun i => ?_, by simp⟩
  · simp only [List.take_succ_eq_append_getElem h, List.flatMap_append, List.flatMap_cons, List.flatMap_nil, List.append_nil, List.append_assoc]
  · have h : l.flatMap f = (l.take i).flatMap f ++ (l.drop i).flatMap f := by rw [← List.flatMap_append, List.take_append_drop]
    simp only [h, List.length_append]; omega
def BndC (G : Gl) (m : Nat) : Prop := ∀ (e : Ex) (H : List Blk), e.wt ≤ m → e.wt < 4294967296 → ACall Tryz.prog G 10 [e.sv] H (fun r H' => H' = H ++ [.cells 0 1 ((bndF m e).map .str)] ∧ r = .sl H.length 0 0 (bndF m e).length)
theorem binders_ok (G : Gl) (hG : GClosed G) : ∀ m, BndC G m
  | 0, e, H, h, _ => absurd e.wt_pos (by omega)
  | m + 1, e, H, hm, hw0 => by
    have hrec := binders_ok G hG m
    obtain ⟨kd, nm, nn, op, names, subs, binds, alts⟩ := e
    have hle := Ex.wt_lens kd nm nn op names subs binds alts
    have hln := bndF_len (m + 1) (.mk kd nm nn op names subs binds alts)
    have hpw : ∀ p ∈ (Ex.mk kd nm nn op names subs binds alts).parts, p.wt ≤ m ∧ p.wt < 4294967296 := fun p hp => by have := Ex.wt_parts hp; exact ⟨by omega, by omega⟩
    rw [Ex.parts_mk] at hpw
    have eb : bndF (m + 1) (.mk kd nm nn op names subs binds alts) = (if kd = 3 then names else []) ++ subs.flatMap (bndF m) ++ binds.flatMap (fun b => b.name :: bndF m b.e) ++ (if kd = 6 then [nm] else []) ++ alts.flatMap (fun a => a.names ++ bndF m a.body) := rfl
    rw [eb] at hln ⊢
    clear eb
    have h3n : (if kd = 3 then names else []).length ≤ names.length := by split <;> simp
    generalize hl0 : (if kd = 3 then names else []) = l0 at *
    generalize hl5 : (if kd = 6 then [nm] else []) = l5 at *
    obtain ⟨L1, a1, a2, a3, a4⟩ := flat_seq (bndF m) l0 subs
    rw [← a4] at hln ⊢
    obtain ⟨L2, b1, b2, b3, b4⟩ := flat_seq (fun b : Bd => b.name :: bndF m b.e) (L1 subs.length) binds
    rw [← b4] at hln ⊢
    obtain ⟨L4, d1, d2, d3, d4⟩ := flat_seq (fun a : Al => a.names ++ bndF m a.body) (L2 binds.length ++ l5) alts
    rw [← d4] at hln ⊢
    rw [← a4] at a3
    rw [← b4] at b3
    rw [← d4] at d3
    have q4 : (L2 binds.length).length + l5.length ≤ (L4 alts.length).length := by have := d3 0; rw [d1, List.length_append] at this; exact this
    have q2 : (L1 subs.length).length ≤ (L2 binds.length).length := by have := b3 0; rw [b1] at this; exact this
    generalize hW : (Ex.mk kd nm nn op names subs binds alts).wt = W at *
    refine ACall.of_go TB [3] tabOK _ Tryz.func10 rfl (by decide) Tryz.ntmps10 (by simp) rfl (by simp only [initEnv, Nat.reduceAdd]; rfl) fun C R' hR hC hcl hB => ?_; have X := noX; have hC' := congrArg List.length hC
    (refine runC ?_; repeat' (first | with_reducible exact trivial | ((with_reducible apply Fork.mk) <;> intro hb) | with_reducible apply Two.mk))
    refine go_cut (fun _ : Unit => [(1, .ptr H.length 0 0 0), (3, .sl (H.length + 1) 0 0 l0.length)]) (fun _ => H ++ [.cells 0 8 [.agg [.int .i64 kd, .str nm, .int .i64 nn, .int .i64 op, .list 1 (names.map .str), .list 8 (exCells subs), .list 9 (bdCells binds), .list 12 (alCells alts)]], .cells 0 1 (l0.map .str)]) (fun _ => True) (fun K hK => ?_) (fun _ _ => ?_)
    · (refine runO ?_; repeat' (first | with_reducible exact trivial | ((with_reducible apply Fork.mk) <;> intro hb) | with_reducible apply Two.mk))
      · refine hK _ _ () trivial ?_
        rw [if_pos hb] at hl0
        subst hl0
        exact wkS (n0 := H.length) [(H.length, 0), (H.length + 1, 0)] hG hB hC' hcl
      · refine hK _ _ () trivial ?_
        rw [if_neg hb] at hl0
        subst hl0
        simp only [List.length_nil, List.map_nil]
        exact wkS (n0 := H.length) [(H.length, 0), (H.length + 1, 0)] hG hB hC' hcl
    (refine runO ?_; repeat' (first | with_reducible exact trivial | ((with_reducible apply Fork.mk) <;> intro hb) | with_reducible apply Two.mk))
    refine go_loop (fun i : Nat => [(1, .ptr H.length 0 0 0), (3, .sl (H.length + 1) 0 0 (L1 i).length), (18, .list 8 (exCells subs)), (19, .int .i64 subs.length), (20, .int .i64 i)])
      (fun i => H ++ [.cells 0 8 [.agg [.int .i64 kd, .str nm, .int .i64 nn, .int .i64 op, .list 1 (names.map .str), .list 8 (exCells subs), .list 9 (bdCells binds), .list 12 (alCells alts)]], .cells 0 1 ((L1 i).map .str)]) (fun i => subs.length - i) (fun i => i ≤ subs.length) 0 (Nat.zero_le _) ?_ ?_
    · rw [a1]
      exact Wk.sub (by simp [subEnv, look])
    rintro K i hi hK
    rcases Nat.lt_or_ge i subs.length with hlt | hge
    · have c1 := fun H => hrec subs[i] H (hpw _ (by simp)).1 (hpw _ (by simp)).2
      have e1 := a2 i hlt
      have e2 := a3 (i + 1)
      have e3 := a3 i
      have e4 := bndF_len m subs[i]
      have e5 := (hpw subs[i] (by simp)).2
      rw [e1, List.length_append] at e2
      generalize bndF m subs[i] = l at *
      generalize L1 i = l1 at *
      have X := And.intro noX (show (l1.map SV.str).length = l1.length ∧ (l.map SV.str).length = l.length from ⟨List.length_map .., List.length_map ..⟩)
      (refine run ?_; repeat' (first | with_reducible exact trivial | ((with_reducible apply Fork.mk) <;> intro hb) | with_reducible apply Two.mk))
      refine hK _ _ (i + 1) (by omega) (by omega) ?_
      rw [e1, List.map_append, show (l1 ++ l).length = l1.length + l.length from List.length_append ..]
      exact wkS (n0 := H.length) [(H.length, 0), (H.length + 1, 0)] hG hB hC' hcl
    obtain rfl : i = subs.length := by omega
    clear hK
    (refine runO ?_; repeat' (first | with_reducible exact trivial | ((with_reducible apply Fork.mk) <;> intro hb) | with_reducible apply Two.mk))
    refine go_loop (fun i : Nat => [(1, .ptr H.length 0 0 0), (3, .sl (H.length + 1) 0 0 (L2 i).length), (30, .list 9 (bdCells binds)), (31, .int .i64 binds.length), (32, .int .i64 i)])
      (fun i => H ++ [.cells 0 8 [.agg [.int .i64 kd, .str nm, .int .i64 nn, .int .i64 op, .list 1 (names.map .str), .list 8 (exCells subs), .list 9 (bdCells binds), .list 12 (alCells alts)]], .cells 0 1 ((L2 i).map .str)]) (fun i => binds.length - i) (fun i => i ≤ binds.length) 0 (Nat.zero_le _) ?_ ?_
    · rw [b1]
      exact Wk.sub (by simp [subEnv, look])
    rintro K i hi hK
    rcases Nat.lt_or_ge i binds.length with hlt | hge
    · have hpb := hpw binds[i].e (by simp; exact .inr (.inl ⟨_, List.getElem_mem hlt, rfl⟩))
      have c1 := fun H => hrec binds[i].e H hpb.1 hpb.2
      have e1 := b2 i hlt
      have e2 := b3 (i + 1)
      have e3 := b3 i
      have e4 := bndF_len m binds[i].e
      rw [e1, List.length_append] at e2
      simp only [List.length_cons] at e2
      generalize bndF m binds[i].e = l at *
      generalize L2 i = l1 at *
      have X := And.intro noX (show (l1.map SV.str).length = l1.length ∧ (l.map SV.str).length = l.length from ⟨List.length_map .., List.length_map ..⟩)
      (refine run ?_; repeat' (first | with_reducible exact trivial | ((with_reducible apply Fork.mk) <;> intro hb) | with_reducible apply Two.mk))
      refine hK _ _ (i + 1) (by omega) (by omega) ?_
      rw [e1, List.map_append, List.map_cons, show (l1 ++ binds[i].name :: l).length = l1.length + (1 + l.length) from by simp; omega]
      exact wkS (n0 := H.length) [(H.length, 0), (H.length + 1, 0)] hG hB hC' hcl
    obtain rfl : i = binds.length := by omega
    clear hK
    (refine runC ?_; repeat' (first | with_reducible exact trivial | ((with_reducible apply Fork.mk) <;> intro hb) | with_reducible apply Two.mk))
    refine go_condDF rfl (by omega) ?_
    (refine runC ?_; repeat' (first | with_reducible exact trivial | ((with_reducible apply Fork.mk) <;> intro hb) | with_reducible apply Two.mk))
    refine go_cut (fun _ : Unit => [(1, .ptr H.length 0 0 0), (3, .sl (H.length + 1) 0 0 (L2 binds.length ++ l5).length)]) (fun _ => H ++ [.cells 0 8 [.agg [.int .i64 kd, .str nm, .int .i64 nn, .int .i64 op, .list 1 (names.map .str), .list 8 (exCells subs), .list 9 (bdCells binds), .list 12 (alCells alts)]], .cells 0 1 ((L2 binds.length ++ l5).map .str)]) (fun _ => True) (fun K hK => ?_) (fun _ _ => ?_)
    · have X := And.intro noX (show ((L2 binds.length).map SV.str).length = (L2 binds.length).length from List.length_map ..)
      (refine runO ?_; repeat' (first | with_reducible exact trivial | ((with_reducible apply Fork.mk) <;> intro hb) | with_reducible apply Two.mk))
      · refine hK _ _ () trivial ?_
        rw [if_pos hb] at hl5
        subst hl5
        rw [List.map_append, List.length_append, List.length_singleton]
        exact wkS (n0 := H.length) [(H.length, 0), (H.length + 1, 0)] hG hB hC' hcl
      · refine hK _ _ () trivial ?_
        rw [if_neg hb] at hl5
        subst hl5
        rw [List.append_nil]
        exact wkS (n0 := H.length) [(H.length, 0), (H.length + 1, 0)] hG hB hC' hcl
    (refine runO ?_; repeat' (first | with_reducible exact trivial | ((with_reducible apply Fork.mk) <;> intro hb) | with_reducible apply Two.mk))
    refine go_loop (fun i : Nat => [(1, .ptr H.length 0 0 0), (3, .sl (H.length + 1) 0 0 (L4 i).length), (55, .list 12 (alCells alts)), (56, .int .i64 alts.length), (57, .int .i64 i)])
      (fun i => H ++ [.cells 0 8 [.agg [.int .i64 kd, .str nm, .int .i64 nn, .int .i64 op, .list 1 (names.map .str), .list 8 (exCells subs), .list 9 (bdCells binds), .list 12 (alCells alts)]], .cells 0 1 ((L4 i).map .str)]) (fun i => alts.length - i) (fun i => i ≤ alts.length) 0 (Nat.zero_le _) ?_ ?_
    · rw [d1]
      exact Wk.sub (by simp [subEnv, look])
    rintro K i hi hK
    rcases Nat.lt_or_ge i alts.length with hlt | hge
    · have hpb := hpw alts[i].body (by simp; exact .inr (.inr ⟨_, List.getElem_mem hlt, rfl⟩))
      have c1 := fun H => hrec alts[i].body H hpb.1 hpb.2
      have e1 := d2 i hlt
      have e2 := d3 (i + 1)
      have e3 := d3 i
      have e4 := bndF_len m alts[i].body
      rw [e1, List.length_append] at e2
      simp only [List.length_append] at e2
      generalize bndF m alts[i].body = l at *
      generalize L4 i = l1 at *
      have X := And.intro noX (show (l1.map SV.str).length = l1.length ∧ (l.map SV.str).length = l.length from ⟨List.length_map .., List.length_map ..⟩)
      (refine run ?_; repeat' (first | with_reducible exact trivial | ((with_reducible apply Fork.mk) <;> intro hb) | with_reducible apply Two.mk))
      refine hK _ _ (i + 1) (by omega) (by omega) ?_
      rw [e1, List.map_append, List.map_append, show (l1 ++ (alts[i].names ++ l)).length = l1.length + (alts[i].names.length + l.length) from by simp]
      exact wkS (n0 := H.length) [(H.length, 0), (H.length + 1, 0)] hG hB hC' hcl
    obtain rfl : i = alts.length := by omega
    clear hK
    (refine runO ?_; repeat' (first | with_reducible exact trivial | ((with_reducible apply Fork.mk) <;> intro hb) | with_reducible apply Two.mk))
    exact finK [(H.length + 1, 0)] (.sl H.length 0 0 (L4 alts.length).length) [.cells 0 1 ((L4 alts.length).map .str)] hR hC' hcl ⟨rfl, rfl⟩
end Go.Proofs.YtcopfafknmpneaaGreatDoor
end

section
namespace Go.Proofs.YtcopfafknmpneaaGreatDoor
open Go
set_option linter.unusedSimpArgs false
set_option linter.unusedVariables false
set_option maxRecDepth 100000
set_option maxHeartbeats 4000000

/-- the expression of the chapter's example -/
def E0 : Ex := .mk 4 [] 0 0 [] [.mk 1 [102] 0 0 [] [] [] [], .mk 1 [120] 0 0 [] [] [] [], .mk 3 [] 0 0 [[121]] [.mk 1 [121] 0 0 [] [] [] []] [] []] [] []
/-- what is known already: a map's copy, what is no numeral, the example's free names -/
def ovA : RC := fun f args H => match args with
  | [.map id] => bif Nat.beq f 68 then (match H[id]? with
    | some (.map kd es) => some (.map H.length, H ++ [.map kd es])
    | _ => none) else none
  | [.str s] => bif Nat.beq f 77 && decide (s.length ≤ 18) && (Lib.atoi s).isNone then some (.tuple [.int .i64 0, .ptr H.length 0 0 0], H ++ [.dead]) else none
  | [x] => bif Nat.beq f 13 && SV.same x E0.sv then some (.sl H.length 0 0 2, H ++ [.cells 0 1 [.str [102], .str [120]]]) else none
  | _ => none
def owA (f : FuncId) : List Nat := bif Nat.beq f 61 then [77] else []
def isT : Option (SV × List Blk) → Bool
  | some (.bool true, _) => true
  | _ => false
theorem awake_run (l : Option Cx) : isT (evF Tryz.prog ⟨[], l⟩ TB owA (fun _ => false) ovA 5000 40 9 [] []) = true := by kernel_rfl
end Go.Proofs.YtcopfafknmpneaaGreatDoor
end

section
namespace Go.Proofs.YtcopfafknmpneaaGreatDoor
open Go
set_option linter.unusedSimpArgs false
set_option linter.unusedVariables false
set_option maxRecDepth 100000
set_option maxHeartbeats 4000000

/-- the package variable of the library that the example's run reaches: it holds some error, or none -/
def ErrAt (C0 : Cx) : Prop := C0.H = [] ∧ ∃ ev, C0.w.cell? ⟨0, 0, none⟩ = some ev ∧ (ev = .nilIface ∨ ∃ te pe, ev = .iface te pe)
theorem ErrAt.see {C0 c : Cx} (h : ErrAt C0) (hg : Grow C0 c) : ∃ ev, c.w.cell? ⟨0, 0, none⟩ = some ev ∧ (ev = .nilIface ∨ ∃ te pe, ev = .iface te pe) := by
  obtain ⟨h0, ev, h1, h2⟩ := h
  refine ⟨ev, ?_, h2⟩
  have hlt : 0 < C0.w.heap.size := Lib.lt_of_cell h1
  have hold := hg.old 0 hlt (fun ⟨id, o, ⟨B, hB, _⟩, _⟩ => by rw [h0] at hB; cases hB)
  rw [← h1]
  unfold World.cell?
  rw [hold]
theorem E0_free : freeS E0 = [[102], [120]] := by
  have h : (unbF E0.wt E0 ([], [])).2 = [[102], [120]] := by decide +kernel
  rw [freeS, h, sortS]
  exact List.mergeSort_of_pairwise (by simp; decide)
theorem ovA_ok (G : Gl) (hG : GClosed G) (C0 : Cx) (hb : G.base = some C0) (he : ErrAt C0) : RCok Tryz.prog G ovA := by
  intro f xs H x H' h
  unfold ovA at h
  split at h
  · rename_i id
    cases hf : Nat.beq f 68 with
    | false => rw [hf] at h; cases h
    | true =>
      rw [hf, cond_true] at h
      have hf := Nat.eq_of_beq_eq_true hf
      subst hf
      split at h
      · rename_i kd es hH
        cases h
        exact ACall.of_clone ⟨_, Tryz.func68, by decide, rfl⟩ (fun b es clock w hb => Tryz.maps_Clone b es clock w hb) id H kd es hH
      · cases h
  · rename_i s
    cases hf : (Nat.beq f 77 && decide (s.length ≤ 18) && (Lib.atoi s).isNone) with
    | false => rw [hf] at h; cases h
    | true =>
      rw [hf, cond_true] at h
      simp only [Bool.and_eq_true, decide_eq_true_eq, Option.isNone_iff_eq_none] at hf
      obtain ⟨⟨hf, hl⟩, ha⟩ := hf
      have hf := Nat.eq_of_beq_eq_true hf
      subst hf
      cases h
      refine ACall.of_opaque (by decide) ⟨_, Tryz.func77, by decide, rfl⟩ (fun c hg => ?_) H
      obtain ⟨ev, h1, h2⟩ := he.see (hg.2 C0 hb)
      refine (Tryz.strconv_Atoi_err ⟨⟨s⟩⟩ (show s.length ≤ 18 from hl) ha ev c.w h1 h2).mono ?_
      rintro e w' ⟨N, rfl, _, _, hbw⟩
      exact ⟨_, rfl, rfl, hbw⟩
  · rename_i x0 _ _
    cases hf : (Nat.beq f 13 && SV.same x0 E0.sv) with
    | false => rw [hf] at h; cases h
    | true =>
      rw [hf, cond_true] at h
      rw [Bool.and_eq_true] at hf
      obtain ⟨hf, hs⟩ := hf
      have hf := Nat.eq_of_beq_eq_true hf
      subst hf
      cases h
      rw [SV.same_both.1 _ _ hs]
      have := free_ok G hG E0 H (by decide)
      rw [E0_free] at this
      exact this
  · cases h
theorem names_ok : ∀ (f : FuncId) (fn : Func), Tryz.prog.funcs[f]? = some fn → (fn.name == "runtime.NumGoroutine") = false := by
  intro f fn h
  have hall : (Tryz.prog.funcs.toList.all fun fn => !(fn.name == "runtime.NumGoroutine")) = true := by decide +kernel
  have hm : fn ∈ Tryz.prog.funcs.toList := by
    rw [← Array.getElem?_toList] at h
    exact List.mem_of_getElem? h
  have := List.all_eq_true.1 hall fn hm
  simpa using this
theorem awake_ok (G : Gl) (hG : GClosed G) (C0 : Cx) (hb : G.base = some C0) (he : ErrAt C0) (H : List Blk) : ACall Tryz.prog G 9 [] H (fun r H' => H' = H ∧ r = .bool true) := by
  have hr := awake_run (some C0)
  have hov := ovA_ok ⟨[], some C0⟩ (fun p hp => by cases hp) C0 rfl he
  have hev := evF_ok (P := Tryz.prog) (G := ⟨[], some C0⟩) (T := TB) (ow := owA) (gc := fun _ => false) (ov := ovA) (fuel := 5000) hov tabOK mixOK names_ok 40
  generalize hE : evF Tryz.prog ⟨[], some C0⟩ TB owA (fun _ => false) ovA 5000 40 9 [] [] = E at hr
  cases E with
  | none => cases hr
  | some r =>
    obtain ⟨v, H1⟩ := r
    cases v with
    | bool b => cases b with
      | false => cases hr
      | true => exact ACall.lift (G0 := ⟨[], some C0⟩) C0 rfl hb he.1 (fun p hp => by cases hp) (fun p hp => by cases hp) ((hev _ _ _ _ _ hE).mono fun r H2 h => h.2) H
    | _ => cases hr
end Go.Proofs.YtcopfafknmpneaaGreatDoor
end
