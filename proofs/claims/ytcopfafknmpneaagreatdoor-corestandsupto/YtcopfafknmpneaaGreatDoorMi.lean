/- A part of the proof: D0, D1, D2, D3, K1, K2, D4, S1, S2, S3. -/
import Derived.Test.YtcopfafknmpneaaGreatDoorMh

section
namespace Go.Proofs.YtcopfafknmpneaaGreatDoor
open Go
set_option linter.unusedSimpArgs false
set_option linter.unusedVariables false
set_option maxRecDepth 10000
set_option maxHeartbeats 4000000

/-! ### how deep an expression is -/
def maxL (l : List Nat) : Nat := l.foldl max 0
theorem maxL_app (l : List Nat) (x : Nat) : maxL (l ++ [x]) = max (maxL l) x := by simp [maxL, List.foldl_append]
theorem maxL_le {n : Nat} : ∀ {l : List Nat}, (∀ x ∈ l, x ≤ n) → maxL l ≤ n := by
  intro l h
  have key : ∀ (l : List Nat) (a : Nat), a ≤ n → (∀ x ∈ l, x ≤ n) → l.foldl max a ≤ n := by
    intro l
    induction l with
    | nil => intro a ha _; exact ha
    | cons x r ih => intro a ha h; exact ih _ (Nat.max_le.2 ⟨ha, h x (List.mem_cons_self ..)⟩) (fun y hy => h y (List.mem_cons_of_mem _ hy))
  exact key l 0 (Nat.zero_le _) h
def depF : Nat → Ex → Nat
  | 0, _ => 0
  | m + 1, e => maxL (e.parts.map (depF m)) + 1
theorem depF_le : ∀ (m : Nat) (e : Ex), depF m e ≤ m
  | 0, _ => Nat.le_refl _
  | m + 1, e => by
    have := maxL_le (n := m) (l := e.parts.map (depF m)) (fun x hx => by
      obtain ⟨p, _, rfl⟩ := List.mem_map.1 hx
      exact depF_le m p)
    unfold depF
    omega
theorem depF_fuel : ∀ (m m' : Nat) (e : Ex), e.wt ≤ m → e.wt ≤ m' → depF m e = depF m' e
  | 0, _, e, h, _ => absurd e.wt_pos (by omega)
  | m + 1, 0, e, _, h => absurd e.wt_pos (by omega)
  | m + 1, m' + 1, e, h, h' => by
    unfold depF
    rw [List.map_congr_left (g := depF m') fun p hp => depF_fuel m m' p (by have := Ex.wt_parts hp; omega) (by have := Ex.wt_parts hp; omega)]
/-- how deep -/
def dep (e : Ex) : Nat := depF e.wt e
theorem dep_parts (e : Ex) : dep e = maxL (e.parts.map dep) + 1 := by
  have hp := e.wt_pos
  obtain ⟨m, hm⟩ : ∃ m, e.wt = m + 1 := ⟨e.wt - 1, by omega⟩
  unfold dep
  rw [hm, depF, List.map_congr_left (g := fun p => depF p.wt p) fun p hp => depF_fuel m p.wt p (by have := Ex.wt_parts hp; omega) (Nat.le_refl _)]

/-! ### all that is bound in an expression -/
def bndF : Nat → Ex → List Str
  | 0, _ => []
  | m + 1, .mk kd nm _ _ names subs binds alts => (if kd = 3 then names else []) ++ subs.flatMap (bndF m) ++ binds.flatMap (fun b => b.name :: bndF m b.e) ++ (if kd = 6 then [nm] else []) ++ alts.flatMap (fun a => a.names ++ bndF m a.body)
theorem bndF_fuel : ∀ (m m' : Nat) (e : Ex), e.wt ≤ m → e.wt ≤ m' → bndF m e = bndF m' e
  | 0, _, e, h, _ => absurd e.wt_pos (by omega)
  | m + 1, 0, e, _, h => absurd e.wt_pos (by omega)
  | m + 1, m' + 1, .mk kd nm nn op names subs binds alts, h, h' => by
    have hw : ∀ p ∈ (Ex.mk kd nm nn op names subs binds alts).parts, bndF m p = bndF m' p := fun p hp => bndF_fuel m m' p (by have := Ex.wt_parts hp; omega) (by have := Ex.wt_parts hp; omega)
    rw [Ex.parts_mk] at hw
    have h1 : subs.flatMap (bndF m) = subs.flatMap (bndF m') := by
      rw [List.flatMap_def, List.flatMap_def, List.map_congr_left (g := bndF m') fun p hp => hw p (by simp [hp])]
    have h2 : binds.flatMap (fun b => b.name :: bndF m b.e) = binds.flatMap (fun b => b.name :: bndF m' b.e) := by
      rw [List.flatMap_def, List.flatMap_def, List.map_congr_left (g := fun b => b.name :: bndF m' b.e) fun b hb => by rw [hw b.e (by simp; exact .inr (.inl ⟨b, hb, rfl⟩))]]
    have h3 : alts.flatMap (fun a => a.names ++ bndF m a.body) = alts.flatMap (fun a => a.names ++ bndF m' a.body) := by
      rw [List.flatMap_def, List.flatMap_def, List.map_congr_left (g := fun a => a.names ++ bndF m' a.body) fun a ha => by rw [hw a.body (by simp; exact .inr (.inr ⟨a, ha, rfl⟩))]]
    rw [bndF, bndF, h1, h2, h3]
theorem flat_len {α : Type} {f : α → List Str} {g : List α → Nat} {w : α → Nat} (h0 : g [] = 0) (h1 : ∀ x l, g (x :: l) = w x + g l) : ∀ {l : List α}, (∀ x ∈ l, (f x).length ≤ w x) → (l.flatMap f).length ≤ g l
  | [], _ => by simp
  | x :: r, h => by
    have h2 := flat_len (l := r) h0 h1 (fun y hy => h y (List.mem_cons_of_mem _ hy))
    have h3 := h x (List.mem_cons_self ..)
    rw [List.flatMap_cons, List.length_append, h1]
    omega
theorem bndF_len : ∀ (m : Nat) (e : Ex), (bndF m e).length ≤ e.wt
  | 0, e => by simp [bndF]
  | m + 1, .mk kd nm nn op names subs binds alts => by
    have h1 : (subs.flatMap (bndF m)).length ≤ exsWt subs := flat_len (w := Ex.wt) rfl (fun _ _ => rfl) fun x _ => bndF_len m x
    have h2 : (binds.flatMap (fun b => b.name :: bndF m b.e)).length ≤ bdsWt binds := flat_len (w := Bd.wt) rfl (fun _ _ => rfl) fun b _ => by
      have := bndF_len m b.e
      have := b.wt_gt
      simp only [List.length_cons]; omega
    have h3 : (alts.flatMap (fun a => a.names ++ bndF m a.body)).length ≤ alsWt alts := flat_len (w := Al.wt) rfl (fun _ _ => rfl) fun a _ => by
      have := bndF_len m a.body
      obtain ⟨k, s, n, l, e⟩ := a
      have := strsWt_len l
      simp only [Al.wt, Al.names, Al.body, List.length_append] at *; omega
    have h4 := strsWt_len names
    have h5 : (if kd = 3 then names else []).length ≤ names.length := by split <;> simp
    have h6 : (if kd = 6 then [nm] else []).length ≤ 1 := by split <;> simp
    simp only [bndF, List.length_append, Ex.wt]
    omega
def bnds (e : Ex) : List Str := bndF e.wt e
theorem bnds_mk (kd : Int) (nm : Str) (nn op : Int) (names : List Str) (subs : List Ex) (binds : List Bd) (alts : List Al) :
    bnds (.mk kd nm nn op names subs binds alts) = (if kd = 3 then names else []) ++ subs.flatMap bnds ++ binds.flatMap (fun b => b.name :: bnds b.e) ++ (if kd = 6 then [nm] else []) ++ alts.flatMap (fun a => a.names ++ bnds a.body) := by
  have hp := (Ex.mk kd nm nn op names subs binds alts).wt_pos
  obtain ⟨m, hm⟩ : ∃ m, (Ex.mk kd nm nn op names subs binds alts).wt = m + 1 := ⟨(Ex.mk kd nm nn op names subs binds alts).wt - 1, by omega⟩
  have hw : ∀ p ∈ (Ex.mk kd nm nn op names subs binds alts).parts, bndF m p = bnds p := fun p hp => bndF_fuel m p.wt p (by have := Ex.wt_parts hp; omega) (Nat.le_refl _)
  rw [Ex.parts_mk] at hw
  have h1 : subs.flatMap (bndF m) = subs.flatMap bnds := by
    rw [List.flatMap_def, List.flatMap_def, List.map_congr_left (g := bnds) fun p hp => hw p (by simp [hp])]
  have h2 : binds.flatMap (fun b => b.name :: bndF m b.e) = binds.flatMap (fun b => b.name :: bnds b.e) := by
    rw [List.flatMap_def, List.flatMap_def, List.map_congr_left (g := fun b => b.name :: bnds b.e) fun b hb => by rw [hw b.e (by simp; exact .inr (.inl ⟨b, hb, rfl⟩))]]
  have h3 : alts.flatMap (fun a => a.names ++ bndF m a.body) = alts.flatMap (fun a => a.names ++ bnds a.body) := by
    rw [List.flatMap_def, List.flatMap_def, List.map_congr_left (g := fun a => a.names ++ bnds a.body) fun a ha => by rw [hw a.body (by simp; exact .inr (.inr ⟨a, ha, rfl⟩))]]
  rw [bnds, hm, bndF, h1, h2, h3]
theorem bnds_sub {e p : Ex} (hp : p ∈ e.parts) {s : Str} (hs : s ∈ bnds p) : s ∈ bnds e := by
  obtain ⟨kd, nm, nn, op, names, subs, binds, alts⟩ := e
  rw [Ex.parts_mk] at hp
  rw [bnds_mk]
  simp only [List.mem_append, List.mem_flatMap, List.mem_map, List.mem_cons] at hp ⊢
  rcases hp with h | ⟨b, h, rfl⟩ | ⟨a, h, rfl⟩
  · exact .inl (.inl (.inl (.inr ⟨p, h, hs⟩)))
  · exact .inl (.inl (.inr ⟨b, h, .inr hs⟩))
  · exact .inr ⟨a, h, .inr hs⟩

/-! ### free names -/
theorem shp_mono : ∀ (m m' : Nat) (e : Ex), m' ≤ m → shp m e → shp m' e
  | _, 0, _, _, _ => trivial
  | 0, m' + 1, _, h, _ => by omega
  | m + 1, m' + 1, e, h, hs => ⟨hs.1, hs.2.1, fun p hp => shp_mono m m' p (by omega) (hs.2.2 p hp)⟩
theorem shp_part {e p : Ex} (h : shp e.wt e) (hp : p ∈ e.parts) : shp p.wt p := by
  have hw := Ex.wt_parts hp
  obtain ⟨m, hm⟩ : ∃ m, e.wt = m + 1 := ⟨e.wt - 1, by omega⟩
  rw [hm] at h
  exact shp_mono m p.wt p (by omega) (h.2.2 p hp)
theorem occS_pos {s : Str} : ∀ {l : List Ex}, 0 < occS s l → ∃ x ∈ l, 0 < occ s x
  | [], h => by simp [occS] at h
  | x :: r, h => by
    by_cases hx : 0 < occ s x
    · exact ⟨x, List.mem_cons_self .., hx⟩
    · have : 0 < occS s r := by simp only [occS, List.map_cons, List.sum_cons] at h ⊢; omega
      obtain ⟨y, h1, h2⟩ := occS_pos this
      exact ⟨y, List.mem_cons_of_mem _ h1, h2⟩
theorem free_part {e : Ex} (h : shp e.wt e) (hk : e.kind ≠ 1) {s : Str} (hs : s ∈ freeS e) : ∃ p ∈ e.parts, s ∈ freeS p := by
  rw [free_used s e h] at hs
  obtain ⟨kd, nm, nn, op, names, subs, binds, alts⟩ := e
  have hk : kd ≠ 1 := hk
  by_cases ho : s ∈ ownOf kd names binds
  · rw [occ, if_neg hk, if_pos ho] at hs; omega
  · rw [occ_us s hk ho] at hs
    obtain ⟨x, h1, h2⟩ := occS_pos hs
    have hx := usL_parts (nn := nn) (op := op) (names := names) h1
    exact ⟨x, hx, (free_used s x (shp_part h hx)).2 h2⟩
theorem unb_nodup : ∀ (m : Nat) (e : Ex) (st : BO), st.2.Nodup → (unbF m e st).2.Nodup
  | 0, e, st, h => by simpa [unbF] using h
  | m + 1, e, st, h => by
    rw [unbF]
    split
    · split
      · exact putO_nodup h _
      · exact h
    · generalize scopeParts e = l
      induction l generalizing st with
      | nil => exact h
      | cons p l ih => exact ih _ (unb_nodup m p.1 (incB st.1 p.2, st.2) h)
theorem freeS_lt (e : Ex) : (freeS e).Pairwise (fun x y => x < y) := by
  have tr : ∀ a b c : List UInt8, (decide (a ≤ b)) = true → (decide (b ≤ c)) = true → (decide (a ≤ c)) = true := fun a b c h1 h2 => by simp only [decide_eq_true_eq] at *; exact List.le_trans h1 h2
  have to : ∀ a b : List UInt8, (decide (a ≤ b) || decide (b ≤ a)) = true := fun a b => by simp only [Bool.or_eq_true, decide_eq_true_eq]; exact List.le_total a b
  have h1 : (freeS e).Pairwise (fun x y : List UInt8 => (decide (x ≤ y)) = true) := List.pairwise_mergeSort tr to _
  have h2 : (freeS e).Nodup := (sortS_perm _).nodup_iff.2 (unb_nodup _ e ([], []) List.nodup_nil)
  refine List.pairwise_iff_getElem.2 fun i j hi hj hij => ?_
  have h := List.pairwise_iff_getElem.1 h1 i j hi hj hij
  have hn := List.pairwise_iff_getElem.1 h2 i j hi hj hij
  generalize (freeS e)[i] = a at *
  generalize (freeS e)[j] = b at *
  have h : a ≤ b := of_decide_eq_true h
  rcases Classical.em (a < b) with h3 | h3
  · exact h3
  · exact (hn (List.le_antisymm h h3)).elim
/-- one name is never behind one that is no smaller -/
theorem freeS_step (e : Ex) {i : Nat} (h : i + 1 < (freeS e).length) : (strLess (freeS e)[i + 1] (freeS e)[i] || decide ((freeS e)[i + 1] = (freeS e)[i])) = false := by
  have hlt := List.pairwise_iff_getElem.1 (freeS_lt e) i (i + 1) (by omega) h (by omega)
  rw [Bool.or_eq_false_iff]
  unfold strLess
  rw [bytesLess_eq]
  refine ⟨decide_eq_false fun h2 => ?_, decide_eq_false fun h2 => ?_⟩
  · exact List.lt_irrefl (α := UInt8) _ (List.lt_trans hlt h2)
  · rw [h2] at hlt; exact List.lt_irrefl (α := UInt8) _ hlt
end Go.Proofs.YtcopfafknmpneaaGreatDoor
end

section
namespace Go.Proofs.YtcopfafknmpneaaGreatDoor
open Go
set_option linter.unusedSimpArgs false
set_option linter.unusedVariables false
set_option maxRecDepth 10000
set_option maxHeartbeats 4000000

theorem has10_list (G : Gl) (l : List Str) (v : Str) (H : List Blk) (hl : l.length < 4611686018427387904) :
    ACall Tryz.prog G 14 [.list 1 (l.map .str), .str v] H (fun r H' => H' = H ∧ r = .bool (decide (v ∈ l))) := by
  refine ACall.of_go TB [] tabOK _ Tryz.func14 rfl (by decide) Tryz.ntmps14 (by simp) rfl (by simp only [initEnv, Nat.reduceAdd]; rfl) fun C R' hR hC hcl hB => ?_; have X := noX; have hC' := congrArg List.length hC
  (refine runO ?_; repeat' (first | with_reducible exact trivial | ((with_reducible apply Fork.mk) <;> intro hb) | with_reducible apply Two.mk))
  refine go_loop (fun i : Nat => [(0, .list 1 (l.map .str)), (1, .str v), (5, .int .i64 i)]) (fun _ => H) (fun i => l.length - i) (fun i => i ≤ l.length ∧ v ∉ l.take i) 0 (by simp) (Wk.sub (by simp [subEnv, look])) ?_
  intro K i hi hK
  (refine runO ?_; repeat' (first | with_reducible exact trivial | ((with_reducible apply Fork.mk) <;> intro hb) | with_reducible apply Two.mk))
  · have hi' : i < l.length := by omega
    exact Fin.out hR ⟨rfl, by rw [decide_eq_true (by rw [← hb]; exact List.getElem_mem hi')]; rfl⟩
  · have hi' : i < l.length := by omega
    exact hK _ _ (i + 1) (by omega) ⟨hi', by rw [List.take_succ_eq_append_getElem hi', List.mem_append]; simp only [hi.2, List.mem_singleton, false_or]; exact fun h => hb h.symm⟩ (Wk.sub (by simp [subEnv, look]))
  · have : l.take i = l := List.take_of_length_le (by omega)
    exact Fin.out hR ⟨rfl, by rw [decide_eq_false (by rw [← this]; exact hi.2)]; rfl⟩
end Go.Proofs.YtcopfafknmpneaaGreatDoor
end

section
namespace Go.Proofs.YtcopfafknmpneaaGreatDoor
open Go
set_option linter.unusedSimpArgs false
set_option linter.unusedVariables false
set_option maxRecDepth 10000
set_option maxHeartbeats 4000000

def DepC (G : Gl) (m : Nat) : Prop := ∀ (e : Ex) (H : List Blk), e.wt ≤ m → ACall Tryz.prog G 12 [e.sv] H (fun r H' => H' = H ∧ r = .int .i64 (depF m e))
theorem max_nat (n d : Nat) : (if (n : Int) < (d : Int) then (d : Int) else (n : Int)) = ((max n d : Nat) : Int) := by
  split <;> omega
theorem depth1_ok (G : Gl) (hG : GClosed G) (m : Nat) (hm : m < 4294967296) (hrec : DepC G m) (p : Ex) (H : List Blk) (n nb : Nat) (hp : p.wt ≤ m) (h1 : H[nb]? = some (szC n)) (hn : n < 4294967296) :
    ACall Tryz.prog G 36 [p.sv, .ptr nb 0 0 0] H (fun r H' => H' = H.set nb (szC (max n (depF m p) : Nat)) ∧ r = .bool true) := by
  have hlt : nb < H.length := (List.getElem?_eq_some_iff.1 h1).1
  have hd := depF_le m p
  have c1 := fun H => hrec p H hp
  generalize depF m p = d at *
  refine ACall.of_go TB [] tabOK _ Tryz.func36 rfl (by decide) Tryz.ntmps36 (by simp) rfl (by simp only [initEnv, Nat.reduceAdd]; rfl) fun C R' hR hC hcl hB => ?_; have X := noX; have hC' := congrArg List.length hC
  have X := And.intro h1 (show IntKind.i64.min ≤ (d : Int) ∧ (d : Int) ≤ IntKind.i64.max from ⟨by show (-9223372036854775808 : Int) ≤ _; omega, by show _ ≤ (9223372036854775807 : Int); omega⟩)
  unfold szC at X
  (refine run ?_; repeat' (first | with_reducible exact trivial | ((with_reducible apply Fork.mk) <;> intro hb) | with_reducible apply Two.mk))
  rw [max_nat]
  exact Fin.tellN (n0 := H.length) hR (by simp) hC' (hcl.set rfl) (.same _ rfl) ⟨rfl, rfl⟩
theorem maxL_take (l : List Nat) (i : Nat) (h : i < l.length) : maxL (l.take (i + 1)) = max (maxL (l.take i)) l[i] := by
  rw [List.take_succ_eq_append_getElem h, maxL_app]
theorem depth_ok (G : Gl) (hG : GClosed G) : ∀ m, m < 4294967296 → DepC G m
  | 0, _, e, _, h => absurd e.wt_pos (by omega)
  | m + 1, hm2, e, H, hm => by
    have hrec := depth_ok G hG m (by omega)
    have hmx : ∀ i, maxL ((e.parts.map (depF m)).take i) ≤ m := fun i => maxL_le fun x hx => by
      obtain ⟨p, _, rfl⟩ := List.mem_map.1 (List.mem_of_mem_take hx)
      exact depF_le m p
    refine ACall.of_go TB [] tabOK _ Tryz.func12 rfl (by decide) Tryz.ntmps12 (by simp) rfl (by simp only [initEnv, Nat.reduceAdd]; rfl) fun C R' hR hC hcl hB => ?_; have X := noX; have hC' := congrArg List.length hC
    have heach := each_ok G hG e (by omega) (.fn (.func 36) [] [.ptr (H.length + 1) 0 0 0]) (fun i => H ++ [.cells 0 8 [.agg e.cells], szC (maxL ((e.parts.map (depF m)).take i) : Nat)]) (H.length + 2) (fun i => by simp) (by simp [SV.under, SV.underL])
      (fun h i => by
        have := h.set (id := H.length + 1) (b := szC (maxL ((e.parts.map (depF m)).take i) : Nat)) rfl
        simpa using this) (fun i p X hp => by
        have hpw := Ex.wt_parts (List.mem_of_getElem? hp)
        have hlp := (List.getElem?_eq_some_iff.1 hp)
        have hli : i < (e.parts.map (depF m)).length := by simpa using hlp.1
        have hnx := maxL_take (e.parts.map (depF m)) i hli
        have hget : (e.parts.map (depF m))[i] = depF m p := by simp [hlp.2]
        rw [hget] at hnx
        have hi := hmx i
        refine ACallV.of (first := []) (args := [p.sv]) (cap := [.ptr (H.length + 1) 0 0 0]) ((depth1_ok G hG m (by omega) hrec p _ (maxL ((e.parts.map (depF m)).take i)) (H.length + 1) (by omega) (by simp) (by omega)).mono ?_)
        rintro r H' ⟨rfl, rfl⟩
        refine ⟨?_, rfl⟩
        rw [hnx]
        simp)
    have h0 : maxL ((e.parts.map (depF m)).take 0) = 0 := rfl
    have hall : maxL ((e.parts.map (depF m)).take e.parts.length) = maxL (e.parts.map (depF m)) := by
      rw [List.take_of_length_le (by simp)]
    simp only [szC, h0, hall] at heach
    have hmm := hmx e.parts.length
    rw [hall] at hmm
    unfold depF at hR
    generalize maxL (e.parts.map (depF m)) = d at *
    (refine run ?_; repeat' (first | with_reducible exact trivial | ((with_reducible apply Fork.mk) <;> intro hb) | with_reducible apply Two.mk))
    refine callS heach ?_
    rintro r H' ⟨rfl, rfl⟩
    (refine run ?_; repeat' (first | with_reducible exact trivial | ((with_reducible apply Fork.mk) <;> intro hb) | with_reducible apply Two.mk))
    exact Fin.tellN (n0 := H.length) hR (by simp) hC' hcl (.same _ rfl) ⟨rfl, by simp only [resSV]; rfl⟩
end Go.Proofs.YtcopfafknmpneaaGreatDoor
end

section
namespace Go.Proofs.YtcopfafknmpneaaGreatDoor
open Go
set_option linter.unusedSimpArgs false
set_option linter.unusedVariables false
set_option maxRecDepth 10000
set_option maxHeartbeats 4000000

theorem flat_seq {α : Type} (f : α → List Str) (pre : List Str) (l : List α) : ∃ L : Nat → List Str, L 0 = pre ∧ (∀ (i : Nat) (h : i < l.length), L (i + 1) = L i ++ f l[i]) ∧ (∀ i, (L i).length ≤ (pre ++ l.flatMap f).length) ∧ L l.length = pre ++ l.flatMap f := by
  refine ⟨fun i => pre ++ (l.take i).flatMap f, by simp, fun i h => ?_, fun i => ?_, by simp⟩
  · simp only [List.take_succ_eq_append_getElem h, List.flatMap_append, List.flatMap_cons, List.flatMap_nil, List.append_nil, List.append_assoc]
  · have h : l.flatMap f = (l.take i).flatMap f ++ (l.drop i).flatMap f := by rw [← List.flatMap_append, List.take_append_drop]
    simp only [h, List.length_append]; omega
def BndC (G : Gl) (m : Nat) : Prop := ∀ (e : Ex) (H : List Blk), e.wt ≤ m → e.wt < 4294967296 → ACall Tryz.prog G 10 [e.sv] H (fun r H' => H' = H ++ [.cells 0 1 ((bndF m e).map .str)] ∧ r = .sl H.length 0 0 (bndF m e).length)
theorem binders_ok (G : Gl) (hG : GClosed G) : ∀ m, BndC G m
  | 0, e, H, h, _ => absurd e.wt_pos (by omega)
  | m + 1, e, H, hm, hw0 => by
    have hrec := binders_ok G hG m
    obtain ⟨kd, nm, nn, op, names, subs, binds, alts⟩ := e
    have hle := Ex.wt_lens kd nm nn op names subs binds alts
    have hln := bndF_len (m + 1) (.mk kd nm nn op names subs binds alts)
    have hpw : ∀ p ∈ (Ex.mk kd nm nn op names subs binds alts).parts, p.wt ≤ m ∧ p.wt < 4294967296 := fun p hp => by have := Ex.wt_parts hp; exact ⟨by omega, by omega⟩
    rw [Ex.parts_mk] at hpw
    have eb : bndF (m + 1) (.mk kd nm nn op names subs binds alts) = (if kd = 3 then names else []) ++ subs.flatMap (bndF m) ++ binds.flatMap (fun b => b.name :: bndF m b.e) ++ (if kd = 6 then [nm] else []) ++ alts.flatMap (fun a => a.names ++ bndF m a.body) := rfl
    rw [eb] at hln ⊢
    clear eb
    have h3n : (if kd = 3 then names else []).length ≤ names.length := by split <;> simp
    generalize hl0 : (if kd = 3 then names else []) = l0 at *
    generalize hl5 : (if kd = 6 then [nm] else []) = l5 at *
    obtain ⟨L1, a1, a2, a3, a4⟩ := flat_seq (bndF m) l0 subs
    rw [← a4] at hln ⊢
    obtain ⟨L2, b1, b2, b3, b4⟩ := flat_seq (fun b : Bd => b.name :: bndF m b.e) (L1 subs.length) binds
    rw [← b4] at hln ⊢
    obtain ⟨L4, d1, d2, d3, d4⟩ := flat_seq (fun a : Al => a.names ++ bndF m a.body) (L2 binds.length ++ l5) alts
    rw [← d4] at hln ⊢
    rw [← a4] at a3
    rw [← b4] at b3
    rw [← d4] at d3
    have q4 : (L2 binds.length).length + l5.length ≤ (L4 alts.length).length := by have := d3 0; rw [d1, List.length_append] at this; exact this
    have q2 : (L1 subs.length).length ≤ (L2 binds.length).length := by have := b3 0; rw [b1] at this; exact this
    generalize hW : (Ex.mk kd nm nn op names subs binds alts).wt = W at *
    refine ACall.of_go TB [3] tabOK _ Tryz.func10 rfl (by decide) Tryz.ntmps10 (by simp) rfl (by simp only [initEnv, Nat.reduceAdd]; rfl) fun C R' hR hC hcl hB => ?_; have X := noX; have hC' := congrArg List.length hC
    (refine runC ?_; repeat' (first | with_reducible exact trivial | ((with_reducible apply Fork.mk) <;> intro hb) | with_reducible apply Two.mk))
    refine go_cut (fun _ : Unit => [(1, .ptr H.length 0 0 0), (3, .sl (H.length + 1) 0 0 l0.length)]) (fun _ => H ++ [.cells 0 8 [.agg [.int .i64 kd, .str nm, .int .i64 nn, .int .i64 op, .list 1 (names.map .str), .list 8 (exCells subs), .list 9 (bdCells binds), .list 12 (alCells alts)]], .cells 0 1 (l0.map .str)]) (fun _ => True) (fun K hK => ?_) (fun _ _ => ?_)
    · (refine runO ?_; repeat' (first | with_reducible exact trivial | ((with_reducible apply Fork.mk) <;> intro hb) | with_reducible apply Two.mk))
      · refine hK _ _ () trivial ?_
        rw [if_pos hb] at hl0
        subst hl0
        exact wkS (n0 := H.length) [(H.length, 0), (H.length + 1, 0)] hG hB hC' hcl
      · refine hK _ _ () trivial ?_
        rw [if_neg hb] at hl0
        subst hl0
        simp only [List.length_nil, List.map_nil]
        exact wkS (n0 := H.length) [(H.length, 0), (H.length + 1, 0)] hG hB hC' hcl
    (refine runO ?_; repeat' (first | with_reducible exact trivial | ((with_reducible apply Fork.mk) <;> intro hb) | with_reducible apply Two.mk))
    refine go_loop (fun i : Nat => [(1, .ptr H.length 0 0 0), (3, .sl (H.length + 1) 0 0 (L1 i).length), (18, .list 8 (exCells subs)), (19, .int .i64 subs.length), (20, .int .i64 i)])
      (fun i => H ++ [.cells 0 8 [.agg [.int .i64 kd, .str nm, .int .i64 nn, .int .i64 op, .list 1 (names.map .str), .list 8 (exCells subs), .list 9 (bdCells binds), .list 12 (alCells alts)]], .cells 0 1 ((L1 i).map .str)]) (fun i => subs.length - i) (fun i => i ≤ subs.length) 0 (Nat.zero_le _) ?_ ?_
    · rw [a1]
      exact Wk.sub (by simp [subEnv, look])
    rintro K i hi hK
    rcases Nat.lt_or_ge i subs.length with hlt | hge
    · have c1 := fun H => hrec subs[i] H (hpw _ (by simp)).1 (hpw _ (by simp)).2
      have e1 := a2 i hlt
      have e2 := a3 (i + 1)
      have e3 := a3 i
      have e4 := bndF_len m subs[i]
      have e5 := (hpw subs[i] (by simp)).2
      rw [e1, List.length_append] at e2
      generalize bndF m subs[i] = l at *
      generalize L1 i = l1 at *
      have X := And.intro noX (show (l1.map SV.str).length = l1.length ∧ (l.map SV.str).length = l.length from ⟨List.length_map .., List.length_map ..⟩)
      (refine run ?_; repeat' (first | with_reducible exact trivial | ((with_reducible apply Fork.mk) <;> intro hb) | with_reducible apply Two.mk))
      refine hK _ _ (i + 1) (by omega) (by omega) ?_
      rw [e1, List.map_append, show (l1 ++ l).length = l1.length + l.length from List.length_append ..]
      exact wkS (n0 := H.length) [(H.length, 0), (H.length + 1, 0)] hG hB hC' hcl
    obtain rfl : i = subs.length := by omega
    clear hK
    (refine runO ?_; repeat' (first | with_reducible exact trivial | ((with_reducible apply Fork.mk) <;> intro hb) | with_reducible apply Two.mk))
    refine go_loop (fun i : Nat => [(1, .ptr H.length 0 0 0), (3, .sl (H.length + 1) 0 0 (L2 i).length), (30, .list 9 (bdCells binds)), (31, .int .i64 binds.length), (32, .int .i64 i)])
      (fun i => H ++ [.cells 0 8 [.agg [.int .i64 kd, .str nm, .int .i64 nn, .int .i64 op, .list 1 (names.map .str), .list 8 (exCells subs), .list 9 (bdCells binds), .list 12 (alCells alts)]], .cells 0 1 ((L2 i).map .str)]) (fun i => binds.length - i) (fun i => i ≤ binds.length) 0 (Nat.zero_le _) ?_ ?_
    · rw [b1]
      exact Wk.sub (by simp [subEnv, look])
    rintro K i hi hK
    rcases Nat.lt_or_ge i binds.length with hlt | hge
    · have hpb := hpw binds[i].e (by simp; exact .inr (.inl ⟨_, List.getElem_mem hlt, rfl⟩))
      have c1 := fun H => hrec binds[i].e H hpb.1 hpb.2
      have e1 := b2 i hlt
      have e2 := b3 (i + 1)
      have e3 := b3 i
      have e4 := bndF_len m binds[i].e
      rw [e1, List.length_append] at e2
      simp only [List.length_cons] at e2
      generalize bndF m binds[i].e = l at *
      generalize L2 i = l1 at *
      have X := And.intro noX (show (l1.map SV.str).length = l1.length ∧ (l.map SV.str).length = l.length from ⟨List.length_map .., List.length_map ..⟩)
      (refine run ?_; repeat' (first | with_reducible exact trivial | ((with_reducible apply Fork.mk) <;> intro hb) | with_reducible apply Two.mk))
      refine hK _ _ (i + 1) (by omega) (by omega) ?_
      rw [e1, List.map_append, List.map_cons, show (l1 ++ binds[i].name :: l).length = l1.length + (1 + l.length) from by simp; omega]
      exact wkS (n0 := H.length) [(H.length, 0), (H.length + 1, 0)] hG hB hC' hcl
    obtain rfl : i = binds.length := by omega
    clear hK
    (refine runC ?_; repeat' (first | with_reducible exact trivial | ((with_reducible apply Fork.mk) <;> intro hb) | with_reducible apply Two.mk))
    refine go_condDF rfl (by omega) ?_
    (refine runC ?_; repeat' (first | with_reducible exact trivial | ((with_reducible apply Fork.mk) <;> intro hb) | with_reducible apply Two.mk))
    refine go_cut (fun _ : Unit => [(1, .ptr H.length 0 0 0), (3, .sl (H.length + 1) 0 0 (L2 binds.length ++ l5).length)]) (fun _ => H ++ [.cells 0 8 [.agg [.int .i64 kd, .str nm, .int .i64 nn, .int .i64 op, .list 1 (names.map .str), .list 8 (exCells subs), .list 9 (bdCells binds), .list 12 (alCells alts)]], .cells 0 1 ((L2 binds.length ++ l5).map .str)]) (fun _ => True) (fun K hK => ?_) (fun _ _ => ?_)
    · have X := And.intro noX (show ((L2 binds.length).map SV.str).length = (L2 binds.length).length from List.length_map ..)
      (refine runO ?_; repeat' (first | with_reducible exact trivial | ((with_reducible apply Fork.mk) <;> intro hb) | with_reducible apply Two.mk))
      · refine hK _ _ () trivial ?_
        rw [if_pos hb] at hl5
        subst hl5
        rw [List.map_append, List.length_append, List.length_singleton]
        exact wkS (n0 := H.length) [(H.length, 0), (H.length + 1, 0)] hG hB hC' hcl
      · refine hK _ _ () trivial ?_
        rw [if_neg hb] at hl5
        subst hl5
        rw [List.append_nil]
        exact wkS (n0 := H.length) [(H.length, 0), (H.length + 1, 0)] hG hB hC' hcl
    (refine runO ?_; repeat' (first | with_reducible exact trivial | ((with_reducible apply Fork.mk) <;> intro hb) | with_reducible apply Two.mk))
    refine go_loop (fun i : Nat => [(1, .ptr H.length 0 0 0), (3, .sl (H.length + 1) 0 0 (L4 i).length), (55, .list 12 (alCells alts)), (56, .int .i64 alts.length), (57, .int .i64 i)])
      (fun i => H ++ [.cells 0 8 [.agg [.int .i64 kd, .str nm, .int .i64 nn, .int .i64 op, .list 1 (names.map .str), .list 8 (exCells subs), .list 9 (bdCells binds), .list 12 (alCells alts)]], .cells 0 1 ((L4 i).map .str)]) (fun i => alts.length - i) (fun i => i ≤ alts.length) 0 (Nat.zero_le _) ?_ ?_
    · rw [d1]
      exact Wk.sub (by simp [subEnv, look])
    rintro K i hi hK
    rcases Nat.lt_or_ge i alts.length with hlt | hge
    · have hpb := hpw alts[i].body (by simp; exact .inr (.inr ⟨_, List.getElem_mem hlt, rfl⟩))
      have c1 := fun H => hrec alts[i].body H hpb.1 hpb.2
      have e1 := d2 i hlt
      have e2 := d3 (i + 1)
      have e3 := d3 i
      have e4 := bndF_len m alts[i].body
      rw [e1, List.length_append] at e2
      simp only [List.length_append] at e2
      generalize bndF m alts[i].body = l at *
      generalize L4 i = l1 at *
      have X := And.intro noX (show (l1.map SV.str).length = l1.length ∧ (l.map SV.str).length = l.length from ⟨List.length_map .., List.length_map ..⟩)
      (refine run ?_; repeat' (first | with_reducible exact trivial | ((with_reducible apply Fork.mk) <;> intro hb) | with_reducible apply Two.mk))
      refine hK _ _ (i + 1) (by omega) (by omega) ?_
      rw [e1, List.map_append, List.map_append, show (l1 ++ (alts[i].names ++ l)).length = l1.length + (alts[i].names.length + l.length) from by simp]
      exact wkS (n0 := H.length) [(H.length, 0), (H.length + 1, 0)] hG hB hC' hcl
    obtain rfl : i = alts.length := by omega
    clear hK
    (refine runO ?_; repeat' (first | with_reducible exact trivial | ((with_reducible apply Fork.mk) <;> intro hb) | with_reducible apply Two.mk))
    exact finK [(H.length + 1, 0)] (.sl H.length 0 0 (L4 alts.length).length) [.cells 0 1 ((L4 alts.length).map .str)] hR hC' hcl ⟨rfl, rfl⟩
end Go.Proofs.YtcopfafknmpneaaGreatDoor
end

section
namespace Go.Proofs.YtcopfafknmpneaaGreatDoor
open Go
set_option linter.unusedSimpArgs false
set_option linter.unusedVariables false
set_option maxRecDepth 100000
set_option maxHeartbeats 4000000

/-- the expression of the chapter's example -/
def E0 : Ex := .mk 4 [] 0 0 [] [.mk 1 [102] 0 0 [] [] [] [], .mk 1 [120] 0 0 [] [] [] [], .mk 3 [] 0 0 [[121]] [.mk 1 [121] 0 0 [] [] [] []] [] []] [] []
/-- what is known already: a map's copy, what is no numeral, the example's free names -/
def ovA : RC := fun f args H => match args with
  | [.map id] => bif Nat.beq f 68 then (match H[id]? with
    | some (.map kd es) => some (.map H.length, H ++ [.map kd es])
    | _ => none) else none
  | [.str s] => bif Nat.beq f 77 && decide (s.length ≤ 18) && (Lib.atoi s).isNone then some (.tuple [.int .i64 0, .ptr H.length 0 0 0], H ++ [.dead]) else none
  | [x] => bif Nat.beq f 13 && SV.same x E0.sv then some (.sl H.length 0 0 2, H ++ [.cells 0 1 [.str [102], .str [120]]]) else none
  | _ => none
def owA (f : FuncId) : List Nat := bif Nat.beq f 61 then [77] else []
def isT : Option (SV × List Blk) → Bool
  | some (.bool true, _) => true
  | _ => false
theorem awake_run (l : Option Cx) : isT (evF Tryz.prog ⟨[], l⟩ TB owA (fun _ => false) ovA 5000 40 9 [] []) = true := by kernel_rfl
end Go.Proofs.YtcopfafknmpneaaGreatDoor
end

section
namespace Go.Proofs.YtcopfafknmpneaaGreatDoor
open Go
set_option linter.unusedSimpArgs false
set_option linter.unusedVariables false
set_option maxRecDepth 100000
set_option maxHeartbeats 4000000

/-- the package variable of the library that the example's run reaches: it holds some error, or none -/
def ErrAt (C0 : Cx) : Prop := C0.H = [] ∧ ∃ ev, C0.w.cell? ⟨0, 0, none⟩ = some ev ∧ (ev = .nilIface ∨ ∃ te pe, ev = .iface te pe)
theorem ErrAt.see {C0 c : Cx} (h : ErrAt C0) (hg : Grow C0 c) : ∃ ev, c.w.cell? ⟨0, 0, none⟩ = some ev ∧ (ev = .nilIface ∨ ∃ te pe, ev = .iface te pe) := by
  obtain ⟨h0, ev, h1, h2⟩ := h
  refine ⟨ev, ?_, h2⟩
  have hlt : 0 < C0.w.heap.size := Lib.lt_of_cell h1
  have hold := hg.old 0 hlt (fun ⟨id, o, ⟨B, hB, _⟩, _⟩ => by rw [h0] at hB; cases hB)
  rw [← h1]
  unfold World.cell?
  rw [hold]
theorem E0_free : freeS E0 = [[102], [120]] := by
  have h : (unbF E0.wt E0 ([], [])).2 = [[102], [120]] := by decide +kernel
  rw [freeS, h, sortS]
  exact List.mergeSort_of_pairwise (by simp; decide)
theorem ovA_ok (G : Gl) (hG : GClosed G) (C0 : Cx) (hb : G.base = some C0) (he : ErrAt C0) : RCok Tryz.prog G ovA := by
  intro f xs H x H' h
  unfold ovA at h
  split at h
  · rename_i id
    cases hf : Nat.beq f 68 with
    | false => rw [hf] at h; cases h
    | true =>
      rw [hf, cond_true] at h
      have hf := Nat.eq_of_beq_eq_true hf
      subst hf
      split at h
      · rename_i kd es hH
        cases h
        exact ACall.of_clone ⟨_, Tryz.func68, by decide, rfl⟩ (fun b es clock w hb => Tryz.maps_Clone b es clock w hb) id H kd es hH
      · cases h
  · rename_i s
    cases hf : (Nat.beq f 77 && decide (s.length ≤ 18) && (Lib.atoi s).isNone) with
    | false => rw [hf] at h; cases h
    | true =>
      rw [hf, cond_true] at h
      simp only [Bool.and_eq_true, decide_eq_true_eq, Option.isNone_iff_eq_none] at hf
      obtain ⟨⟨hf, hl⟩, ha⟩ := hf
      have hf := Nat.eq_of_beq_eq_true hf
      subst hf
      cases h
      refine ACall.of_opaque (by decide) ⟨_, Tryz.func77, by decide, rfl⟩ (fun c hg => ?_) H
      obtain ⟨ev, h1, h2⟩ := he.see (hg.2 C0 hb)
      refine (Tryz.strconv_Atoi_err ⟨⟨s⟩⟩ (show s.length ≤ 18 from hl) ha ev c.w h1 h2).mono ?_
      rintro e w' ⟨N, rfl, _, _, hbw⟩
      exact ⟨_, rfl, rfl, hbw⟩
  · rename_i x0 _ _
    cases hf : (Nat.beq f 13 && SV.same x0 E0.sv) with
    | false => rw [hf] at h; cases h
    | true =>
      rw [hf, cond_true] at h
      rw [Bool.and_eq_true] at hf
      obtain ⟨hf, hs⟩ := hf
      have hf := Nat.eq_of_beq_eq_true hf
      subst hf
      cases h
      rw [SV.same_both.1 _ _ hs]
      have := free_ok G hG E0 H (by decide)
      rw [E0_free] at this
      exact this
  · cases h
theorem names_ok : ∀ (f : FuncId) (fn : Func), Tryz.prog.funcs[f]? = some fn → (fn.name == "runtime.NumGoroutine") = false := by
  intro f fn h
  have hall : (Tryz.prog.funcs.toList.all fun fn => !(fn.name == "runtime.NumGoroutine")) = true := by decide +kernel
  have hm : fn ∈ Tryz.prog.funcs.toList := by
    rw [← Array.getElem?_toList] at h
    exact List.mem_of_getElem? h
  have := List.all_eq_true.1 hall fn hm
  simpa using this
theorem awake_ok (G : Gl) (hG : GClosed G) (C0 : Cx) (hb : G.base = some C0) (he : ErrAt C0) (H : List Blk) : ACall Tryz.prog G 9 [] H (fun r H' => H' = H ∧ r = .bool true) := by
  have hr := awake_run (some C0)
  have hov := ovA_ok ⟨[], some C0⟩ (fun p hp => by cases hp) C0 rfl he
  have hev := evF_ok (P := Tryz.prog) (G := ⟨[], some C0⟩) (T := TB) (ow := owA) (gc := fun _ => false) (ov := ovA) (fuel := 5000) hov tabOK mixOK names_ok 40
  generalize hE : evF Tryz.prog ⟨[], some C0⟩ TB owA (fun _ => false) ovA 5000 40 9 [] [] = E at hr
  cases E with
  | none => cases hr
  | some r =>
    obtain ⟨v, H1⟩ := r
    cases v with
    | bool b => cases b with
      | false => cases hr
      | true => exact ACall.lift (G0 := ⟨[], some C0⟩) C0 rfl hb he.1 (fun p hp => by cases hp) (fun p hp => by cases hp) ((hev _ _ _ _ _ hE).mono fun r H2 h => h.2) H
    | _ => cases hr
end Go.Proofs.YtcopfafknmpneaaGreatDoor
end

section
namespace Go.Proofs.YtcopfafknmpneaaGreatDoor
open Go
set_option linter.unusedSimpArgs false
set_option linter.unusedVariables false
set_option maxRecDepth 10000
set_option maxHeartbeats 4000000

theorem has10_sl (G : Gl) (l : List Str) (v : Str) (H : List Blk) (id g : Nat) (hid : H[id]? = some (.cells g 1 (l.map .str))) (hl : l.length < 4611686018427387904) :
    ACall Tryz.prog G 14 [.sl id g 0 l.length, .str v] H (fun r H' => H' = H ∧ r = .bool (decide (v ∈ l))) := by
  refine ACall.of_go TB [] tabOK _ Tryz.func14 rfl (by decide) Tryz.ntmps14 (by simp) rfl (by simp only [initEnv, Nat.reduceAdd]; rfl) fun C R' hR hC hcl hB => ?_; have X := noX; have hC' := congrArg List.length hC
  have X := And.intro X hid
  (refine runO ?_; repeat' (first | with_reducible exact trivial | ((with_reducible apply Fork.mk) <;> intro hb) | with_reducible apply Two.mk))
  refine go_loop (fun i : Nat => [(0, .sl id g 0 l.length), (1, .str v), (5, .int .i64 i)]) (fun _ => H) (fun i => l.length - i) (fun i => i ≤ l.length ∧ v ∉ l.take i) 0 (by simp) (Wk.sub (by simp [subEnv, look])) ?_
  intro K i hi hK
  (refine runO ?_; repeat' (first | with_reducible exact trivial | ((with_reducible apply Fork.mk) <;> intro hb) | with_reducible apply Two.mk))
  · have hi' : i < l.length := by omega
    exact Fin.out hR ⟨rfl, by rw [decide_eq_true (by rw [← hb]; exact List.getElem_mem hi')]; rfl⟩
  · have hi' : i < l.length := by omega
    exact hK _ _ (i + 1) (by omega) ⟨hi', by rw [List.take_succ_eq_append_getElem hi', List.mem_append]; simp only [hi.2, List.mem_singleton, false_or]; exact fun h => hb h.symm⟩ (Wk.sub (by simp [subEnv, look]))
  · have : l.take i = l := List.take_of_length_le (by omega)
    exact Fin.out hR ⟨rfl, by rw [decide_eq_false (by rw [← this]; exact hi.2)]; rfl⟩
end Go.Proofs.YtcopfafknmpneaaGreatDoor
end

section
namespace Go.Proofs.YtcopfafknmpneaaGreatDoor
open Go
set_option linter.unusedSimpArgs false
set_option linter.unusedVariables false
set_option maxRecDepth 10000
set_option maxHeartbeats 4000000

/-! ### lists alike (printed by py/eqf.py) -/
def eqL {α : Type} (p : α → α → Bool) : List α → List α → Bool
  | [], [] => true
  | x :: a, y :: b => p x y && eqL p a b
  | _, _ => false
theorem eqL_iff {α : Type} (p : α → α → Bool) : ∀ (a b : List α), eqL p a b = true ↔ a.length = b.length ∧ ∀ i (h : i < a.length) (h' : i < b.length), p a[i] b[i] = true
  | [], [] => by simp [eqL]
  | [], y :: b => by simp [eqL]
  | x :: a, [] => by simp [eqL]
  | x :: a, y :: b => by
    simp only [eqL, Bool.and_eq_true, eqL_iff p a b, List.length_cons, Nat.add_right_cancel_iff]
    constructor
    · rintro ⟨h1, h2, h3⟩
      refine ⟨h2, fun i h h' => ?_⟩
      cases i with
      | zero => exact h1
      | succ i => exact h3 i (by omega) (by omega)
    · rintro ⟨h1, h2⟩
      exact ⟨h2 0 (by omega) (by omega), h1, fun i h h' => h2 (i + 1) (by omega) (by omega)⟩
theorem eqL_no {α : Type} {p : α → α → Bool} {a b : List α} (h : a.length ≠ b.length) : eqL p a b = false := by
  rw [← Bool.not_eq_true, eqL_iff]; exact fun k => h k.1
theorem eqL_at {α : Type} {p : α → α → Bool} {a b : List α} {i : Nat} (h : i < a.length) (h' : i < b.length) (k : p a[i] b[i] = false) : eqL p a b = false := by
  rw [← Bool.not_eq_true, eqL_iff]; exact fun q => by have := q.2 i h h'; rw [k] at this; cases this
theorem eqL_eq {α : Type} {p : α → α → Bool} (hp : ∀ x y, p x y = true ↔ x = y) : ∀ (a b : List α), eqL p a b = true ↔ a = b
  | [], [] => by simp [eqL]
  | [], y :: b => by simp [eqL]
  | x :: a, [] => by simp [eqL]
  | x :: a, y :: b => by simp [eqL, hp, eqL_eq hp a b]
def strE (x y : Str) : Bool := decide (x = y)
theorem eqStrs_ok (G : Gl) (hG : GClosed G) (a b : List (Str)) (ha : a.length < 1125899906842624) (hb0 : b.length < 1125899906842624) (H : List Blk) :
    ACall Tryz.prog G 50 [.list 1 (a.map SV.str), .list 1 (b.map SV.str)] H (fun r H' => H' = H ∧ r = .bool (eqL strE a b)) := by
  have h1 : (a.map SV.str).length = a.length := by simp
  have h2 : (b.map SV.str).length = b.length := by simp
  have hA1 : ∀ k : Nat, (a.map SV.str)[k]? = a[k]?.map SV.str := fun k => List.getElem?_map ..
  have hB1 : ∀ k : Nat, (b.map SV.str)[k]? = b[k]?.map SV.str := fun k => List.getElem?_map ..
  have hu1 : SV.underL H.length (a.map SV.str) = true := SV.underL_map fun _ _ => rfl
  have hu2 : SV.underL H.length (b.map SV.str) = true := SV.underL_map fun _ _ => rfl
  generalize a.map SV.str = A at *
  generalize b.map SV.str = B at *
  refine ACall.of_go TB [] tabOK _ Tryz.func50 rfl (by decide) Tryz.ntmps50 (by simp) rfl (by simp only [initEnv, Nat.reduceAdd]; rfl) fun C R' hR hC hcl hB => ?_; have X := noX; have hC' := congrArg List.length hC
  have X := And.intro X (And.intro h1 h2)
  by_cases hl : a.length = b.length
  · have hln : ((a.length : Int) = (b.length : Int)) = True := by simp [hl]
    have X := And.intro X hln
    (refine run ?_; repeat' (first | with_reducible exact trivial | ((with_reducible apply Fork.mk) <;> intro hb) | with_reducible apply Two.mk))
    clear X
    refine go_loop (fun k : Nat => [(0, .list 1 A), (1, .list 1 B), (12, .int .i64 a.length), (13, .int .i64 k)]) (fun _ => H) (fun k => a.length - k) (fun k => k ≤ a.length ∧ ∀ i (h : i < a.length) (h' : i < b.length), i < k → strE a[i] b[i] = true) 0 ⟨Nat.zero_le _, fun i _ _ h => by omega⟩ (Wk.sub (by simp [subEnv, look])) ?_
    rintro K k ⟨hk, hall⟩ hK
    rcases Nat.lt_or_ge k a.length with hlt | hge
    · have hlt2 : k < b.length := by omega
      have e1 : A[k]? = some (SV.str a[k]) := by rw [hA1, List.getElem?_eq_getElem hlt]; rfl
      have e2 : B[k]? = some (SV.str b[k]) := by rw [hB1, List.getElem?_eq_getElem hlt2]; rfl
      have hno := eqL_at (p := strE) hlt hlt2
      have hyes : strE a[k] b[k] = true → ∀ i (h : i < a.length) (h' : i < b.length), i < k + 1 → strE a[i] b[i] = true := fun h i hi hi' hik => by
        rcases Nat.lt_or_ge i k with h3 | h3
        · exact hall i hi hi' h3
        · have : i = k := by omega
          subst this; exact h
      generalize a[k] = x at *
      generalize b[k] = y at *
      simp only [strE] at hno hyes
      have X := And.intro noX (And.intro h1 (And.intro h2 (And.intro e1 e2)))
      (refine run ?_; repeat' (first | with_reducible exact trivial | ((with_reducible apply Fork.mk) <;> intro hb) | with_reducible apply Two.mk))
      · refine Fin.out hR ⟨rfl, ?_⟩
        rw [hno (by first | (simpa using hb) | (revert hb; simp; done) | (cases h1 : decide (x1 = y1) <;> cases h2 : decide (x2 = y2) <;> simp_all; done) | (cases h1 : decide (x1 = y1) <;> cases h2 : decide (x2 = y2) <;> cases h3 : decide (x3 = y3) <;> cases h4 : decide (x4 = y4) <;> simp_all))]; rfl
      · exact hK _ _ (k + 1) (by omega) ⟨by omega, hyes (by first | (simpa using hb) | (revert hb; simp; done) | (cases h1 : decide (x1 = y1) <;> cases h2 : decide (x2 = y2) <;> simp_all; done) | (cases h1 : decide (x1 = y1) <;> cases h2 : decide (x2 = y2) <;> cases h3 : decide (x3 = y3) <;> cases h4 : decide (x4 = y4) <;> simp_all))⟩ (Wk.sub (by simp [subEnv, look]))
    · have : k = a.length := by omega
      subst this
      have X := And.intro noX (Int.lt_irrefl (a.length : Int))
      (refine run ?_; repeat' (first | with_reducible exact trivial | ((with_reducible apply Fork.mk) <;> intro hb) | with_reducible apply Two.mk))
      refine Fin.out hR ⟨rfl, ?_⟩
      rw [(eqL_iff strE a b).2 ⟨hl, fun i h h' => hall i h h' h⟩]; rfl
  · have hln : ((a.length : Int) = (b.length : Int)) = False := by simp; omega
    have X := And.intro X hln
    (refine run ?_; repeat' (first | with_reducible exact trivial | ((with_reducible apply Fork.mk) <;> intro hb) | with_reducible apply Two.mk))
    refine Fin.out hR ⟨rfl, ?_⟩
    rw [eqL_no hl]; rfl
theorem eqExF_ok (G : Gl) (hG : GClosed G) (f : SV) (p : Ex → Ex → Bool) (a b : List Ex) (ha : a.length < 1125899906842624) (hb0 : b.length < 1125899906842624) (H : List Blk)
    (hfu : f.under H.length = true) (hf : ∀ x ∈ a, ∀ y ∈ b, ∀ L, ACallV Tryz.prog G f [(fun e : Ex => SV.agg e.cells) x, (fun e : Ex => SV.agg e.cells) y] (H ++ L) (fun r H' => H' = H ++ L ∧ r = .bool (p x y))) :
    ACall Tryz.prog G 51 [.list 8 (a.map (fun e : Ex => SV.agg e.cells)), .list 8 (b.map (fun e : Ex => SV.agg e.cells)), f] H (fun r H' => H' = H ∧ r = .bool (eqL p a b)) := by
  have h1 : (a.map (fun e : Ex => SV.agg e.cells)).length = a.length := by simp
  have h2 : (b.map (fun e : Ex => SV.agg e.cells)).length = b.length := by simp
  have hu1 : SV.underL H.length (a.map (fun e : Ex => SV.agg e.cells)) = true := SV.underL_map fun i _ => Ex.cells_under _ i
  have hu2 : SV.underL H.length (b.map (fun e : Ex => SV.agg e.cells)) = true := SV.underL_map fun i _ => Ex.cells_under _ i
  refine ACall.of_go TB [] tabOK _ Tryz.func51 rfl (by decide) Tryz.ntmps51 (by simp) rfl (by simp only [initEnv, Nat.reduceAdd]; rfl) fun C R' hR hC hcl hB => ?_; have X := noX; have hC' := congrArg List.length hC
  have X := And.intro X (And.intro h1 h2)
  by_cases hl : a.length = b.length
  · have hln : ((a.length : Int) = (b.length : Int)) = True := by simp [hl]
    have X := And.intro X hln
    (refine run ?_; repeat' (first | with_reducible exact trivial | ((with_reducible apply Fork.mk) <;> intro hb) | with_reducible apply Two.mk))
    clear X
    refine go_loop (fun k : Nat => [(0, .list 8 (a.map (fun e : Ex => SV.agg e.cells))), (1, .list 8 (b.map (fun e : Ex => SV.agg e.cells))), (2, f), (15, .list 8 (a.map (fun e : Ex => SV.agg e.cells))), (16, .int .i64 a.length), (17, .int .i64 k)]) (fun _ => H ++ []) (fun k => a.length - k) (fun k => k ≤ a.length ∧ ∀ i (h : i < a.length) (h' : i < b.length), i < k → p a[i] b[i] = true) 0 ⟨Nat.zero_le _, fun i _ _ h => by omega⟩ (by rw [List.append_nil]; exact Wk.sub (by simp [subEnv, look])) ?_
    rintro K k ⟨hk, hall⟩ hK
    rcases Nat.lt_or_ge k a.length with hlt | hge
    · have hlt2 : k < b.length := by omega
      have e1 : (a.map (fun e : Ex => SV.agg e.cells))[k]? = some ((fun e : Ex => SV.agg e.cells) a[k]) := by simp [hlt]
      have e2 : (b.map (fun e : Ex => SV.agg e.cells))[k]? = some ((fun e : Ex => SV.agg e.cells) b[k]) := by simp [hlt2]
      have hno := eqL_at (p := p) hlt hlt2
      have hcall := hf a[k] (List.getElem_mem hlt) b[k] (List.getElem_mem hlt2)
      have hyes : p a[k] b[k] = true → ∀ i (h : i < a.length) (h' : i < b.length), i < k + 1 → p a[i] b[i] = true := fun h i hi hi' hik => by
        rcases Nat.lt_or_ge i k with h3 | h3
        · exact hall i hi hi' h3
        · have : i = k := by omega
          subst this; exact h
      generalize a[k] = x at *
      generalize b[k] = y at *
      simp only at hcall e1 e2
      have X := And.intro noX (And.intro h1 (And.intro h2 (And.intro e1 e2)))
      (refine run ?_; repeat' (first | with_reducible exact trivial | ((with_reducible apply Fork.mk) <;> intro hb) | with_reducible apply Two.mk))
      refine callV (hcall _) ?_
      rintro r H' ⟨rfl, rfl⟩
      generalize p x y = pv at *
      (refine run ?_; repeat' (first | with_reducible exact trivial | ((with_reducible apply Fork.mk) <;> intro hb) | with_reducible apply Two.mk))
      · refine finS hR hC' hcl (.same _ ?_) ⟨rfl, ?_⟩
        · rfl
        · rw [hno (by simpa using hb)]; rfl
      · exact hK _ _ (k + 1) (by omega) ⟨by omega, hyes (by simpa using hb)⟩ (wkS (n0 := H.length) [] hG hB hC' hcl)
    · have : k = a.length := by omega
      subst this
      have X := And.intro noX (Int.lt_irrefl (a.length : Int))
      (refine run ?_; repeat' (first | with_reducible exact trivial | ((with_reducible apply Fork.mk) <;> intro hb) | with_reducible apply Two.mk))
      refine Fin.out hR ⟨List.append_nil _, ?_⟩
      rw [(eqL_iff p a b).2 ⟨hl, fun i h h' => hall i h h' h⟩]; rfl
  · have hln : ((a.length : Int) = (b.length : Int)) = False := by simp; omega
    have X := And.intro X hln
    (refine run ?_; repeat' (first | with_reducible exact trivial | ((with_reducible apply Fork.mk) <;> intro hb) | with_reducible apply Two.mk))
    refine Fin.out hR ⟨rfl, ?_⟩
    rw [eqL_no hl]; rfl
theorem eqBdF_ok (G : Gl) (hG : GClosed G) (f : SV) (p : Bd → Bd → Bool) (a b : List Bd) (ha : a.length < 1125899906842624) (hb0 : b.length < 1125899906842624) (H : List Blk)
    (hfu : f.under H.length = true) (hf : ∀ x ∈ a, ∀ y ∈ b, ∀ L, ACallV Tryz.prog G f [(fun b : Bd => SV.agg b.cells) x, (fun b : Bd => SV.agg b.cells) y] (H ++ L) (fun r H' => H' = H ++ L ∧ r = .bool (p x y))) :
    ACall Tryz.prog G 52 [.list 9 (a.map (fun b : Bd => SV.agg b.cells)), .list 9 (b.map (fun b : Bd => SV.agg b.cells)), f] H (fun r H' => H' = H ∧ r = .bool (eqL p a b)) := by
  have h1 : (a.map (fun b : Bd => SV.agg b.cells)).length = a.length := by simp
  have h2 : (b.map (fun b : Bd => SV.agg b.cells)).length = b.length := by simp
  have hu1 : SV.underL H.length (a.map (fun b : Bd => SV.agg b.cells)) = true := SV.underL_map fun i _ => Bd.cells_under _ i
  have hu2 : SV.underL H.length (b.map (fun b : Bd => SV.agg b.cells)) = true := SV.underL_map fun i _ => Bd.cells_under _ i
  refine ACall.of_go TB [] tabOK _ Tryz.func52 rfl (by decide) Tryz.ntmps52 (by simp) rfl (by simp only [initEnv, Nat.reduceAdd]; rfl) fun C R' hR hC hcl hB => ?_; have X := noX; have hC' := congrArg List.length hC
  have X := And.intro X (And.intro h1 h2)
  by_cases hl : a.length = b.length
  · have hln : ((a.length : Int) = (b.length : Int)) = True := by simp [hl]
    have X := And.intro X hln
    (refine run ?_; repeat' (first | with_reducible exact trivial | ((with_reducible apply Fork.mk) <;> intro hb) | with_reducible apply Two.mk))
    clear X
    refine go_loop (fun k : Nat => [(0, .list 9 (a.map (fun b : Bd => SV.agg b.cells))), (1, .list 9 (b.map (fun b : Bd => SV.agg b.cells))), (2, f), (15, .list 9 (a.map (fun b : Bd => SV.agg b.cells))), (16, .int .i64 a.length), (17, .int .i64 k)]) (fun _ => H ++ []) (fun k => a.length - k) (fun k => k ≤ a.length ∧ ∀ i (h : i < a.length) (h' : i < b.length), i < k → p a[i] b[i] = true) 0 ⟨Nat.zero_le _, fun i _ _ h => by omega⟩ (by rw [List.append_nil]; exact Wk.sub (by simp [subEnv, look])) ?_
    rintro K k ⟨hk, hall⟩ hK
    rcases Nat.lt_or_ge k a.length with hlt | hge
    · have hlt2 : k < b.length := by omega
      have e1 : (a.map (fun b : Bd => SV.agg b.cells))[k]? = some ((fun b : Bd => SV.agg b.cells) a[k]) := by simp [hlt]
      have e2 : (b.map (fun b : Bd => SV.agg b.cells))[k]? = some ((fun b : Bd => SV.agg b.cells) b[k]) := by simp [hlt2]
      have hno := eqL_at (p := p) hlt hlt2
      have hcall := hf a[k] (List.getElem_mem hlt) b[k] (List.getElem_mem hlt2)
      have hyes : p a[k] b[k] = true → ∀ i (h : i < a.length) (h' : i < b.length), i < k + 1 → p a[i] b[i] = true := fun h i hi hi' hik => by
        rcases Nat.lt_or_ge i k with h3 | h3
        · exact hall i hi hi' h3
        · have : i = k := by omega
          subst this; exact h
      generalize a[k] = x at *
      generalize b[k] = y at *
      simp only at hcall e1 e2
      have X := And.intro noX (And.intro h1 (And.intro h2 (And.intro e1 e2)))
      (refine run ?_; repeat' (first | with_reducible exact trivial | ((with_reducible apply Fork.mk) <;> intro hb) | with_reducible apply Two.mk))
      refine callV (hcall _) ?_
      rintro r H' ⟨rfl, rfl⟩
      generalize p x y = pv at *
      (refine run ?_; repeat' (first | with_reducible exact trivial | ((with_reducible apply Fork.mk) <;> intro hb) | with_reducible apply Two.mk))
      · refine finS hR hC' hcl (.same _ ?_) ⟨rfl, ?_⟩
        · rfl
        · rw [hno (by simpa using hb)]; rfl
      · exact hK _ _ (k + 1) (by omega) ⟨by omega, hyes (by simpa using hb)⟩ (wkS (n0 := H.length) [] hG hB hC' hcl)
    · have : k = a.length := by omega
      subst this
      have X := And.intro noX (Int.lt_irrefl (a.length : Int))
      (refine run ?_; repeat' (first | with_reducible exact trivial | ((with_reducible apply Fork.mk) <;> intro hb) | with_reducible apply Two.mk))
      refine Fin.out hR ⟨List.append_nil _, ?_⟩
      rw [(eqL_iff p a b).2 ⟨hl, fun i h h' => hall i h h' h⟩]; rfl
  · have hln : ((a.length : Int) = (b.length : Int)) = False := by simp; omega
    have X := And.intro X hln
    (refine run ?_; repeat' (first | with_reducible exact trivial | ((with_reducible apply Fork.mk) <;> intro hb) | with_reducible apply Two.mk))
    refine Fin.out hR ⟨rfl, ?_⟩
    rw [eqL_no hl]; rfl
theorem eqAlF_ok (G : Gl) (hG : GClosed G) (f : SV) (p : Al → Al → Bool) (a b : List Al) (ha : a.length < 1125899906842624) (hb0 : b.length < 1125899906842624) (H : List Blk)
    (hfu : f.under H.length = true) (hf : ∀ x ∈ a, ∀ y ∈ b, ∀ L, ACallV Tryz.prog G f [(fun a : Al => SV.agg a.cells) x, (fun a : Al => SV.agg a.cells) y] (H ++ L) (fun r H' => H' = H ++ L ∧ r = .bool (p x y))) :
    ACall Tryz.prog G 54 [.list 12 (a.map (fun a : Al => SV.agg a.cells)), .list 12 (b.map (fun a : Al => SV.agg a.cells)), f] H (fun r H' => H' = H ∧ r = .bool (eqL p a b)) := by
  have h1 : (a.map (fun a : Al => SV.agg a.cells)).length = a.length := by simp
  have h2 : (b.map (fun a : Al => SV.agg a.cells)).length = b.length := by simp
  have hu1 : SV.underL H.length (a.map (fun a : Al => SV.agg a.cells)) = true := SV.underL_map fun i _ => Al.cells_under _ i
  have hu2 : SV.underL H.length (b.map (fun a : Al => SV.agg a.cells)) = true := SV.underL_map fun i _ => Al.cells_under _ i
  refine ACall.of_go TB [] tabOK _ Tryz.func54 rfl (by decide) Tryz.ntmps54 (by simp) rfl (by simp only [initEnv, Nat.reduceAdd]; rfl) fun C R' hR hC hcl hB => ?_; have X := noX; have hC' := congrArg List.length hC
  have X := And.intro X (And.intro h1 h2)
  by_cases hl : a.length = b.length
  · have hln : ((a.length : Int) = (b.length : Int)) = True := by simp [hl]
    have X := And.intro X hln
    (refine run ?_; repeat' (first | with_reducible exact trivial | ((with_reducible apply Fork.mk) <;> intro hb) | with_reducible apply Two.mk))
    clear X
    refine go_loop (fun k : Nat => [(0, .list 12 (a.map (fun a : Al => SV.agg a.cells))), (1, .list 12 (b.map (fun a : Al => SV.agg a.cells))), (2, f), (15, .list 12 (a.map (fun a : Al => SV.agg a.cells))), (16, .int .i64 a.length), (17, .int .i64 k)]) (fun _ => H ++ []) (fun k => a.length - k) (fun k => k ≤ a.length ∧ ∀ i (h : i < a.length) (h' : i < b.length), i < k → p a[i] b[i] = true) 0 ⟨Nat.zero_le _, fun i _ _ h => by omega⟩ (by rw [List.append_nil]; exact Wk.sub (by simp [subEnv, look])) ?_
    rintro K k ⟨hk, hall⟩ hK
    rcases Nat.lt_or_ge k a.length with hlt | hge
    · have hlt2 : k < b.length := by omega
      have e1 : (a.map (fun a : Al => SV.agg a.cells))[k]? = some ((fun a : Al => SV.agg a.cells) a[k]) := by simp [hlt]
      have e2 : (b.map (fun a : Al => SV.agg a.cells))[k]? = some ((fun a : Al => SV.agg a.cells) b[k]) := by simp [hlt2]
      have hno := eqL_at (p := p) hlt hlt2
      have hcall := hf a[k] (List.getElem_mem hlt) b[k] (List.getElem_mem hlt2)
      have hyes : p a[k] b[k] = true → ∀ i (h : i < a.length) (h' : i < b.length), i < k + 1 → p a[i] b[i] = true := fun h i hi hi' hik => by
        rcases Nat.lt_or_ge i k with h3 | h3
        · exact hall i hi hi' h3
        · have : i = k := by omega
          subst this; exact h
      generalize a[k] = x at *
      generalize b[k] = y at *
      simp only at hcall e1 e2
      have X := And.intro noX (And.intro h1 (And.intro h2 (And.intro e1 e2)))
      (refine run ?_; repeat' (first | with_reducible exact trivial | ((with_reducible apply Fork.mk) <;> intro hb) | with_reducible apply Two.mk))
      refine callV (hcall _) ?_
      rintro r H' ⟨rfl, rfl⟩
      generalize p x y = pv at *
      (refine run ?_; repeat' (first | with_reducible exact trivial | ((with_reducible apply Fork.mk) <;> intro hb) | with_reducible apply Two.mk))
      · refine finS hR hC' hcl (.same _ ?_) ⟨rfl, ?_⟩
        · rfl
        · rw [hno (by simpa using hb)]; rfl
      · exact hK _ _ (k + 1) (by omega) ⟨by omega, hyes (by simpa using hb)⟩ (wkS (n0 := H.length) [] hG hB hC' hcl)
    · have : k = a.length := by omega
      subst this
      have X := And.intro noX (Int.lt_irrefl (a.length : Int))
      (refine run ?_; repeat' (first | with_reducible exact trivial | ((with_reducible apply Fork.mk) <;> intro hb) | with_reducible apply Two.mk))
      refine Fin.out hR ⟨List.append_nil _, ?_⟩
      rw [(eqL_iff p a b).2 ⟨hl, fun i h h' => hall i h h' h⟩]; rfl
  · have hln : ((a.length : Int) = (b.length : Int)) = False := by simp; omega
    have X := And.intro X hln
    (refine run ?_; repeat' (first | with_reducible exact trivial | ((with_reducible apply Fork.mk) <;> intro hb) | with_reducible apply Two.mk))
    refine Fin.out hR ⟨rfl, ?_⟩
    rw [eqL_no hl]; rfl
end Go.Proofs.YtcopfafknmpneaaGreatDoor
end

section
namespace Go.Proofs.YtcopfafknmpneaaGreatDoor
open Go
set_option linter.unusedSimpArgs false
set_option linter.unusedVariables false
set_option maxRecDepth 10000
set_option maxHeartbeats 4000000

def bdB (s1 s2 : Str) (z : Bool) : Bool := decide (s1 = s2) && z
def alB (k1 k2 : Int) (s1 s2 : Str) (n1 n2 : Int) (z2 z : Bool) : Bool := (((decide (k1 = k2) && decide (s1 = s2)) && decide (n1 = n2)) && z2) && z
def smB (k1 k2 : Int) (s1 s2 : Str) (n1 n2 o1 o2 : Int) (z1 z2 z3 z4 : Bool) : Bool := ((((((decide (k1 = k2) && decide (s1 = s2)) && decide (n1 = n2)) && decide (o1 = o2)) && z1) && z2) && z3) && z4
def bdP (p : Ex → Ex → Bool) (x y : Bd) : Bool := bdB x.name y.name (p x.e y.e)
def alP (p : Ex → Ex → Bool) (x y : Al) : Bool := alB x.kind y.kind x.name y.name x.n y.n (eqL strE x.names y.names) (p x.body y.body)
/-- two expressions alike -/
def smE : Nat → Ex → Ex → Bool
  | 0, _, _ => false
  | m + 1, .mk k1 s1 n1 o1 l1 u1 b1 a1, .mk k2 s2 n2 o2 l2 u2 b2 a2 =>
    smB k1 k2 s1 s2 n1 n2 o1 o2 (eqL strE l1 l2) (eqL (smE m) u1 u2) (eqL (bdP (smE m)) b1 b2) (eqL (alP (smE m)) a1 a2)
def SmC (G : Gl) (m : Nat) : Prop := ∀ (a b : Ex) (H : List Blk), a.wt ≤ m → a.wt < 549755813888 → b.wt < 549755813888 → ACall Tryz.prog G 22 [a.sv, b.sv] H (fun r H' => H' = H ∧ r = .bool (smE m a b))
theorem sameBd_ok (G : Gl) (hG : GClosed G) (m : Nat) (hrec : SmC G m) (x y : Bd) (hx : x.wt ≤ m) (hx2 : x.wt < 549755813888) (hy : y.wt < 549755813888) (H : List Blk) : ACall Tryz.prog G 53 [.agg x.cells, .agg y.cells] H (fun r H' => H' = H ∧ r = .bool (bdP (smE m) x y)) := by
  have h1 := x.wt_gt
  have h2 := y.wt_gt
  have c1 := fun H => hrec x.e y.e H (by omega) (by omega) (by omega)
  obtain ⟨s1, e1⟩ := x
  obtain ⟨s2, e2⟩ := y
  simp only [Bd.e, Bd.cells, bdP, Bd.name] at *
  generalize smE m e1 e2 = z at *
  refine ACall.of_go TB [] tabOK _ Tryz.func53 rfl (by decide) Tryz.ntmps53 (by simp) rfl (by simp only [initEnv, Nat.reduceAdd]; rfl) fun C R' hR hC hcl hB => ?_; have X := noX; have hC' := congrArg List.length hC
  (refine run ?_; repeat' (first | with_reducible exact trivial | ((with_reducible apply Fork.mk) <;> intro hb) | with_reducible apply Two.mk))
  all_goals
    refine finS hR hC' hcl (.same _ rfl) ⟨rfl, ?_⟩
    unfold bdB
    simp_all [resSV]
theorem sameAl_ok (G : Gl) (hG : GClosed G) (m : Nat) (hrec : SmC G m) (x y : Al) (hx : x.wt ≤ m) (hx2 : x.wt < 549755813888) (hy : y.wt < 549755813888) (H : List Blk) : ACall Tryz.prog G 55 [.agg x.cells, .agg y.cells] H (fun r H' => H' = H ∧ r = .bool (alP (smE m) x y)) := by
  have h1 := x.wt_gt
  have h2 := y.wt_gt
  have h3 := x.wt_names
  have h4 := y.wt_names
  have c1 := fun H => hrec x.body y.body H (by omega) (by omega) (by omega)
  have c2 := fun H => eqStrs_ok G hG x.names y.names (by omega) (by omega) H
  obtain ⟨k1, s1, n1, l1, e1⟩ := x
  obtain ⟨k2, s2, n2, l2, e2⟩ := y
  simp only [Al.body, Al.cells, alP, Al.name, Al.kind, Al.n, Al.names] at *
  generalize smE m e1 e2 = z at *
  generalize eqL strE l1 l2 = z2 at *
  refine ACall.of_go TB [] tabOK _ Tryz.func55 rfl (by decide) Tryz.ntmps55 (by simp) rfl (by simp only [initEnv, Nat.reduceAdd]; rfl) fun C R' hR hC hcl hB => ?_; have X := noX; have hC' := congrArg List.length hC
  (refine run ?_; repeat' (first | with_reducible exact trivial | ((with_reducible apply Fork.mk) <;> intro hb) | with_reducible apply Two.mk))
  all_goals
    refine finS hR hC' hcl (.same _ rfl) ⟨rfl, ?_⟩
    unfold alB
    simp_all [resSV]
theorem same_ok (G : Gl) (hG : GClosed G) : ∀ m, SmC G m
  | 0, a, b, H, h, _, _ => absurd a.wt_pos (by omega)
  | m + 1, a, b, H, hm, ha, hb => by
    have hrec := same_ok G hG m
    obtain ⟨k1, s1, n1, o1, l1, u1, b1, a1⟩ := a
    obtain ⟨k2, s2, n2, o2, l2, u2, b2, a2⟩ := b
    have hle1 := Ex.wt_lens k1 s1 n1 o1 l1 u1 b1 a1
    have hle2 := Ex.wt_lens k2 s2 n2 o2 l2 u2 b2 a2
    have hw1 : (Ex.mk k1 s1 n1 o1 l1 u1 b1 a1).wt = 1 + s1.length + strsWt l1 + exsWt u1 + bdsWt b1 + alsWt a1 := by simp only [Ex.wt]
    have hw2 : (Ex.mk k2 s2 n2 o2 l2 u2 b2 a2).wt = 1 + s2.length + strsWt l2 + exsWt u2 + bdsWt b2 + alsWt a2 := by simp only [Ex.wt]
    have c1 := fun H => eqStrs_ok G hG l1 l2 (by omega) (by omega) H
    have c2 := fun H => eqExF_ok G hG (.fn (.func 22) [] []) (smE m) u1 u2 (by omega) (by omega) H rfl (fun x hx y hy L => by
      have := exsWt_mem hx
      have := exsWt_mem hy
      exact ACallV.of (first := []) (args := [SV.agg x.cells, SV.agg y.cells]) (cap := []) (hrec x y (H ++ L) (by omega) (by omega) (by omega)))
    have c3 := fun H => eqBdF_ok G hG (.fn (.func 53) [] []) (bdP (smE m)) b1 b2 (by omega) (by omega) H rfl (fun x hx y hy L => by
      have := bdsWt_mem hx
      have := bdsWt_mem hy
      exact ACallV.of (first := []) (args := [SV.agg x.cells, SV.agg y.cells]) (cap := []) (sameBd_ok G hG m hrec x y (by omega) (by omega) (by omega) (H ++ L)))
    have c4 := fun H => eqAlF_ok G hG (.fn (.func 55) [] []) (alP (smE m)) a1 a2 (by omega) (by omega) H rfl (fun x hx y hy L => by
      have := alsWt_mem hx
      have := alsWt_mem hy
      exact ACallV.of (first := []) (args := [SV.agg x.cells, SV.agg y.cells]) (cap := []) (sameAl_ok G hG m hrec x y (by omega) (by omega) (by omega) (H ++ L)))
    have f1 : ∀ l : List Ex, l.map (fun e : Ex => SV.agg e.cells) = exCells l := fun l => (exCells_map l).symm
    have f2 : ∀ l : List Bd, l.map (fun e : Bd => SV.agg e.cells) = bdCells l := fun l => (bdCells_map l).symm
    have f3 : ∀ l : List Al, l.map (fun e : Al => SV.agg e.cells) = alCells l := fun l => (alCells_map l).symm
    simp only [f1] at c2
    simp only [f2] at c3
    simp only [f3] at c4
    have e0 : smE (m + 1) (.mk k1 s1 n1 o1 l1 u1 b1 a1) (.mk k2 s2 n2 o2 l2 u2 b2 a2) = smB k1 k2 s1 s2 n1 n2 o1 o2 (eqL strE l1 l2) (eqL (smE m) u1 u2) (eqL (bdP (smE m)) b1 b2) (eqL (alP (smE m)) a1 a2) := rfl
    rw [e0]
    clear e0 f1 f2 f3
    generalize eqL strE l1 l2 = z1 at *
    generalize eqL (smE m) u1 u2 = z2 at *
    generalize eqL (bdP (smE m)) b1 b2 = z3 at *
    generalize eqL (alP (smE m)) a1 a2 = z4 at *
    refine ACall.of_go TB [] tabOK _ Tryz.func22 rfl (by decide) Tryz.ntmps22 (by simp) rfl (by simp only [initEnv, Nat.reduceAdd]; rfl) fun C R' hR hC hcl hB => ?_; have X := noX; have hC' := congrArg List.length hC
    (refine run ?_; repeat' (first | with_reducible exact trivial | ((with_reducible apply Fork.mk) <;> intro hb) | with_reducible apply Two.mk))
    all_goals
      refine finS hR hC' hcl (.same _ rfl) ⟨rfl, ?_⟩
      unfold smB
      simp_all [resSV]
end Go.Proofs.YtcopfafknmpneaaGreatDoor
end

section
namespace Go.Proofs.YtcopfafknmpneaaGreatDoor
open Go
set_option linter.unusedSimpArgs false
set_option linter.unusedVariables false
set_option maxRecDepth 10000
set_option maxHeartbeats 4000000

theorem eqL_self {α : Type} {p : α → α → Bool} : ∀ {l : List α}, (∀ x ∈ l, p x x = true) → eqL p l l = true
  | [], _ => rfl
  | x :: r, h => by
    rw [eqL, h x (List.mem_cons_self ..), eqL_self fun y hy => h y (List.mem_cons_of_mem _ hy)]; rfl
theorem strE_self (l : List Str) : eqL strE l l = true := eqL_self fun x _ => by simp [strE]
theorem smE_self : ∀ (m : Nat) (e : Ex), e.wt ≤ m → smE m e e = true
  | 0, e, h => absurd e.wt_pos (by omega)
  | m + 1, e, h => by
    have hp : ∀ p ∈ e.parts, smE m p p = true := fun p hp => smE_self m p (by have := Ex.wt_parts hp; omega)
    obtain ⟨kd, nm, nn, op, names, subs, binds, alts⟩ := e
    rw [Ex.parts_mk] at hp
    have h1 : eqL (smE m) subs subs = true := eqL_self fun x hx => hp x (by simp [hx])
    have h2 : eqL (bdP (smE m)) binds binds = true := eqL_self fun b hb => by
      have := hp b.e (by simp; exact .inr (.inl ⟨b, hb, rfl⟩))
      simp [bdP, bdB, this]
    have h3 : eqL (alP (smE m)) alts alts = true := eqL_self fun a ha => by
      have := hp a.body (by simp; exact .inr (.inr ⟨a, ha, rfl⟩))
      simp [alP, alB, this, strE_self]
    rw [smE, h1, h2, h3, strE_self]
    simp [smB]

theorem occS_zero {s : Str} : ∀ {l : List Ex}, occS s l = 0 → ∀ x ∈ l, occ s x = 0
  | x :: r, h, y, hy => by
    have h : occ s x + occS s r = 0 := by simpa [occS] using h
    rcases List.mem_cons.1 hy with rfl | hy
    · omega
    · exact occS_zero (by omega) y hy
/-- what is not free is not replaced -/
theorem rep_none (s : Str) (r : Ex) : ∀ (m : Nat) (e : Ex), e.wt ≤ m → shp m e → occ s e = 0 → repF s r m e = e
  | 0, e, h, _, _ => absurd e.wt_pos (by omega)
  | m + 1, e, hm, hs, h0 => by
    have hw : ∀ p ∈ e.parts, p.wt ≤ m := fun p hp => by have := Ex.wt_parts hp; omega
    obtain ⟨h6, h5, hp⟩ := hs
    obtain ⟨kd, nm, nn, op, names, subs, binds, alts⟩ := e
    have h6 : kd ≠ 6 → alts = [] := h6
    have h5 : kd ≠ 5 → binds = [] := h5
    by_cases hk : kd = 1
    · rw [occ, if_pos hk] at h0
      rw [repF, if_pos hk, if_neg (fun e => by rw [if_pos e] at h0; cases h0)]
    · rw [repF, if_neg hk]
      rw [Ex.parts_mk] at hp hw
      by_cases ho : s ∈ ownOf kd names binds
      · have ha : alts = [] := h6 fun e => by subst e; simp [ownOf] at ho
        subst ha
        simp only [if_pos ho, List.map_nil]
        have e1 : (subs.map fun x => x) = subs := List.map_id' ..
        have e2 : (binds.map fun b => Bd.mk b.name b.e) = binds := (List.map_congr_left fun b _ => Bd.mk_eta b).trans (List.map_id' ..)
        rw [e1, e2]
      · rw [occ_us s hk ho] at h0
        have hz := occS_zero h0
        have hu : ∀ x ∈ usL s kd nm subs binds alts, repF s r m x = x := fun x hx => by
          have hx2 := usL_parts (nn := nn) (op := op) (names := names) hx
          rw [Ex.parts_mk] at hx2
          exact rep_none s r m x (hw x hx2) (hp x hx2) (hz x hx)
        simp only [if_neg ho]
        have e1 : (subs.map fun x => repF s r m x) = subs := (List.map_congr_left fun x hx => hu x (by simp [usL, hx])).trans (List.map_id' ..)
        have e2 : (binds.map fun b => Bd.mk b.name (repF s r m b.e)) = binds := (List.map_congr_left fun b hb => by
          rw [hu b.e (by simp only [usL, List.mem_append, List.mem_map]; exact .inr (.inl ⟨b, hb, rfl⟩))]; exact Bd.mk_eta b).trans (List.map_id' ..)
        have e3 : (alts.map fun a => Al.mk a.kind a.name a.n a.names (if s ∈ altOwn kd nm a.names then a.body else repF s r m a.body)) = alts := (List.map_congr_left fun a ha => by
          by_cases hs : s ∈ altOwn kd nm a.names
          · rw [if_pos hs]; exact Al.mk_eta a
          · rw [if_neg hs, hu a.body (by
              simp only [usL, List.mem_append, List.mem_map, List.mem_filter]
              refine .inr (.inr ⟨a, ⟨ha, ?_⟩, rfl⟩)
              simp only [keepA, Bool.not_eq_true', decide_eq_false_iff_not]
              rintro (h | ⟨h1, h2⟩)
              · exact hs (by simp [altOwn, h])
              · exact hs (by simp [altOwn, h1, h2]))]
            exact Al.mk_eta a).trans (List.map_id' ..)
        rw [e1, e2, e3]
/-- how often the name stands there then -/
theorem occ_mul (s : Str) (r : Ex) : ∀ (m : Nat) (e : Ex), e.wt ≤ m → shp m e → occ s (repF s r m e) = occ s r * occ s e
  | 0, e, h, _ => absurd e.wt_pos (by omega)
  | m + 1, e, hm, hs => by
    obtain ⟨h6, _, hp⟩ := hs
    have hw : ∀ p ∈ scopeParts e, p.1.wt ≤ m ∧ shp m p.1 := fun p h => by
      have := scope_wt h
      exact ⟨by omega, hp _ (by rw [parts_scope]; exact List.mem_map_of_mem h)⟩
    obtain ⟨kd, nm, nn, op, names, subs, binds, alts⟩ := e
    have h6' : kd ≠ 6 → alts = [] := h6
    by_cases hk : kd = 1
    · rw [repF, if_pos hk]
      by_cases hn : nm = s
      · rw [if_pos hn, occ, if_pos hk, if_pos hn, Nat.mul_one]
      · rw [if_neg hn, occ, if_pos hk, if_neg hn, Nat.mul_zero]
    · have ho : occ s (repF s r (m + 1) (.mk kd nm nn op names subs binds alts)) = ((scopeParts (repF s r (m + 1) (.mk kd nm nn op names subs binds alts))).map (occP s)).sum := by
        rw [repF, if_neg hk]
        exact occ_scope s hk fun h => by rw [show alts = [] from h6 h]; rfl
      rw [ho, rep_scope s r m hk, List.map_map, occ_scope s hk h6', sum_mul]
      refine sum_congr fun p hpm => ?_
      simp only [Function.comp_def, occP]
      by_cases hsn : s ∈ p.2
      · rw [if_pos hsn, if_pos hsn, Nat.mul_zero]
      · simp only [if_neg hsn]
        exact occ_mul s r m p.1 (hw p hpm).1 (hw p hpm).2
theorem shp_any : ∀ (k : Nat) (e : Ex), shp e.wt e → shp k e
  | 0, _, _ => trivial
  | k + 1, e, h => by
    obtain ⟨m, hm⟩ : ∃ m, e.wt = m + 1 := ⟨e.wt - 1, by have := e.wt_pos; omega⟩
    have h' := h
    rw [hm] at h'
    exact ⟨h'.1, h'.2.1, fun p hp => shp_any k p (shp_part h hp)⟩
theorem shp_rep (s : Str) (r : Ex) (hr : shp r.wt r) : ∀ (m : Nat) (e : Ex), e.wt ≤ m → shp e.wt e → ∀ k, shp k (repF s r m e)
  | 0, e, h, _, _ => absurd e.wt_pos (by omega)
  | m + 1, e, hm, hs, 0 => trivial
  | m + 1, e, hm, hs, k + 1 => by
    have hany := shp_any (k + 1) e hs
    have hw : ∀ p ∈ scopeParts e, p.1.wt ≤ m ∧ shp p.1.wt p.1 := fun p h => by
      have := scope_wt h
      exact ⟨by omega, shp_part hs (by rw [parts_scope]; exact List.mem_map_of_mem h)⟩
    obtain ⟨kd, nm, nn, op, names, subs, binds, alts⟩ := e
    by_cases hk : kd = 1
    · rw [repF, if_pos hk]
      by_cases hn : nm = s
      · rw [if_pos hn]; exact shp_any _ r hr
      · rw [if_neg hn]; exact hany
    · have h6 : kd ≠ 6 → alts = [] := hany.1
      have h5 : kd ≠ 5 → binds = [] := hany.2.1
      have hsc := rep_scope s r m (nm := nm) (nn := nn) (op := op) (names := names) (subs := subs) (binds := binds) (alts := alts) hk
      have hps := parts_scope (repF s r (m + 1) (.mk kd nm nn op names subs binds alts))
      rw [hsc, List.map_map] at hps
      refine ⟨?_, ?_, fun p hp => ?_⟩
      · rw [repF, if_neg hk]
        intro h
        show alts.map _ = []
        rw [h6 h]; rfl
      · rw [repF, if_neg hk]
        intro h
        show binds.map _ = []
        rw [h5 h]; rfl
      · rw [hps] at hp
        obtain ⟨q, hq, rfl⟩ := List.mem_map.1 hp
        simp only [Function.comp_def]
        split
        · exact shp_any k q.1 (hw q hq).2
        · exact shp_rep s r hr m q.1 (hw q hq).1 (hw q hq).2 k
end Go.Proofs.YtcopfafknmpneaaGreatDoor
end
