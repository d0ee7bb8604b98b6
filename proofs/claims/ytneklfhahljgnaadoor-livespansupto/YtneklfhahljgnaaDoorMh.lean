/- A part of the proof: E1, E4, E5, E6, E7, F1, F2, F3. -/
import Derived.Test.YtneklfhahljgnaaDoorMg

section
namespace Go.Proofs.YtneklfhahljgnaaDoor
open Go
set_option linter.unusedSimpArgs false
set_option linter.unusedVariables false
set_option maxRecDepth 10000
set_option maxHeartbeats 4000000

def lstI (op : Int) : Int := if bitOf 16 op then 1 else if bitOf 32 op then 2 else 0
theorem has_ok (G : Gl) (hG : GClosed G) (op : Int) (H : List Blk) : ACall Tryd.prog G 51 [.int .i64 op] H (fun r H' => H' = H ∧ r = .tuple [.bool (bitOf 1 op), .bool (bitOf 2 op), .bool (bitOf 4 op), .bool (bitOf 8 op), .int .i64 (lstI op)]) := by
  refine ACall.of_go TB [] tabOK _ Tryd.func51 rfl (by decide) Tryd.ntmps51 (by simp) rfl (by simp only [initEnv, Nat.reduceAdd]; rfl) fun C R' hR hC hcl hB => ?_; have X := noX; have hC' := congrArg List.length hC
  have hlast : (op ≠ 26 → op < 1 ∨ 27 ≤ op) → Fin C H (resSV [SV.bool false, SV.bool false, SV.bool false, SV.bool false, SV.int .i64 0]) R' := fun h => by
    refine Fin.out hR ⟨rfl, ?_⟩
    by_cases e : op = 26
    · subst e; rfl
    · have : ofS op = 0 := by unfold ofS; rw [if_pos (h e)]
      simp only [lstI, bitOf, this]; rfl
  (refine run ?_; repeat' (first | with_reducible exact trivial | ((with_reducible apply Fork.mk) <;> intro hb) | with_reducible apply Two.mk))
  all_goals first
    | (subst hb; exact Fin.out hR ⟨rfl, rfl⟩)
    | (refine hlast fun e => ?_; omega)
theorem rwrites_ok (G : Gl) (hG : GClosed G) (i : Ins) (H : List Blk) : ACall Tryd.prog G 26 [.agg i.cells] H (fun r H' => H' = H ∧ r = .int .i64 (wrS i)) := by
  obtain ⟨op, a, b, c, n, l⟩ := i
  simp only [Ins.cells, wrS]
  have c1 := fun H => has_ok G hG op H
  generalize bitOf 1 op = B1 at c1 ⊢
  generalize bitOf 2 op = B2 at c1
  generalize bitOf 4 op = B4 at c1
  generalize bitOf 8 op = B8 at c1
  generalize lstI op = Bl at c1
  refine ACall.of_go TB [] tabOK _ Tryd.func26 rfl (by decide) Tryd.ntmps26 (by simp) rfl (by simp only [initEnv, Nat.reduceAdd]; rfl) fun C R' hR hC hcl hB => ?_; have X := noX; have hC' := congrArg List.length hC
  (refine run ?_; repeat' (first | with_reducible exact trivial | ((with_reducible apply Fork.mk) <;> intro hb) | with_reducible apply Two.mk))
  · refine finS hR hC' hcl (y := .int .i64 (-1)) (.same _ rfl) ⟨rfl, ?_⟩
    simp only [Bool.or_eq_true, Bool.not_eq_true', decide_eq_true_eq] at hb
    rw [if_pos hb]
  · refine finS hR hC' hcl (y := .int .i64 a) (.same _ rfl) ⟨rfl, ?_⟩
    simp only [Bool.or_eq_false_iff, Bool.not_eq_false', decide_eq_false_iff_not] at hb
    rw [if_neg (by simp [hb.1, hb.2])]
theorem rreads_ok (G : Gl) (hG : GClosed G) (i : Ins) (hl : i.l.length ≤ 4294967296) (H : List Blk) : ACall Tryd.prog G 28 [.agg i.cells] H (fun r H' => H' = H ∧ r = .list 1 ((rdS i).map (.int .i64))) := by
  obtain ⟨op, a, b, c, n, l⟩ := i
  simp only [Ins.cells, rdS]
  simp only at hl
  have c1 := fun H => has_ok G hG op H
  have h16 : bitOf 16 op = decide (lstI op = 1) := by unfold lstI; cases bitOf 16 op <;> simp; split <;> simp
  rw [h16]
  generalize bitOf 1 op = B1 at c1
  generalize bitOf 2 op = B2 at c1 ⊢
  generalize bitOf 4 op = B4 at c1 ⊢
  generalize bitOf 8 op = B8 at c1
  generalize lstI op = Bl at c1 ⊢
  refine ACall.of_go TB [8] tabOK _ Tryd.func28 rfl (by decide) Tryd.ntmps28 (by simp) rfl (by simp only [initEnv, Nat.reduceAdd]; rfl) fun C R' hR hC hcl hB => ?_; have X := noX; have hC' := congrArg List.length hC
  (refine run ?_; repeat' (first | with_reducible exact trivial | ((with_reducible apply Fork.mk) <;> intro hb) | with_reducible apply Two.mk))
  all_goals
    simp only [Bool.not_eq_false, decide_eq_true_eq] at *
    refine finS hR hC' hcl (y := .list 1 (((if op = 14 then [a] else []) ++ (if B2 = true then [b] else []) ++ (if B4 = true then [c] else []) ++ (if Bl = 1 then l else [])).map (.int .i64))) ?_ ⟨rfl, rfl⟩
    clear hR hC hC' hcl hB X c1 hG
    simp_all only [if_true, if_false, Bool.false_eq_true, List.nil_append, List.append_nil, List.cons_append, List.map_append, List.map_cons, List.map_nil]
    first
      | exact .nil 1
      | exact .sf (by exact hbS) (by simp) (by simp) (by simp [List.take_of_length_le, Nat.add_comm]) (by first | exact ints_under _ _ | simp only [SV.underL, SV.under, ints_under, Bool.and_self])
end Go.Proofs.YtneklfhahljgnaaDoor
end

section
namespace Go.Proofs.YtneklfhahljgnaaDoor
open Go
set_option linter.unusedSimpArgs false
set_option linter.unusedVariables false
set_option maxRecDepth 10000
set_option maxHeartbeats 4000000

/-! ### the reference's rows of needed slots -/
def okW (w : Int) (s : Int) : Bool := decide (s ≠ w) || decide (w < 0)
/-- a row is laid into another, but for what is written -/
def layW (w : Int) (m l : List Int) : List Int := (m.filter (okW w)).foldl layI l
theorem layW_nil (w : Int) (l : List Int) : layW w [] l = l := rfl
theorem layW_snoc (w : Int) (m l : List Int) (x : Int) : layW w (m ++ [x]) l = if okW w x then layI (layW w m l) x else layW w m l := by
  unfold layW
  rw [List.filter_append, List.foldl_append]
  by_cases h : okW w x = true
  · simp [List.filter_cons, h]
  · simp [List.filter_cons, h]
theorem layW_mem (w : Int) (m l : List Int) (x : Int) : x ∈ layW w m l ↔ x ∈ l ∨ (x ∈ m ∧ okW w x = true) := by
  unfold layW; rw [folds_mem, List.mem_filter]
theorem layW_lt (w : Int) (m : List Int) {l : List Int} (h : l.Pairwise (fun x y => x < y)) : (layW w m l).Pairwise (fun x y => x < y) := folds_lt _ _ h
/-- what comes from those that may follow -/
def nextW (w : Int) (R : List (List Int)) (nx : List Int) : List Int := nx.foldl (fun l k => if k < 0 ∨ (R.length : Int) ≤ k then l else layW w (R.getD k.toNat []) l) []
theorem nextW_snoc (w : Int) (R : List (List Int)) (nx : List Int) (k : Int) : nextW w R (nx ++ [k]) = if k < 0 ∨ (R.length : Int) ≤ k then nextW w R nx else layW w (R.getD k.toNat []) (nextW w R nx) := by
  unfold nextW; rw [List.foldl_append]; rfl
theorem snoc_ind {P : List Int → Prop} (h0 : P []) (h1 : ∀ l x, P l → P (l ++ [x])) (l : List Int) : P l := by
  have h : ∀ r : List Int, P r.reverse := by
    intro r
    induction r with
    | nil => exact h0
    | cons x r ih => rw [List.reverse_cons]; exact h1 _ _ ih
  have := h l.reverse
  rwa [List.reverse_reverse] at this
theorem nextW_lt (w : Int) (R : List (List Int)) (nx : List Int) : (nextW w R nx).Pairwise (fun x y => x < y) := by
  refine snoc_ind (P := fun nx => (nextW w R nx).Pairwise (fun x y => x < y)) List.Pairwise.nil (fun nx k ih => ?_) nx
  · rw [nextW_snoc]; split
    · exact ih
    · exact layW_lt _ _ ih
theorem nextW_mem (w : Int) (R : List (List Int)) (nx : List Int) (x : Int) : x ∈ nextW w R nx ↔ ∃ k : Nat, k < R.length ∧ (k : Int) ∈ nx ∧ x ∈ R.getD k [] ∧ okW w x = true := by
  refine snoc_ind (P := fun nx => x ∈ nextW w R nx ↔ ∃ k : Nat, k < R.length ∧ (k : Int) ∈ nx ∧ x ∈ R.getD k [] ∧ okW w x = true) (by simp [nextW]) (fun nx k ih => ?_) nx
  · rw [nextW_snoc]
    split
    · rename_i hk
      rw [ih]
      constructor
      · rintro ⟨q, h1, h2, h3⟩; exact ⟨q, h1, List.mem_append_left _ h2, h3⟩
      · rintro ⟨q, h1, h2, h3⟩
        refine ⟨q, h1, (List.mem_append.1 h2).resolve_right fun e => ?_, h3⟩
        rw [List.mem_singleton] at e; omega
    · rename_i hk
      rw [layW_mem, ih]
      constructor
      · rintro (⟨q, h1, h2, h3⟩ | ⟨h3, h4⟩)
        · exact ⟨q, h1, List.mem_append_left _ h2, h3⟩
        · exact ⟨k.toNat, by omega, by rw [Int.toNat_of_nonneg (by omega)]; simp, h3, h4⟩
      · rintro ⟨q, h1, h2, h3, h4⟩
        rcases List.mem_append.1 h2 with h2 | h2
        · exact .inl ⟨q, h1, h2, h3, h4⟩
        · rw [List.mem_singleton] at h2; subst h2
          rw [Int.toNat_natCast]; exact .inr ⟨h3, h4⟩
/-- the new row of an instruction -/
def newR (R : List (List Int)) (x : Ins) (i : Nat) : List Int := (rdS x).foldl layI (nextW (wrS x) R (nxS x i))
def FP (code : List Ins) (R : List (List Int)) (i : Nat) (s : Int) : Prop := ∃ h : i < code.length, s ∈ newR R code[i] i
theorem newR_lt (R : List (List Int)) (x : Ins) (i : Nat) : (newR R x i).Pairwise (fun x y => x < y) := folds_lt _ _ (nextW_lt _ _ _)
theorem newR_mem (R : List (List Int)) (x : Ins) (i : Nat) (s : Int) : s ∈ newR R x i ↔ (∃ k : Nat, k < R.length ∧ (k : Int) ∈ nxS x i ∧ s ∈ R.getD k [] ∧ okW (wrS x) s = true) ∨ s ∈ rdS x := by
  unfold newR; rw [folds_mem, nextW_mem]
/-- what is known of the rows -/
structure RD (code : List Ins) (R : List (List Int)) : Prop where
  len : R.length = code.length
  lt : ∀ j, (R.getD j []).Pairwise (fun x y => x < y)
  sound : ∀ j s, s ∈ R.getD j [] → NeedP code j s
  pre : ∀ j s, s ∈ R.getD j [] → FP code R j s
theorem getD_set (R : List (List Int)) (i j : Nat) (l : List Int) (hi : i < R.length) : (R.set i l).getD j [] = if j = i then l else R.getD j [] := by
  rw [List.getD_eq_getElem?_getD, List.getElem?_set]
  split
  · rename_i h; subst h; simp [hi]
  · rename_i h; rw [if_neg (fun e => h e.symm), List.getD_eq_getElem?_getD]
theorem newR_mono {R R' : List (List Int)} (hl : R.length = R'.length) (h : ∀ j s, s ∈ R.getD j [] → s ∈ R'.getD j []) (x : Ins) (i : Nat) (s : Int) (hs : s ∈ newR R x i) : s ∈ newR R' x i := by
  rw [newR_mem] at hs ⊢
  rcases hs with ⟨k, h1, h2, h3, h4⟩ | hs
  · exact .inl ⟨k, by omega, h2, h _ _ h3, h4⟩
  · exact .inr hs
theorem RD.zero (code : List Ins) : RD code (List.replicate code.length []) := by
  have h0 : ∀ j, (List.replicate code.length ([] : List Int)).getD j [] = [] := fun j => by
    rw [List.getD_eq_getElem?_getD, List.getElem?_replicate]; split <;> rfl
  exact ⟨by simp, fun j => by rw [h0]; exact .nil, fun j s hs => by rw [h0] at hs; simp at hs, fun j s hs => by rw [h0] at hs; simp at hs⟩
theorem RD.new_need {code : List Ins} {R : List (List Int)} (h : RD code R) {i : Nat} (hi : i < code.length) {s : Int} (hs : s ∈ newR R code[i] i) : NeedP code i s := by
  rw [newR_mem] at hs
  rcases hs with ⟨k, h1, h2, h3, h4⟩ | hs
  · exact .step i k s hi (by have := h.len; omega) h2 (by simpa [okW] using h4) (h.sound _ _ h3)
  · exact .read i s hi hs
theorem RD.sub {code : List Ins} {R : List (List Int)} (h : RD code R) {i : Nat} (hi : i < code.length) (s : Int) (hs : s ∈ R.getD i []) : s ∈ newR R code[i] i := (h.pre i s hs).2
theorem RD.upd {code : List Ins} {R : List (List Int)} (h : RD code R) {i : Nat} (hi : i < code.length) : RD code (R.set i (newR R code[i] i)) := by
  have hl := h.len
  have hg : ∀ j s, s ∈ R.getD j [] → s ∈ (R.set i (newR R code[i] i)).getD j [] := fun j s hs => by
    rw [getD_set _ _ _ _ (by omega)]; split
    · rename_i e; subst e; exact h.sub hi s hs
    · exact hs
  refine ⟨by simpa using h.len, fun j => ?_, fun j s hs => ?_, fun j s hs => ?_⟩
  · rw [getD_set _ _ _ _ (by omega)]; split
    · exact newR_lt _ _ _
    · exact h.lt j
  · rw [getD_set _ _ _ _ (by omega)] at hs
    split at hs
    · rename_i e; subst e; exact h.new_need hi hs
    · exact h.sound j s hs
  · rw [getD_set _ _ _ _ (by omega)] at hs
    split at hs
    · rename_i e; subst e
      exact ⟨hi, newR_mono (by simp) hg _ _ _ hs⟩
    · obtain ⟨hj, hn⟩ := h.pre j s hs
      exact ⟨hj, newR_mono (by simp) hg _ _ _ hn⟩
theorem RD.len_le {code : List Ins} {R : List (List Int)} (h : RD code R) (j : Nat) : (R.getD j []).length ≤ (code.flatMap rdS).length :=
  nodup_le (lt_nodup (h.lt j)) fun s hs => need_all (h.sound j s hs)
/-- where nothing has changed, all is done -/
theorem RD.rows {code : List Ins} {R : List (List Int)} (h : RD code R) (hf : ∀ i (hi : i < code.length), newR R code[i] i = R.getD i []) : Rows code R := by
  have hl := h.len
  refine ⟨h.len, fun i hi => ?_⟩
  have e : R[i] = R.getD i [] := by rw [List.getD_eq_getElem?_getD, List.getElem?_eq_getElem hi]; rfl
  rw [e]
  refine ⟨h.lt i, fun s => ⟨h.sound i s, fun hn => ?_⟩⟩
  clear hi e
  induction hn with
  | read i s h1 h2 => rw [← hf i h1, newR_mem]; exact .inr h2
  | step i k s h1 h2 h3 h4 _ ih =>
    rw [← hf i h1, newR_mem]
    exact .inl ⟨k, by omega, h3, ih, by simpa [okW] using h4⟩
theorem same_len {a b : List Int} (ha : a.Pairwise (fun x y => x < y)) (hb : b.Pairwise (fun x y => x < y)) (h : ∀ s ∈ a, s ∈ b) (hl : b.length = a.length) : b = a := by
  have hs : List.Sublist a b := by
    induction b generalizing a with
    | nil => rw [List.length_nil] at hl; rw [List.eq_nil_of_length_eq_zero hl.symm]; exact .slnil
    | cons y b ih =>
      cases a with
      | nil => simp at hl
      | cons x a =>
        rw [List.pairwise_cons] at ha hb
        simp only [List.length_cons, Nat.add_right_cancel_iff] at hl
        have hx := h x (List.mem_cons_self ..)
        rcases List.mem_cons.1 hx with e | hx
        · subst e
          refine .cons_cons _ (ih ha.2 hb.2 (fun s hs => ?_) hl)
          rcases List.mem_cons.1 (h s (List.mem_cons_of_mem _ hs)) with e | m
          · have := ha.1 s hs; omega
          · exact m
        · exfalso
          have hlen := nodup_le (a := x :: a) (b := b) (lt_nodup (List.pairwise_cons.2 ha)) (fun s hs => by
            rcases List.mem_cons.1 (h s hs) with e | m
            · have h1 := hb.1 x hx
              rcases List.mem_cons.1 hs with e2 | m2
              · omega
              · have := ha.1 s m2; omega
            · exact m)
          simp at hlen; omega
  exact (hs.eq_of_length hl.symm).symm
def sumR (R : List (List Int)) : Nat := (R.map List.length).sum
theorem sumR_set (R : List (List Int)) (i : Nat) (l : List Int) (hi : i < R.length) : sumR (R.set i l) + (R.getD i []).length = sumR R + l.length := by
  unfold sumR
  induction R generalizing i with
  | nil => simp at hi
  | cons x R ih =>
    cases i with
    | zero => simp; omega
    | succ i =>
      simp only [List.set_cons_succ, List.map_cons, List.sum_cons, List.getD_cons_succ]
      have := ih i (by simpa using hi); omega
theorem sumR_le {R : List (List Int)} {r : Nat} (h : ∀ j, (R.getD j []).length ≤ r) : sumR R ≤ R.length * r := by
  unfold sumR
  induction R with
  | nil => simp
  | cons x R ih =>
    have h0 := h 0
    have h1 := ih fun j => h (j + 1)
    simp only [List.map_cons, List.sum_cons, List.length_cons, Nat.succ_mul]
    simp at h0; omega
/-- the middle round: m instructions are still to come -/
structure RM (code : List Ins) (R0 R : List (List Int)) (m : Nat) (ch : Bool) : Prop where
  rd : RD code R
  le : sumR R0 ≤ sumR R
  yes : ch = true → sumR R0 < sumR R
  no : ch = false → R = R0 ∧ ∀ i (hi : i < code.length), m ≤ i → newR R code[i] i = R.getD i []
theorem RM.zero {code : List Ins} {R : List (List Int)} (h : RD code R) : RM code R R code.length false := ⟨h, Nat.le_refl _, (by simp), fun _ => ⟨rfl, fun i hi hm => by omega⟩⟩
theorem RM.step {code : List Ins} {R0 R : List (List Int)} {m : Nat} {ch : Bool} (h : RM code R0 R (m + 1) ch) (hm : m < code.length) : RM code R0 (R.set m (newR R code[m] m)) m (ch || decide ((newR R code[m] m).length ≠ (R.getD m []).length)) := by
  have hl := h.rd.len
  have hs := sumR_set R m (newR R code[m] m) (by omega)
  have hle := nodup_le (lt_nodup (h.rd.lt m)) fun s hs => h.rd.sub hm s hs
  have := h.le
  refine ⟨h.rd.upd hm, by omega, fun hy => ?_, fun hn => ?_⟩
  · rw [Bool.or_eq_true, decide_eq_true_eq] at hy
    rcases hy with hy | hy
    · have := h.yes hy; omega
    · omega
  · rw [Bool.or_eq_false_iff, decide_eq_false_iff_not] at hn
    obtain ⟨hn1, hn2⟩ := hn
    have e := same_len (h.rd.lt m) (newR_lt R code[m] m) (fun s hs => h.rd.sub hm s hs) (by omega)
    have e2 : R.set m (newR R code[m] m) = R := by
      apply List.ext_getElem?
      intro j
      rw [List.getElem?_set]
      split
      · rename_i hj; subst hj
        rw [if_pos (by omega), List.getElem?_eq_getElem (by omega), e, List.getD_eq_getElem?_getD, List.getElem?_eq_getElem (by omega)]; rfl
      · rfl
    rw [e2]
    obtain ⟨h1, h2⟩ := h.no hn1
    refine ⟨h1, fun i hi hmi => ?_⟩
    by_cases hmi2 : i = m
    · subst hmi2; exact e
    · exact h2 i hi (by omega)
/-- the outer round -/
def RO (code : List Ins) (R : List (List Int)) (ch : Bool) : Prop := RD code R ∧ (ch = false → Rows code R)
def muR (code : List Ins) (R : List (List Int)) (ch : Bool) : Nat := 2 * (code.length * (code.flatMap rdS).length - sumR R) + (if ch then 1 else 0)
theorem RO.next {code : List Ins} {R0 R : List (List Int)} {ch : Bool} (h0 : RD code R0) (h : RM code R0 R 0 ch) : RO code R ch ∧ muR code R ch < muR code R0 true := by
  have hb := sumR_le (fun j => h.rd.len_le j)
  rw [h.rd.len] at hb
  refine ⟨⟨h.rd, fun hn => h.rd.rows fun i hi => (h.no hn).2 i hi (Nat.zero_le _)⟩, ?_⟩
  have h1 := h.le
  unfold muR
  cases ch with
  | true => have := h.yes rfl; simp only [if_true]; omega
  | false => simp only [if_true]; simp; omega
end Go.Proofs.YtneklfhahljgnaaDoor
end

section
namespace Go.Proofs.YtneklfhahljgnaaDoor
open Go
set_option linter.unusedSimpArgs false
set_option linter.unusedVariables false
set_option maxRecDepth 10000
set_option maxHeartbeats 4000000

def rowsL (R : List (List Int)) : List SV := R.map fun l => .list 1 (l.map (.int .i64))
theorem rowsL_len (R : List (List Int)) : (rowsL R).length = R.length := by simp [rowsL]
theorem rowsL_get (R : List (List Int)) (i : Nat) (h : i < R.length) : (rowsL R)[i]? = some (.list 1 ((R.getD i []).map (.int .i64))) := by simp [rowsL, h]
theorem rowsL_set (R : List (List Int)) (i : Nat) (l : List Int) : (rowsL R).set i (.list 1 (l.map (.int .i64))) = rowsL (R.set i l) := by simp [rowsL]
theorem rowsL_under (n : Nat) (R : List (List Int)) : SV.underL n (rowsL R) = true := SV.underL_map fun l _ => by simp only [SV.under, ints_under]
theorem rowsL_zero (n : Nat) : rowsL (List.replicate n []) = List.replicate n (.list 1 []) := by simp [rowsL]

theorem frz_nils {H : List Blk} {n0 : Nat} {ks : Keep} : ∀ n : Nat, FrzL H n0 ks (List.replicate n .nil) (List.replicate n (.list 1 []))
  | 0 => .nil
  | n + 1 => .cons _ _ _ _ (.nil 1) (frz_nils n)
theorem rbefore_ok (G : Gl) (hG : GClosed G) (f : Fun) (hn : f.code.length < 1048576) (hl : ∀ i ∈ f.code, i.l.length ≤ 1048576) (hr : (f.code.flatMap rdS).length ≤ 4194304) (H : List Blk) :
    ACall Tryd.prog G 11 [.agg f.cells] H (fun r H' => ∃ rows, Rows f.code rows ∧ H' = H ∧ r = .list 1 (rowsL rows)) := by
  obtain ⟨name, thunk, upd, free, params, frame, code⟩ := f
  simp only [Fun.cells]
  simp only at hn hl hr
  generalize hfc : [SV.str name, .bool thunk, .bool upd, .int .i64 free, .int .i64 params, .int .i64 frame, .list 6 (insL code)] = fc
  have hfcl : fc.length = 7 := by subst hfc; rfl
  have hfc6 : fc[6]? = some (.list 6 (insL code)) := by subst hfc; rfl
  have hfcu : ∀ n, SV.underL n [SV.agg fc] = true := fun n => by subst hfc; simp only [SV.underL, SV.under, insL_under, Bool.and_self]
  generalize hcn : code.length = n at hn
  refine ACall.of_go TB [] tabOK _ Tryd.func11 rfl (by decide) Tryd.ntmps11 (by simp) rfl (by simp only [initEnv, Nat.reduceAdd]; rfl) fun C R' hR hC hcl hB => ?_; have X := noX; have hC' := congrArg List.length hC
  have X := And.intro X (And.intro hfcl (And.intro hfc6 hcn))
  (refine run ?_; repeat' (first | with_reducible exact trivial | ((with_reducible apply Fork.mk) <;> intro hb) | with_reducible apply Two.mk))
  refine go_loop (fun a : List (List Int) × Bool => [(1, .ptr H.length 0 0 0), (3, .int .i64 n), (4, .sl (H.length + 1) 0 0 n), (5, .bool a.2)]) (fun a => H ++ [.cells 0 7 [.agg fc], .cells 0 1 (rowsL a.1)]) (fun a => muR code a.1 a.2) (fun a => RO code a.1 a.2)
    (List.replicate n [], true) ⟨by rw [← hcn]; exact RD.zero code, by simp⟩ ?_ ?_
  · rw [rowsL_zero]
    exact wkS (n0 := H.length) [(H.length, 0), (H.length + 1, 0)] hG hB hC' hcl (hk := .c (g := 0) (sz := 7) (vals := [.agg fc]) (by simp) (Nat.le_refl _) (Nat.zero_le _) (FrzL.same (hfcu _)) (.c (g := 0) (sz := 1) (vals := List.replicate n .nil) (by simp) (by omega) (Nat.zero_le _) (by rw [List.drop_zero]; exact frz_nils n) .nil))
  rintro K ⟨R, ch⟩ ⟨hRD, hch⟩ hK
  dsimp only at hRD hch hK ⊢
  have hRl := hRD.len
  cases ch with
  | false =>
    clear hK
    have X := And.intro X (rowsL_len R)
    (refine run ?_; repeat' (first | with_reducible exact trivial | ((with_reducible apply Fork.mk) <;> intro hb) | with_reducible apply Two.mk))
    refine finS hR hC' hcl (y := .list 1 (rowsL R)) (.sf (by exact hbS) (by simp) (by simp) (by rw [List.drop_zero, List.take_of_length_le (by rw [rowsL_len, hRl, hcn]; exact Nat.le_refl _)]) (rowsL_under _ _)) ⟨R, hch rfl, rfl, rfl⟩
  | true =>
  have X := And.intro X (rowsL_len R)
  (refine run ?_; repeat' (first | with_reducible exact trivial | ((with_reducible apply Fork.mk) <;> intro hb) | with_reducible apply Two.mk))
  refine go_loop (fun a : Nat × List (List Int) × Bool => [(1, .ptr H.length 0 0 0), (3, .int .i64 n), (4, .sl (H.length + 1) 0 0 n), (5, .bool a.2.2), (6, .int .i64 ((a.1 : Int) - 1))]) (fun a => H ++ [.cells 0 7 [.agg fc], .cells 0 1 (rowsL a.2.1)]) (fun a => a.1) (fun a => a.1 ≤ n ∧ RM code R a.2.1 a.1 a.2.2)
    (n, R, false) ⟨Nat.le_refl _, by rw [← hcn]; exact RM.zero hRD⟩ (Wk.sub (by simp [subEnv, look])) ?_
  clear X
  rintro K2 ⟨m, R1, ch⟩ ⟨hm, hRM⟩ hK2
  dsimp only at hm hRM hK2 ⊢
  have hRD1 := hRM.rd
  have hRl1 := hRD1.len
  have X0 := And.intro noX (And.intro hfcl (And.intro hfc6 (And.intro hcn (rowsL_len R1))))
  cases m with
  | zero =>
    obtain ⟨hRO, hmu⟩ := RO.next hRD hRM
    clear hK2
    have X := X0
    (refine run ?_; repeat' (first | with_reducible exact trivial | ((with_reducible apply Fork.mk) <;> intro hb) | with_reducible apply Two.mk))
    all_goals exact hK _ _ (R1, ch) hmu hRO (Wk.sub (by simp [subEnv, look]))
  | succ j =>
  have hj : j < code.length := by omega
  have e0 : ((j + 1 : Nat) : Int) - 1 = (j : Int) := by omega
  rw [e0]
  have e1 : (insL code)[j]? = some (.agg (code[j]).cells) := by simp [insL, hj]
  have hstep := hRM.step hj
  have hsz := hl code[j] (List.getElem_mem hj)
  have hneed := fun s h => hRD1.new_need hj (s := s) h
  have hrl : (R1.getD j []).length ≤ 4194304 := Nat.le_trans (hRD1.len_le j) hr
  have hrj := rowsL_get R1 j (by omega)
  generalize code[j] = x at e1 hstep hsz hneed
  have c1 := fun H => rnext_ok G hG x j (by omega) (by omega) H
  have c2 := fun H => rwrites_ok G hG x H
  have c3 := fun H => rreads_ok G hG x (by omega) H
  have hw : wrS x < 0 ∨ wrS x = x.a := by unfold wrS; split <;> simp
  have hnr : newR R1 x j = (rdS x).foldl layI (nextW (wrS x) R1 (nxS x j)) := rfl
  have hnm := fun s => newR_mem R1 x j s
  have hrdl : (rdS x).length < 1099511627776 := by
    have h1 : (rdS x).length ≤ 1 + 1 + 1 + x.l.length := by
      unfold rdS
      rw [List.length_append, List.length_append, List.length_append]
      refine Nat.add_le_add (Nat.add_le_add (Nat.add_le_add ?_ ?_) ?_) ?_
      · split <;> simp
      · split <;> simp
      · split <;> simp
      · split <;> simp
    omega
  have hnxl : (nxS x j).length < 1099511627776 := by
    have h1 : (nxS x j).length ≤ (nxL x j).length := Nat.le_trans (compS_len _) (by rw [sortI_len]; exact Nat.le_refl _)
    have h2 : (nxL x j).length ≤ 1 + 1 + x.l.length := by
      unfold nxL
      rw [List.length_append, List.length_append]
      refine Nat.add_le_add (Nat.add_le_add ?_ ?_) ?_
      · split <;> simp
      · split <;> simp
      · split
        · exact List.length_filter_le _ _
        · exact Nat.zero_le _
    omega
  obtain ⟨op, xa, xb, xc, xn, xl⟩ := x
  simp only [Ins.cells] at *
  generalize rdS ⟨op, xa, xb, xc, xn, xl⟩ = rd at *
  generalize wrS ⟨op, xa, xb, xc, xn, xl⟩ = w at *
  generalize nxS ⟨op, xa, xb, xc, xn, xl⟩ j = nx at *
  generalize newR R1 ⟨op, xa, xb, xc, xn, xl⟩ j = N at *
  have hnl : nx.length < 1099511627776 := hnxl
  have hsub : ∀ L : List Int, L.Pairwise (fun x y => x < y) → (∀ s ∈ L, NeedP code j s) → L.length ≤ 1099511627776 := fun L h1 h2 => by
    have := nodup_le (lt_nodup h1) fun s hs => need_all (h2 s hs); omega
  have X := And.intro X0 (And.intro e1 hj)
  (refine run ?_; repeat' (first | with_reducible exact trivial | ((with_reducible apply Fork.mk) <;> intro hb) | with_reducible apply Two.mk))
  refine go_loop (fun a : Nat => [(1, .ptr H.length 0 0 0), (3, .int .i64 n), (4, .sl (H.length + 1) 0 0 n), (5, .bool ch), (6, .int .i64 j), (7, .list 1 ((nextW w R1 (nx.take a)).map (.int .i64))), (8, .list 1 (nx.map (.int .i64))), (10, .bool (decide (0 ≤ w))), (11, .int .i64 a)]) (fun _ => H ++ [.cells 0 7 [.agg fc], .cells 0 1 (rowsL R1)]) (fun a => nx.length - a) (fun a => a ≤ nx.length) 0 (Nat.zero_le _) (wkS (n0 := H.length) [(H.length, 0), (H.length + 1, 0)] hG hB hC' hcl (hk := .c (g := 0) (sz := 7) (vals := [.agg fc]) (by simp) (Nat.le_refl _) (Nat.zero_le _) (FrzL.same (hfcu _)) (.c (g := 0) (sz := 1) (vals := rowsL R1) (by simp) (by omega) (Nat.zero_le _) (FrzL.same (rowsL_under _ _)) .nil))) ?_
  rintro K3 k hk hK3
  have hnxm : (nx.map (SV.int .i64)).length = nx.length := by simp
  rcases Nat.lt_or_ge k nx.length with hlt | hge
  · have e2 : (nx.map (SV.int .i64))[k]? = some (.int .i64 nx[k]) := by simp [hlt]
    have ht := List.take_succ_eq_append_getElem hlt
    by_cases hout : nx[k] < 0 ∨ (n : Int) ≤ nx[k]
    · have X := And.intro X (And.intro hnxm e2)
      (refine run ?_; repeat' (first | with_reducible exact trivial | ((with_reducible apply Fork.mk) <;> intro hb) | with_reducible apply Two.mk))
      all_goals first
        | (exfalso; revert hb; simp; done)
        | (refine hK3 _ _ (k + 1) (by omega) (by omega) ?_
           rw [ht, nextW_snoc, if_pos (by rw [hRl1, hcn]; exact hout)]
           exact Wk.sub (by simp [subEnv, look]))
    · have hq : ∃ q : Nat, nx[k] = q ∧ q < n := ⟨nx[k].toNat, by omega, by omega⟩
      obtain ⟨q, hq1, hq2⟩ := hq
      rw [hq1] at e2
      have hrq := rowsL_get R1 q (by omega)
      have hql := hRD1.len_le q
      have hqn : ∀ s ∈ R1.getD q [], okW w s = true → NeedP code j s := fun s hs h => hneed s (by rw [hnm]; exact .inl ⟨q, by omega, by rw [← hq1]; exact List.getElem_mem hlt, hs, h⟩)
      have hstart : ∀ s ∈ nextW w R1 (nx.take k), NeedP code j s := fun s hs => hneed s (by
        rw [hnm]; rw [nextW_mem] at hs
        obtain ⟨q', a1, a2, a3⟩ := hs
        exact .inl ⟨q', a1, List.mem_of_mem_take a2, a3⟩)
      have hstartl := nextW_lt w R1 (nx.take k)
      have hnext : nextW w R1 (nx.take (k + 1)) = layW w (R1.getD q []) (nextW w R1 (nx.take k)) := by
        rw [ht, nextW_snoc, if_neg (by rw [hRl1, hcn]; exact hout), hq1, Int.toNat_natCast]
      generalize nextW w R1 (nx.take k) = L0 at hstart hstartl hnext ⊢
      generalize R1.getD q [] = r at hrq hql hqn hnext
      have hrm : (r.map (SV.int .i64)).length = r.length := by simp
      have X := And.intro X (And.intro hnxm (And.intro e2 (And.intro hrq (And.intro hrm hq2))))
      (refine run ?_; repeat' (first | with_reducible exact trivial | ((with_reducible apply Fork.mk) <;> intro hb) | with_reducible apply Two.mk))
      clear X
      refine go_loop (fun a : Nat => [(1, .ptr H.length 0 0 0), (3, .int .i64 n), (4, .sl (H.length + 1) 0 0 n), (5, .bool ch), (6, .int .i64 j), (7, .list 1 ((layW w (r.take a) L0).map (.int .i64))), (8, .list 1 (nx.map (.int .i64))), (10, .bool (decide (0 ≤ w))), (11, .int .i64 k), (12, .list 1 (r.map (.int .i64))), (13, .int .i64 a)]) (fun _ => H ++ [.cells 0 7 [.agg fc], .cells 0 1 (rowsL R1)]) (fun a => r.length - a) (fun a => a ≤ r.length) 0 (Nat.zero_le _) (Wk.sub (by simp [subEnv, look, layW_nil])) ?_
      rintro K4 a ha hK4
      rcases Nat.lt_or_ge a r.length with hlt2 | hge2
      · have e3 : (r.map (SV.int .i64))[a]? = some (.int .i64 r[a]) := by simp [hlt2]
        have ht2 := List.take_succ_eq_append_getElem hlt2
        have hll := hsub (layW w (r.take a) L0) (layW_lt _ _ hstartl) fun s hs => by
          rcases (layW_mem _ _ _ _).1 hs with hs | ⟨hs, h⟩
          · exact hstart s hs
          · exact hqn s (List.mem_of_mem_take hs) h
        have c4 := fun H => lay22_ok G hG _ r[a] hll H
        have hnew : layW w (r.take (a + 1)) L0 = if okW w r[a] then layI (layW w (r.take a) L0) r[a] else layW w (r.take a) L0 := by rw [ht2, layW_snoc]
        generalize layW w (r.take a) L0 = L at c4 hnew ⊢
        have X := And.intro X0 (And.intro e1 (And.intro hj (And.intro hrm e3)))
        (refine run ?_; repeat' (first | with_reducible exact trivial | ((with_reducible apply Fork.mk) <;> intro hb) | with_reducible apply Two.mk))
        · refine hK4 _ _ (a + 1) (by omega) (by omega) ?_
          rw [hnew, if_pos (by simp [okW] at hb ⊢; omega)]
          exact Wk.sub (by simp [subEnv, look])
        · refine hK4 _ _ (a + 1) (by omega) (by omega) ?_
          rw [hnew, if_neg (by simp [okW] at hb ⊢; omega)]
          exact Wk.sub (by simp [subEnv, look])
      · have : a = r.length := by omega
        subst this
        clear hK4
        rw [List.take_length, ← hnext]
        clear hnext hstart hstartl hqn hql e2 ht hrq hsub hneed hnm
        generalize hL' : nextW w R1 (nx.take (k + 1)) = L'
        have X := And.intro X0 (And.intro hrm (Int.lt_irrefl (r.length : Int)))
        (refine run ?_; repeat' (first | with_reducible exact trivial | ((with_reducible apply Fork.mk) <;> intro hb) | with_reducible apply Two.mk))
        subst hL'
        exact hK3 _ _ (k + 1) (by omega) (by omega) (Wk.sub (by simp [subEnv, look]))
  · have : k = nx.length := by omega
    subst this
    clear hK3
    rw [List.take_length]
    have X := And.intro X hnxm
    (refine run ?_; repeat' (first | with_reducible exact trivial | ((with_reducible apply Fork.mk) <;> intro hb) | with_reducible apply Two.mk))
    clear X
    have hL1 := fun s => nextW_mem w R1 nx s
    have hL1l := nextW_lt w R1 nx
    generalize nextW w R1 nx = L1 at hL1 hL1l hnr ⊢
    refine go_loop (fun a : Nat => [(1, .ptr H.length 0 0 0), (3, .int .i64 n), (4, .sl (H.length + 1) 0 0 n), (5, .bool ch), (6, .int .i64 j), (7, .list 1 (((rd.take a).foldl layI L1).map (.int .i64))), (14, .list 1 (rd.map (.int .i64))), (15, .int .i64 a)]) (fun _ => H ++ [.cells 0 7 [.agg fc], .cells 0 1 (rowsL R1)]) (fun a => rd.length - a) (fun a => a ≤ rd.length) 0 (Nat.zero_le _) (Wk.sub (by simp [subEnv, look])) ?_
    rintro K3 a ha hK3
    have hrm : (rd.map (SV.int .i64)).length = rd.length := by simp
    rcases Nat.lt_or_ge a rd.length with hlt2 | hge2
    · have e3 : (rd.map (SV.int .i64))[a]? = some (.int .i64 rd[a]) := by simp [hlt2]
      have ht2 := List.take_succ_eq_append_getElem hlt2
      have hll := hsub ((rd.take a).foldl layI L1) (folds_lt _ _ hL1l) fun s hs => hneed s (by
        rw [hnm]
        rcases (folds_mem _ _ _).1 hs with hs | hs
        · exact .inl ((hL1 s).1 hs)
        · exact .inr (List.mem_of_mem_take hs))
      have c4 := fun H => lay22_ok G hG _ rd[a] hll H
      have hnew : (rd.take (a + 1)).foldl layI L1 = layI ((rd.take a).foldl layI L1) rd[a] := by rw [ht2, List.foldl_append]; rfl
      generalize (rd.take a).foldl layI L1 = L at c4 hnew ⊢
      have X := And.intro X0 (And.intro hrm e3)
      (refine run ?_; repeat' (first | with_reducible exact trivial | ((with_reducible apply Fork.mk) <;> intro hb) | with_reducible apply Two.mk))
      refine hK3 _ _ (a + 1) (by omega) (by omega) ?_
      rw [hnew]
      exact Wk.sub (by simp [subEnv, look])
    · have : a = rd.length := by omega
      subst this
      clear hK3
      rw [List.take_length, ← hnr]
      have X := And.intro X0 (And.intro hrm (And.intro hrj (rowsL_set R1 j N)))
      (refine run ?_; repeat' (first | with_reducible exact trivial | ((with_reducible apply Fork.mk) <;> intro hb) | with_reducible apply Two.mk))
      refine hK2 _ _ (j, R1.set j N, ch || decide (N.length ≠ (R1.getD j []).length)) (by simp only; omega) ⟨by simp only; omega, hstep⟩ ?_
      have e5 : decide (¬ (N.length : Int) = ((R1.getD j []).length : Int)) = decide (N.length ≠ (R1.getD j []).length) := decide_eq_decide.2 (by omega)
      rw [← e5]
      exact Wk.sub (by simp [subEnv, look])
end Go.Proofs.YtneklfhahljgnaaDoor
end

section
namespace Go.Proofs.YtneklfhahljgnaaDoor
open Go
set_option linter.unusedSimpArgs false
set_option linter.unusedVariables false
set_option maxRecDepth 10000
set_option maxHeartbeats 4000000

theorem set_same {H : List Blk} {id : Nat} {x : Blk} (h : H[id]? = some x) : H.set id x = H := by
  apply List.ext_getElem?
  intro j
  rw [List.getElem?_set]
  split
  · rename_i e; subst e; rw [if_pos (List.getElem?_eq_some_iff.1 h).1, h]
  · rfl
theorem rmeet_ok (G : Gl) (hG : GClosed G) (id g : Nat) (V : List Sh) (s : Int) (i : Nat) (H : List Blk) (hH : H[id]? = some (.cells g 2 (shL V))) (hl : V.length ≤ 65536) (hi : i < 1048576) :
    ACall Tryd.prog G 30 [.sl id g 0 V.length, .int .i64 s, .int .i64 i] H (fun r H' => H' = H.set id (.cells g 2 (shL (meetS V s i))) ∧ r = resSV []) := by
  have hidl := (List.getElem?_eq_some_iff.1 hH).1
  have hVl := shL_len V
  by_cases hin : 0 ≤ s ∧ s < V.length
  · obtain ⟨t, rfl⟩ := Int.eq_ofNat_of_zero_le hin.1
    have htf : t < V.length := by omega
    have hsp1 : (shL V)[t]? = some (.agg [.int .i64 (V.getD t (0, 0)).1, .int .i64 (V.getD t (0, 0)).2]) := by
      simp only [shL, List.getElem?_map, List.getElem?_eq_getElem htf, Option.map_some]
      rw [List.getD_eq_getElem?_getD, List.getElem?_eq_getElem htf, Option.getD_some]
    have hm : meetS V t i = V.set t (if (V.getD t (0, 0)).1 < 0 then ((i : Int), (i : Int)) else ((V.getD t (0, 0)).1, (i : Int))) := by unfold meetS; rw [if_neg (by omega), Int.toNat_natCast]
    refine ACall.of_go TB [] tabOK _ Tryd.func30 rfl (by decide) Tryd.ntmps30 (by simp) rfl (by simp only [initEnv, Nat.reduceAdd]; rfl) fun C R' hR hC hcl hB => ?_; have X := noX; have hC' := congrArg List.length hC
    have X := And.intro X (And.intro hVl (And.intro (getX hH) (And.intro hsp1 (show decide ((t : Int) < 0) = false by simp))))
    (refine run ?_; repeat' (first | with_reducible exact trivial | ((with_reducible apply Fork.mk) <;> intro hb) | with_reducible apply Two.mk))
    · exact Fin.out hR ⟨by rw [hm, if_pos hb, ← shL_set], rfl⟩
    · exact Fin.out hR ⟨by rw [hm, if_neg hb, ← shL_set], rfl⟩
  · have hm : meetS V s i = V := by unfold meetS; rw [if_pos (by omega)]
    rw [hm, set_same hH]
    refine ACall.of_go TB [] tabOK _ Tryd.func30 rfl (by decide) Tryd.ntmps30 (by simp) rfl (by simp only [initEnv, Nat.reduceAdd]; rfl) fun C R' hR hC hcl hB => ?_; have X := noX; have hC' := congrArg List.length hC
    have X := And.intro X (And.intro hVl (And.intro (getX hH) (show (decide (s < 0) || decide ((V.length : Int) ≤ s)) = true by simp; omega)))
    (refine run ?_; repeat' (first | with_reducible exact trivial | ((with_reducible apply Fork.mk) <;> intro hb) | with_reducible apply Two.mk))
    · exact Fin.out hR ⟨rfl, rfl⟩
    · simp at hb

def fillS (fr a : Nat) : List Sh := List.replicate a (-1, -1) ++ List.replicate (fr - a) (0, 0)
theorem fillS_len {fr a : Nat} (h : a ≤ fr) : (fillS fr a).length = fr := by simp [fillS]; omega
theorem fillS_set {fr a : Nat} (h : a < fr) : (fillS fr a).set a (-1, -1) = fillS fr (a + 1) := by
  unfold fillS
  rw [List.set_append_right _ _ (by simp), List.length_replicate, Nat.sub_self, show fr - a = (fr - (a + 1)) + 1 by omega, List.replicate_succ, List.set_cons_zero, List.replicate_succ' , List.append_assoc]
  rfl
theorem shL_zeros (n : Nat) : shL (List.replicate n (0, 0)) = List.replicate n (.agg [.int .i64 0, .int .i64 0]) := by simp [shL]
theorem rspans_ok (G : Gl) (hG : GClosed G) (f : Fun) (hn : f.code.length < 1048576) (hl : ∀ i ∈ f.code, i.l.length ≤ 1048576) (hr : (f.code.flatMap rdS).length ≤ 4194304) (H : List Blk) :
    ACall Tryd.prog G 13 [.agg f.cells] H (fun r H' => H' = H ∧ (((f.frame < 1 ∨ 65536 < f.frame) ∧ r = .list 2 []) ∨ (¬ (f.frame < 1 ∨ 65536 < f.frame) ∧ ∃ rows, Rows f.code rows ∧ r = .list 2 (shL (spansN f.code rows f.frame.toNat f.code.length))))) := by
  have hb0 := fun H => rbefore_ok G hG f hn hl hr H
  obtain ⟨name, thunk, upd, free, params, frame, code⟩ := f
  simp only [Fun.cells] at hb0 ⊢
  simp only at hn hl hr hb0
  generalize hfc : [SV.str name, .bool thunk, .bool upd, .int .i64 free, .int .i64 params, .int .i64 frame, .list 6 (insL code)] = fc at hb0
  have hfcl : fc.length = 7 := by subst hfc; rfl
  have hfc5 : fc[5]? = some (.int .i64 frame) := by subst hfc; rfl
  have hfc6 : fc[6]? = some (.list 6 (insL code)) := by subst hfc; rfl
  generalize hcn : code.length = n at hn
  refine ACall.of_go TB [] tabOK _ Tryd.func13 rfl (by decide) Tryd.ntmps13 (by simp) rfl (by simp only [initEnv, Nat.reduceAdd]; rfl) fun C R' hR hC hcl hB => ?_; have X := noX; have hC' := congrArg List.length hC
  have X := And.intro X (And.intro hfcl (And.intro hfc5 (And.intro hfc6 hcn)))
  (refine run ?_; repeat' (first | with_reducible exact trivial | ((with_reducible apply Fork.mk) <;> intro hb) | with_reducible apply Two.mk))
  · refine finS hR hC' hcl (y := .list 2 []) (.nil 2) ⟨rfl, .inl ⟨by simpa using hb, rfl⟩⟩
  have hfr : ¬ (frame < 1 ∨ 65536 < frame) := by simpa using hb
  obtain ⟨fr, rfl⟩ := Int.eq_ofNat_of_zero_le (a := frame) (by omega)
  have hfr2 : fr ≤ 65536 := by omega
  have hfu : ∀ n, SV.underL n [SV.agg fc] = true := fun n => by rw [← hfc]; simp only [SV.underL, SV.under, insL_under, Bool.and_self]
  clear hfc hb
  (refine run ?_; repeat' (first | with_reducible exact trivial | ((with_reducible apply Fork.mk) <;> intro hb) | with_reducible apply Two.mk))
  rw [← shL_zeros, show List.replicate fr ((0, 0) : Sh) = fillS fr 0 from rfl]
  refine go_loop (fun a : Nat => [(1, .ptr H.length 0 0 0), (3, .sl (H.length + 1) 0 0 fr), (4, .int .i64 a)]) (fun a => H ++ [.cells 0 7 [.agg fc], .cells 0 2 (shL (fillS fr a))]) (fun a => fr - a) (fun a => a ≤ fr) 0 (Nat.zero_le _) (Wk.sub (by simp [subEnv, look])) ?_
  rintro K a ha hK
  have hfl := shL_len (fillS fr a)
  rw [fillS_len ha] at hfl
  rcases Nat.lt_or_ge a fr with hlt | hge
  · have hfs : (shL (fillS fr a)).set a (.agg [.int .i64 (-1), .int .i64 (-1)]) = shL (fillS fr (a + 1)) := by
      rw [shL_set _ _ ((-1, -1) : Sh), fillS_set hlt]
    have hfg : (shL (fillS fr a))[a]? = some (.agg [.int .i64 0, .int .i64 0]) := by
      rw [shL_get]
      unfold fillS
      rw [List.getElem?_append_right (by simp), List.length_replicate, Nat.sub_self, List.getElem?_replicate, if_pos (by omega)]
      rfl
    have X := And.intro X (And.intro hfl (And.intro hfs (And.intro (fillS_len ha) hfg)))
    (refine run ?_; repeat' (first | with_reducible exact trivial | ((with_reducible apply Fork.mk) <;> intro hb) | with_reducible apply Two.mk))
    exact hK _ _ (a + 1) (by omega) (by omega) (Wk.sub (by simp [subEnv, look]))
  have : a = fr := by omega
  subst this
  clear hK
  have hsl0 : fillS a a = spansN code [] a 0 := by simp [fillS, spansN]
  have X := And.intro X hfl
  (refine run ?_; repeat' (first | with_reducible exact trivial | ((with_reducible apply Fork.mk) <;> intro hb) | with_reducible apply Two.mk))
  refine callS (hb0 _) ?_
  rintro r H' ⟨rows, hrows, rfl, rfl⟩
  have hrl : rows.length = n := by rw [hrows.1, hcn]
  (refine run ?_; repeat' (first | with_reducible exact trivial | ((with_reducible apply Fork.mk) <;> intro hb) | with_reducible apply Two.mk))
  rw [show fillS a a = spansN code rows a 0 from hsl0]
  clear X
  have X := And.intro noX (And.intro hfcl (And.intro hfc6 (And.intro hcn (And.intro (rowsL_len rows) hrl))))
  refine go_loop (fun i : Nat => [(1, .ptr H.length 0 0 0), (3, .sl (H.length + 1) 0 0 a), (5, .list 1 (rowsL rows)), (6, .int .i64 i)]) (fun i => H ++ [.cells 0 7 [.agg fc], .cells 0 2 (shL (spansN code rows a i))]) (fun i => n - i) (fun i => i ≤ n) 0 (Nat.zero_le _) (Wk.sub (by simp [subEnv, look])) ?_
  rintro K i hi hK
  have hsl := spansN_len code rows a i
  rcases Nat.lt_or_ge i n with hlt | hge
  · have hlt' : i < code.length := by omega
    have e1 : (insL code)[i]? = some (.agg (code[i]).cells) := by simp [insL, hlt']
    have er := rowsL_get rows i (by omega)
    have c1 := fun H => rwrites_ok G hG code[i] H
    have hsx := spansN_succ code rows a i
    have hwn := wrN_eq hlt'
    have hrl2 : (rows.getD i []).length ≤ 4194304 := by
      rw [List.getD_eq_getElem?_getD, List.getElem?_eq_getElem (by omega)]; exact Nat.le_trans (rows_len hrows (by omega)) hr
    rw [hwn] at hsx
    generalize rows.getD i [] = row at er hsx hrl2
    generalize code[i] = x at e1 c1 hsx
    obtain ⟨op, xa, xb, xc, xn, xl⟩ := x
    simp only [Ins.cells] at e1 c1
    generalize wrS ⟨op, xa, xb, xc, xn, xl⟩ = w at c1 hsx
    generalize spansN code rows a i = V0 at hsl hsx ⊢
    have hrm : (row.map (SV.int .i64)).length = row.length := by simp
    have hcall : ∀ (V : List Sh) (s : Int), V.length = a → ACall Tryd.prog G 30 [.sl (H.length + 1) 0 0 a, .int .i64 s, .int .i64 i] (H ++ [.cells 0 7 [.agg fc], .cells 0 2 (shL V)]) (fun r H' => H' = (H ++ [.cells 0 7 [.agg fc], .cells 0 2 (shL (meetS V s i))]) ∧ r = resSV []) := fun V s hV => by
      have := rmeet_ok G hG (H.length + 1) 0 V s i (H ++ [.cells 0 7 [.agg fc], .cells 0 2 (shL V)]) (by simp) (by omega) (by omega)
      rw [hV] at this
      simpa using this
    have X0 := And.intro X (And.intro hrm (And.intro e1 er))
    clear X
    have X := X0
    (refine run ?_; repeat' (first | with_reducible exact trivial | ((with_reducible apply Fork.mk) <;> intro hb) | with_reducible apply Two.mk))
    refine go_loop (fun k : Nat => [(1, .ptr H.length 0 0 0), (3, .sl (H.length + 1) 0 0 a), (5, .list 1 (rowsL rows)), (6, .int .i64 i), (7, .int .i64 k)]) (fun k => H ++ [.cells 0 7 [.agg fc], .cells 0 2 (shL (meets V0 (row.take k) i))]) (fun k => row.length - k) (fun k => k ≤ row.length) 0 (Nat.zero_le _) (Wk.sub (by simp [subEnv, look])) ?_
    rintro K2 k hk hK2
    have hVl := meets_len (row.take k) V0 i
    rw [hsl] at hVl
    rcases Nat.lt_or_ge k row.length with hlt2 | hge2
    · have ht := List.take_succ_eq_append_getElem hlt2
      have hms : meets V0 (row.take (k + 1)) i = meetS (meets V0 (row.take k) i) row[k] i := by unfold meets; rw [ht, List.foldl_append]; rfl
      have e2 : (row.map (SV.int .i64))[k]? = some (.int .i64 row[k]) := by simp [hlt2]
      generalize meets V0 (row.take k) i = V at hms hVl ⊢
      clear X
      have X := And.intro X0 e2
      (refine run ?_; repeat' (first | with_reducible exact trivial | ((with_reducible apply Fork.mk) <;> intro hb) | with_reducible apply Two.mk))
      refine callS (hcall V row[k] hVl) ?_
      rintro r H' ⟨rfl, rfl⟩
      (refine run ?_; repeat' (first | with_reducible exact trivial | ((with_reducible apply Fork.mk) <;> intro hb) | with_reducible apply Two.mk))
      refine hK2 _ _ (k + 1) (by omega) (by omega) ?_
      rw [hms]
      exact Wk.sub (by simp [subEnv, look])
    · have : k = row.length := by omega
      subst this
      clear hK2
      rw [List.take_length] at hVl ⊢
      have hms : spansN code rows a (i + 1) = meetS (meets V0 row i) w i := by rw [hsx]; unfold meets; rw [List.foldl_append]; rfl
      generalize meets V0 row i = V at hms hVl ⊢
      (refine run ?_; repeat' (first | with_reducible exact trivial | ((with_reducible apply Fork.mk) <;> intro hb) | with_reducible apply Two.mk))
      refine callS (hcall V w hVl) ?_
      rintro r H' ⟨rfl, rfl⟩
      (refine run ?_; repeat' (first | with_reducible exact trivial | ((with_reducible apply Fork.mk) <;> intro hb) | with_reducible apply Two.mk))
      refine hK _ _ (i + 1) (by omega) (by omega) ?_
      rw [hms]
      exact Wk.sub (by simp [subEnv, look])
  · have : i = n := by omega
    subst this
    clear hK
    have hvl := shL_len (spansN code rows a i)
    rw [spansN_len] at hvl
    have X := And.intro X hvl
    (refine run ?_; repeat' (first | with_reducible exact trivial | ((with_reducible apply Fork.mk) <;> intro hb) | with_reducible apply Two.mk))
    exact finS hR hC' hcl (y := .list 2 (shL (spansN code rows a i))) (Frz.sf (g := 0) (sz := 2) (vals := shL (spansN code rows a i)) (by simp) (by omega) (by simp) (by rw [List.drop_zero, List.take_of_length_le (by rw [hvl]; exact Nat.le_refl _)]) (shL_under _ _)) ⟨rfl, .inr ⟨hfr, rows, hrows, rfl⟩⟩
end Go.Proofs.YtneklfhahljgnaaDoor
end

section
namespace Go.Proofs.YtneklfhahljgnaaDoor
open Go
set_option linter.unusedSimpArgs false
set_option linter.unusedVariables false
set_option maxRecDepth 10000
set_option maxHeartbeats 4000000

theorem ints_ok (G : Gl) (hG : GClosed G) (l : List Int) (hl : l.length < 1125899906842624) (H : List Blk) : ACall Tryd.prog G 14 [.list 1 (l.map (.int .i64)), .list 1 (l.map (.int .i64))] H (fun r H' => H' = H ∧ r = .bool true) := by
  have hll : (l.map (SV.int .i64)).length = l.length := by simp
  refine ACall.of_go TB [] tabOK _ Tryd.func14 rfl (by decide) Tryd.ntmps14 (by simp) rfl (by simp only [initEnv, Nat.reduceAdd]; rfl) fun C R' hR hC hcl hB => ?_; have X := noX; have hC' := congrArg List.length hC
  have X := And.intro X hll
  (refine run ?_; repeat' (first | with_reducible exact trivial | ((with_reducible apply Fork.mk) <;> intro hb) | with_reducible apply Two.mk))
  refine go_loop (fun a : Nat => [(0, .list 1 (l.map (.int .i64))), (1, .list 1 (l.map (.int .i64))), (5, .int .i64 a)]) (fun _ => H) (fun a => l.length - a) (fun a => a ≤ l.length) 0 (Nat.zero_le _) (Wk.sub (by simp [subEnv, look])) ?_
  rintro K a ha hK
  rcases Nat.lt_or_ge a l.length with hlt | hge
  · have e1 : (l.map (SV.int .i64))[a]? = some (.int .i64 l[a]) := by simp [hlt]
    have X := And.intro X e1
    (refine run ?_; repeat' (first | with_reducible exact trivial | ((with_reducible apply Fork.mk) <;> intro hb) | with_reducible apply Two.mk))
    all_goals first
      | exact hK _ _ (a + 1) (by omega) (by omega) (Wk.sub (by simp [subEnv, look]))
      | (exfalso; revert hb; simp; done)
  · have : a = l.length := by omega
    subst this
    clear hK
    have X := And.intro X (Int.lt_irrefl (l.length : Int))
    (refine run ?_; repeat' (first | with_reducible exact trivial | ((with_reducible apply Fork.mk) <;> intro hb) | with_reducible apply Two.mk))
    exact Fin.out hR ⟨rfl, rfl⟩

/-- how many numbers stand in the lists -/
def lstN (code : List Ins) (m : Nat) : Nat := ((code.take m).map (·.l.length)).sum
theorem lstN_succ (code : List Ins) (m : Nat) (h : m < code.length) : lstN code (m + 1) = lstN code m + code[m].l.length := by
  unfold lstN; rw [List.take_succ_eq_append_getElem h, List.map_append, List.sum_append]; simp
def SmallF (f : Fun) : Prop := f.code.length + lstN f.code f.code.length < 3000 ∧ f.frame < 3000
theorem few_ok (G : Gl) (hG : GClosed G) (f : Fun) (hn : f.code.length < 1125899906842624) (hl : ∀ i ∈ f.code, i.l.length < 1125899906842624) (H : List Blk) :
    ACall Tryd.prog G 8 [.agg f.cells] H (fun r H' => ∃ b, H' = H ∧ r = .bool b ∧ (b = true → SmallF f)) := by
  obtain ⟨name, thunk, upd, free, params, frame, code⟩ := f
  simp only [Fun.cells, SmallF]
  simp only at hn hl
  generalize hfc : [SV.str name, .bool thunk, .bool upd, .int .i64 free, .int .i64 params, .int .i64 frame, .list 6 (insL code)] = fc
  have hfcl : fc.length = 7 := by subst hfc; rfl
  have hfc5 : fc[5]? = some (.int .i64 frame) := by subst hfc; rfl
  have hfc6 : fc[6]? = some (.list 6 (insL code)) := by subst hfc; rfl
  clear hfc
  generalize hcn : code.length = n at hn
  refine ACall.of_go TB [] tabOK _ Tryd.func8 rfl (by decide) Tryd.ntmps8 (by simp) rfl (by simp only [initEnv, Nat.reduceAdd]; rfl) fun C R' hR hC hcl hB => ?_; have X := noX; have hC' := congrArg List.length hC
  have X := And.intro X (And.intro hfcl (And.intro hfc5 (And.intro hfc6 hcn)))
  (refine run ?_; repeat' (first | with_reducible exact trivial | ((with_reducible apply Fork.mk) <;> intro hb) | with_reducible apply Two.mk))
  refine go_loop (fun a : Nat => [(1, .ptr H.length 0 0 0), (3, .int .i64 ((n + lstN code a : Nat) : Int)), (4, .int .i64 a)]) (fun _ => H ++ [.cells 0 7 [.agg fc]]) (fun a => n - a) (fun a => a ≤ n ∧ (0 < a → n + lstN code a < 1125899906842624 + 3000)) 0 ⟨Nat.zero_le _, fun h => absurd h (Nat.lt_irrefl _)⟩ (Wk.sub (by simp [subEnv, look, lstN])) ?_
  rintro K a ⟨ha, ha2⟩ hK
  generalize hm : ((n + lstN code a : Nat) : Int) = m
  rcases Nat.lt_or_ge a n with hlt | hge
  · have hlt' : a < code.length := by omega
    have e1 : (insL code)[a]? = some (.agg (code[a]).cells) := by simp [insL, hlt']
    have hs := lstN_succ code a hlt'
    have hx := hl code[a] (List.getElem_mem hlt')
    generalize code[a] = x at e1 hs hx
    obtain ⟨op, xa, xb, xc, xn, xl⟩ := x
    simp only [Ins.cells] at e1 hs hx
    have hlm : (xl.map (SV.int .i64)).length = xl.length := by simp
    have X := And.intro X (And.intro e1 hlm)
    (refine run ?_; repeat' (first | with_reducible exact trivial | ((with_reducible apply Fork.mk) <;> intro hb) | with_reducible apply Two.mk))
    · simp only [Bool.and_eq_true, decide_eq_true_eq] at hb
      refine hK _ _ (a + 1) (by omega) ⟨by omega, fun _ => by omega⟩ ?_
      rw [wrap_i64 _ (by omega), show m + (xl.length : Int) = ((n + lstN code (a + 1) : Nat) : Int) by omega]
      exact Wk.sub (by simp [subEnv, look])
    · simp only [Bool.and_eq_false_iff, decide_eq_false_iff_not] at hb
      refine finS hR hC' hcl (y := .bool (decide (m < 3000) && decide (frame < 3000))) (.same _ rfl) ⟨_, rfl, rfl, fun h => ?_⟩
      simp only [Bool.and_eq_true, decide_eq_true_eq] at h
      omega
  · have : a = n := by omega
    subst this
    clear hK
    have X := And.intro X (Int.lt_irrefl (a : Int))
    (refine run ?_; repeat' (first | with_reducible exact trivial | ((with_reducible apply Fork.mk) <;> intro hb) | with_reducible apply Two.mk))
    refine finS hR hC' hcl (y := .bool (decide (m < 3000) && decide (frame < 3000))) (.same _ rfl) ⟨_, rfl, rfl, fun h => ?_⟩
    simp only [Bool.and_eq_true, decide_eq_true_eq] at h
    exact ⟨by omega, h.2⟩
theorem small_list {f : Fun} (h : SmallF f) : (∀ i ∈ f.code, i.l.length < 3000) ∧ (f.code.flatMap rdS).length ≤ 4194304 := by
  have key : ∀ l : List Ins, (∀ i ∈ l, i.l.length ≤ (l.map (·.l.length)).sum) ∧ (l.flatMap rdS).length ≤ 3 * l.length + (l.map (·.l.length)).sum := by
    intro l
    induction l with
    | nil => simp
    | cons x r ih =>
      have h1 : (rdS x).length ≤ 1 + 1 + 1 + x.l.length := by
        unfold rdS
        rw [List.length_append, List.length_append, List.length_append]
        refine Nat.add_le_add (Nat.add_le_add (Nat.add_le_add ?_ ?_) ?_) ?_
        · split <;> simp
        · split <;> simp
        · split <;> simp
        · split <;> simp
      refine ⟨fun i hi => ?_, ?_⟩
      · simp only [List.map_cons, List.sum_cons]
        rcases List.mem_cons.1 hi with e | hi
        · rw [e]; omega
        · have := ih.1 i hi; omega
      · have := ih.2
        simp only [List.flatMap_cons, List.length_append, List.map_cons, List.sum_cons, List.length_cons]
        omega
  obtain ⟨h1, h2⟩ := h
  obtain ⟨k1, k2⟩ := key f.code
  unfold lstN at h1
  rw [List.take_length] at h1
  exact ⟨fun i hi => by have := k1 i hi; omega, by omega⟩
end Go.Proofs.YtneklfhahljgnaaDoor
end

section
namespace Go.Proofs.YtneklfhahljgnaaDoor
open Go
set_option linter.unusedSimpArgs false
set_option linter.unusedVariables false
set_option maxRecDepth 10000
set_option maxHeartbeats 4000000

/-! ### images -/
structure Con where
  name : Str
  arity : Int
  tag : Int
  family : Int
def Con.cells (c : Con) : List SV := [.str c.name, .int .i64 c.arity, .int .i64 c.tag, .int .i64 c.family]
structure Glb where
  kind : Int
  n : Int
  args : List (Int × Int)
abbrev encR : Int × Int → SV := fun x => .agg [.int .i64 x.1, .int .i64 x.2]
def Glb.cells (g : Glb) : List SV := [.int .i64 g.kind, .int .i64 g.n, .list 2 (g.args.map encR)]
structure Img where
  cons : List Con
  funcs : List Fun
  globals : List Glb
  main : Int
def consL (l : List Con) : List SV := l.map fun c => .agg c.cells
def funsL (l : List Fun) : List SV := l.map fun f => .agg f.cells
def glbsL (l : List Glb) : List SV := l.map fun g => .agg g.cells
def Img.cells (m : Img) : List SV := [.list 4 (consL m.cons), .list 7 (funsL m.funcs), .list 3 (glbsL m.globals), .int .i64 m.main]
theorem Fun.cells_len (f : Fun) : f.cells.length = 7 := rfl
theorem Glb.cells_len (g : Glb) : g.cells.length = 3 := rfl
theorem Con.cells_len (c : Con) : c.cells.length = 4 := rfl
attribute [go_sem] Fun.cells_len Glb.cells_len Con.cells_len
theorem consL_len (l : List Con) : (consL l).length = l.length := by simp [consL]
theorem funsL_len (l : List Fun) : (funsL l).length = l.length := by simp [funsL]
theorem glbsL_len (l : List Glb) : (glbsL l).length = l.length := by simp [glbsL]
attribute [go_sem] consL_len funsL_len glbsL_len
theorem Con.cells_under (n : Nat) (c : Con) : SV.underL n c.cells = true := rfl
theorem Glb.cells_under (n : Nat) (g : Glb) : SV.underL n g.cells = true := by
  simp only [Glb.cells, SV.underL, SV.under, SV.underL_map (f := encR) (fun _ _ => rfl), Bool.and_self]
theorem consL_under (n : Nat) (l : List Con) : SV.underL n (consL l) = true := SV.underL_map fun i _ => Con.cells_under n i
theorem funsL_under (n : Nat) (l : List Fun) : SV.underL n (funsL l) = true := SV.underL_map fun i _ => Fun.cells_under n i
theorem glbsL_under (n : Nat) (l : List Glb) : SV.underL n (glbsL l) = true := SV.underL_map fun i _ => Glb.cells_under n i
theorem Img.cells_under (n : Nat) (m : Img) : SV.underL n m.cells = true := by
  simp only [Img.cells, SV.underL, SV.under, consL_under, funsL_under, glbsL_under, Bool.and_self]

theorem idxP_any {α : Type} (p : α → Bool) (l : List α) : (match l.findIdx? p with | some i => decide (0 ≤ (i : Int)) | none => false) = l.any p := by
  cases h : l.findIdx? p with
  | none => rw [List.findIdx?_eq_none_iff] at h; simp only; symm; rw [List.any_eq_false]; intro x hx; simp [h x hx]
  | some i =>
    obtain ⟨hi, hp, _⟩ := List.findIdx?_eq_some_iff_getElem.1 h
    have : (0 : Int) ≤ i := by omega
    simp only [this, decide_true]
    symm; rw [List.any_eq_true]
    exact ⟨_, List.getElem_mem hi, hp⟩

theorem anyFun_ok (G : Gl) (hG : GClosed G) (f : SV) (p : Fun → Bool) (V : List (Fun)) (H : List Blk) (hl : V.length < 1125899906842624) (hfu : f.under H.length = true)
    (hf : ∀ x ∈ V, ACallV Tryd.prog G f [(fun x : Fun => SV.agg x.cells) x] H (fun r H' => H' = H ∧ r = .bool (p x))) :
    ACall Tryd.prog G 39 [.list 7 (V.map (fun x : Fun => SV.agg x.cells)), f] H (fun r H' => H' = H ∧ r = .bool (V.any p)) := by
  have hidx : ACall Tryd.prog G 53 [.list 7 (V.map (fun x : Fun => SV.agg x.cells)), f] H (fun r H' => H' = H ∧ r = .int .i64 (match V.findIdx? p with | some i => (i : Int) | none => -1)) := by
    have hlm : (V.map (fun x : Fun => SV.agg x.cells)).length = V.length := by simp
    refine ACall.of_go TB [] tabOK _ Tryd.func53 rfl (by decide) Tryd.ntmps53 (by simp) rfl (by simp only [initEnv, Nat.reduceAdd]; rfl) fun C R' hR hC hcl hB => ?_; have X := noX; have hC' := congrArg List.length hC
    have X := And.intro X hlm
    have hcl1 := hcl
    (refine run ?_; repeat' (first | with_reducible exact trivial | ((with_reducible apply Fork.mk) <;> intro hb) | with_reducible apply Two.mk))
    refine go_loop (fun k : Nat => [(0, .list 7 (V.map (fun x : Fun => SV.agg x.cells))), (1, f), (7, .int .i64 V.length), (8, .int .i64 k)]) (fun _ => H) (fun k => V.length - k) (fun k => k ≤ V.length ∧ ∀ x ∈ V.take k, p x = false) 0 ⟨Nat.zero_le _, by simp⟩ (Wk.sub (by simp [subEnv, look])) ?_
    rintro K k ⟨hk, hno⟩ hK
    rcases Nat.lt_or_ge k V.length with hlt | hge
    · have e1 : (V.map (fun x : Fun => SV.agg x.cells))[k]? = some (SV.agg V[k].cells) := by simp [hlt]
      have hfk := hf V[k] (List.getElem_mem hlt)
      simp only at hfk
      have X := And.intro X e1
      (refine run ?_; repeat' (first | with_reducible exact trivial | ((with_reducible apply Fork.mk) <;> intro hb) | with_reducible apply Two.mk))
      refine callV hfk ?_
      rintro r H' ⟨rfl, rfl⟩
      (refine run ?_; repeat' (first | with_reducible exact trivial | ((with_reducible apply Fork.mk) <;> intro hb) | with_reducible apply Two.mk))
      · have hfi : V.findIdx? p = some k := by
          rw [List.findIdx?_eq_some_iff_getElem]
          refine ⟨hlt, by simpa using hb, fun j hj => ?_⟩
          have := hno (V[j]'(by omega)) (by rw [List.mem_take_iff_getElem]; exact ⟨j, by omega, rfl⟩)
          simp [this]
        refine Fin.out hR ⟨rfl, ?_⟩
        simp only [resSV, hfi]
      · refine hK _ _ (k + 1) (by omega) ⟨by omega, ?_⟩ (Wk.sub (by simp [subEnv, look]))
        rw [List.take_succ_eq_append_getElem hlt]
        intro x hx
        rcases List.mem_append.1 hx with hx | hx
        · exact hno x hx
        · rw [List.mem_singleton.1 hx]; exact hb
    · have : k = V.length := by omega
      subst this
      clear hK
      have X := And.intro X (Int.lt_irrefl (V.length : Int))
      (refine run ?_; repeat' (first | with_reducible exact trivial | ((with_reducible apply Fork.mk) <;> intro hb) | with_reducible apply Two.mk))
      have hfi : V.findIdx? p = none := by rw [List.findIdx?_eq_none_iff]; rw [List.take_length] at hno; exact hno
      refine Fin.out hR ⟨rfl, ?_⟩
      simp only [resSV, hfi]
  have h2 := idxP_any p V
  generalize hI : (match V.findIdx? p with | some i => (i : Int) | none => -1) = I at hidx
  refine ACall.of_go TB [] tabOK _ Tryd.func39 rfl (by decide) Tryd.ntmps39 (by simp) rfl (by simp only [initEnv, Nat.reduceAdd]; rfl) fun C R' hR hC hcl hB => ?_; have X := noX; have hC' := congrArg List.length hC
  (refine run ?_; repeat' (first | with_reducible exact trivial | ((with_reducible apply Fork.mk) <;> intro hb) | with_reducible apply Two.mk))
  refine callS hidx ?_
  rintro r H' ⟨rfl, rfl⟩
  (refine run ?_; repeat' (first | with_reducible exact trivial | ((with_reducible apply Fork.mk) <;> intro hb) | with_reducible apply Two.mk))
  refine Fin.out hR ⟨rfl, ?_⟩
  rw [← h2, ← hI]
  simp only [resSV]
  cases V.findIdx? p with
  | none => rfl
  | some i => rfl

theorem anyIns_ok (G : Gl) (hG : GClosed G) (f : SV) (p : Ins → Bool) (V : List (Ins)) (H : List Blk) (hl : V.length < 1125899906842624) (hfu : f.under H.length = true)
    (hf : ∀ x ∈ V, ACallV Tryd.prog G f [(fun x : Ins => SV.agg x.cells) x] H (fun r H' => H' = H ∧ r = .bool (p x))) :
    ACall Tryd.prog G 54 [.list 6 (V.map (fun x : Ins => SV.agg x.cells)), f] H (fun r H' => H' = H ∧ r = .bool (V.any p)) := by
  have hidx : ACall Tryd.prog G 65 [.list 6 (V.map (fun x : Ins => SV.agg x.cells)), f] H (fun r H' => H' = H ∧ r = .int .i64 (match V.findIdx? p with | some i => (i : Int) | none => -1)) := by
    have hlm : (V.map (fun x : Ins => SV.agg x.cells)).length = V.length := by simp
    refine ACall.of_go TB [] tabOK _ Tryd.func65 rfl (by decide) Tryd.ntmps65 (by simp) rfl (by simp only [initEnv, Nat.reduceAdd]; rfl) fun C R' hR hC hcl hB => ?_; have X := noX; have hC' := congrArg List.length hC
    have X := And.intro X hlm
    have hcl1 := hcl
    (refine run ?_; repeat' (first | with_reducible exact trivial | ((with_reducible apply Fork.mk) <;> intro hb) | with_reducible apply Two.mk))
    refine go_loop (fun k : Nat => [(0, .list 6 (V.map (fun x : Ins => SV.agg x.cells))), (1, f), (7, .int .i64 V.length), (8, .int .i64 k)]) (fun _ => H) (fun k => V.length - k) (fun k => k ≤ V.length ∧ ∀ x ∈ V.take k, p x = false) 0 ⟨Nat.zero_le _, by simp⟩ (Wk.sub (by simp [subEnv, look])) ?_
    rintro K k ⟨hk, hno⟩ hK
    rcases Nat.lt_or_ge k V.length with hlt | hge
    · have e1 : (V.map (fun x : Ins => SV.agg x.cells))[k]? = some (SV.agg V[k].cells) := by simp [hlt]
      have hfk := hf V[k] (List.getElem_mem hlt)
      simp only at hfk
      have X := And.intro X e1
      (refine run ?_; repeat' (first | with_reducible exact trivial | ((with_reducible apply Fork.mk) <;> intro hb) | with_reducible apply Two.mk))
      refine callV hfk ?_
      rintro r H' ⟨rfl, rfl⟩
      (refine run ?_; repeat' (first | with_reducible exact trivial | ((with_reducible apply Fork.mk) <;> intro hb) | with_reducible apply Two.mk))
      · have hfi : V.findIdx? p = some k := by
          rw [List.findIdx?_eq_some_iff_getElem]
          refine ⟨hlt, by simpa using hb, fun j hj => ?_⟩
          have := hno (V[j]'(by omega)) (by rw [List.mem_take_iff_getElem]; exact ⟨j, by omega, rfl⟩)
          simp [this]
        refine Fin.out hR ⟨rfl, ?_⟩
        simp only [resSV, hfi]
      · refine hK _ _ (k + 1) (by omega) ⟨by omega, ?_⟩ (Wk.sub (by simp [subEnv, look]))
        rw [List.take_succ_eq_append_getElem hlt]
        intro x hx
        rcases List.mem_append.1 hx with hx | hx
        · exact hno x hx
        · rw [List.mem_singleton.1 hx]; exact hb
    · have : k = V.length := by omega
      subst this
      clear hK
      have X := And.intro X (Int.lt_irrefl (V.length : Int))
      (refine run ?_; repeat' (first | with_reducible exact trivial | ((with_reducible apply Fork.mk) <;> intro hb) | with_reducible apply Two.mk))
      have hfi : V.findIdx? p = none := by rw [List.findIdx?_eq_none_iff]; rw [List.take_length] at hno; exact hno
      refine Fin.out hR ⟨rfl, ?_⟩
      simp only [resSV, hfi]
  have h2 := idxP_any p V
  generalize hI : (match V.findIdx? p with | some i => (i : Int) | none => -1) = I at hidx
  refine ACall.of_go TB [] tabOK _ Tryd.func54 rfl (by decide) Tryd.ntmps54 (by simp) rfl (by simp only [initEnv, Nat.reduceAdd]; rfl) fun C R' hR hC hcl hB => ?_; have X := noX; have hC' := congrArg List.length hC
  (refine run ?_; repeat' (first | with_reducible exact trivial | ((with_reducible apply Fork.mk) <;> intro hb) | with_reducible apply Two.mk))
  refine callS hidx ?_
  rintro r H' ⟨rfl, rfl⟩
  (refine run ?_; repeat' (first | with_reducible exact trivial | ((with_reducible apply Fork.mk) <;> intro hb) | with_reducible apply Two.mk))
  refine Fin.out hR ⟨rfl, ?_⟩
  rw [← h2, ← hI]
  simp only [resSV]
  cases V.findIdx? p with
  | none => rfl
  | some i => rfl

theorem anyGlb_ok (G : Gl) (hG : GClosed G) (f : SV) (p : Glb → Bool) (V : List (Glb)) (H : List Blk) (hl : V.length < 1125899906842624) (hfu : f.under H.length = true)
    (hf : ∀ x ∈ V, ACallV Tryd.prog G f [(fun x : Glb => SV.agg x.cells) x] H (fun r H' => H' = H ∧ r = .bool (p x))) :
    ACall Tryd.prog G 42 [.list 3 (V.map (fun x : Glb => SV.agg x.cells)), f] H (fun r H' => H' = H ∧ r = .bool (V.any p)) := by
  have hidx : ACall Tryd.prog G 57 [.list 3 (V.map (fun x : Glb => SV.agg x.cells)), f] H (fun r H' => H' = H ∧ r = .int .i64 (match V.findIdx? p with | some i => (i : Int) | none => -1)) := by
    have hlm : (V.map (fun x : Glb => SV.agg x.cells)).length = V.length := by simp
    refine ACall.of_go TB [] tabOK _ Tryd.func57 rfl (by decide) Tryd.ntmps57 (by simp) rfl (by simp only [initEnv, Nat.reduceAdd]; rfl) fun C R' hR hC hcl hB => ?_; have X := noX; have hC' := congrArg List.length hC
    have X := And.intro X hlm
    have hcl1 := hcl
    (refine run ?_; repeat' (first | with_reducible exact trivial | ((with_reducible apply Fork.mk) <;> intro hb) | with_reducible apply Two.mk))
    refine go_loop (fun k : Nat => [(0, .list 3 (V.map (fun x : Glb => SV.agg x.cells))), (1, f), (7, .int .i64 V.length), (8, .int .i64 k)]) (fun _ => H) (fun k => V.length - k) (fun k => k ≤ V.length ∧ ∀ x ∈ V.take k, p x = false) 0 ⟨Nat.zero_le _, by simp⟩ (Wk.sub (by simp [subEnv, look])) ?_
    rintro K k ⟨hk, hno⟩ hK
    rcases Nat.lt_or_ge k V.length with hlt | hge
    · have e1 : (V.map (fun x : Glb => SV.agg x.cells))[k]? = some (SV.agg V[k].cells) := by simp [hlt]
      have hfk := hf V[k] (List.getElem_mem hlt)
      simp only at hfk
      have X := And.intro X e1
      (refine run ?_; repeat' (first | with_reducible exact trivial | ((with_reducible apply Fork.mk) <;> intro hb) | with_reducible apply Two.mk))
      refine callV hfk ?_
      rintro r H' ⟨rfl, rfl⟩
      (refine run ?_; repeat' (first | with_reducible exact trivial | ((with_reducible apply Fork.mk) <;> intro hb) | with_reducible apply Two.mk))
      · have hfi : V.findIdx? p = some k := by
          rw [List.findIdx?_eq_some_iff_getElem]
          refine ⟨hlt, by simpa using hb, fun j hj => ?_⟩
          have := hno (V[j]'(by omega)) (by rw [List.mem_take_iff_getElem]; exact ⟨j, by omega, rfl⟩)
          simp [this]
        refine Fin.out hR ⟨rfl, ?_⟩
        simp only [resSV, hfi]
      · refine hK _ _ (k + 1) (by omega) ⟨by omega, ?_⟩ (Wk.sub (by simp [subEnv, look]))
        rw [List.take_succ_eq_append_getElem hlt]
        intro x hx
        rcases List.mem_append.1 hx with hx | hx
        · exact hno x hx
        · rw [List.mem_singleton.1 hx]; exact hb
    · have : k = V.length := by omega
      subst this
      clear hK
      have X := And.intro X (Int.lt_irrefl (V.length : Int))
      (refine run ?_; repeat' (first | with_reducible exact trivial | ((with_reducible apply Fork.mk) <;> intro hb) | with_reducible apply Two.mk))
      have hfi : V.findIdx? p = none := by rw [List.findIdx?_eq_none_iff]; rw [List.take_length] at hno; exact hno
      refine Fin.out hR ⟨rfl, ?_⟩
      simp only [resSV, hfi]
  have h2 := idxP_any p V
  generalize hI : (match V.findIdx? p with | some i => (i : Int) | none => -1) = I at hidx
  refine ACall.of_go TB [] tabOK _ Tryd.func42 rfl (by decide) Tryd.ntmps42 (by simp) rfl (by simp only [initEnv, Nat.reduceAdd]; rfl) fun C R' hR hC hcl hB => ?_; have X := noX; have hC' := congrArg List.length hC
  (refine run ?_; repeat' (first | with_reducible exact trivial | ((with_reducible apply Fork.mk) <;> intro hb) | with_reducible apply Two.mk))
  refine callS hidx ?_
  rintro r H' ⟨rfl, rfl⟩
  (refine run ?_; repeat' (first | with_reducible exact trivial | ((with_reducible apply Fork.mk) <;> intro hb) | with_reducible apply Two.mk))
  refine Fin.out hR ⟨rfl, ?_⟩
  rw [← h2, ← hI]
  simp only [resSV]
  cases V.findIdx? p with
  | none => rfl
  | some i => rfl

theorem anyRef_ok (G : Gl) (hG : GClosed G) (f : SV) (p : Int × Int → Bool) (V : List (Int × Int)) (H : List Blk) (hl : V.length < 1125899906842624) (hfu : f.under H.length = true)
    (hf : ∀ x ∈ V, ACallV Tryd.prog G f [(fun x : Int × Int => SV.agg [.int .i64 x.1, .int .i64 x.2]) x] H (fun r H' => H' = H ∧ r = .bool (p x))) :
    ACall Tryd.prog G 58 [.list 2 (V.map (fun x : Int × Int => SV.agg [.int .i64 x.1, .int .i64 x.2])), f] H (fun r H' => H' = H ∧ r = .bool (V.any p)) := by
  have hidx : ACall Tryd.prog G 71 [.list 2 (V.map (fun x : Int × Int => SV.agg [.int .i64 x.1, .int .i64 x.2])), f] H (fun r H' => H' = H ∧ r = .int .i64 (match V.findIdx? p with | some i => (i : Int) | none => -1)) := by
    have hlm : (V.map (fun x : Int × Int => SV.agg [.int .i64 x.1, .int .i64 x.2])).length = V.length := by simp
    refine ACall.of_go TB [] tabOK _ Tryd.func71 rfl (by decide) Tryd.ntmps71 (by simp) rfl (by simp only [initEnv, Nat.reduceAdd]; rfl) fun C R' hR hC hcl hB => ?_; have X := noX; have hC' := congrArg List.length hC
    have X := And.intro X hlm
    have hcl1 := hcl
    (refine run ?_; repeat' (first | with_reducible exact trivial | ((with_reducible apply Fork.mk) <;> intro hb) | with_reducible apply Two.mk))
    refine go_loop (fun k : Nat => [(0, .list 2 (V.map (fun x : Int × Int => SV.agg [.int .i64 x.1, .int .i64 x.2]))), (1, f), (7, .int .i64 V.length), (8, .int .i64 k)]) (fun _ => H) (fun k => V.length - k) (fun k => k ≤ V.length ∧ ∀ x ∈ V.take k, p x = false) 0 ⟨Nat.zero_le _, by simp⟩ (Wk.sub (by simp [subEnv, look])) ?_
    rintro K k ⟨hk, hno⟩ hK
    rcases Nat.lt_or_ge k V.length with hlt | hge
    · have e1 : (V.map (fun x : Int × Int => SV.agg [.int .i64 x.1, .int .i64 x.2]))[k]? = some (SV.agg [.int .i64 V[k].1, .int .i64 V[k].2]) := by simp [hlt]
      have hfk := hf V[k] (List.getElem_mem hlt)
      simp only at hfk
      have X := And.intro X e1
      (refine run ?_; repeat' (first | with_reducible exact trivial | ((with_reducible apply Fork.mk) <;> intro hb) | with_reducible apply Two.mk))
      refine callV hfk ?_
      rintro r H' ⟨rfl, rfl⟩
      (refine run ?_; repeat' (first | with_reducible exact trivial | ((with_reducible apply Fork.mk) <;> intro hb) | with_reducible apply Two.mk))
      · have hfi : V.findIdx? p = some k := by
          rw [List.findIdx?_eq_some_iff_getElem]
          refine ⟨hlt, by simpa using hb, fun j hj => ?_⟩
          have := hno (V[j]'(by omega)) (by rw [List.mem_take_iff_getElem]; exact ⟨j, by omega, rfl⟩)
          simp [this]
        refine Fin.out hR ⟨rfl, ?_⟩
        simp only [resSV, hfi]
      · refine hK _ _ (k + 1) (by omega) ⟨by omega, ?_⟩ (Wk.sub (by simp [subEnv, look]))
        rw [List.take_succ_eq_append_getElem hlt]
        intro x hx
        rcases List.mem_append.1 hx with hx | hx
        · exact hno x hx
        · rw [List.mem_singleton.1 hx]; exact hb
    · have : k = V.length := by omega
      subst this
      clear hK
      have X := And.intro X (Int.lt_irrefl (V.length : Int))
      (refine run ?_; repeat' (first | with_reducible exact trivial | ((with_reducible apply Fork.mk) <;> intro hb) | with_reducible apply Two.mk))
      have hfi : V.findIdx? p = none := by rw [List.findIdx?_eq_none_iff]; rw [List.take_length] at hno; exact hno
      refine Fin.out hR ⟨rfl, ?_⟩
      simp only [resSV, hfi]
  have h2 := idxP_any p V
  generalize hI : (match V.findIdx? p with | some i => (i : Int) | none => -1) = I at hidx
  refine ACall.of_go TB [] tabOK _ Tryd.func58 rfl (by decide) Tryd.ntmps58 (by simp) rfl (by simp only [initEnv, Nat.reduceAdd]; rfl) fun C R' hR hC hcl hB => ?_; have X := noX; have hC' := congrArg List.length hC
  (refine run ?_; repeat' (first | with_reducible exact trivial | ((with_reducible apply Fork.mk) <;> intro hb) | with_reducible apply Two.mk))
  refine callS hidx ?_
  rintro r H' ⟨rfl, rfl⟩
  (refine run ?_; repeat' (first | with_reducible exact trivial | ((with_reducible apply Fork.mk) <;> intro hb) | with_reducible apply Two.mk))
  refine Fin.out hR ⟨rfl, ?_⟩
  rw [← h2, ← hI]
  simp only [resSV]
  cases V.findIdx? p with
  | none => rfl
  | some i => rfl

theorem anyInt_ok (G : Gl) (hG : GClosed G) (f : SV) (p : Int → Bool) (V : List (Int)) (H : List Blk) (hl : V.length < 1125899906842624) (hfu : f.under H.length = true)
    (hf : ∀ x ∈ V, ACallV Tryd.prog G f [(fun x : Int => SV.int .i64 x) x] H (fun r H' => H' = H ∧ r = .bool (p x))) :
    ACall Tryd.prog G 68 [.list 1 (V.map (fun x : Int => SV.int .i64 x)), f] H (fun r H' => H' = H ∧ r = .bool (V.any p)) := by
  have hidx : ACall Tryd.prog G 83 [.list 1 (V.map (fun x : Int => SV.int .i64 x)), f] H (fun r H' => H' = H ∧ r = .int .i64 (match V.findIdx? p with | some i => (i : Int) | none => -1)) := by
    have hlm : (V.map (fun x : Int => SV.int .i64 x)).length = V.length := by simp
    refine ACall.of_go TB [] tabOK _ Tryd.func83 rfl (by decide) Tryd.ntmps83 (by simp) rfl (by simp only [initEnv, Nat.reduceAdd]; rfl) fun C R' hR hC hcl hB => ?_; have X := noX; have hC' := congrArg List.length hC
    have X := And.intro X hlm
    have hcl1 := hcl
    (refine run ?_; repeat' (first | with_reducible exact trivial | ((with_reducible apply Fork.mk) <;> intro hb) | with_reducible apply Two.mk))
    refine go_loop (fun k : Nat => [(0, .list 1 (V.map (fun x : Int => SV.int .i64 x))), (1, f), (7, .int .i64 V.length), (8, .int .i64 k)]) (fun _ => H) (fun k => V.length - k) (fun k => k ≤ V.length ∧ ∀ x ∈ V.take k, p x = false) 0 ⟨Nat.zero_le _, by simp⟩ (Wk.sub (by simp [subEnv, look])) ?_
    rintro K k ⟨hk, hno⟩ hK
    rcases Nat.lt_or_ge k V.length with hlt | hge
    · have e1 : (V.map (fun x : Int => SV.int .i64 x))[k]? = some (SV.int .i64 V[k]) := by simp [hlt]
      have hfk := hf V[k] (List.getElem_mem hlt)
      simp only at hfk
      have X := And.intro X e1
      (refine run ?_; repeat' (first | with_reducible exact trivial | ((with_reducible apply Fork.mk) <;> intro hb) | with_reducible apply Two.mk))
      refine callV hfk ?_
      rintro r H' ⟨rfl, rfl⟩
      (refine run ?_; repeat' (first | with_reducible exact trivial | ((with_reducible apply Fork.mk) <;> intro hb) | with_reducible apply Two.mk))
      · have hfi : V.findIdx? p = some k := by
          rw [List.findIdx?_eq_some_iff_getElem]
          refine ⟨hlt, by simpa using hb, fun j hj => ?_⟩
          have := hno (V[j]'(by omega)) (by rw [List.mem_take_iff_getElem]; exact ⟨j, by omega, rfl⟩)
          simp [this]
        refine Fin.out hR ⟨rfl, ?_⟩
        simp only [resSV, hfi]
      · refine hK _ _ (k + 1) (by omega) ⟨by omega, ?_⟩ (Wk.sub (by simp [subEnv, look]))
        rw [List.take_succ_eq_append_getElem hlt]
        intro x hx
        rcases List.mem_append.1 hx with hx | hx
        · exact hno x hx
        · rw [List.mem_singleton.1 hx]; exact hb
    · have : k = V.length := by omega
      subst this
      clear hK
      have X := And.intro X (Int.lt_irrefl (V.length : Int))
      (refine run ?_; repeat' (first | with_reducible exact trivial | ((with_reducible apply Fork.mk) <;> intro hb) | with_reducible apply Two.mk))
      have hfi : V.findIdx? p = none := by rw [List.findIdx?_eq_none_iff]; rw [List.take_length] at hno; exact hno
      refine Fin.out hR ⟨rfl, ?_⟩
      simp only [resSV, hfi]
  have h2 := idxP_any p V
  generalize hI : (match V.findIdx? p with | some i => (i : Int) | none => -1) = I at hidx
  refine ACall.of_go TB [] tabOK _ Tryd.func68 rfl (by decide) Tryd.ntmps68 (by simp) rfl (by simp only [initEnv, Nat.reduceAdd]; rfl) fun C R' hR hC hcl hB => ?_; have X := noX; have hC' := congrArg List.length hC
  (refine run ?_; repeat' (first | with_reducible exact trivial | ((with_reducible apply Fork.mk) <;> intro hb) | with_reducible apply Two.mk))
  refine callS hidx ?_
  rintro r H' ⟨rfl, rfl⟩
  (refine run ?_; repeat' (first | with_reducible exact trivial | ((with_reducible apply Fork.mk) <;> intro hb) | with_reducible apply Two.mk))
  refine Fin.out hR ⟨rfl, ?_⟩
  rw [← h2, ← hI]
  simp only [resSV]
  cases V.findIdx? p with
  | none => rfl
  | some i => rfl
end Go.Proofs.YtneklfhahljgnaaDoor
end

section
namespace Go.Proofs.YtneklfhahljgnaaDoor
open Go
set_option linter.unusedSimpArgs false
set_option linter.unusedVariables false
set_option maxRecDepth 10000
set_option maxHeartbeats 4000000

def inR (n lo hi : Int) : Bool := decide (lo ≤ n) && decide (n ≤ hi)
theorem within_ok (G : Gl) (hG : GClosed G) (n lo hi : Int) (H : List Blk) : ACall Tryd.prog G 37 [.int .i64 n, .int .i64 lo, .int .i64 hi] H (fun r H' => H' = H ∧ r = .bool (inR n lo hi)) := by
  refine ACall.of_go TB [] tabOK _ Tryd.func37 rfl (by decide) Tryd.ntmps37 (by simp) rfl (by simp only [initEnv, Nat.reduceAdd]; rfl) fun C R' hR hC hcl hB => ?_; have X := noX; have hC' := congrArg List.length hC
  (refine run ?_; repeat' (first | with_reducible exact trivial | ((with_reducible apply Fork.mk) <;> intro hb) | with_reducible apply Two.mk))
  all_goals exact Fin.out hR ⟨rfl, rfl⟩
/-- a field that names a slot -/
def slotB (has : Bool) (top n : Int) : Bool := if has then inR n 0 (top - 1) else decide (n = 0)
theorem slot_ok (G : Gl) (hG : GClosed G) (own top bit n : Int) (has : Bool) (b1 b2' : Nat) (H : List Blk) (h1 : H[b1]? = some (.cells 0 1 [.int .i64 own])) (h2 : H[b2']? = some (.cells 0 1 [.int .i64 top]))
    (hbit : bitsI .and .i64 own bit = some (b2 has bit)) (hz : decide (b2 has bit = 0) = !has) (ht : -1099511627776 < top ∧ top < 1099511627776) :
    ACall Tryd.prog G 66 [.int .i64 bit, .int .i64 n, .ptr b1 0 0 0, .ptr b2' 0 0 0] H (fun r H' => H' = H ∧ r = .bool (slotB has top n)) := by
  have c1 := fun n hi H => within_ok G hG n 0 hi H
  have hl1 := (List.getElem?_eq_some_iff.1 h1).1
  have hl2 := (List.getElem?_eq_some_iff.1 h2).1
  refine ACall.of_go TB [] tabOK _ Tryd.func66 rfl (by decide) Tryd.ntmps66 (by simp) rfl (by simp only [initEnv, Nat.reduceAdd]; rfl) fun C R' hR hC hcl hB => ?_; have X := noX; have hC' := congrArg List.length hC
  have X := And.intro X (And.intro (getX h1) (And.intro (getX h2) (And.intro hbit hz)))
  cases has with
  | false =>
    (refine run ?_; repeat' (first | with_reducible exact trivial | ((with_reducible apply Fork.mk) <;> intro hb) | with_reducible apply Two.mk))
    all_goals exact Fin.out hR ⟨rfl, rfl⟩
  | true =>
    (refine run ?_; repeat' (first | with_reducible exact trivial | ((with_reducible apply Fork.mk) <;> intro hb) | with_reducible apply Two.mk))
    all_goals exact Fin.out hR ⟨rfl, rfl⟩
theorem place_ok (G : Gl) (hG : GClosed G) (n : Int) (code : List Ins) (fc : List SV) (b : Nat) (H : List Blk) (hb : H[b]? = some (.cells 0 7 [.agg fc])) (hfcl : fc.length = 7) (hfc6 : fc[6]? = some (.list 6 (insL code))) (hn : code.length < 1125899906842624) :
    ACall Tryd.prog G 67 [.int .i64 n, .ptr b 0 0 0] H (fun r H' => H' = H ∧ r = .bool (inR n 0 ((code.length : Int) - 1))) := by
  have c1 := fun n hi H => within_ok G hG n 0 hi H
  have hl1 := (List.getElem?_eq_some_iff.1 hb).1
  refine ACall.of_go TB [] tabOK _ Tryd.func67 rfl (by decide) Tryd.ntmps67 (by simp) rfl (by simp only [initEnv, Nat.reduceAdd]; rfl) fun C R' hR hC hcl hB => ?_; have X := noX; have hC' := congrArg List.length hC
  have X := And.intro X (And.intro (getX hb) (And.intro hfcl hfc6))
  (refine run ?_; repeat' (first | with_reducible exact trivial | ((with_reducible apply Fork.mk) <;> intro hb) | with_reducible apply Two.mk))
  all_goals exact Fin.out hR ⟨rfl, rfl⟩
theorem notIn_ok (G : Gl) (hG : GClosed G) (n frame : Int) (fc : List SV) (b : Nat) (H : List Blk) (hb : H[b]? = some (.cells 0 7 [.agg fc])) (hfcl : fc.length = 7) (hfc5 : fc[5]? = some (.int .i64 frame)) (hfr : 0 ≤ frame ∧ frame ≤ 65536) :
    ACall Tryd.prog G 69 [.int .i64 n, .ptr b 0 0 0] H (fun r H' => H' = H ∧ r = .bool (!inR n 0 (frame - 1))) := by
  have c1 := fun n hi H => within_ok G hG n 0 hi H
  have hl1 := (List.getElem?_eq_some_iff.1 hb).1
  refine ACall.of_go TB [] tabOK _ Tryd.func69 rfl (by decide) Tryd.ntmps69 (by simp) rfl (by simp only [initEnv, Nat.reduceAdd]; rfl) fun C R' hR hC hcl hB => ?_; have X := noX; have hC' := congrArg List.length hC
  have X := And.intro X (And.intro (getX hb) (And.intro hfcl hfc5))
  (refine run ?_; repeat' (first | with_reducible exact trivial | ((with_reducible apply Fork.mk) <;> intro hb) | with_reducible apply Two.mk))
  all_goals exact Fin.out hR ⟨rfl, rfl⟩
/-- no place -/
def badP (op : Int) (len : Nat) (n : Int) : Bool := !inR n 0 ((len : Int) - 1) && !(decide (op = 21) && decide (n = -1))
theorem badP_ok (G : Gl) (hG : GClosed G) (n op : Int) (code : List Ins) (fc ic : List SV) (b bf bi : Nat) (H : List Blk) (hb : H[b]? = some (.cells 0 7 [.agg fc])) (hfcl : fc.length = 7) (hfc6 : fc[6]? = some (.list 6 (insL code))) (hn : code.length < 1125899906842624)
    (hf : H[bf]? = some (.cells 0 1 [.fn (.func 67) [] [.ptr b 0 0 0]])) (hi : H[bi]? = some (.cells 0 6 [.agg ic])) (hicl : ic.length = 6) (hic : ic[0]? = some (.int .i64 op)) :
    ACall Tryd.prog G 70 [.int .i64 n, .ptr bf 0 0 0, .ptr bi 0 0 0] H (fun r H' => H' = H ∧ r = .bool (badP op code.length n)) := by
  have v1 : ∀ s, ACallV Tryd.prog G (.fn (.func 67) [] [.ptr b 0 0 0]) [.int .i64 s] H (fun r H' => H' = H ∧ r = .bool (inR s 0 ((code.length : Int) - 1))) := fun s => ACallV.of (place_ok G hG s code fc b H hb hfcl hfc6 hn)
  have hl1 := (List.getElem?_eq_some_iff.1 hf).1
  have hl2 := (List.getElem?_eq_some_iff.1 hi).1
  refine ACall.of_go TB [] tabOK _ Tryd.func70 rfl (by decide) Tryd.ntmps70 (by simp) rfl (by simp only [initEnv, Nat.reduceAdd]; rfl) fun C R' hR hC hcl hB => ?_; have X := noX; have hC' := congrArg List.length hC
  have X := And.intro X (And.intro (getX hf) (And.intro (getX hi) (And.intro hicl hic)))
  (refine run ?_; repeat' (first | with_reducible exact trivial | ((with_reducible apply Fork.mk) <;> intro hb) | with_reducible apply Two.mk))
  all_goals exact Fin.out hR ⟨rfl, rfl⟩
end Go.Proofs.YtneklfhahljgnaaDoor
end

section
namespace Go.Proofs.YtneklfhahljgnaaDoor
open Go
set_option linter.unusedSimpArgs false
set_option linter.unusedVariables false
set_option maxRecDepth 10000
set_option maxHeartbeats 4000000

def insTop (op slots frame : Int) : Int := if op = 2 then frame else (if slots < frame then slots else frame)
def lstOK (op frame : Int) (n : Nat) (l : List Int) : Bool := if bitOf 16 op then !(l.any fun n => !inR n 0 (frame - 1)) else if bitOf 32 op then !(l.any (badP op n)) else !decide ((0 : Int) < l.length)
def getA (l : List Con) (n : Int) : Int := match l[n.toNat]? with | some c => c.arity | none => 0
def getF (l : List Fun) (n : Int) : Int := match l[n.toNat]? with | some c => c.free | none => 0
def finOK (m : Img) (len : Nat) (i : Ins) : Bool :=
  if i.op = 12 then inR i.n 0 ((m.cons.length : Int) - 1) && decide (getA m.cons i.n = (i.l.length : Int))
  else if i.op = 13 then inR i.n 0 ((m.funcs.length : Int) - 1) && decide (getF m.funcs i.n = (i.l.length : Int))
  else if i.op = 11 then inR i.n 0 ((m.globals.length : Int) - 1)
  else if i.op = 14 then inR i.n 0 1000
  else if i.op = 20 then inR i.n 0 99
  else if i.op = 21 then inR i.n 0 ((len : Int) - 1) && decide ((i.l.length : Int) ≤ 1000)
  else if i.op = 23 then inR i.n 0 ((len : Int) - 1)
  else if i.op = 22 then decide ((i.l.length : Int) = 1)
  else if i.op = 16 ∨ i.op = 17 then decide ((0 : Int) < i.l.length)
  else true
def insOK (m : Img) (slots : Int) (frame : Int) (len : Nat) (i : Ins) : Bool :=
  !decide (ofS i.op = 0) && slotB (bitOf 1 i.op) (insTop i.op slots frame) i.a && slotB (bitOf 2 i.op) (insTop i.op slots frame) i.b && slotB (bitOf 4 i.op) (insTop i.op slots frame) i.c && (bitOf 8 i.op || decide (i.n = 0)) && lstOK i.op frame len i.l && finOK m len i
theorem bit16 (op : Int) : bitOf 16 op = (decide (op = 12) || decide (op = 13) || decide (op = 16) || decide (op = 17)) := by
  by_cases h : op < 1 ∨ 27 ≤ op
  · have : ofS op = 0 := by unfold ofS; rw [if_pos h]
    simp only [bitOf, this]
    have e : ∀ k : Int, 1 ≤ k → k < 27 → decide (op = k) = false := fun k h1 h2 => by rw [decide_eq_false_iff_not]; omega
    simp only [e 12 (by decide) (by decide), e 13 (by decide) (by decide), e 16 (by decide) (by decide), e 17 (by decide) (by decide)]
    rfl
  · have hk : ∀ k : _root_.Fin 27, bitOf 16 (k.val : Int) = (decide ((k.val : Int) = 12) || decide ((k.val : Int) = 13) || decide ((k.val : Int) = 16) || decide ((k.val : Int) = 17)) := by decide
    have := hk ⟨op.toNat, by omega⟩
    rw [show ((⟨op.toNat, by omega⟩ : _root_.Fin 27).val : Int) = op by simp; omega] at this
    exact this
def chkC (m : Img) (slots : Int) : List SV := m.cells ++ [.int .i64 slots]

theorem insElse_ok (G : Gl) (hG : GClosed G) (hF : GF G) (m : Img) (slots frame : Int) (fc : List SV) (code : List Ins) (hfcl : fc.length = 7) (hfc5 : fc[5]? = some (.int .i64 frame)) (hfc6 : fc[6]? = some (.list 6 (insL code))) (i : Ins) (hn : code.length < 1099511627776) (hl : i.l.length < 1099511627776)
    (hm1 : m.cons.length < 1099511627776) (hm2 : m.funcs.length < 1099511627776) (hm3 : m.globals.length < 1099511627776) (hs : 1 ≤ slots ∧ slots ≤ 65536) (hfr : 0 ≤ frame ∧ frame ≤ 65536) (hop : i.op ≠ 2 ∧ i.op ≠ 11 ∧ i.op ≠ 12 ∧ i.op ≠ 13 ∧ i.op ≠ 14 ∧ i.op ≠ 16 ∧ i.op ≠ 17 ∧ i.op ≠ 20 ∧ i.op ≠ 21 ∧ i.op ≠ 22 ∧ i.op ≠ 23) (c : Nat) (H : List Blk) (hc : H[c]? = some (.cells 0 5 [.agg (chkC m slots)])) :
    ACall Tryd.prog G 56 [.ptr c 0 0 0, .agg fc, .agg i.cells] H (fun r H' => H' = H ∧ r = .bool (insOK m slots frame code.length i)) := by
  have hcl0 := (List.getElem?_eq_some_iff.1 hc).1
  have hmcl : (chkC m slots).length = 5 := rfl
  have hmc0 : (chkC m slots)[0]? = some (.list 4 (consL m.cons)) := rfl
  have hmc1 : (chkC m slots)[1]? = some (.list 7 (funsL m.funcs)) := rfl
  have hmc2 : (chkC m slots)[2]? = some (.list 3 (glbsL m.globals)) := rfl
  have hmc4 : (chkC m slots)[4]? = some (.int .i64 slots) := rfl
  have hgoal : insOK m slots frame code.length i = insOK m slots frame code.length i := rfl
  obtain ⟨op, a, b, c', n, l⟩ := i
  simp only at hop hl
  generalize htop : insTop op slots frame = top
  have htb : -1099511627776 < top ∧ top < 1099511627776 := by subst htop; unfold insTop; (repeat' split) <;> omega
  have hlm : (l.map (SV.int .i64)).length = l.length := by simp
  simp only [insOK, htop] at hgoal
  generalize hmc : chkC m slots = mc at hc hmcl hmc0 hmc1 hmc2 hmc4
  simp only [Ins.cells]
  have hicl : ([.int .i64 op, .int .i64 a, .int .i64 b, .int .i64 c', .int .i64 n, .list 1 (l.map (.int .i64))] : List SV).length = 6 := rfl
  generalize hic : ([.int .i64 op, .int .i64 a, .int .i64 b, .int .i64 c', .int .i64 n, .list 1 (l.map (.int .i64))] : List SV) = ic at hicl
  have i0 : ic[0]? = some (.int .i64 op) := by subst hic; rfl
  have i1 : ic[1]? = some (.int .i64 a) := by subst hic; rfl
  have i2 : ic[2]? = some (.int .i64 b) := by subst hic; rfl
  have i3 : ic[3]? = some (.int .i64 c') := by subst hic; rfl
  have i4 : ic[4]? = some (.int .i64 n) := by subst hic; rfl
  have i5 : ic[5]? = some (.list 1 (l.map (.int .i64))) := by subst hic; rfl
  clear hic hmc
  have c1 := fun n hi H => within_ok G hG n 0 hi H
  have c2 := fun H => of_ok G hG hF op H
  obtain ⟨a1, a2, a4, a8, a16, a32, _⟩ := and_bit op
  generalize hB1 : bitOf 1 op = B1 at a1
  generalize hB2 : bitOf 2 op = B2 at a2
  generalize hB4 : bitOf 4 op = B4 at a4
  generalize hB8 : bitOf 8 op = B8 at a8
  generalize hB16 : bitOf 16 op = B16 at a16
  generalize hB32 : bitOf 32 op = B32 at a32
  generalize hown : ofS op = own at a1 a2 a4 a8 a16 a32 c2
  have v1 : ∀ s, ACallV Tryd.prog G (.fn (.func 66) [] [.ptr (H.length + 2) 0 0 0, .ptr (H.length + 3) 0 0 0]) [.int .i64 1, .int .i64 s] (H ++ [.cells 0 7 [.agg fc], .cells 0 6 [.agg ic], .cells 0 1 [.int .i64 own], .cells 0 1 [.int .i64 top]]) (fun r H' => H' = (H ++ [.cells 0 7 [.agg fc], .cells 0 6 [.agg ic], .cells 0 1 [.int .i64 own], .cells 0 1 [.int .i64 top]]) ∧ r = .bool (slotB B1 top s)) := fun s => ACallV.of (slot_ok G hG own top 1 s B1 (H.length + 2) (H.length + 3) _ (by simp) (by simp) a1 (b2_zero B1).1 htb)
  have v2 : ∀ s, ACallV Tryd.prog G (.fn (.func 66) [] [.ptr (H.length + 2) 0 0 0, .ptr (H.length + 3) 0 0 0]) [.int .i64 2, .int .i64 s] (H ++ [.cells 0 7 [.agg fc], .cells 0 6 [.agg ic], .cells 0 1 [.int .i64 own], .cells 0 1 [.int .i64 top]]) (fun r H' => H' = (H ++ [.cells 0 7 [.agg fc], .cells 0 6 [.agg ic], .cells 0 1 [.int .i64 own], .cells 0 1 [.int .i64 top]]) ∧ r = .bool (slotB B2 top s)) := fun s => ACallV.of (slot_ok G hG own top 2 s B2 (H.length + 2) (H.length + 3) _ (by simp) (by simp) a2 (b2_zero B2).2.1 htb)
  have v3 : ∀ s, ACallV Tryd.prog G (.fn (.func 66) [] [.ptr (H.length + 2) 0 0 0, .ptr (H.length + 3) 0 0 0]) [.int .i64 4, .int .i64 s] (H ++ [.cells 0 7 [.agg fc], .cells 0 6 [.agg ic], .cells 0 1 [.int .i64 own], .cells 0 1 [.int .i64 top]]) (fun r H' => H' = (H ++ [.cells 0 7 [.agg fc], .cells 0 6 [.agg ic], .cells 0 1 [.int .i64 own], .cells 0 1 [.int .i64 top]]) ∧ r = .bool (slotB B4 top s)) := fun s => ACallV.of (slot_ok G hG own top 4 s B4 (H.length + 2) (H.length + 3) _ (by simp) (by simp) a4 (b2_zero B4).2.2.1 htb)
  refine ACall.of_go TB [] tabOK _ Tryd.func56 rfl (by decide) Tryd.ntmps56 (by simp) rfl (by simp only [initEnv, Nat.reduceAdd]; rfl) fun C R' hR hC hcl hB => ?_; have X := noX; have hC' := congrArg List.length hC
  have hr1 : IntKind.i64.min ≤ slots := by simp [IntKind.min, IntKind.signed, IntKind.bits]; omega
  have hr2 : slots ≤ IntKind.i64.max := by simp [IntKind.max, IntKind.signed, IntKind.bits]; omega
  have X0 := And.intro X (And.intro hlm (And.intro hfcl (And.intro hfc5 (And.intro hfc6 (And.intro (getX hc) (And.intro hmcl (And.intro hmc0 (And.intro hmc1 (And.intro hmc2 (And.intro hmc4 (And.intro hicl (And.intro i0 (And.intro i1 (And.intro i2 (And.intro i3 (And.intro i4 (And.intro i5 (And.intro a8 (And.intro a16 (And.intro a32 (And.intro (b2_zero B8) (And.intro (b2_zero B16) (And.intro (b2_zero B32) (And.intro hr1 hr2))))))))))))))))))))))))
  clear X

  obtain ⟨n2, n11, n12, n13, n14, n16, n17, n20, n21, n22, n23⟩ := hop
  have e16 : B16 = false := by rw [← hB16, bit16]; simp [n12, n13, n16, n17]
  have e32 : B32 = false := by rw [← hB32, bit32]; simp [n21, n22]
  subst e16
  subst e32
  have htop2 : (if slots < frame then slots else frame) = top := by rw [← htop]; unfold insTop; rw [if_neg n2]
  have X := And.intro X0 (And.intro n2 (And.intro n11 (And.intro n12 (And.intro n13 (And.intro n14 (And.intro n16 (And.intro n17 (And.intro n20 (And.intro n21 (And.intro n22 (And.intro n23 htop2)))))))))))
  (refine run ?_; repeat' (first | with_reducible exact trivial | ((with_reducible apply Fork.mk) <;> intro hb) | with_reducible apply Two.mk))
  all_goals
    refine finS hR hC' hcl (.same _ rfl) ⟨rfl, ?_⟩
    clear X X0 v1 v2 v3 c1 c2 hR hC hC' hcl hB hc hG hF a1 a2 a4 a8 a16 a32 hgoal i0 i1 i2 i3 i4 i5 hmc0 hmc1 hmc2 hmc4 hmcl hcl0 hicl hfc5 hfc6 hfcl hr1 hr2 hlm htb hl hn hs hfr hm1 hm2 hm3
    simp only [insOK, lstOK, finOK, htop, hown, hB1, hB2, hB4, hB8, hB16, hB32]
    simp only [resSV]
    congr 1
    generalize slotB B4 top c' = S4 at *
    cases S4 <;> cases B8 <;> simp_all
theorem ins2_ok (G : Gl) (hG : GClosed G) (hF : GF G) (m : Img) (slots frame : Int) (fc : List SV) (code : List Ins) (hfcl : fc.length = 7) (hfc5 : fc[5]? = some (.int .i64 frame)) (hfc6 : fc[6]? = some (.list 6 (insL code))) (i : Ins) (hn : code.length < 1099511627776) (hl : i.l.length < 1099511627776)
    (hm1 : m.cons.length < 1099511627776) (hm2 : m.funcs.length < 1099511627776) (hm3 : m.globals.length < 1099511627776) (hs : 1 ≤ slots ∧ slots ≤ 65536) (hfr : 0 ≤ frame ∧ frame ≤ 65536) (hop : i.op = 2) (c : Nat) (H : List Blk) (hc : H[c]? = some (.cells 0 5 [.agg (chkC m slots)])) :
    ACall Tryd.prog G 56 [.ptr c 0 0 0, .agg fc, .agg i.cells] H (fun r H' => H' = H ∧ r = .bool (insOK m slots frame code.length i)) := by
  have hcl0 := (List.getElem?_eq_some_iff.1 hc).1
  have hmcl : (chkC m slots).length = 5 := rfl
  have hmc0 : (chkC m slots)[0]? = some (.list 4 (consL m.cons)) := rfl
  have hmc1 : (chkC m slots)[1]? = some (.list 7 (funsL m.funcs)) := rfl
  have hmc2 : (chkC m slots)[2]? = some (.list 3 (glbsL m.globals)) := rfl
  have hmc4 : (chkC m slots)[4]? = some (.int .i64 slots) := rfl
  have hgoal : insOK m slots frame code.length i = insOK m slots frame code.length i := rfl
  obtain ⟨op, a, b, c', n, l⟩ := i
  simp only at hop hl
  generalize htop : insTop op slots frame = top
  have htb : -1099511627776 < top ∧ top < 1099511627776 := by subst htop; unfold insTop; (repeat' split) <;> omega
  have hlm : (l.map (SV.int .i64)).length = l.length := by simp
  simp only [insOK, htop] at hgoal
  generalize hmc : chkC m slots = mc at hc hmcl hmc0 hmc1 hmc2 hmc4
  simp only [Ins.cells]
  have hicl : ([.int .i64 op, .int .i64 a, .int .i64 b, .int .i64 c', .int .i64 n, .list 1 (l.map (.int .i64))] : List SV).length = 6 := rfl
  generalize hic : ([.int .i64 op, .int .i64 a, .int .i64 b, .int .i64 c', .int .i64 n, .list 1 (l.map (.int .i64))] : List SV) = ic at hicl
  have i0 : ic[0]? = some (.int .i64 op) := by subst hic; rfl
  have i1 : ic[1]? = some (.int .i64 a) := by subst hic; rfl
  have i2 : ic[2]? = some (.int .i64 b) := by subst hic; rfl
  have i3 : ic[3]? = some (.int .i64 c') := by subst hic; rfl
  have i4 : ic[4]? = some (.int .i64 n) := by subst hic; rfl
  have i5 : ic[5]? = some (.list 1 (l.map (.int .i64))) := by subst hic; rfl
  clear hic hmc
  have c1 := fun n hi H => within_ok G hG n 0 hi H
  have c2 := fun H => of_ok G hG hF op H
  obtain ⟨a1, a2, a4, a8, a16, a32, _⟩ := and_bit op
  generalize hB1 : bitOf 1 op = B1 at a1
  generalize hB2 : bitOf 2 op = B2 at a2
  generalize hB4 : bitOf 4 op = B4 at a4
  generalize hB8 : bitOf 8 op = B8 at a8
  generalize hB16 : bitOf 16 op = B16 at a16
  generalize hB32 : bitOf 32 op = B32 at a32
  generalize hown : ofS op = own at a1 a2 a4 a8 a16 a32 c2
  have v1 : ∀ s, ACallV Tryd.prog G (.fn (.func 66) [] [.ptr (H.length + 2) 0 0 0, .ptr (H.length + 3) 0 0 0]) [.int .i64 1, .int .i64 s] (H ++ [.cells 0 7 [.agg fc], .cells 0 6 [.agg ic], .cells 0 1 [.int .i64 own], .cells 0 1 [.int .i64 top]]) (fun r H' => H' = (H ++ [.cells 0 7 [.agg fc], .cells 0 6 [.agg ic], .cells 0 1 [.int .i64 own], .cells 0 1 [.int .i64 top]]) ∧ r = .bool (slotB B1 top s)) := fun s => ACallV.of (slot_ok G hG own top 1 s B1 (H.length + 2) (H.length + 3) _ (by simp) (by simp) a1 (b2_zero B1).1 htb)
  have v2 : ∀ s, ACallV Tryd.prog G (.fn (.func 66) [] [.ptr (H.length + 2) 0 0 0, .ptr (H.length + 3) 0 0 0]) [.int .i64 2, .int .i64 s] (H ++ [.cells 0 7 [.agg fc], .cells 0 6 [.agg ic], .cells 0 1 [.int .i64 own], .cells 0 1 [.int .i64 top]]) (fun r H' => H' = (H ++ [.cells 0 7 [.agg fc], .cells 0 6 [.agg ic], .cells 0 1 [.int .i64 own], .cells 0 1 [.int .i64 top]]) ∧ r = .bool (slotB B2 top s)) := fun s => ACallV.of (slot_ok G hG own top 2 s B2 (H.length + 2) (H.length + 3) _ (by simp) (by simp) a2 (b2_zero B2).2.1 htb)
  have v3 : ∀ s, ACallV Tryd.prog G (.fn (.func 66) [] [.ptr (H.length + 2) 0 0 0, .ptr (H.length + 3) 0 0 0]) [.int .i64 4, .int .i64 s] (H ++ [.cells 0 7 [.agg fc], .cells 0 6 [.agg ic], .cells 0 1 [.int .i64 own], .cells 0 1 [.int .i64 top]]) (fun r H' => H' = (H ++ [.cells 0 7 [.agg fc], .cells 0 6 [.agg ic], .cells 0 1 [.int .i64 own], .cells 0 1 [.int .i64 top]]) ∧ r = .bool (slotB B4 top s)) := fun s => ACallV.of (slot_ok G hG own top 4 s B4 (H.length + 2) (H.length + 3) _ (by simp) (by simp) a4 (b2_zero B4).2.2.1 htb)
  refine ACall.of_go TB [] tabOK _ Tryd.func56 rfl (by decide) Tryd.ntmps56 (by simp) rfl (by simp only [initEnv, Nat.reduceAdd]; rfl) fun C R' hR hC hcl hB => ?_; have X := noX; have hC' := congrArg List.length hC
  have hr1 : IntKind.i64.min ≤ slots := by simp [IntKind.min, IntKind.signed, IntKind.bits]; omega
  have hr2 : slots ≤ IntKind.i64.max := by simp [IntKind.max, IntKind.signed, IntKind.bits]; omega
  have X0 := And.intro X (And.intro hlm (And.intro hfcl (And.intro hfc5 (And.intro hfc6 (And.intro (getX hc) (And.intro hmcl (And.intro hmc0 (And.intro hmc1 (And.intro hmc2 (And.intro hmc4 (And.intro hicl (And.intro i0 (And.intro i1 (And.intro i2 (And.intro i3 (And.intro i4 (And.intro i5 (And.intro a8 (And.intro a16 (And.intro a32 (And.intro (b2_zero B8) (And.intro (b2_zero B16) (And.intro (b2_zero B32) (And.intro hr1 hr2))))))))))))))))))))))))
  clear X

  subst hop
  have e16 : B16 = false := by rw [← hB16]; decide
  have e32 : B32 = false := by rw [← hB32]; decide
  subst e16
  subst e32
  have htop2 : frame = top := by rw [← htop]; rfl
  have c3 := True.intro
  have X := And.intro X0 htop2
  (refine run ?_; repeat' (first | with_reducible exact trivial | ((with_reducible apply Fork.mk) <;> intro hb) | with_reducible apply Two.mk))
  all_goals
    refine finS hR hC' hcl (.same _ rfl) ⟨rfl, ?_⟩
    clear X X0 v1 v2 v3 c1 c2 c3 hR hC hC' hcl hB hc hG hF a1 a2 a4 a8 a16 a32 hgoal i0 i1 i2 i3 i4 i5 hmc0 hmc1 hmc2 hmc4 hmcl hcl0 hicl hfc5 hfc6 hfcl hr1 hr2 hlm htb hl hn hs hfr hm1 hm2 hm3
    simp only [insOK, lstOK, finOK, htop, hown, hB1, hB2, hB4, hB8, hB16, hB32]
    simp only [resSV]
    congr 1
    generalize slotB B4 top c' = S4 at *
    cases S4 <;> cases B8 <;> simp_all
theorem ins11_ok (G : Gl) (hG : GClosed G) (hF : GF G) (m : Img) (slots frame : Int) (fc : List SV) (code : List Ins) (hfcl : fc.length = 7) (hfc5 : fc[5]? = some (.int .i64 frame)) (hfc6 : fc[6]? = some (.list 6 (insL code))) (i : Ins) (hn : code.length < 1099511627776) (hl : i.l.length < 1099511627776)
    (hm1 : m.cons.length < 1099511627776) (hm2 : m.funcs.length < 1099511627776) (hm3 : m.globals.length < 1099511627776) (hs : 1 ≤ slots ∧ slots ≤ 65536) (hfr : 0 ≤ frame ∧ frame ≤ 65536) (hop : i.op = 11) (c : Nat) (H : List Blk) (hc : H[c]? = some (.cells 0 5 [.agg (chkC m slots)])) :
    ACall Tryd.prog G 56 [.ptr c 0 0 0, .agg fc, .agg i.cells] H (fun r H' => H' = H ∧ r = .bool (insOK m slots frame code.length i)) := by
  have hcl0 := (List.getElem?_eq_some_iff.1 hc).1
  have hmcl : (chkC m slots).length = 5 := rfl
  have hmc0 : (chkC m slots)[0]? = some (.list 4 (consL m.cons)) := rfl
  have hmc1 : (chkC m slots)[1]? = some (.list 7 (funsL m.funcs)) := rfl
  have hmc2 : (chkC m slots)[2]? = some (.list 3 (glbsL m.globals)) := rfl
  have hmc4 : (chkC m slots)[4]? = some (.int .i64 slots) := rfl
  have hgoal : insOK m slots frame code.length i = insOK m slots frame code.length i := rfl
  obtain ⟨op, a, b, c', n, l⟩ := i
  simp only at hop hl
  generalize htop : insTop op slots frame = top
  have htb : -1099511627776 < top ∧ top < 1099511627776 := by subst htop; unfold insTop; (repeat' split) <;> omega
  have hlm : (l.map (SV.int .i64)).length = l.length := by simp
  simp only [insOK, htop] at hgoal
  generalize hmc : chkC m slots = mc at hc hmcl hmc0 hmc1 hmc2 hmc4
  simp only [Ins.cells]
  have hicl : ([.int .i64 op, .int .i64 a, .int .i64 b, .int .i64 c', .int .i64 n, .list 1 (l.map (.int .i64))] : List SV).length = 6 := rfl
  generalize hic : ([.int .i64 op, .int .i64 a, .int .i64 b, .int .i64 c', .int .i64 n, .list 1 (l.map (.int .i64))] : List SV) = ic at hicl
  have i0 : ic[0]? = some (.int .i64 op) := by subst hic; rfl
  have i1 : ic[1]? = some (.int .i64 a) := by subst hic; rfl
  have i2 : ic[2]? = some (.int .i64 b) := by subst hic; rfl
  have i3 : ic[3]? = some (.int .i64 c') := by subst hic; rfl
  have i4 : ic[4]? = some (.int .i64 n) := by subst hic; rfl
  have i5 : ic[5]? = some (.list 1 (l.map (.int .i64))) := by subst hic; rfl
  clear hic hmc
  have c1 := fun n hi H => within_ok G hG n 0 hi H
  have c2 := fun H => of_ok G hG hF op H
  obtain ⟨a1, a2, a4, a8, a16, a32, _⟩ := and_bit op
  generalize hB1 : bitOf 1 op = B1 at a1
  generalize hB2 : bitOf 2 op = B2 at a2
  generalize hB4 : bitOf 4 op = B4 at a4
  generalize hB8 : bitOf 8 op = B8 at a8
  generalize hB16 : bitOf 16 op = B16 at a16
  generalize hB32 : bitOf 32 op = B32 at a32
  generalize hown : ofS op = own at a1 a2 a4 a8 a16 a32 c2
  have v1 : ∀ s, ACallV Tryd.prog G (.fn (.func 66) [] [.ptr (H.length + 2) 0 0 0, .ptr (H.length + 3) 0 0 0]) [.int .i64 1, .int .i64 s] (H ++ [.cells 0 7 [.agg fc], .cells 0 6 [.agg ic], .cells 0 1 [.int .i64 own], .cells 0 1 [.int .i64 top]]) (fun r H' => H' = (H ++ [.cells 0 7 [.agg fc], .cells 0 6 [.agg ic], .cells 0 1 [.int .i64 own], .cells 0 1 [.int .i64 top]]) ∧ r = .bool (slotB B1 top s)) := fun s => ACallV.of (slot_ok G hG own top 1 s B1 (H.length + 2) (H.length + 3) _ (by simp) (by simp) a1 (b2_zero B1).1 htb)
  have v2 : ∀ s, ACallV Tryd.prog G (.fn (.func 66) [] [.ptr (H.length + 2) 0 0 0, .ptr (H.length + 3) 0 0 0]) [.int .i64 2, .int .i64 s] (H ++ [.cells 0 7 [.agg fc], .cells 0 6 [.agg ic], .cells 0 1 [.int .i64 own], .cells 0 1 [.int .i64 top]]) (fun r H' => H' = (H ++ [.cells 0 7 [.agg fc], .cells 0 6 [.agg ic], .cells 0 1 [.int .i64 own], .cells 0 1 [.int .i64 top]]) ∧ r = .bool (slotB B2 top s)) := fun s => ACallV.of (slot_ok G hG own top 2 s B2 (H.length + 2) (H.length + 3) _ (by simp) (by simp) a2 (b2_zero B2).2.1 htb)
  have v3 : ∀ s, ACallV Tryd.prog G (.fn (.func 66) [] [.ptr (H.length + 2) 0 0 0, .ptr (H.length + 3) 0 0 0]) [.int .i64 4, .int .i64 s] (H ++ [.cells 0 7 [.agg fc], .cells 0 6 [.agg ic], .cells 0 1 [.int .i64 own], .cells 0 1 [.int .i64 top]]) (fun r H' => H' = (H ++ [.cells 0 7 [.agg fc], .cells 0 6 [.agg ic], .cells 0 1 [.int .i64 own], .cells 0 1 [.int .i64 top]]) ∧ r = .bool (slotB B4 top s)) := fun s => ACallV.of (slot_ok G hG own top 4 s B4 (H.length + 2) (H.length + 3) _ (by simp) (by simp) a4 (b2_zero B4).2.2.1 htb)
  refine ACall.of_go TB [] tabOK _ Tryd.func56 rfl (by decide) Tryd.ntmps56 (by simp) rfl (by simp only [initEnv, Nat.reduceAdd]; rfl) fun C R' hR hC hcl hB => ?_; have X := noX; have hC' := congrArg List.length hC
  have hr1 : IntKind.i64.min ≤ slots := by simp [IntKind.min, IntKind.signed, IntKind.bits]; omega
  have hr2 : slots ≤ IntKind.i64.max := by simp [IntKind.max, IntKind.signed, IntKind.bits]; omega
  have X0 := And.intro X (And.intro hlm (And.intro hfcl (And.intro hfc5 (And.intro hfc6 (And.intro (getX hc) (And.intro hmcl (And.intro hmc0 (And.intro hmc1 (And.intro hmc2 (And.intro hmc4 (And.intro hicl (And.intro i0 (And.intro i1 (And.intro i2 (And.intro i3 (And.intro i4 (And.intro i5 (And.intro a8 (And.intro a16 (And.intro a32 (And.intro (b2_zero B8) (And.intro (b2_zero B16) (And.intro (b2_zero B32) (And.intro hr1 hr2))))))))))))))))))))))))
  clear X

  subst hop
  have e16 : B16 = false := by rw [← hB16]; decide
  have e32 : B32 = false := by rw [← hB32]; decide
  subst e16
  subst e32
  have htop2 : (if slots < frame then slots else frame) = top := by rw [← htop]; rfl
  have c3 := True.intro
  have X := And.intro X0 htop2
  (refine run ?_; repeat' (first | with_reducible exact trivial | ((with_reducible apply Fork.mk) <;> intro hb) | with_reducible apply Two.mk))
  all_goals
    refine finS hR hC' hcl (.same _ rfl) ⟨rfl, ?_⟩
    clear X X0 v1 v2 v3 c1 c2 c3 hR hC hC' hcl hB hc hG hF a1 a2 a4 a8 a16 a32 hgoal i0 i1 i2 i3 i4 i5 hmc0 hmc1 hmc2 hmc4 hmcl hcl0 hicl hfc5 hfc6 hfcl hr1 hr2 hlm htb hl hn hs hfr hm1 hm2 hm3
    simp only [insOK, lstOK, finOK, htop, hown, hB1, hB2, hB4, hB8, hB16, hB32]
    simp only [resSV]
    congr 1
    generalize slotB B4 top c' = S4 at *
    cases S4 <;> cases B8 <;> simp_all
theorem ins14_ok (G : Gl) (hG : GClosed G) (hF : GF G) (m : Img) (slots frame : Int) (fc : List SV) (code : List Ins) (hfcl : fc.length = 7) (hfc5 : fc[5]? = some (.int .i64 frame)) (hfc6 : fc[6]? = some (.list 6 (insL code))) (i : Ins) (hn : code.length < 1099511627776) (hl : i.l.length < 1099511627776)
    (hm1 : m.cons.length < 1099511627776) (hm2 : m.funcs.length < 1099511627776) (hm3 : m.globals.length < 1099511627776) (hs : 1 ≤ slots ∧ slots ≤ 65536) (hfr : 0 ≤ frame ∧ frame ≤ 65536) (hop : i.op = 14) (c : Nat) (H : List Blk) (hc : H[c]? = some (.cells 0 5 [.agg (chkC m slots)])) :
    ACall Tryd.prog G 56 [.ptr c 0 0 0, .agg fc, .agg i.cells] H (fun r H' => H' = H ∧ r = .bool (insOK m slots frame code.length i)) := by
  have hcl0 := (List.getElem?_eq_some_iff.1 hc).1
  have hmcl : (chkC m slots).length = 5 := rfl
  have hmc0 : (chkC m slots)[0]? = some (.list 4 (consL m.cons)) := rfl
  have hmc1 : (chkC m slots)[1]? = some (.list 7 (funsL m.funcs)) := rfl
  have hmc2 : (chkC m slots)[2]? = some (.list 3 (glbsL m.globals)) := rfl
  have hmc4 : (chkC m slots)[4]? = some (.int .i64 slots) := rfl
  have hgoal : insOK m slots frame code.length i = insOK m slots frame code.length i := rfl
  obtain ⟨op, a, b, c', n, l⟩ := i
  simp only at hop hl
  generalize htop : insTop op slots frame = top
  have htb : -1099511627776 < top ∧ top < 1099511627776 := by subst htop; unfold insTop; (repeat' split) <;> omega
  have hlm : (l.map (SV.int .i64)).length = l.length := by simp
  simp only [insOK, htop] at hgoal
  generalize hmc : chkC m slots = mc at hc hmcl hmc0 hmc1 hmc2 hmc4
  simp only [Ins.cells]
  have hicl : ([.int .i64 op, .int .i64 a, .int .i64 b, .int .i64 c', .int .i64 n, .list 1 (l.map (.int .i64))] : List SV).length = 6 := rfl
  generalize hic : ([.int .i64 op, .int .i64 a, .int .i64 b, .int .i64 c', .int .i64 n, .list 1 (l.map (.int .i64))] : List SV) = ic at hicl
  have i0 : ic[0]? = some (.int .i64 op) := by subst hic; rfl
  have i1 : ic[1]? = some (.int .i64 a) := by subst hic; rfl
  have i2 : ic[2]? = some (.int .i64 b) := by subst hic; rfl
  have i3 : ic[3]? = some (.int .i64 c') := by subst hic; rfl
  have i4 : ic[4]? = some (.int .i64 n) := by subst hic; rfl
  have i5 : ic[5]? = some (.list 1 (l.map (.int .i64))) := by subst hic; rfl
  clear hic hmc
  have c1 := fun n hi H => within_ok G hG n 0 hi H
  have c2 := fun H => of_ok G hG hF op H
  obtain ⟨a1, a2, a4, a8, a16, a32, _⟩ := and_bit op
  generalize hB1 : bitOf 1 op = B1 at a1
  generalize hB2 : bitOf 2 op = B2 at a2
  generalize hB4 : bitOf 4 op = B4 at a4
  generalize hB8 : bitOf 8 op = B8 at a8
  generalize hB16 : bitOf 16 op = B16 at a16
  generalize hB32 : bitOf 32 op = B32 at a32
  generalize hown : ofS op = own at a1 a2 a4 a8 a16 a32 c2
  have v1 : ∀ s, ACallV Tryd.prog G (.fn (.func 66) [] [.ptr (H.length + 2) 0 0 0, .ptr (H.length + 3) 0 0 0]) [.int .i64 1, .int .i64 s] (H ++ [.cells 0 7 [.agg fc], .cells 0 6 [.agg ic], .cells 0 1 [.int .i64 own], .cells 0 1 [.int .i64 top]]) (fun r H' => H' = (H ++ [.cells 0 7 [.agg fc], .cells 0 6 [.agg ic], .cells 0 1 [.int .i64 own], .cells 0 1 [.int .i64 top]]) ∧ r = .bool (slotB B1 top s)) := fun s => ACallV.of (slot_ok G hG own top 1 s B1 (H.length + 2) (H.length + 3) _ (by simp) (by simp) a1 (b2_zero B1).1 htb)
  have v2 : ∀ s, ACallV Tryd.prog G (.fn (.func 66) [] [.ptr (H.length + 2) 0 0 0, .ptr (H.length + 3) 0 0 0]) [.int .i64 2, .int .i64 s] (H ++ [.cells 0 7 [.agg fc], .cells 0 6 [.agg ic], .cells 0 1 [.int .i64 own], .cells 0 1 [.int .i64 top]]) (fun r H' => H' = (H ++ [.cells 0 7 [.agg fc], .cells 0 6 [.agg ic], .cells 0 1 [.int .i64 own], .cells 0 1 [.int .i64 top]]) ∧ r = .bool (slotB B2 top s)) := fun s => ACallV.of (slot_ok G hG own top 2 s B2 (H.length + 2) (H.length + 3) _ (by simp) (by simp) a2 (b2_zero B2).2.1 htb)
  have v3 : ∀ s, ACallV Tryd.prog G (.fn (.func 66) [] [.ptr (H.length + 2) 0 0 0, .ptr (H.length + 3) 0 0 0]) [.int .i64 4, .int .i64 s] (H ++ [.cells 0 7 [.agg fc], .cells 0 6 [.agg ic], .cells 0 1 [.int .i64 own], .cells 0 1 [.int .i64 top]]) (fun r H' => H' = (H ++ [.cells 0 7 [.agg fc], .cells 0 6 [.agg ic], .cells 0 1 [.int .i64 own], .cells 0 1 [.int .i64 top]]) ∧ r = .bool (slotB B4 top s)) := fun s => ACallV.of (slot_ok G hG own top 4 s B4 (H.length + 2) (H.length + 3) _ (by simp) (by simp) a4 (b2_zero B4).2.2.1 htb)
  refine ACall.of_go TB [] tabOK _ Tryd.func56 rfl (by decide) Tryd.ntmps56 (by simp) rfl (by simp only [initEnv, Nat.reduceAdd]; rfl) fun C R' hR hC hcl hB => ?_; have X := noX; have hC' := congrArg List.length hC
  have hr1 : IntKind.i64.min ≤ slots := by simp [IntKind.min, IntKind.signed, IntKind.bits]; omega
  have hr2 : slots ≤ IntKind.i64.max := by simp [IntKind.max, IntKind.signed, IntKind.bits]; omega
  have X0 := And.intro X (And.intro hlm (And.intro hfcl (And.intro hfc5 (And.intro hfc6 (And.intro (getX hc) (And.intro hmcl (And.intro hmc0 (And.intro hmc1 (And.intro hmc2 (And.intro hmc4 (And.intro hicl (And.intro i0 (And.intro i1 (And.intro i2 (And.intro i3 (And.intro i4 (And.intro i5 (And.intro a8 (And.intro a16 (And.intro a32 (And.intro (b2_zero B8) (And.intro (b2_zero B16) (And.intro (b2_zero B32) (And.intro hr1 hr2))))))))))))))))))))))))
  clear X

  subst hop
  have e16 : B16 = false := by rw [← hB16]; decide
  have e32 : B32 = false := by rw [← hB32]; decide
  subst e16
  subst e32
  have htop2 : (if slots < frame then slots else frame) = top := by rw [← htop]; rfl
  have c3 := True.intro
  have X := And.intro X0 htop2
  (refine run ?_; repeat' (first | with_reducible exact trivial | ((with_reducible apply Fork.mk) <;> intro hb) | with_reducible apply Two.mk))
  all_goals
    refine finS hR hC' hcl (.same _ rfl) ⟨rfl, ?_⟩
    clear X X0 v1 v2 v3 c1 c2 c3 hR hC hC' hcl hB hc hG hF a1 a2 a4 a8 a16 a32 hgoal i0 i1 i2 i3 i4 i5 hmc0 hmc1 hmc2 hmc4 hmcl hcl0 hicl hfc5 hfc6 hfcl hr1 hr2 hlm htb hl hn hs hfr hm1 hm2 hm3
    simp only [insOK, lstOK, finOK, htop, hown, hB1, hB2, hB4, hB8, hB16, hB32]
    simp only [resSV]
    congr 1
    generalize slotB B4 top c' = S4 at *
    cases S4 <;> cases B8 <;> simp_all
theorem ins16_ok (G : Gl) (hG : GClosed G) (hF : GF G) (m : Img) (slots frame : Int) (fc : List SV) (code : List Ins) (hfcl : fc.length = 7) (hfc5 : fc[5]? = some (.int .i64 frame)) (hfc6 : fc[6]? = some (.list 6 (insL code))) (i : Ins) (hn : code.length < 1099511627776) (hl : i.l.length < 1099511627776)
    (hm1 : m.cons.length < 1099511627776) (hm2 : m.funcs.length < 1099511627776) (hm3 : m.globals.length < 1099511627776) (hs : 1 ≤ slots ∧ slots ≤ 65536) (hfr : 0 ≤ frame ∧ frame ≤ 65536) (hop : i.op = 16) (c : Nat) (H : List Blk) (hc : H[c]? = some (.cells 0 5 [.agg (chkC m slots)])) :
    ACall Tryd.prog G 56 [.ptr c 0 0 0, .agg fc, .agg i.cells] H (fun r H' => H' = H ∧ r = .bool (insOK m slots frame code.length i)) := by
  have hcl0 := (List.getElem?_eq_some_iff.1 hc).1
  have hmcl : (chkC m slots).length = 5 := rfl
  have hmc0 : (chkC m slots)[0]? = some (.list 4 (consL m.cons)) := rfl
  have hmc1 : (chkC m slots)[1]? = some (.list 7 (funsL m.funcs)) := rfl
  have hmc2 : (chkC m slots)[2]? = some (.list 3 (glbsL m.globals)) := rfl
  have hmc4 : (chkC m slots)[4]? = some (.int .i64 slots) := rfl
  have hgoal : insOK m slots frame code.length i = insOK m slots frame code.length i := rfl
  obtain ⟨op, a, b, c', n, l⟩ := i
  simp only at hop hl
  generalize htop : insTop op slots frame = top
  have htb : -1099511627776 < top ∧ top < 1099511627776 := by subst htop; unfold insTop; (repeat' split) <;> omega
  have hlm : (l.map (SV.int .i64)).length = l.length := by simp
  simp only [insOK, htop] at hgoal
  generalize hmc : chkC m slots = mc at hc hmcl hmc0 hmc1 hmc2 hmc4
  simp only [Ins.cells]
  have hicl : ([.int .i64 op, .int .i64 a, .int .i64 b, .int .i64 c', .int .i64 n, .list 1 (l.map (.int .i64))] : List SV).length = 6 := rfl
  generalize hic : ([.int .i64 op, .int .i64 a, .int .i64 b, .int .i64 c', .int .i64 n, .list 1 (l.map (.int .i64))] : List SV) = ic at hicl
  have i0 : ic[0]? = some (.int .i64 op) := by subst hic; rfl
  have i1 : ic[1]? = some (.int .i64 a) := by subst hic; rfl
  have i2 : ic[2]? = some (.int .i64 b) := by subst hic; rfl
  have i3 : ic[3]? = some (.int .i64 c') := by subst hic; rfl
  have i4 : ic[4]? = some (.int .i64 n) := by subst hic; rfl
  have i5 : ic[5]? = some (.list 1 (l.map (.int .i64))) := by subst hic; rfl
  clear hic hmc
  have c1 := fun n hi H => within_ok G hG n 0 hi H
  have c2 := fun H => of_ok G hG hF op H
  obtain ⟨a1, a2, a4, a8, a16, a32, _⟩ := and_bit op
  generalize hB1 : bitOf 1 op = B1 at a1
  generalize hB2 : bitOf 2 op = B2 at a2
  generalize hB4 : bitOf 4 op = B4 at a4
  generalize hB8 : bitOf 8 op = B8 at a8
  generalize hB16 : bitOf 16 op = B16 at a16
  generalize hB32 : bitOf 32 op = B32 at a32
  generalize hown : ofS op = own at a1 a2 a4 a8 a16 a32 c2
  have v1 : ∀ s, ACallV Tryd.prog G (.fn (.func 66) [] [.ptr (H.length + 2) 0 0 0, .ptr (H.length + 3) 0 0 0]) [.int .i64 1, .int .i64 s] (H ++ [.cells 0 7 [.agg fc], .cells 0 6 [.agg ic], .cells 0 1 [.int .i64 own], .cells 0 1 [.int .i64 top]]) (fun r H' => H' = (H ++ [.cells 0 7 [.agg fc], .cells 0 6 [.agg ic], .cells 0 1 [.int .i64 own], .cells 0 1 [.int .i64 top]]) ∧ r = .bool (slotB B1 top s)) := fun s => ACallV.of (slot_ok G hG own top 1 s B1 (H.length + 2) (H.length + 3) _ (by simp) (by simp) a1 (b2_zero B1).1 htb)
  have v2 : ∀ s, ACallV Tryd.prog G (.fn (.func 66) [] [.ptr (H.length + 2) 0 0 0, .ptr (H.length + 3) 0 0 0]) [.int .i64 2, .int .i64 s] (H ++ [.cells 0 7 [.agg fc], .cells 0 6 [.agg ic], .cells 0 1 [.int .i64 own], .cells 0 1 [.int .i64 top]]) (fun r H' => H' = (H ++ [.cells 0 7 [.agg fc], .cells 0 6 [.agg ic], .cells 0 1 [.int .i64 own], .cells 0 1 [.int .i64 top]]) ∧ r = .bool (slotB B2 top s)) := fun s => ACallV.of (slot_ok G hG own top 2 s B2 (H.length + 2) (H.length + 3) _ (by simp) (by simp) a2 (b2_zero B2).2.1 htb)
  have v3 : ∀ s, ACallV Tryd.prog G (.fn (.func 66) [] [.ptr (H.length + 2) 0 0 0, .ptr (H.length + 3) 0 0 0]) [.int .i64 4, .int .i64 s] (H ++ [.cells 0 7 [.agg fc], .cells 0 6 [.agg ic], .cells 0 1 [.int .i64 own], .cells 0 1 [.int .i64 top]]) (fun r H' => H' = (H ++ [.cells 0 7 [.agg fc], .cells 0 6 [.agg ic], .cells 0 1 [.int .i64 own], .cells 0 1 [.int .i64 top]]) ∧ r = .bool (slotB B4 top s)) := fun s => ACallV.of (slot_ok G hG own top 4 s B4 (H.length + 2) (H.length + 3) _ (by simp) (by simp) a4 (b2_zero B4).2.2.1 htb)
  refine ACall.of_go TB [] tabOK _ Tryd.func56 rfl (by decide) Tryd.ntmps56 (by simp) rfl (by simp only [initEnv, Nat.reduceAdd]; rfl) fun C R' hR hC hcl hB => ?_; have X := noX; have hC' := congrArg List.length hC
  have hr1 : IntKind.i64.min ≤ slots := by simp [IntKind.min, IntKind.signed, IntKind.bits]; omega
  have hr2 : slots ≤ IntKind.i64.max := by simp [IntKind.max, IntKind.signed, IntKind.bits]; omega
  have X0 := And.intro X (And.intro hlm (And.intro hfcl (And.intro hfc5 (And.intro hfc6 (And.intro (getX hc) (And.intro hmcl (And.intro hmc0 (And.intro hmc1 (And.intro hmc2 (And.intro hmc4 (And.intro hicl (And.intro i0 (And.intro i1 (And.intro i2 (And.intro i3 (And.intro i4 (And.intro i5 (And.intro a8 (And.intro a16 (And.intro a32 (And.intro (b2_zero B8) (And.intro (b2_zero B16) (And.intro (b2_zero B32) (And.intro hr1 hr2))))))))))))))))))))))))
  clear X

  subst hop
  have e16 : B16 = true := by rw [← hB16]; decide
  have e32 : B32 = false := by rw [← hB32]; decide
  subst e16
  subst e32
  have htop2 : (if slots < frame then slots else frame) = top := by rw [← htop]; rfl
  have c3 : ACall Tryd.prog G 68 [.list 1 (l.map (.int .i64)), .fn (.func 69) [] [.ptr H.length 0 0 0]] (H ++ [.cells 0 7 [.agg fc], .cells 0 6 [.agg ic], .cells 0 1 [.int .i64 own], .cells 0 1 [.int .i64 top], .cells 0 1 [.fn (.func 67) [] [.ptr H.length 0 0 0]]]) (fun r H' => H' = (H ++ [.cells 0 7 [.agg fc], .cells 0 6 [.agg ic], .cells 0 1 [.int .i64 own], .cells 0 1 [.int .i64 top], .cells 0 1 [.fn (.func 67) [] [.ptr H.length 0 0 0]]]) ∧ r = .bool (l.any fun n => !inR n 0 (frame - 1))) :=
    anyInt_ok G hG _ (fun n => !inR n 0 (frame - 1)) l _ (by omega) (by simp [SV.under, SV.underL]) (fun x hx => ACallV.of (notIn_ok G hG x frame fc H.length _ (by simp) hfcl hfc5 hfr))
  have X := And.intro X0 htop2
  (refine run ?_; repeat' (first | with_reducible exact trivial | ((with_reducible apply Fork.mk) <;> intro hb) | with_reducible apply Two.mk))
  all_goals
    refine finS hR hC' hcl (.same _ rfl) ⟨rfl, ?_⟩
    clear X X0 v1 v2 v3 c1 c2 c3 hR hC hC' hcl hB hc hG hF a1 a2 a4 a8 a16 a32 hgoal i0 i1 i2 i3 i4 i5 hmc0 hmc1 hmc2 hmc4 hmcl hcl0 hicl hfc5 hfc6 hfcl hr1 hr2 hlm htb hl hn hs hfr hm1 hm2 hm3
    simp only [insOK, lstOK, finOK, htop, hown, hB1, hB2, hB4, hB8, hB16, hB32]
    simp only [resSV]
    congr 1
    generalize slotB B4 top c' = S4 at *
    generalize (l.any fun n => !inR n 0 (frame - 1)) = S5 at *
    cases S5 <;> cases S4 <;> cases B8 <;> simp_all
theorem ins17_ok (G : Gl) (hG : GClosed G) (hF : GF G) (m : Img) (slots frame : Int) (fc : List SV) (code : List Ins) (hfcl : fc.length = 7) (hfc5 : fc[5]? = some (.int .i64 frame)) (hfc6 : fc[6]? = some (.list 6 (insL code))) (i : Ins) (hn : code.length < 1099511627776) (hl : i.l.length < 1099511627776)
    (hm1 : m.cons.length < 1099511627776) (hm2 : m.funcs.length < 1099511627776) (hm3 : m.globals.length < 1099511627776) (hs : 1 ≤ slots ∧ slots ≤ 65536) (hfr : 0 ≤ frame ∧ frame ≤ 65536) (hop : i.op = 17) (c : Nat) (H : List Blk) (hc : H[c]? = some (.cells 0 5 [.agg (chkC m slots)])) :
    ACall Tryd.prog G 56 [.ptr c 0 0 0, .agg fc, .agg i.cells] H (fun r H' => H' = H ∧ r = .bool (insOK m slots frame code.length i)) := by
  have hcl0 := (List.getElem?_eq_some_iff.1 hc).1
  have hmcl : (chkC m slots).length = 5 := rfl
  have hmc0 : (chkC m slots)[0]? = some (.list 4 (consL m.cons)) := rfl
  have hmc1 : (chkC m slots)[1]? = some (.list 7 (funsL m.funcs)) := rfl
  have hmc2 : (chkC m slots)[2]? = some (.list 3 (glbsL m.globals)) := rfl
  have hmc4 : (chkC m slots)[4]? = some (.int .i64 slots) := rfl
  have hgoal : insOK m slots frame code.length i = insOK m slots frame code.length i := rfl
  obtain ⟨op, a, b, c', n, l⟩ := i
  simp only at hop hl
  generalize htop : insTop op slots frame = top
  have htb : -1099511627776 < top ∧ top < 1099511627776 := by subst htop; unfold insTop; (repeat' split) <;> omega
  have hlm : (l.map (SV.int .i64)).length = l.length := by simp
  simp only [insOK, htop] at hgoal
  generalize hmc : chkC m slots = mc at hc hmcl hmc0 hmc1 hmc2 hmc4
  simp only [Ins.cells]
  have hicl : ([.int .i64 op, .int .i64 a, .int .i64 b, .int .i64 c', .int .i64 n, .list 1 (l.map (.int .i64))] : List SV).length = 6 := rfl
  generalize hic : ([.int .i64 op, .int .i64 a, .int .i64 b, .int .i64 c', .int .i64 n, .list 1 (l.map (.int .i64))] : List SV) = ic at hicl
  have i0 : ic[0]? = some (.int .i64 op) := by subst hic; rfl
  have i1 : ic[1]? = some (.int .i64 a) := by subst hic; rfl
  have i2 : ic[2]? = some (.int .i64 b) := by subst hic; rfl
  have i3 : ic[3]? = some (.int .i64 c') := by subst hic; rfl
  have i4 : ic[4]? = some (.int .i64 n) := by subst hic; rfl
  have i5 : ic[5]? = some (.list 1 (l.map (.int .i64))) := by subst hic; rfl
  clear hic hmc
  have c1 := fun n hi H => within_ok G hG n 0 hi H
  have c2 := fun H => of_ok G hG hF op H
  obtain ⟨a1, a2, a4, a8, a16, a32, _⟩ := and_bit op
  generalize hB1 : bitOf 1 op = B1 at a1
  generalize hB2 : bitOf 2 op = B2 at a2
  generalize hB4 : bitOf 4 op = B4 at a4
  generalize hB8 : bitOf 8 op = B8 at a8
  generalize hB16 : bitOf 16 op = B16 at a16
  generalize hB32 : bitOf 32 op = B32 at a32
  generalize hown : ofS op = own at a1 a2 a4 a8 a16 a32 c2
  have v1 : ∀ s, ACallV Tryd.prog G (.fn (.func 66) [] [.ptr (H.length + 2) 0 0 0, .ptr (H.length + 3) 0 0 0]) [.int .i64 1, .int .i64 s] (H ++ [.cells 0 7 [.agg fc], .cells 0 6 [.agg ic], .cells 0 1 [.int .i64 own], .cells 0 1 [.int .i64 top]]) (fun r H' => H' = (H ++ [.cells 0 7 [.agg fc], .cells 0 6 [.agg ic], .cells 0 1 [.int .i64 own], .cells 0 1 [.int .i64 top]]) ∧ r = .bool (slotB B1 top s)) := fun s => ACallV.of (slot_ok G hG own top 1 s B1 (H.length + 2) (H.length + 3) _ (by simp) (by simp) a1 (b2_zero B1).1 htb)
  have v2 : ∀ s, ACallV Tryd.prog G (.fn (.func 66) [] [.ptr (H.length + 2) 0 0 0, .ptr (H.length + 3) 0 0 0]) [.int .i64 2, .int .i64 s] (H ++ [.cells 0 7 [.agg fc], .cells 0 6 [.agg ic], .cells 0 1 [.int .i64 own], .cells 0 1 [.int .i64 top]]) (fun r H' => H' = (H ++ [.cells 0 7 [.agg fc], .cells 0 6 [.agg ic], .cells 0 1 [.int .i64 own], .cells 0 1 [.int .i64 top]]) ∧ r = .bool (slotB B2 top s)) := fun s => ACallV.of (slot_ok G hG own top 2 s B2 (H.length + 2) (H.length + 3) _ (by simp) (by simp) a2 (b2_zero B2).2.1 htb)
  have v3 : ∀ s, ACallV Tryd.prog G (.fn (.func 66) [] [.ptr (H.length + 2) 0 0 0, .ptr (H.length + 3) 0 0 0]) [.int .i64 4, .int .i64 s] (H ++ [.cells 0 7 [.agg fc], .cells 0 6 [.agg ic], .cells 0 1 [.int .i64 own], .cells 0 1 [.int .i64 top]]) (fun r H' => H' = (H ++ [.cells 0 7 [.agg fc], .cells 0 6 [.agg ic], .cells 0 1 [.int .i64 own], .cells 0 1 [.int .i64 top]]) ∧ r = .bool (slotB B4 top s)) := fun s => ACallV.of (slot_ok G hG own top 4 s B4 (H.length + 2) (H.length + 3) _ (by simp) (by simp) a4 (b2_zero B4).2.2.1 htb)
  refine ACall.of_go TB [] tabOK _ Tryd.func56 rfl (by decide) Tryd.ntmps56 (by simp) rfl (by simp only [initEnv, Nat.reduceAdd]; rfl) fun C R' hR hC hcl hB => ?_; have X := noX; have hC' := congrArg List.length hC
  have hr1 : IntKind.i64.min ≤ slots := by simp [IntKind.min, IntKind.signed, IntKind.bits]; omega
  have hr2 : slots ≤ IntKind.i64.max := by simp [IntKind.max, IntKind.signed, IntKind.bits]; omega
  have X0 := And.intro X (And.intro hlm (And.intro hfcl (And.intro hfc5 (And.intro hfc6 (And.intro (getX hc) (And.intro hmcl (And.intro hmc0 (And.intro hmc1 (And.intro hmc2 (And.intro hmc4 (And.intro hicl (And.intro i0 (And.intro i1 (And.intro i2 (And.intro i3 (And.intro i4 (And.intro i5 (And.intro a8 (And.intro a16 (And.intro a32 (And.intro (b2_zero B8) (And.intro (b2_zero B16) (And.intro (b2_zero B32) (And.intro hr1 hr2))))))))))))))))))))))))
  clear X

  subst hop
  have e16 : B16 = true := by rw [← hB16]; decide
  have e32 : B32 = false := by rw [← hB32]; decide
  subst e16
  subst e32
  have htop2 : (if slots < frame then slots else frame) = top := by rw [← htop]; rfl
  have c3 : ACall Tryd.prog G 68 [.list 1 (l.map (.int .i64)), .fn (.func 69) [] [.ptr H.length 0 0 0]] (H ++ [.cells 0 7 [.agg fc], .cells 0 6 [.agg ic], .cells 0 1 [.int .i64 own], .cells 0 1 [.int .i64 top], .cells 0 1 [.fn (.func 67) [] [.ptr H.length 0 0 0]]]) (fun r H' => H' = (H ++ [.cells 0 7 [.agg fc], .cells 0 6 [.agg ic], .cells 0 1 [.int .i64 own], .cells 0 1 [.int .i64 top], .cells 0 1 [.fn (.func 67) [] [.ptr H.length 0 0 0]]]) ∧ r = .bool (l.any fun n => !inR n 0 (frame - 1))) :=
    anyInt_ok G hG _ (fun n => !inR n 0 (frame - 1)) l _ (by omega) (by simp [SV.under, SV.underL]) (fun x hx => ACallV.of (notIn_ok G hG x frame fc H.length _ (by simp) hfcl hfc5 hfr))
  have X := And.intro X0 htop2
  (refine run ?_; repeat' (first | with_reducible exact trivial | ((with_reducible apply Fork.mk) <;> intro hb) | with_reducible apply Two.mk))
  all_goals
    refine finS hR hC' hcl (.same _ rfl) ⟨rfl, ?_⟩
    clear X X0 v1 v2 v3 c1 c2 c3 hR hC hC' hcl hB hc hG hF a1 a2 a4 a8 a16 a32 hgoal i0 i1 i2 i3 i4 i5 hmc0 hmc1 hmc2 hmc4 hmcl hcl0 hicl hfc5 hfc6 hfcl hr1 hr2 hlm htb hl hn hs hfr hm1 hm2 hm3
    simp only [insOK, lstOK, finOK, htop, hown, hB1, hB2, hB4, hB8, hB16, hB32]
    simp only [resSV]
    congr 1
    generalize slotB B4 top c' = S4 at *
    generalize (l.any fun n => !inR n 0 (frame - 1)) = S5 at *
    cases S5 <;> cases S4 <;> cases B8 <;> simp_all
theorem ins20_ok (G : Gl) (hG : GClosed G) (hF : GF G) (m : Img) (slots frame : Int) (fc : List SV) (code : List Ins) (hfcl : fc.length = 7) (hfc5 : fc[5]? = some (.int .i64 frame)) (hfc6 : fc[6]? = some (.list 6 (insL code))) (i : Ins) (hn : code.length < 1099511627776) (hl : i.l.length < 1099511627776)
    (hm1 : m.cons.length < 1099511627776) (hm2 : m.funcs.length < 1099511627776) (hm3 : m.globals.length < 1099511627776) (hs : 1 ≤ slots ∧ slots ≤ 65536) (hfr : 0 ≤ frame ∧ frame ≤ 65536) (hop : i.op = 20) (c : Nat) (H : List Blk) (hc : H[c]? = some (.cells 0 5 [.agg (chkC m slots)])) :
    ACall Tryd.prog G 56 [.ptr c 0 0 0, .agg fc, .agg i.cells] H (fun r H' => H' = H ∧ r = .bool (insOK m slots frame code.length i)) := by
  have hcl0 := (List.getElem?_eq_some_iff.1 hc).1
  have hmcl : (chkC m slots).length = 5 := rfl
  have hmc0 : (chkC m slots)[0]? = some (.list 4 (consL m.cons)) := rfl
  have hmc1 : (chkC m slots)[1]? = some (.list 7 (funsL m.funcs)) := rfl
  have hmc2 : (chkC m slots)[2]? = some (.list 3 (glbsL m.globals)) := rfl
  have hmc4 : (chkC m slots)[4]? = some (.int .i64 slots) := rfl
  have hgoal : insOK m slots frame code.length i = insOK m slots frame code.length i := rfl
  obtain ⟨op, a, b, c', n, l⟩ := i
  simp only at hop hl
  generalize htop : insTop op slots frame = top
  have htb : -1099511627776 < top ∧ top < 1099511627776 := by subst htop; unfold insTop; (repeat' split) <;> omega
  have hlm : (l.map (SV.int .i64)).length = l.length := by simp
  simp only [insOK, htop] at hgoal
  generalize hmc : chkC m slots = mc at hc hmcl hmc0 hmc1 hmc2 hmc4
  simp only [Ins.cells]
  have hicl : ([.int .i64 op, .int .i64 a, .int .i64 b, .int .i64 c', .int .i64 n, .list 1 (l.map (.int .i64))] : List SV).length = 6 := rfl
  generalize hic : ([.int .i64 op, .int .i64 a, .int .i64 b, .int .i64 c', .int .i64 n, .list 1 (l.map (.int .i64))] : List SV) = ic at hicl
  have i0 : ic[0]? = some (.int .i64 op) := by subst hic; rfl
  have i1 : ic[1]? = some (.int .i64 a) := by subst hic; rfl
  have i2 : ic[2]? = some (.int .i64 b) := by subst hic; rfl
  have i3 : ic[3]? = some (.int .i64 c') := by subst hic; rfl
  have i4 : ic[4]? = some (.int .i64 n) := by subst hic; rfl
  have i5 : ic[5]? = some (.list 1 (l.map (.int .i64))) := by subst hic; rfl
  clear hic hmc
  have c1 := fun n hi H => within_ok G hG n 0 hi H
  have c2 := fun H => of_ok G hG hF op H
  obtain ⟨a1, a2, a4, a8, a16, a32, _⟩ := and_bit op
  generalize hB1 : bitOf 1 op = B1 at a1
  generalize hB2 : bitOf 2 op = B2 at a2
  generalize hB4 : bitOf 4 op = B4 at a4
  generalize hB8 : bitOf 8 op = B8 at a8
  generalize hB16 : bitOf 16 op = B16 at a16
  generalize hB32 : bitOf 32 op = B32 at a32
  generalize hown : ofS op = own at a1 a2 a4 a8 a16 a32 c2
  have v1 : ∀ s, ACallV Tryd.prog G (.fn (.func 66) [] [.ptr (H.length + 2) 0 0 0, .ptr (H.length + 3) 0 0 0]) [.int .i64 1, .int .i64 s] (H ++ [.cells 0 7 [.agg fc], .cells 0 6 [.agg ic], .cells 0 1 [.int .i64 own], .cells 0 1 [.int .i64 top]]) (fun r H' => H' = (H ++ [.cells 0 7 [.agg fc], .cells 0 6 [.agg ic], .cells 0 1 [.int .i64 own], .cells 0 1 [.int .i64 top]]) ∧ r = .bool (slotB B1 top s)) := fun s => ACallV.of (slot_ok G hG own top 1 s B1 (H.length + 2) (H.length + 3) _ (by simp) (by simp) a1 (b2_zero B1).1 htb)
  have v2 : ∀ s, ACallV Tryd.prog G (.fn (.func 66) [] [.ptr (H.length + 2) 0 0 0, .ptr (H.length + 3) 0 0 0]) [.int .i64 2, .int .i64 s] (H ++ [.cells 0 7 [.agg fc], .cells 0 6 [.agg ic], .cells 0 1 [.int .i64 own], .cells 0 1 [.int .i64 top]]) (fun r H' => H' = (H ++ [.cells 0 7 [.agg fc], .cells 0 6 [.agg ic], .cells 0 1 [.int .i64 own], .cells 0 1 [.int .i64 top]]) ∧ r = .bool (slotB B2 top s)) := fun s => ACallV.of (slot_ok G hG own top 2 s B2 (H.length + 2) (H.length + 3) _ (by simp) (by simp) a2 (b2_zero B2).2.1 htb)
  have v3 : ∀ s, ACallV Tryd.prog G (.fn (.func 66) [] [.ptr (H.length + 2) 0 0 0, .ptr (H.length + 3) 0 0 0]) [.int .i64 4, .int .i64 s] (H ++ [.cells 0 7 [.agg fc], .cells 0 6 [.agg ic], .cells 0 1 [.int .i64 own], .cells 0 1 [.int .i64 top]]) (fun r H' => H' = (H ++ [.cells 0 7 [.agg fc], .cells 0 6 [.agg ic], .cells 0 1 [.int .i64 own], .cells 0 1 [.int .i64 top]]) ∧ r = .bool (slotB B4 top s)) := fun s => ACallV.of (slot_ok G hG own top 4 s B4 (H.length + 2) (H.length + 3) _ (by simp) (by simp) a4 (b2_zero B4).2.2.1 htb)
  refine ACall.of_go TB [] tabOK _ Tryd.func56 rfl (by decide) Tryd.ntmps56 (by simp) rfl (by simp only [initEnv, Nat.reduceAdd]; rfl) fun C R' hR hC hcl hB => ?_; have X := noX; have hC' := congrArg List.length hC
  have hr1 : IntKind.i64.min ≤ slots := by simp [IntKind.min, IntKind.signed, IntKind.bits]; omega
  have hr2 : slots ≤ IntKind.i64.max := by simp [IntKind.max, IntKind.signed, IntKind.bits]; omega
  have X0 := And.intro X (And.intro hlm (And.intro hfcl (And.intro hfc5 (And.intro hfc6 (And.intro (getX hc) (And.intro hmcl (And.intro hmc0 (And.intro hmc1 (And.intro hmc2 (And.intro hmc4 (And.intro hicl (And.intro i0 (And.intro i1 (And.intro i2 (And.intro i3 (And.intro i4 (And.intro i5 (And.intro a8 (And.intro a16 (And.intro a32 (And.intro (b2_zero B8) (And.intro (b2_zero B16) (And.intro (b2_zero B32) (And.intro hr1 hr2))))))))))))))))))))))))
  clear X

  subst hop
  have e16 : B16 = false := by rw [← hB16]; decide
  have e32 : B32 = false := by rw [← hB32]; decide
  subst e16
  subst e32
  have htop2 : (if slots < frame then slots else frame) = top := by rw [← htop]; rfl
  have c3 := True.intro
  have X := And.intro X0 htop2
  (refine run ?_; repeat' (first | with_reducible exact trivial | ((with_reducible apply Fork.mk) <;> intro hb) | with_reducible apply Two.mk))
  all_goals
    refine finS hR hC' hcl (.same _ rfl) ⟨rfl, ?_⟩
    clear X X0 v1 v2 v3 c1 c2 c3 hR hC hC' hcl hB hc hG hF a1 a2 a4 a8 a16 a32 hgoal i0 i1 i2 i3 i4 i5 hmc0 hmc1 hmc2 hmc4 hmcl hcl0 hicl hfc5 hfc6 hfcl hr1 hr2 hlm htb hl hn hs hfr hm1 hm2 hm3
    simp only [insOK, lstOK, finOK, htop, hown, hB1, hB2, hB4, hB8, hB16, hB32]
    simp only [resSV]
    congr 1
    generalize slotB B4 top c' = S4 at *
    cases S4 <;> cases B8 <;> simp_all
theorem ins22_ok (G : Gl) (hG : GClosed G) (hF : GF G) (m : Img) (slots frame : Int) (fc : List SV) (code : List Ins) (hfcl : fc.length = 7) (hfc5 : fc[5]? = some (.int .i64 frame)) (hfc6 : fc[6]? = some (.list 6 (insL code))) (i : Ins) (hn : code.length < 1099511627776) (hl : i.l.length < 1099511627776)
    (hm1 : m.cons.length < 1099511627776) (hm2 : m.funcs.length < 1099511627776) (hm3 : m.globals.length < 1099511627776) (hs : 1 ≤ slots ∧ slots ≤ 65536) (hfr : 0 ≤ frame ∧ frame ≤ 65536) (hop : i.op = 22) (c : Nat) (H : List Blk) (hc : H[c]? = some (.cells 0 5 [.agg (chkC m slots)])) :
    ACall Tryd.prog G 56 [.ptr c 0 0 0, .agg fc, .agg i.cells] H (fun r H' => H' = H ∧ r = .bool (insOK m slots frame code.length i)) := by
  have hcl0 := (List.getElem?_eq_some_iff.1 hc).1
  have hmcl : (chkC m slots).length = 5 := rfl
  have hmc0 : (chkC m slots)[0]? = some (.list 4 (consL m.cons)) := rfl
  have hmc1 : (chkC m slots)[1]? = some (.list 7 (funsL m.funcs)) := rfl
  have hmc2 : (chkC m slots)[2]? = some (.list 3 (glbsL m.globals)) := rfl
  have hmc4 : (chkC m slots)[4]? = some (.int .i64 slots) := rfl
  have hgoal : insOK m slots frame code.length i = insOK m slots frame code.length i := rfl
  obtain ⟨op, a, b, c', n, l⟩ := i
  simp only at hop hl
  generalize htop : insTop op slots frame = top
  have htb : -1099511627776 < top ∧ top < 1099511627776 := by subst htop; unfold insTop; (repeat' split) <;> omega
  have hlm : (l.map (SV.int .i64)).length = l.length := by simp
  simp only [insOK, htop] at hgoal
  generalize hmc : chkC m slots = mc at hc hmcl hmc0 hmc1 hmc2 hmc4
  simp only [Ins.cells]
  have hicl : ([.int .i64 op, .int .i64 a, .int .i64 b, .int .i64 c', .int .i64 n, .list 1 (l.map (.int .i64))] : List SV).length = 6 := rfl
  generalize hic : ([.int .i64 op, .int .i64 a, .int .i64 b, .int .i64 c', .int .i64 n, .list 1 (l.map (.int .i64))] : List SV) = ic at hicl
  have i0 : ic[0]? = some (.int .i64 op) := by subst hic; rfl
  have i1 : ic[1]? = some (.int .i64 a) := by subst hic; rfl
  have i2 : ic[2]? = some (.int .i64 b) := by subst hic; rfl
  have i3 : ic[3]? = some (.int .i64 c') := by subst hic; rfl
  have i4 : ic[4]? = some (.int .i64 n) := by subst hic; rfl
  have i5 : ic[5]? = some (.list 1 (l.map (.int .i64))) := by subst hic; rfl
  clear hic hmc
  have c1 := fun n hi H => within_ok G hG n 0 hi H
  have c2 := fun H => of_ok G hG hF op H
  obtain ⟨a1, a2, a4, a8, a16, a32, _⟩ := and_bit op
  generalize hB1 : bitOf 1 op = B1 at a1
  generalize hB2 : bitOf 2 op = B2 at a2
  generalize hB4 : bitOf 4 op = B4 at a4
  generalize hB8 : bitOf 8 op = B8 at a8
  generalize hB16 : bitOf 16 op = B16 at a16
  generalize hB32 : bitOf 32 op = B32 at a32
  generalize hown : ofS op = own at a1 a2 a4 a8 a16 a32 c2
  have v1 : ∀ s, ACallV Tryd.prog G (.fn (.func 66) [] [.ptr (H.length + 2) 0 0 0, .ptr (H.length + 3) 0 0 0]) [.int .i64 1, .int .i64 s] (H ++ [.cells 0 7 [.agg fc], .cells 0 6 [.agg ic], .cells 0 1 [.int .i64 own], .cells 0 1 [.int .i64 top]]) (fun r H' => H' = (H ++ [.cells 0 7 [.agg fc], .cells 0 6 [.agg ic], .cells 0 1 [.int .i64 own], .cells 0 1 [.int .i64 top]]) ∧ r = .bool (slotB B1 top s)) := fun s => ACallV.of (slot_ok G hG own top 1 s B1 (H.length + 2) (H.length + 3) _ (by simp) (by simp) a1 (b2_zero B1).1 htb)
  have v2 : ∀ s, ACallV Tryd.prog G (.fn (.func 66) [] [.ptr (H.length + 2) 0 0 0, .ptr (H.length + 3) 0 0 0]) [.int .i64 2, .int .i64 s] (H ++ [.cells 0 7 [.agg fc], .cells 0 6 [.agg ic], .cells 0 1 [.int .i64 own], .cells 0 1 [.int .i64 top]]) (fun r H' => H' = (H ++ [.cells 0 7 [.agg fc], .cells 0 6 [.agg ic], .cells 0 1 [.int .i64 own], .cells 0 1 [.int .i64 top]]) ∧ r = .bool (slotB B2 top s)) := fun s => ACallV.of (slot_ok G hG own top 2 s B2 (H.length + 2) (H.length + 3) _ (by simp) (by simp) a2 (b2_zero B2).2.1 htb)
  have v3 : ∀ s, ACallV Tryd.prog G (.fn (.func 66) [] [.ptr (H.length + 2) 0 0 0, .ptr (H.length + 3) 0 0 0]) [.int .i64 4, .int .i64 s] (H ++ [.cells 0 7 [.agg fc], .cells 0 6 [.agg ic], .cells 0 1 [.int .i64 own], .cells 0 1 [.int .i64 top]]) (fun r H' => H' = (H ++ [.cells 0 7 [.agg fc], .cells 0 6 [.agg ic], .cells 0 1 [.int .i64 own], .cells 0 1 [.int .i64 top]]) ∧ r = .bool (slotB B4 top s)) := fun s => ACallV.of (slot_ok G hG own top 4 s B4 (H.length + 2) (H.length + 3) _ (by simp) (by simp) a4 (b2_zero B4).2.2.1 htb)
  refine ACall.of_go TB [] tabOK _ Tryd.func56 rfl (by decide) Tryd.ntmps56 (by simp) rfl (by simp only [initEnv, Nat.reduceAdd]; rfl) fun C R' hR hC hcl hB => ?_; have X := noX; have hC' := congrArg List.length hC
  have hr1 : IntKind.i64.min ≤ slots := by simp [IntKind.min, IntKind.signed, IntKind.bits]; omega
  have hr2 : slots ≤ IntKind.i64.max := by simp [IntKind.max, IntKind.signed, IntKind.bits]; omega
  have X0 := And.intro X (And.intro hlm (And.intro hfcl (And.intro hfc5 (And.intro hfc6 (And.intro (getX hc) (And.intro hmcl (And.intro hmc0 (And.intro hmc1 (And.intro hmc2 (And.intro hmc4 (And.intro hicl (And.intro i0 (And.intro i1 (And.intro i2 (And.intro i3 (And.intro i4 (And.intro i5 (And.intro a8 (And.intro a16 (And.intro a32 (And.intro (b2_zero B8) (And.intro (b2_zero B16) (And.intro (b2_zero B32) (And.intro hr1 hr2))))))))))))))))))))))))
  clear X

  subst hop
  have e16 : B16 = false := by rw [← hB16]; decide
  have e32 : B32 = true := by rw [← hB32]; decide
  subst e16
  subst e32
  have htop2 : (if slots < frame then slots else frame) = top := by rw [← htop]; rfl
  have c3 : ACall Tryd.prog G 68 [.list 1 (l.map (.int .i64)), .fn (.func 70) [] [.ptr (H.length + 4) 0 0 0, .ptr (H.length + 1) 0 0 0]] (H ++ [.cells 0 7 [.agg fc], .cells 0 6 [.agg ic], .cells 0 1 [.int .i64 own], .cells 0 1 [.int .i64 top], .cells 0 1 [.fn (.func 67) [] [.ptr H.length 0 0 0]]]) (fun r H' => H' = (H ++ [.cells 0 7 [.agg fc], .cells 0 6 [.agg ic], .cells 0 1 [.int .i64 own], .cells 0 1 [.int .i64 top], .cells 0 1 [.fn (.func 67) [] [.ptr H.length 0 0 0]]]) ∧ r = .bool (l.any (badP 22 code.length))) :=
    anyInt_ok G hG _ (badP 22 code.length) l _ (by omega) (by simp [SV.under, SV.underL]) (fun x hx => ACallV.of (badP_ok G hG x 22 code fc ic H.length (H.length + 4) (H.length + 1) _ (by simp) hfcl hfc6 (by omega) (by simp) (by simp) hicl i0))
  have X := And.intro X0 htop2
  (refine run ?_; repeat' (first | with_reducible exact trivial | ((with_reducible apply Fork.mk) <;> intro hb) | with_reducible apply Two.mk))
  all_goals
    refine finS hR hC' hcl (.same _ rfl) ⟨rfl, ?_⟩
    clear X X0 v1 v2 v3 c1 c2 c3 hR hC hC' hcl hB hc hG hF a1 a2 a4 a8 a16 a32 hgoal i0 i1 i2 i3 i4 i5 hmc0 hmc1 hmc2 hmc4 hmcl hcl0 hicl hfc5 hfc6 hfcl hr1 hr2 hlm htb hl hn hs hfr hm1 hm2 hm3
    simp only [insOK, lstOK, finOK, htop, hown, hB1, hB2, hB4, hB8, hB16, hB32]
    simp only [resSV]
    congr 1
    generalize slotB B4 top c' = S4 at *
    generalize l.any (badP 22 code.length) = S5 at *
    cases S5 <;> cases S4 <;> cases B8 <;> simp_all
end Go.Proofs.YtneklfhahljgnaaDoor
end
