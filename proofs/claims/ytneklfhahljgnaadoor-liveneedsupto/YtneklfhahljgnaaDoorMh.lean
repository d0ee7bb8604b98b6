/- LiveNeeds: the page's rows of needed slots and its spans are the document's, for all functions of bulk at most 1048576; the card that ties the list of fields to the text. -/
import Derived.Test.YtneklfhahljgnaaDoorMg
import Derived.Test.YtneklfhahljgnaaDoorCards
import Derived.Test.YtneklfhahljgnaaDoorTie
import Derived.Deep.DeepHandedRow
import Derived.Lib.LaidTab

section
namespace Go.Proofs.YtneklfhahljgnaaDoor
open Go
set_option linter.unusedSimpArgs false
set_option linter.unusedVariables false

/-! ### what the moves do -/
def stM (m : Int → Int) (p : Sh) : Int → Int := fun x => if x = p.1 then m p.2 else m x
def exM (out : List Sh) : Int → Int := out.foldl stM id
theorem exM_snoc (out : List Sh) (p : Sh) (x : Int) : exM (out ++ [p]) x = if x = p.1 then exM out p.2 else exM out x := by
  unfold exM; rw [List.foldl_append]; rfl
theorem exM_other : ∀ (out : List Sh) (m : Int → Int) (x : Int), (∀ p ∈ out, p.1 ≠ x) → out.foldl stM m x = m x
  | [], m, x, h => rfl
  | p :: out, m, x, h => by
    rw [List.foldl_cons, exM_other out _ x fun q hq => h q (List.mem_cons_of_mem _ hq)]
    unfold stM
    rw [if_neg fun e => h p (List.mem_cons_self ..) e.symm]
theorem run_law (hand : Int) (l : List Sh) (orig : Int → Int) (hl : ∀ s ∈ l, orig s.1 = s.2 ∧ s.1 ≠ hand) : ∀ (f : Nat) (left out : List Sh), WFS left hand → muS left ≤ f → (∀ s ∈ left, exM out s.2 = orig s.1) → (∀ s ∈ l, s.1 ∉ left.map (·.1) → exM out s.1 = s.2) →
    (∀ x ∈ left, x.1 ∈ l.map (·.1)) → (∀ p ∈ out, p.1 = hand ∨ p.1 ∈ l.map (·.1)) →
    (∀ s ∈ l, exM (runS hand f (left, out)) s.1 = s.2) ∧ (∀ p ∈ runS hand f (left, out), p.1 = hand ∨ p.1 ∈ l.map (·.1)) ∧ (runS hand f (left, out)).length + 1 ≤ out.length + muS left
  | 0, left, out, hw, hf, h1, h2, h3, h4 => by
    have h0 : left = [] := by
      cases left with
      | nil => rfl
      | cons s r => simp only [muS, List.length_cons] at hf; omega
    subst h0
    exact ⟨fun s hs => h2 s hs (by simp), h4, by simp [runS, muS]⟩
  | f + 1, left, out, hw, hf, h1, h2, h3, h4 => by
    rw [runS]
    by_cases h0 : left = []
    · subst h0
      rw [if_pos rfl]
      exact ⟨fun s hs => h2 s hs (by simp), h4, by simp [muS]⟩
    rw [if_neg h0]
    cases hfi : left.findIdx? (freeP left) with
    | some i =>
      have hst : stepS hand (left, out) = (left.eraseIdx i, out ++ [left.getD i (0, 0)]) := by simp only [stepS, hfi]
      rw [hst]
      obtain ⟨hi, hfree, _⟩ := List.findIdx?_eq_some_iff_getElem.1 hfi
      have hget : left.getD i (0, 0) = left[i] := by simp [hi]
      rw [hget]
      have hmem : left[i] ∈ left := List.getElem_mem hi
      simp only [freeP, List.all_eq_true, Bool.not_eq_true', decide_eq_false_iff_not] at hfree
      have hmu := mu_erase hfi
      have hother : ∀ x ∈ left.eraseIdx i, x.1 ≠ left[i].1 := by
        intro x hx e
        have e1 : left = left.take i ++ left[i] :: left.drop (i + 1) := by rw [← List.drop_eq_getElem_cons hi, List.take_append_drop]
        have hn := hw.1
        rw [e1, List.map_append, List.map_cons, List.nodup_append] at hn
        rw [List.eraseIdx_eq_take_drop_succ] at hx
        rcases List.mem_append.1 hx with hx | hx
        · exact hn.2.2 _ (List.mem_map.2 ⟨x, hx, rfl⟩) _ (List.mem_cons_self ..) e
        · have := (List.nodup_cons.1 hn.2.1).1
          exact this (List.mem_map.2 ⟨x, hx, e⟩)
      have := run_law hand l orig hl f (left.eraseIdx i) (out ++ [left[i]]) (hw.erase i) (by omega) (fun s hs => ?_) (fun s hs hn => ?_) (fun x hx => h3 x (List.mem_of_mem_eraseIdx hx)) (fun p hp => ?_)
      · refine ⟨this.1, this.2.1, ?_⟩
        have := this.2.2
        rw [List.length_append, List.length_singleton] at this
        omega
      · have hs' := List.mem_of_mem_eraseIdx hs
        rw [exM_snoc, if_neg (hfree s hs')]
        exact h1 s hs'
      · rw [exM_snoc]
        by_cases e : s.1 = left[i].1
        · rw [if_pos e, h1 _ hmem, ← e]; exact (hl s hs).1
        · rw [if_neg e]
          refine h2 s hs fun hm => ?_
          obtain ⟨x, hx, hx2⟩ := List.mem_map.1 hm
          refine hn (List.mem_map.2 ⟨x, ?_, hx2⟩)
          rw [List.mem_eraseIdx_iff_getElem]
          obtain ⟨j, hj, rfl⟩ := List.getElem_of_mem hx
          exact ⟨j, hj, fun e2 => by subst e2; exact e hx2.symm, rfl⟩
      · rcases List.mem_append.1 hp with hp | hp
        · exact h4 p hp
        · rw [List.mem_singleton.1 hp]; exact .inr (h3 _ hmem)
    | none =>
      have hst : stepS hand (left, out) = (left.map (toHand hand (left.headD (0, 0)).1), out ++ [(hand, (left.headD (0, 0)).1)]) := by simp only [stepS, hfi]
      rw [hst]
      have hmu := mu_hand hw h0 hfi
      have hnh := stuck_hand hw hfi
      generalize (left.headD (0, 0)).1 = t at hmu
      have hmt := map_toHand hand t left
      have := run_law hand l orig hl f (left.map (toHand hand t)) (out ++ [(hand, t)]) (hw.hand t) (by omega) (fun s hs => ?_) (fun s hs hn => ?_) (fun x hx => ?_) (fun p hp => ?_)
      · refine ⟨this.1, this.2.1, ?_⟩
        have := this.2.2
        rw [List.length_append, List.length_singleton] at this
        omega
      · obtain ⟨x, hx, rfl⟩ := List.mem_map.1 hs
        rw [exM_snoc, toHand_fst]
        unfold toHand
        by_cases e : x.2 = t
        · rw [if_pos e]
          simp only [if_true]
          rw [← e]; exact h1 x hx
        · rw [if_neg e, if_neg (fun e2 => hnh (List.mem_map.2 ⟨x, hx, e2⟩))]
          exact h1 x hx
      · rw [exM_snoc, if_neg (hl s hs).2]
        rw [hmt] at hn
        exact h2 s hs hn
      · obtain ⟨y, hy, rfl⟩ := List.mem_map.1 hx
        rw [toHand_fst]; exact h3 y hy
      · rcases List.mem_append.1 hp with hp | hp
        · exact h4 p hp
        · rw [List.mem_singleton.1 hp]; exact .inl rfl

theorem nodup_fst {l : List Sh} (h : (l.map (·.1)).Nodup) {s x : Sh} (hs : s ∈ l) (hx : x ∈ l) (e : s.1 = x.1) : s = x := by
  induction l with
  | nil => cases hs
  | cons y r ih =>
    rw [List.map_cons, List.nodup_cons] at h
    rcases List.mem_cons.1 hs with e1 | hs <;> rcases List.mem_cons.1 hx with e2 | hx
    · rw [e1, e2]
    · exact absurd (List.mem_map.2 ⟨x, hx, by rw [← e, e1]⟩) h.1
    · exact absurd (List.mem_map.2 ⟨s, hs, by rw [e, e2]⟩) h.1
    · exact ih h.2 hs hx
def origS (l : List Sh) (x : Int) : Int := match l.find? fun s => decide (s.1 = x) with
  | some s => s.2
  | none => x
theorem origS_eq {l : List Sh} (h : (l.map (·.1)).Nodup) {s : Sh} (hs : s ∈ l) : origS l s.1 = s.2 := by
  unfold origS
  cases hf : l.find? fun x => decide (x.1 = s.1) with
  | none => rw [List.find?_eq_none] at hf; exact absurd (decide_eq_true rfl) (hf s hs)
  | some x =>
    have h1 := List.mem_of_find?_eq_some hf
    have h2 := List.find?_some hf
    rw [nodup_fst h hs h1 (by simpa using (of_decide_eq_true h2).symm)]
theorem sh_law {l : List Sh} {hand : Int} (h : okS l hand = true) : (∀ s ∈ l, exM (shS l hand) s.1 = s.2) ∧ (∀ p ∈ shS l hand, p.1 = hand ∨ p.1 ∈ l.map (·.1)) ∧ (shS l hand).length ≤ 2 * l.length := by
  simp only [okS, Bool.and_eq_true, List.all_eq_true, Bool.not_eq_true', decide_eq_false_iff_not, decide_eq_true_eq] at h
  have hfl : (l.filter keepSh).length ≤ l.length := List.length_filter_le _ _
  have hmu : muS (l.filter keepSh) ≤ 2 * l.length + 1 := by simp only [muS]; split <;> omega
  have hk : ∀ s ∈ l, s ∉ l.filter keepSh → s.1 = s.2 := fun s hs hn => by
    have : keepSh s = false := by
      cases e : keepSh s with
      | false => rfl
      | true => exact absurd (List.mem_filter.2 ⟨hs, e⟩) hn
    simpa [keepSh] using this
  have := run_law hand l (origS l) (fun s hs => ⟨origS_eq h.2 hs, (h.1 s hs).1⟩) (2 * l.length + 2) (l.filter keepSh) []
    ⟨h.2.sublist ((List.filter_sublist).map _), fun s hs => (h.1 s (List.mem_filter.1 hs).1).1⟩ (by omega) (fun s hs => (origS_eq h.2 (List.mem_filter.1 hs).1).symm) (fun s hs hn => hk s hs fun hm => hn (List.mem_map.2 ⟨s, hm, rfl⟩)) (fun x hx => List.mem_map.2 ⟨x, (List.mem_filter.1 hx).1, rfl⟩) (by simp)
  refine ⟨this.1, this.2.1, ?_⟩
  have h3 := this.2.2
  rw [List.length_nil] at h3
  show (runS hand (2 * l.length + 2) (l.filter keepSh, [])).length ≤ _
  omega
theorem sh_other {l : List Sh} {hand : Int} (h : okS l hand = true) {x : Int} (h1 : x ≠ hand) (h2 : x ∉ l.map (·.1)) : exM (shS l hand) x = x := by
  have := (sh_law h).2.1
  exact exM_other _ _ _ fun p hp e => by
    rcases this p hp with e2 | e2
    · exact h1 (e ▸ e2)
    · exact h2 (e ▸ e2)
end Go.Proofs.YtneklfhahljgnaaDoor
end

section
namespace Go.Proofs.YtneklfhahljgnaaDoor
open Go
set_option linter.unusedSimpArgs false
set_option linter.unusedVariables false
set_option maxRecDepth 10000
set_option maxHeartbeats 4000000

theorem okS_err (b : Bool) : (if b = true then (0 : Int) else 1) = if b then 0 else 1 := rfl

theorem liveShifts_ok (G : Gl) (hG : GClosed G) (hF : GF G) (l : List Sh) (hand : Int) (H : List Blk) : ACall Tryd.prog G 4 [.list 2 (shL l), .int .i64 hand] H (fun r H' => H' = H ∧ r = .bool true) := by
  refine ACall.of_go TB [] tabOK _ Tryd.func4 rfl (by decide) Tryd.ntmps4 (by simp) rfl (by simp only [initEnv, Nat.reduceAdd]; rfl) fun C R' hR hC hcl hB => ?_; have X := noX; have hC' := congrArg List.length hC
  have c1 := fun H => awake_ok G hG hF H
  (refine run ?_; repeat' (first | with_reducible exact trivial | ((with_reducible apply Fork.mk) <;> intro hb) | with_reducible apply Two.mk))
  · rw [← List.append_nil H]
    exact finS hR hC' hcl (y := .bool true) (.same _ rfl) ⟨rfl, rfl⟩
  have hfr : Frz (H ++ [.cells 1 2 (shL l)]) H.length [] (.sl H.length 1 0 l.length) (.list 2 (shL l)) := Frz.sf (g := 1) (sz := 2) (vals := shL l) (by simp) (by omega) (by simp) (by rw [List.drop_zero, List.take_of_length_le (by rw [shL_len]; exact Nat.le_refl _)]) (shL_under _ _)
  refine go_wkO [(0, .list 2 (shL l)), (1, .int .i64 hand), (21, .int .i64 hand), (20, .list 2 (shL l)), (5, .list 2 (shL l))] H
    (Wk.tell hG (fun C0 h0 => by have := hB C0 h0; omega) (by omega) hcl ⟨⟨_, rfl, .same _ (by simp only [SV.under, shL_under])⟩, ⟨_, rfl, .same _ rfl⟩, ⟨_, rfl, .same _ rfl⟩, ⟨_, rfl, hfr⟩, ⟨_, rfl, hfr⟩, trivial⟩) ?_
  have hl : l.length < 1048576 := by omega
  have c2 := fun H => shifts_ok G hG l hand hl H
  have c3 := fun H => rshifts_ok G hG l hand hl H
  (refine run ?_; repeat' (first | with_reducible exact trivial | ((with_reducible apply Fork.mk) <;> intro hb) | with_reducible apply Two.mk))
  have hML : (if okS l hand = true then shS l hand else []).length ≤ 600 := by
    split
    · rename_i h; have := (sh_law h).2.2; omega
    · simp
  generalize (if okS l hand = true then shS l hand else []) = M at hML
  generalize (if okS l hand = true then (0 : Int) else 1) = e
  have hMl : (mvL M).length = M.length := by simp [mvL]
  have hll : (shL l).length = l.length := by simp [shL]
  clear hfr c2 c3 X
  have X := And.intro noX (And.intro hMl hll)
  refine go_loop (fun i : Nat => [(0, .list 2 (shL l)), (5, .list 2 (shL l)), (6, .list 6 (mvL M)), (8, .list 6 (mvL M)), (10, .int .i64 i)]) (fun _ => H ++ []) (fun i => M.length - i) (fun i => i ≤ M.length) 0 (Nat.zero_le _) ?_ ?_
  · rw [List.append_nil]; exact Wk.sub (by simp [subEnv, look])
  · intro K i hi hK
    rw [List.append_nil] at hK ⊢
    rcases Nat.lt_or_ge i M.length with hlt | hge
    · have e1 : (mvL M)[i]? = some (.agg [.int .i64 2, .int .i64 M[i].1, .int .i64 M[i].2, .int .i64 0, .int .i64 0, .list 1 []]) := by simp [mvL, hlt]
      have X := And.intro X e1
      (refine run ?_; repeat' (first | with_reducible exact trivial | ((with_reducible apply Fork.mk) <;> intro hb) | with_reducible apply Two.mk))
      exact hK _ _ (i + 1) (by omega) (by omega) (Wk.sub (by simp [subEnv, look]))
    · have : i = M.length := by omega
      subst this
      clear hK
      (refine run ?_; repeat' (first | with_reducible exact trivial | ((with_reducible apply Fork.mk) <;> intro hb) | with_reducible apply Two.mk))
      refine go_loop (fun i : Nat => [(0, .list 2 (shL l)), (5, .list 2 (shL l)), (11, .int .i64 i)]) (fun _ => H ++ []) (fun i => l.length - i) (fun i => i ≤ l.length) 0 (Nat.zero_le _) ?_ ?_
      · rw [List.append_nil]; exact Wk.sub (by simp [subEnv, look])
      · intro K i hi hK
        rw [List.append_nil] at hK ⊢
        rcases Nat.lt_or_ge i l.length with hlt | hge
        · have e1 : (shL l)[i]? = some (.agg [.int .i64 l[i].1, .int .i64 l[i].2]) := by simp [shL, hlt]
          have X := And.intro X e1
          (refine run ?_; repeat' (first | with_reducible exact trivial | ((with_reducible apply Fork.mk) <;> intro hb) | with_reducible apply Two.mk))
          exact hK _ _ (i + 1) (by omega) (by omega) (Wk.sub (by simp [subEnv, look]))
        · have : i = l.length := by omega
          subst this
          clear hK
          have c1 := fun H => awake_ok G hG hF H
          (refine run ?_; repeat' (first | with_reducible exact trivial | ((with_reducible apply Fork.mk) <;> intro hb) | with_reducible apply Two.mk))
          rw [← List.append_nil H]
          exact finS hR hC' hcl (y := .bool true) (.same _ rfl) ⟨rfl, rfl⟩
end Go.Proofs.YtneklfhahljgnaaDoor
end

section
namespace Go.Proofs.YtneklfhahljgnaaDoor
open Go
set_option linter.unusedSimpArgs false
set_option linter.unusedVariables false
set_option maxRecDepth 10000
set_option maxHeartbeats 4000000

def lstI (op : Int) : Int := if bitOf 16 op then 1 else if bitOf 32 op then 2 else 0
theorem has_ok (G : Gl) (hG : GClosed G) (op : Int) (H : List Blk) : ACall Tryd.prog G 51 [.int .i64 op] H (fun r H' => H' = H ∧ r = .tuple [.bool (bitOf 1 op), .bool (bitOf 2 op), .bool (bitOf 4 op), .bool (bitOf 8 op), .int .i64 (lstI op)]) := by
  refine ACall.of_go TB [] tabOK _ Tryd.func51 rfl (by decide) Tryd.ntmps51 (by simp) rfl (by simp only [initEnv, Nat.reduceAdd]; rfl) fun C R' hR hC hcl hB => ?_; have X := noX; have hC' := congrArg List.length hC
  have hlast : (op ≠ 26 → op < 1 ∨ 27 ≤ op) → Fin C H (resSV [SV.bool false, SV.bool false, SV.bool false, SV.bool false, SV.int .i64 0]) R' := fun h => by
    refine Fin.out hR ⟨rfl, ?_⟩
    by_cases e : op = 26
    · subst e; rfl
    · have : ofS op = 0 := by unfold ofS; rw [if_pos (h e)]
      simp only [lstI, bitOf, this]; rfl
  (refine run ?_; repeat' (first | with_reducible exact trivial | ((with_reducible apply Fork.mk) <;> intro hb) | with_reducible apply Two.mk))
  all_goals first
    | (subst hb; exact Fin.out hR ⟨rfl, rfl⟩)
    | (refine hlast fun e => ?_; omega)
theorem rwrites_ok (G : Gl) (hG : GClosed G) (i : Ins) (H : List Blk) : ACall Tryd.prog G 26 [.agg i.cells] H (fun r H' => H' = H ∧ r = .int .i64 (wrS i)) := by
  obtain ⟨op, a, b, c, n, l⟩ := i
  simp only [Ins.cells, wrS]
  have c1 := fun H => has_ok G hG op H
  generalize bitOf 1 op = B1 at c1 ⊢
  generalize bitOf 2 op = B2 at c1
  generalize bitOf 4 op = B4 at c1
  generalize bitOf 8 op = B8 at c1
  generalize lstI op = Bl at c1
  refine ACall.of_go TB [] tabOK _ Tryd.func26 rfl (by decide) Tryd.ntmps26 (by simp) rfl (by simp only [initEnv, Nat.reduceAdd]; rfl) fun C R' hR hC hcl hB => ?_; have X := noX; have hC' := congrArg List.length hC
  (refine run ?_; repeat' (first | with_reducible exact trivial | ((with_reducible apply Fork.mk) <;> intro hb) | with_reducible apply Two.mk))
  · refine finS hR hC' hcl (y := .int .i64 (-1)) (.same _ rfl) ⟨rfl, ?_⟩
    simp only [Bool.or_eq_true, Bool.not_eq_true', decide_eq_true_eq] at hb
    rw [if_pos hb]
  · refine finS hR hC' hcl (y := .int .i64 a) (.same _ rfl) ⟨rfl, ?_⟩
    simp only [Bool.or_eq_false_iff, Bool.not_eq_false', decide_eq_false_iff_not] at hb
    rw [if_neg (by simp [hb.1, hb.2])]
theorem rreads_ok (G : Gl) (hG : GClosed G) (i : Ins) (hl : i.l.length ≤ 4294967296) (H : List Blk) : ACall Tryd.prog G 28 [.agg i.cells] H (fun r H' => H' = H ∧ r = .list 1 ((rdS i).map (.int .i64))) := by
  obtain ⟨op, a, b, c, n, l⟩ := i
  simp only [Ins.cells, rdS]
  simp only at hl
  have c1 := fun H => has_ok G hG op H
  have h16 : bitOf 16 op = decide (lstI op = 1) := by unfold lstI; cases bitOf 16 op <;> simp; split <;> simp
  rw [h16]
  generalize bitOf 1 op = B1 at c1
  generalize bitOf 2 op = B2 at c1 ⊢
  generalize bitOf 4 op = B4 at c1 ⊢
  generalize bitOf 8 op = B8 at c1
  generalize lstI op = Bl at c1 ⊢
  refine ACall.of_go TB [8] tabOK _ Tryd.func28 rfl (by decide) Tryd.ntmps28 (by simp) rfl (by simp only [initEnv, Nat.reduceAdd]; rfl) fun C R' hR hC hcl hB => ?_; have X := noX; have hC' := congrArg List.length hC
  (refine run ?_; repeat' (first | with_reducible exact trivial | ((with_reducible apply Fork.mk) <;> intro hb) | with_reducible apply Two.mk))
  all_goals
    simp only [Bool.not_eq_false, decide_eq_true_eq] at *
    refine finS hR hC' hcl (y := .list 1 (((if op = 14 then [a] else []) ++ (if B2 = true then [b] else []) ++ (if B4 = true then [c] else []) ++ (if Bl = 1 then l else [])).map (.int .i64))) ?_ ⟨rfl, rfl⟩
    clear hR hC hC' hcl hB X c1 hG
    simp_all only [if_true, if_false, Bool.false_eq_true, List.nil_append, List.append_nil, List.cons_append, List.map_append, List.map_cons, List.map_nil]
    first
      | exact .nil 1
      | exact .sf (by exact hbS) (by simp) (by simp) (by simp [List.take_of_length_le, Nat.add_comm]) (by first | exact ints_under _ _ | simp only [SV.underL, SV.under, ints_under, Bool.and_self])
end Go.Proofs.YtneklfhahljgnaaDoor
end

section
namespace Go.Proofs.YtneklfhahljgnaaDoor
open Go
set_option linter.unusedSimpArgs false
set_option linter.unusedVariables false
set_option maxRecDepth 10000
set_option maxHeartbeats 4000000

/-! ### the reference's rows of needed slots -/
def okW (w : Int) (s : Int) : Bool := decide (s ≠ w) || decide (w < 0)
/-- a row is laid into another, but for what is written -/
def layW (w : Int) (m l : List Int) : List Int := (m.filter (okW w)).foldl layI l
theorem layW_nil (w : Int) (l : List Int) : layW w [] l = l := rfl
theorem layW_snoc (w : Int) (m l : List Int) (x : Int) : layW w (m ++ [x]) l = if okW w x then layI (layW w m l) x else layW w m l := by
  unfold layW
  rw [List.filter_append, List.foldl_append]
  by_cases h : okW w x = true
  · simp [List.filter_cons, h]
  · simp [List.filter_cons, h]
theorem layW_mem (w : Int) (m l : List Int) (x : Int) : x ∈ layW w m l ↔ x ∈ l ∨ (x ∈ m ∧ okW w x = true) := by
  unfold layW; rw [folds_mem, List.mem_filter]
theorem layW_lt (w : Int) (m : List Int) {l : List Int} (h : l.Pairwise (fun x y => x < y)) : (layW w m l).Pairwise (fun x y => x < y) := folds_lt _ _ h
/-- what comes from those that may follow -/
def nextW (w : Int) (R : List (List Int)) (nx : List Int) : List Int := nx.foldl (fun l k => if k < 0 ∨ (R.length : Int) ≤ k then l else layW w (R.getD k.toNat []) l) []
theorem nextW_snoc (w : Int) (R : List (List Int)) (nx : List Int) (k : Int) : nextW w R (nx ++ [k]) = if k < 0 ∨ (R.length : Int) ≤ k then nextW w R nx else layW w (R.getD k.toNat []) (nextW w R nx) := by
  unfold nextW; rw [List.foldl_append]; rfl
theorem snoc_ind {P : List Int → Prop} (h0 : P []) (h1 : ∀ l x, P l → P (l ++ [x])) (l : List Int) : P l := by
  have h : ∀ r : List Int, P r.reverse := by
    intro r
    induction r with
    | nil => exact h0
    | cons x r ih => rw [List.reverse_cons]; exact h1 _ _ ih
  have := h l.reverse
  rwa [List.reverse_reverse] at this
theorem nextW_lt (w : Int) (R : List (List Int)) (nx : List Int) : (nextW w R nx).Pairwise (fun x y => x < y) := by
  refine snoc_ind (P := fun nx => (nextW w R nx).Pairwise (fun x y => x < y)) List.Pairwise.nil (fun nx k ih => ?_) nx
  · rw [nextW_snoc]; split
    · exact ih
    · exact layW_lt _ _ ih
theorem nextW_mem (w : Int) (R : List (List Int)) (nx : List Int) (x : Int) : x ∈ nextW w R nx ↔ ∃ k : Nat, k < R.length ∧ (k : Int) ∈ nx ∧ x ∈ R.getD k [] ∧ okW w x = true := by
  refine snoc_ind (P := fun nx => x ∈ nextW w R nx ↔ ∃ k : Nat, k < R.length ∧ (k : Int) ∈ nx ∧ x ∈ R.getD k [] ∧ okW w x = true) (by simp [nextW]) (fun nx k ih => ?_) nx
  · rw [nextW_snoc]
    split
    · rename_i hk
      rw [ih]
      constructor
      · rintro ⟨q, h1, h2, h3⟩; exact ⟨q, h1, List.mem_append_left _ h2, h3⟩
      · rintro ⟨q, h1, h2, h3⟩
        refine ⟨q, h1, (List.mem_append.1 h2).resolve_right fun e => ?_, h3⟩
        rw [List.mem_singleton] at e; omega
    · rename_i hk
      rw [layW_mem, ih]
      constructor
      · rintro (⟨q, h1, h2, h3⟩ | ⟨h3, h4⟩)
        · exact ⟨q, h1, List.mem_append_left _ h2, h3⟩
        · exact ⟨k.toNat, by omega, by rw [Int.toNat_of_nonneg (by omega)]; simp, h3, h4⟩
      · rintro ⟨q, h1, h2, h3, h4⟩
        rcases List.mem_append.1 h2 with h2 | h2
        · exact .inl ⟨q, h1, h2, h3, h4⟩
        · rw [List.mem_singleton] at h2; subst h2
          rw [Int.toNat_natCast]; exact .inr ⟨h3, h4⟩
/-- the new row of an instruction -/
def newR (R : List (List Int)) (x : Ins) (i : Nat) : List Int := (rdS x).foldl layI (nextW (wrS x) R (nxS x i))
def FP (code : List Ins) (R : List (List Int)) (i : Nat) (s : Int) : Prop := ∃ h : i < code.length, s ∈ newR R code[i] i
theorem newR_lt (R : List (List Int)) (x : Ins) (i : Nat) : (newR R x i).Pairwise (fun x y => x < y) := folds_lt _ _ (nextW_lt _ _ _)
theorem newR_mem (R : List (List Int)) (x : Ins) (i : Nat) (s : Int) : s ∈ newR R x i ↔ (∃ k : Nat, k < R.length ∧ (k : Int) ∈ nxS x i ∧ s ∈ R.getD k [] ∧ okW (wrS x) s = true) ∨ s ∈ rdS x := by
  unfold newR; rw [folds_mem, nextW_mem]
/-- what is known of the rows -/
structure RD (code : List Ins) (R : List (List Int)) : Prop where
  len : R.length = code.length
  lt : ∀ j, (R.getD j []).Pairwise (fun x y => x < y)
  sound : ∀ j s, s ∈ R.getD j [] → NeedP code j s
  pre : ∀ j s, s ∈ R.getD j [] → FP code R j s
theorem getD_set (R : List (List Int)) (i j : Nat) (l : List Int) (hi : i < R.length) : (R.set i l).getD j [] = if j = i then l else R.getD j [] := by
  rw [List.getD_eq_getElem?_getD, List.getElem?_set]
  split
  · rename_i h; subst h; simp [hi]
  · rename_i h; rw [if_neg (fun e => h e.symm), List.getD_eq_getElem?_getD]
theorem newR_mono {R R' : List (List Int)} (hl : R.length = R'.length) (h : ∀ j s, s ∈ R.getD j [] → s ∈ R'.getD j []) (x : Ins) (i : Nat) (s : Int) (hs : s ∈ newR R x i) : s ∈ newR R' x i := by
  rw [newR_mem] at hs ⊢
  rcases hs with ⟨k, h1, h2, h3, h4⟩ | hs
  · exact .inl ⟨k, by omega, h2, h _ _ h3, h4⟩
  · exact .inr hs
theorem RD.zero (code : List Ins) : RD code (List.replicate code.length []) := by
  have h0 : ∀ j, (List.replicate code.length ([] : List Int)).getD j [] = [] := fun j => by
    rw [List.getD_eq_getElem?_getD, List.getElem?_replicate]; split <;> rfl
  exact ⟨by simp, fun j => by rw [h0]; exact .nil, fun j s hs => by rw [h0] at hs; simp at hs, fun j s hs => by rw [h0] at hs; simp at hs⟩
theorem RD.new_need {code : List Ins} {R : List (List Int)} (h : RD code R) {i : Nat} (hi : i < code.length) {s : Int} (hs : s ∈ newR R code[i] i) : NeedP code i s := by
  rw [newR_mem] at hs
  rcases hs with ⟨k, h1, h2, h3, h4⟩ | hs
  · exact .step i k s hi (by have := h.len; omega) h2 (by simpa [okW] using h4) (h.sound _ _ h3)
  · exact .read i s hi hs
theorem RD.sub {code : List Ins} {R : List (List Int)} (h : RD code R) {i : Nat} (hi : i < code.length) (s : Int) (hs : s ∈ R.getD i []) : s ∈ newR R code[i] i := (h.pre i s hs).2
theorem RD.upd {code : List Ins} {R : List (List Int)} (h : RD code R) {i : Nat} (hi : i < code.length) : RD code (R.set i (newR R code[i] i)) := by
  have hl := h.len
  have hg : ∀ j s, s ∈ R.getD j [] → s ∈ (R.set i (newR R code[i] i)).getD j [] := fun j s hs => by
    rw [getD_set _ _ _ _ (by omega)]; split
    · rename_i e; subst e; exact h.sub hi s hs
    · exact hs
  refine ⟨by simpa using h.len, fun j => ?_, fun j s hs => ?_, fun j s hs => ?_⟩
  · rw [getD_set _ _ _ _ (by omega)]; split
    · exact newR_lt _ _ _
    · exact h.lt j
  · rw [getD_set _ _ _ _ (by omega)] at hs
    split at hs
    · rename_i e; subst e; exact h.new_need hi hs
    · exact h.sound j s hs
  · rw [getD_set _ _ _ _ (by omega)] at hs
    split at hs
    · rename_i e; subst e
      exact ⟨hi, newR_mono (by simp) hg _ _ _ hs⟩
    · obtain ⟨hj, hn⟩ := h.pre j s hs
      exact ⟨hj, newR_mono (by simp) hg _ _ _ hn⟩
theorem RD.len_le {code : List Ins} {R : List (List Int)} (h : RD code R) (j : Nat) : (R.getD j []).length ≤ (code.flatMap rdS).length :=
  nodup_le (lt_nodup (h.lt j)) fun s hs => need_all (h.sound j s hs)
/-- where nothing has changed, all is done -/
theorem RD.rows {code : List Ins} {R : List (List Int)} (h : RD code R) (hf : ∀ i (hi : i < code.length), newR R code[i] i = R.getD i []) : Rows code R := by
  have hl := h.len
  refine ⟨h.len, fun i hi => ?_⟩
  have e : R[i] = R.getD i [] := by rw [List.getD_eq_getElem?_getD, List.getElem?_eq_getElem hi]; rfl
  rw [e]
  refine ⟨h.lt i, fun s => ⟨h.sound i s, fun hn => ?_⟩⟩
  clear hi e
  induction hn with
  | read i s h1 h2 => rw [← hf i h1, newR_mem]; exact .inr h2
  | step i k s h1 h2 h3 h4 _ ih =>
    rw [← hf i h1, newR_mem]
    exact .inl ⟨k, by omega, h3, ih, by simpa [okW] using h4⟩
theorem same_len {a b : List Int} (ha : a.Pairwise (fun x y => x < y)) (hb : b.Pairwise (fun x y => x < y)) (h : ∀ s ∈ a, s ∈ b) (hl : b.length = a.length) : b = a := by
  have hs : List.Sublist a b := by
    induction b generalizing a with
    | nil => rw [List.length_nil] at hl; rw [List.eq_nil_of_length_eq_zero hl.symm]; exact .slnil
    | cons y b ih =>
      cases a with
      | nil => simp at hl
      | cons x a =>
        rw [List.pairwise_cons] at ha hb
        simp only [List.length_cons, Nat.add_right_cancel_iff] at hl
        have hx := h x (List.mem_cons_self ..)
        rcases List.mem_cons.1 hx with e | hx
        · subst e
          refine .cons_cons _ (ih ha.2 hb.2 (fun s hs => ?_) hl)
          rcases List.mem_cons.1 (h s (List.mem_cons_of_mem _ hs)) with e | m
          · have := ha.1 s hs; omega
          · exact m
        · exfalso
          have hlen := nodup_le (a := x :: a) (b := b) (lt_nodup (List.pairwise_cons.2 ha)) (fun s hs => by
            rcases List.mem_cons.1 (h s hs) with e | m
            · have h1 := hb.1 x hx
              rcases List.mem_cons.1 hs with e2 | m2
              · omega
              · have := ha.1 s m2; omega
            · exact m)
          simp at hlen; omega
  exact (hs.eq_of_length hl.symm).symm
def sumR (R : List (List Int)) : Nat := (R.map List.length).sum
theorem sumR_set (R : List (List Int)) (i : Nat) (l : List Int) (hi : i < R.length) : sumR (R.set i l) + (R.getD i []).length = sumR R + l.length := by
  unfold sumR
  induction R generalizing i with
  | nil => simp at hi
  | cons x R ih =>
    cases i with
    | zero => simp; omega
    | succ i =>
      simp only [List.set_cons_succ, List.map_cons, List.sum_cons, List.getD_cons_succ]
      have := ih i (by simpa using hi); omega
theorem sumR_le {R : List (List Int)} {r : Nat} (h : ∀ j, (R.getD j []).length ≤ r) : sumR R ≤ R.length * r := by
  unfold sumR
  induction R with
  | nil => simp
  | cons x R ih =>
    have h0 := h 0
    have h1 := ih fun j => h (j + 1)
    simp only [List.map_cons, List.sum_cons, List.length_cons, Nat.succ_mul]
    simp at h0; omega
/-- the middle round: m instructions are still to come -/
structure RM (code : List Ins) (R0 R : List (List Int)) (m : Nat) (ch : Bool) : Prop where
  rd : RD code R
  le : sumR R0 ≤ sumR R
  yes : ch = true → sumR R0 < sumR R
  no : ch = false → R = R0 ∧ ∀ i (hi : i < code.length), m ≤ i → newR R code[i] i = R.getD i []
theorem RM.zero {code : List Ins} {R : List (List Int)} (h : RD code R) : RM code R R code.length false := ⟨h, Nat.le_refl _, (by simp), fun _ => ⟨rfl, fun i hi hm => by omega⟩⟩
theorem RM.step {code : List Ins} {R0 R : List (List Int)} {m : Nat} {ch : Bool} (h : RM code R0 R (m + 1) ch) (hm : m < code.length) : RM code R0 (R.set m (newR R code[m] m)) m (ch || decide ((newR R code[m] m).length ≠ (R.getD m []).length)) := by
  have hl := h.rd.len
  have hs := sumR_set R m (newR R code[m] m) (by omega)
  have hle := nodup_le (lt_nodup (h.rd.lt m)) fun s hs => h.rd.sub hm s hs
  have := h.le
  refine ⟨h.rd.upd hm, by omega, fun hy => ?_, fun hn => ?_⟩
  · rw [Bool.or_eq_true, decide_eq_true_eq] at hy
    rcases hy with hy | hy
    · have := h.yes hy; omega
    · omega
  · rw [Bool.or_eq_false_iff, decide_eq_false_iff_not] at hn
    obtain ⟨hn1, hn2⟩ := hn
    have e := same_len (h.rd.lt m) (newR_lt R code[m] m) (fun s hs => h.rd.sub hm s hs) (by omega)
    have e2 : R.set m (newR R code[m] m) = R := by
      apply List.ext_getElem?
      intro j
      rw [List.getElem?_set]
      split
      · rename_i hj; subst hj
        rw [if_pos (by omega), List.getElem?_eq_getElem (by omega), e, List.getD_eq_getElem?_getD, List.getElem?_eq_getElem (by omega)]; rfl
      · rfl
    rw [e2]
    obtain ⟨h1, h2⟩ := h.no hn1
    refine ⟨h1, fun i hi hmi => ?_⟩
    by_cases hmi2 : i = m
    · subst hmi2; exact e
    · exact h2 i hi (by omega)
/-- the outer round -/
def RO (code : List Ins) (R : List (List Int)) (ch : Bool) : Prop := RD code R ∧ (ch = false → Rows code R)
def muR (code : List Ins) (R : List (List Int)) (ch : Bool) : Nat := 2 * (code.length * (code.flatMap rdS).length - sumR R) + (if ch then 1 else 0)
theorem RO.next {code : List Ins} {R0 R : List (List Int)} {ch : Bool} (h0 : RD code R0) (h : RM code R0 R 0 ch) : RO code R ch ∧ muR code R ch < muR code R0 true := by
  have hb := sumR_le (fun j => h.rd.len_le j)
  rw [h.rd.len] at hb
  refine ⟨⟨h.rd, fun hn => h.rd.rows fun i hi => (h.no hn).2 i hi (Nat.zero_le _)⟩, ?_⟩
  have h1 := h.le
  unfold muR
  cases ch with
  | true => have := h.yes rfl; simp only [if_true]; omega
  | false => simp only [if_true]; simp; omega
end Go.Proofs.YtneklfhahljgnaaDoor
end

section
namespace Go.Proofs.YtneklfhahljgnaaDoor
open Go
set_option linter.unusedSimpArgs false
set_option linter.unusedVariables false
set_option maxRecDepth 10000
set_option maxHeartbeats 4000000

def rowsL (R : List (List Int)) : List SV := R.map fun l => .list 1 (l.map (.int .i64))
theorem rowsL_len (R : List (List Int)) : (rowsL R).length = R.length := by simp [rowsL]
theorem rowsL_get (R : List (List Int)) (i : Nat) (h : i < R.length) : (rowsL R)[i]? = some (.list 1 ((R.getD i []).map (.int .i64))) := by simp [rowsL, h]
theorem rowsL_set (R : List (List Int)) (i : Nat) (l : List Int) : (rowsL R).set i (.list 1 (l.map (.int .i64))) = rowsL (R.set i l) := by simp [rowsL]
theorem rowsL_under (n : Nat) (R : List (List Int)) : SV.underL n (rowsL R) = true := SV.underL_map fun l _ => by simp only [SV.under, ints_under]
theorem rowsL_zero (n : Nat) : rowsL (List.replicate n []) = List.replicate n (.list 1 []) := by simp [rowsL]

theorem frz_nils {H : List Blk} {n0 : Nat} {ks : Keep} : ∀ n : Nat, FrzL H n0 ks (List.replicate n .nil) (List.replicate n (.list 1 []))
  | 0 => .nil
  | n + 1 => .cons _ _ _ _ (.nil 1) (frz_nils n)
theorem rbefore_ok (G : Gl) (hG : GClosed G) (f : Fun) (hn : f.code.length < 1048576) (hl : ∀ i ∈ f.code, i.l.length ≤ 1048576) (hr : (f.code.flatMap rdS).length ≤ 4194304) (H : List Blk) :
    ACall Tryd.prog G 11 [.agg f.cells] H (fun r H' => ∃ rows, Rows f.code rows ∧ H' = H ∧ r = .list 1 (rowsL rows)) := by
  obtain ⟨name, thunk, upd, free, params, frame, code⟩ := f
  simp only [Fun.cells]
  simp only at hn hl hr
  generalize hfc : [SV.str name, .bool thunk, .bool upd, .int .i64 free, .int .i64 params, .int .i64 frame, .list 6 (insL code)] = fc
  have hfcl : fc.length = 7 := by subst hfc; rfl
  have hfc6 : fc[6]? = some (.list 6 (insL code)) := by subst hfc; rfl
  have hfcu : ∀ n, SV.underL n [SV.agg fc] = true := fun n => by subst hfc; simp only [SV.underL, SV.under, insL_under, Bool.and_self]
  generalize hcn : code.length = n at hn
  refine ACall.of_go TB [] tabOK _ Tryd.func11 rfl (by decide) Tryd.ntmps11 (by simp) rfl (by simp only [initEnv, Nat.reduceAdd]; rfl) fun C R' hR hC hcl hB => ?_; have X := noX; have hC' := congrArg List.length hC
  have X := And.intro X (And.intro hfcl (And.intro hfc6 hcn))
  (refine run ?_; repeat' (first | with_reducible exact trivial | ((with_reducible apply Fork.mk) <;> intro hb) | with_reducible apply Two.mk))
  refine go_loop (fun a : List (List Int) × Bool => [(1, .ptr H.length 0 0 0), (3, .int .i64 n), (4, .sl (H.length + 1) 0 0 n), (5, .bool a.2)]) (fun a => H ++ [.cells 0 7 [.agg fc], .cells 0 1 (rowsL a.1)]) (fun a => muR code a.1 a.2) (fun a => RO code a.1 a.2)
    (List.replicate n [], true) ⟨by rw [← hcn]; exact RD.zero code, by simp⟩ ?_ ?_
  · rw [rowsL_zero]
    exact wkS (n0 := H.length) [(H.length, 0), (H.length + 1, 0)] hG hB hC' hcl (hk := .c (g := 0) (sz := 7) (vals := [.agg fc]) (by simp) (Nat.le_refl _) (Nat.zero_le _) (FrzL.same (hfcu _)) (.c (g := 0) (sz := 1) (vals := List.replicate n .nil) (by simp) (by omega) (Nat.zero_le _) (by rw [List.drop_zero]; exact frz_nils n) .nil))
  rintro K ⟨R, ch⟩ ⟨hRD, hch⟩ hK
  dsimp only at hRD hch hK ⊢
  have hRl := hRD.len
  cases ch with
  | false =>
    clear hK
    have X := And.intro X (rowsL_len R)
    (refine run ?_; repeat' (first | with_reducible exact trivial | ((with_reducible apply Fork.mk) <;> intro hb) | with_reducible apply Two.mk))
    refine finS hR hC' hcl (y := .list 1 (rowsL R)) (.sf (by exact hbS) (by simp) (by simp) (by rw [List.drop_zero, List.take_of_length_le (by rw [rowsL_len, hRl, hcn]; exact Nat.le_refl _)]) (rowsL_under _ _)) ⟨R, hch rfl, rfl, rfl⟩
  | true =>
  have X := And.intro X (rowsL_len R)
  (refine run ?_; repeat' (first | with_reducible exact trivial | ((with_reducible apply Fork.mk) <;> intro hb) | with_reducible apply Two.mk))
  refine go_loop (fun a : Nat × List (List Int) × Bool => [(1, .ptr H.length 0 0 0), (3, .int .i64 n), (4, .sl (H.length + 1) 0 0 n), (5, .bool a.2.2), (6, .int .i64 ((a.1 : Int) - 1))]) (fun a => H ++ [.cells 0 7 [.agg fc], .cells 0 1 (rowsL a.2.1)]) (fun a => a.1) (fun a => a.1 ≤ n ∧ RM code R a.2.1 a.1 a.2.2)
    (n, R, false) ⟨Nat.le_refl _, by rw [← hcn]; exact RM.zero hRD⟩ (Wk.sub (by simp [subEnv, look])) ?_
  clear X
  rintro K2 ⟨m, R1, ch⟩ ⟨hm, hRM⟩ hK2
  dsimp only at hm hRM hK2 ⊢
  have hRD1 := hRM.rd
  have hRl1 := hRD1.len
  have X0 := And.intro noX (And.intro hfcl (And.intro hfc6 (And.intro hcn (rowsL_len R1))))
  cases m with
  | zero =>
    obtain ⟨hRO, hmu⟩ := RO.next hRD hRM
    clear hK2
    have X := X0
    (refine run ?_; repeat' (first | with_reducible exact trivial | ((with_reducible apply Fork.mk) <;> intro hb) | with_reducible apply Two.mk))
    all_goals exact hK _ _ (R1, ch) hmu hRO (Wk.sub (by simp [subEnv, look]))
  | succ j =>
  have hj : j < code.length := by omega
  have e0 : ((j + 1 : Nat) : Int) - 1 = (j : Int) := by omega
  rw [e0]
  have e1 : (insL code)[j]? = some (.agg (code[j]).cells) := by simp [insL, hj]
  have hstep := hRM.step hj
  have hsz := hl code[j] (List.getElem_mem hj)
  have hneed := fun s h => hRD1.new_need hj (s := s) h
  have hrl : (R1.getD j []).length ≤ 4194304 := Nat.le_trans (hRD1.len_le j) hr
  have hrj := rowsL_get R1 j (by omega)
  generalize code[j] = x at e1 hstep hsz hneed
  have c1 := fun H => rnext_ok G hG x j (by omega) (by omega) H
  have c2 := fun H => rwrites_ok G hG x H
  have c3 := fun H => rreads_ok G hG x (by omega) H
  have hw : wrS x < 0 ∨ wrS x = x.a := by unfold wrS; split <;> simp
  have hnr : newR R1 x j = (rdS x).foldl layI (nextW (wrS x) R1 (nxS x j)) := rfl
  have hnm := fun s => newR_mem R1 x j s
  have hrdl : (rdS x).length < 1099511627776 := by
    have h1 : (rdS x).length ≤ 1 + 1 + 1 + x.l.length := by
      unfold rdS
      rw [List.length_append, List.length_append, List.length_append]
      refine Nat.add_le_add (Nat.add_le_add (Nat.add_le_add ?_ ?_) ?_) ?_
      · split <;> simp
      · split <;> simp
      · split <;> simp
      · split <;> simp
    omega
  have hnxl : (nxS x j).length < 1099511627776 := by
    have h1 : (nxS x j).length ≤ (nxL x j).length := Nat.le_trans (compS_len _) (by rw [sortI_len]; exact Nat.le_refl _)
    have h2 : (nxL x j).length ≤ 1 + 1 + x.l.length := by
      unfold nxL
      rw [List.length_append, List.length_append]
      refine Nat.add_le_add (Nat.add_le_add ?_ ?_) ?_
      · split <;> simp
      · split <;> simp
      · split
        · exact List.length_filter_le _ _
        · exact Nat.zero_le _
    omega
  obtain ⟨op, xa, xb, xc, xn, xl⟩ := x
  simp only [Ins.cells] at *
  generalize rdS ⟨op, xa, xb, xc, xn, xl⟩ = rd at *
  generalize wrS ⟨op, xa, xb, xc, xn, xl⟩ = w at *
  generalize nxS ⟨op, xa, xb, xc, xn, xl⟩ j = nx at *
  generalize newR R1 ⟨op, xa, xb, xc, xn, xl⟩ j = N at *
  have hnl : nx.length < 1099511627776 := hnxl
  have hsub : ∀ L : List Int, L.Pairwise (fun x y => x < y) → (∀ s ∈ L, NeedP code j s) → L.length ≤ 1099511627776 := fun L h1 h2 => by
    have := nodup_le (lt_nodup h1) fun s hs => need_all (h2 s hs); omega
  have X := And.intro X0 (And.intro e1 hj)
  (refine run ?_; repeat' (first | with_reducible exact trivial | ((with_reducible apply Fork.mk) <;> intro hb) | with_reducible apply Two.mk))
  refine go_loop (fun a : Nat => [(1, .ptr H.length 0 0 0), (3, .int .i64 n), (4, .sl (H.length + 1) 0 0 n), (5, .bool ch), (6, .int .i64 j), (7, .list 1 ((nextW w R1 (nx.take a)).map (.int .i64))), (8, .list 1 (nx.map (.int .i64))), (10, .bool (decide (0 ≤ w))), (11, .int .i64 a)]) (fun _ => H ++ [.cells 0 7 [.agg fc], .cells 0 1 (rowsL R1)]) (fun a => nx.length - a) (fun a => a ≤ nx.length) 0 (Nat.zero_le _) (wkS (n0 := H.length) [(H.length, 0), (H.length + 1, 0)] hG hB hC' hcl (hk := .c (g := 0) (sz := 7) (vals := [.agg fc]) (by simp) (Nat.le_refl _) (Nat.zero_le _) (FrzL.same (hfcu _)) (.c (g := 0) (sz := 1) (vals := rowsL R1) (by simp) (by omega) (Nat.zero_le _) (FrzL.same (rowsL_under _ _)) .nil))) ?_
  rintro K3 k hk hK3
  have hnxm : (nx.map (SV.int .i64)).length = nx.length := by simp
  rcases Nat.lt_or_ge k nx.length with hlt | hge
  · have e2 : (nx.map (SV.int .i64))[k]? = some (.int .i64 nx[k]) := by simp [hlt]
    have ht := List.take_succ_eq_append_getElem hlt
    by_cases hout : nx[k] < 0 ∨ (n : Int) ≤ nx[k]
    · have X := And.intro X (And.intro hnxm e2)
      (refine run ?_; repeat' (first | with_reducible exact trivial | ((with_reducible apply Fork.mk) <;> intro hb) | with_reducible apply Two.mk))
      all_goals first
        | (exfalso; revert hb; simp; done)
        | (refine hK3 _ _ (k + 1) (by omega) (by omega) ?_
           rw [ht, nextW_snoc, if_pos (by rw [hRl1, hcn]; exact hout)]
           exact Wk.sub (by simp [subEnv, look]))
    · have hq : ∃ q : Nat, nx[k] = q ∧ q < n := ⟨nx[k].toNat, by omega, by omega⟩
      obtain ⟨q, hq1, hq2⟩ := hq
      rw [hq1] at e2
      have hrq := rowsL_get R1 q (by omega)
      have hql := hRD1.len_le q
      have hqn : ∀ s ∈ R1.getD q [], okW w s = true → NeedP code j s := fun s hs h => hneed s (by rw [hnm]; exact .inl ⟨q, by omega, by rw [← hq1]; exact List.getElem_mem hlt, hs, h⟩)
      have hstart : ∀ s ∈ nextW w R1 (nx.take k), NeedP code j s := fun s hs => hneed s (by
        rw [hnm]; rw [nextW_mem] at hs
        obtain ⟨q', a1, a2, a3⟩ := hs
        exact .inl ⟨q', a1, List.mem_of_mem_take a2, a3⟩)
      have hstartl := nextW_lt w R1 (nx.take k)
      have hnext : nextW w R1 (nx.take (k + 1)) = layW w (R1.getD q []) (nextW w R1 (nx.take k)) := by
        rw [ht, nextW_snoc, if_neg (by rw [hRl1, hcn]; exact hout), hq1, Int.toNat_natCast]
      generalize nextW w R1 (nx.take k) = L0 at hstart hstartl hnext ⊢
      generalize R1.getD q [] = r at hrq hql hqn hnext
      have hrm : (r.map (SV.int .i64)).length = r.length := by simp
      have X := And.intro X (And.intro hnxm (And.intro e2 (And.intro hrq (And.intro hrm hq2))))
      (refine run ?_; repeat' (first | with_reducible exact trivial | ((with_reducible apply Fork.mk) <;> intro hb) | with_reducible apply Two.mk))
      clear X
      refine go_loop (fun a : Nat => [(1, .ptr H.length 0 0 0), (3, .int .i64 n), (4, .sl (H.length + 1) 0 0 n), (5, .bool ch), (6, .int .i64 j), (7, .list 1 ((layW w (r.take a) L0).map (.int .i64))), (8, .list 1 (nx.map (.int .i64))), (10, .bool (decide (0 ≤ w))), (11, .int .i64 k), (12, .list 1 (r.map (.int .i64))), (13, .int .i64 a)]) (fun _ => H ++ [.cells 0 7 [.agg fc], .cells 0 1 (rowsL R1)]) (fun a => r.length - a) (fun a => a ≤ r.length) 0 (Nat.zero_le _) (Wk.sub (by simp [subEnv, look, layW_nil])) ?_
      rintro K4 a ha hK4
      rcases Nat.lt_or_ge a r.length with hlt2 | hge2
      · have e3 : (r.map (SV.int .i64))[a]? = some (.int .i64 r[a]) := by simp [hlt2]
        have ht2 := List.take_succ_eq_append_getElem hlt2
        have hll := hsub (layW w (r.take a) L0) (layW_lt _ _ hstartl) fun s hs => by
          rcases (layW_mem _ _ _ _).1 hs with hs | ⟨hs, h⟩
          · exact hstart s hs
          · exact hqn s (List.mem_of_mem_take hs) h
        have c4 := fun H => lay22_ok G hG _ r[a] hll H
        have hnew : layW w (r.take (a + 1)) L0 = if okW w r[a] then layI (layW w (r.take a) L0) r[a] else layW w (r.take a) L0 := by rw [ht2, layW_snoc]
        generalize layW w (r.take a) L0 = L at c4 hnew ⊢
        have X := And.intro X0 (And.intro e1 (And.intro hj (And.intro hrm e3)))
        (refine run ?_; repeat' (first | with_reducible exact trivial | ((with_reducible apply Fork.mk) <;> intro hb) | with_reducible apply Two.mk))
        · refine hK4 _ _ (a + 1) (by omega) (by omega) ?_
          rw [hnew, if_pos (by simp [okW] at hb ⊢; omega)]
          exact Wk.sub (by simp [subEnv, look])
        · refine hK4 _ _ (a + 1) (by omega) (by omega) ?_
          rw [hnew, if_neg (by simp [okW] at hb ⊢; omega)]
          exact Wk.sub (by simp [subEnv, look])
      · have : a = r.length := by omega
        subst this
        clear hK4
        rw [List.take_length, ← hnext]
        clear hnext hstart hstartl hqn hql e2 ht hrq hsub hneed hnm
        generalize hL' : nextW w R1 (nx.take (k + 1)) = L'
        have X := And.intro X0 (And.intro hrm (Int.lt_irrefl (r.length : Int)))
        (refine run ?_; repeat' (first | with_reducible exact trivial | ((with_reducible apply Fork.mk) <;> intro hb) | with_reducible apply Two.mk))
        subst hL'
        exact hK3 _ _ (k + 1) (by omega) (by omega) (Wk.sub (by simp [subEnv, look]))
  · have : k = nx.length := by omega
    subst this
    clear hK3
    rw [List.take_length]
    have X := And.intro X hnxm
    (refine run ?_; repeat' (first | with_reducible exact trivial | ((with_reducible apply Fork.mk) <;> intro hb) | with_reducible apply Two.mk))
    clear X
    have hL1 := fun s => nextW_mem w R1 nx s
    have hL1l := nextW_lt w R1 nx
    generalize nextW w R1 nx = L1 at hL1 hL1l hnr ⊢
    refine go_loop (fun a : Nat => [(1, .ptr H.length 0 0 0), (3, .int .i64 n), (4, .sl (H.length + 1) 0 0 n), (5, .bool ch), (6, .int .i64 j), (7, .list 1 (((rd.take a).foldl layI L1).map (.int .i64))), (14, .list 1 (rd.map (.int .i64))), (15, .int .i64 a)]) (fun _ => H ++ [.cells 0 7 [.agg fc], .cells 0 1 (rowsL R1)]) (fun a => rd.length - a) (fun a => a ≤ rd.length) 0 (Nat.zero_le _) (Wk.sub (by simp [subEnv, look])) ?_
    rintro K3 a ha hK3
    have hrm : (rd.map (SV.int .i64)).length = rd.length := by simp
    rcases Nat.lt_or_ge a rd.length with hlt2 | hge2
    · have e3 : (rd.map (SV.int .i64))[a]? = some (.int .i64 rd[a]) := by simp [hlt2]
      have ht2 := List.take_succ_eq_append_getElem hlt2
      have hll := hsub ((rd.take a).foldl layI L1) (folds_lt _ _ hL1l) fun s hs => hneed s (by
        rw [hnm]
        rcases (folds_mem _ _ _).1 hs with hs | hs
        · exact .inl ((hL1 s).1 hs)
        · exact .inr (List.mem_of_mem_take hs))
      have c4 := fun H => lay22_ok G hG _ rd[a] hll H
      have hnew : (rd.take (a + 1)).foldl layI L1 = layI ((rd.take a).foldl layI L1) rd[a] := by rw [ht2, List.foldl_append]; rfl
      generalize (rd.take a).foldl layI L1 = L at c4 hnew ⊢
      have X := And.intro X0 (And.intro hrm e3)
      (refine run ?_; repeat' (first | with_reducible exact trivial | ((with_reducible apply Fork.mk) <;> intro hb) | with_reducible apply Two.mk))
      refine hK3 _ _ (a + 1) (by omega) (by omega) ?_
      rw [hnew]
      exact Wk.sub (by simp [subEnv, look])
    · have : a = rd.length := by omega
      subst this
      clear hK3
      rw [List.take_length, ← hnr]
      have X := And.intro X0 (And.intro hrm (And.intro hrj (rowsL_set R1 j N)))
      (refine run ?_; repeat' (first | with_reducible exact trivial | ((with_reducible apply Fork.mk) <;> intro hb) | with_reducible apply Two.mk))
      refine hK2 _ _ (j, R1.set j N, ch || decide (N.length ≠ (R1.getD j []).length)) (by simp only; omega) ⟨by simp only; omega, hstep⟩ ?_
      have e5 : decide (¬ (N.length : Int) = ((R1.getD j []).length : Int)) = decide (N.length ≠ (R1.getD j []).length) := decide_eq_decide.2 (by omega)
      rw [← e5]
      exact Wk.sub (by simp [subEnv, look])
end Go.Proofs.YtneklfhahljgnaaDoor
end

section
namespace Go.Proofs.YtneklfhahljgnaaDoor
open Go
set_option linter.unusedSimpArgs false
set_option linter.unusedVariables false
set_option maxRecDepth 10000
set_option maxHeartbeats 4000000

theorem set_same {H : List Blk} {id : Nat} {x : Blk} (h : H[id]? = some x) : H.set id x = H := by
  apply List.ext_getElem?
  intro j
  rw [List.getElem?_set]
  split
  · rename_i e; subst e; rw [if_pos (List.getElem?_eq_some_iff.1 h).1, h]
  · rfl
theorem rmeet_ok (G : Gl) (hG : GClosed G) (id g : Nat) (V : List Sh) (s : Int) (i : Nat) (H : List Blk) (hH : H[id]? = some (.cells g 2 (shL V))) (hl : V.length ≤ 65536) (hi : i < 1048576) :
    ACall Tryd.prog G 30 [.sl id g 0 V.length, .int .i64 s, .int .i64 i] H (fun r H' => H' = H.set id (.cells g 2 (shL (meetS V s i))) ∧ r = resSV []) := by
  have hidl := (List.getElem?_eq_some_iff.1 hH).1
  have hVl := shL_len V
  by_cases hin : 0 ≤ s ∧ s < V.length
  · obtain ⟨t, rfl⟩ := Int.eq_ofNat_of_zero_le hin.1
    have htf : t < V.length := by omega
    have hsp1 : (shL V)[t]? = some (.agg [.int .i64 (V.getD t (0, 0)).1, .int .i64 (V.getD t (0, 0)).2]) := by
      simp only [shL, List.getElem?_map, List.getElem?_eq_getElem htf, Option.map_some]
      rw [List.getD_eq_getElem?_getD, List.getElem?_eq_getElem htf, Option.getD_some]
    have hm : meetS V t i = V.set t (if (V.getD t (0, 0)).1 < 0 then ((i : Int), (i : Int)) else ((V.getD t (0, 0)).1, (i : Int))) := by unfold meetS; rw [if_neg (by omega), Int.toNat_natCast]
    refine ACall.of_go TB [] tabOK _ Tryd.func30 rfl (by decide) Tryd.ntmps30 (by simp) rfl (by simp only [initEnv, Nat.reduceAdd]; rfl) fun C R' hR hC hcl hB => ?_; have X := noX; have hC' := congrArg List.length hC
    have X := And.intro X (And.intro hVl (And.intro (getX hH) (And.intro hsp1 (show decide ((t : Int) < 0) = false by simp))))
    (refine run ?_; repeat' (first | with_reducible exact trivial | ((with_reducible apply Fork.mk) <;> intro hb) | with_reducible apply Two.mk))
    · exact Fin.out hR ⟨by rw [hm, if_pos hb, ← shL_set], rfl⟩
    · exact Fin.out hR ⟨by rw [hm, if_neg hb, ← shL_set], rfl⟩
  · have hm : meetS V s i = V := by unfold meetS; rw [if_pos (by omega)]
    rw [hm, set_same hH]
    refine ACall.of_go TB [] tabOK _ Tryd.func30 rfl (by decide) Tryd.ntmps30 (by simp) rfl (by simp only [initEnv, Nat.reduceAdd]; rfl) fun C R' hR hC hcl hB => ?_; have X := noX; have hC' := congrArg List.length hC
    have X := And.intro X (And.intro hVl (And.intro (getX hH) (show (decide (s < 0) || decide ((V.length : Int) ≤ s)) = true by simp; omega)))
    (refine run ?_; repeat' (first | with_reducible exact trivial | ((with_reducible apply Fork.mk) <;> intro hb) | with_reducible apply Two.mk))
    · exact Fin.out hR ⟨rfl, rfl⟩
    · simp at hb

def fillS (fr a : Nat) : List Sh := List.replicate a (-1, -1) ++ List.replicate (fr - a) (0, 0)
theorem fillS_len {fr a : Nat} (h : a ≤ fr) : (fillS fr a).length = fr := by simp [fillS]; omega
theorem fillS_set {fr a : Nat} (h : a < fr) : (fillS fr a).set a (-1, -1) = fillS fr (a + 1) := by
  unfold fillS
  rw [List.set_append_right _ _ (by simp), List.length_replicate, Nat.sub_self, show fr - a = (fr - (a + 1)) + 1 by omega, List.replicate_succ, List.set_cons_zero, List.replicate_succ' , List.append_assoc]
  rfl
theorem shL_zeros (n : Nat) : shL (List.replicate n (0, 0)) = List.replicate n (.agg [.int .i64 0, .int .i64 0]) := by simp [shL]
theorem rspans_ok (G : Gl) (hG : GClosed G) (f : Fun) (hn : f.code.length < 1048576) (hl : ∀ i ∈ f.code, i.l.length ≤ 1048576) (hr : (f.code.flatMap rdS).length ≤ 4194304) (H : List Blk) :
    ACall Tryd.prog G 13 [.agg f.cells] H (fun r H' => H' = H ∧ (((f.frame < 1 ∨ 65536 < f.frame) ∧ r = .list 2 []) ∨ (¬ (f.frame < 1 ∨ 65536 < f.frame) ∧ ∃ rows, Rows f.code rows ∧ r = .list 2 (shL (spansN f.code rows f.frame.toNat f.code.length))))) := by
  have hb0 := fun H => rbefore_ok G hG f hn hl hr H
  obtain ⟨name, thunk, upd, free, params, frame, code⟩ := f
  simp only [Fun.cells] at hb0 ⊢
  simp only at hn hl hr hb0
  generalize hfc : [SV.str name, .bool thunk, .bool upd, .int .i64 free, .int .i64 params, .int .i64 frame, .list 6 (insL code)] = fc at hb0
  have hfcl : fc.length = 7 := by subst hfc; rfl
  have hfc5 : fc[5]? = some (.int .i64 frame) := by subst hfc; rfl
  have hfc6 : fc[6]? = some (.list 6 (insL code)) := by subst hfc; rfl
  generalize hcn : code.length = n at hn
  refine ACall.of_go TB [] tabOK _ Tryd.func13 rfl (by decide) Tryd.ntmps13 (by simp) rfl (by simp only [initEnv, Nat.reduceAdd]; rfl) fun C R' hR hC hcl hB => ?_; have X := noX; have hC' := congrArg List.length hC
  have X := And.intro X (And.intro hfcl (And.intro hfc5 (And.intro hfc6 hcn)))
  (refine run ?_; repeat' (first | with_reducible exact trivial | ((with_reducible apply Fork.mk) <;> intro hb) | with_reducible apply Two.mk))
  · refine finS hR hC' hcl (y := .list 2 []) (.nil 2) ⟨rfl, .inl ⟨by simpa using hb, rfl⟩⟩
  have hfr : ¬ (frame < 1 ∨ 65536 < frame) := by simpa using hb
  obtain ⟨fr, rfl⟩ := Int.eq_ofNat_of_zero_le (a := frame) (by omega)
  have hfr2 : fr ≤ 65536 := by omega
  have hfu : ∀ n, SV.underL n [SV.agg fc] = true := fun n => by rw [← hfc]; simp only [SV.underL, SV.under, insL_under, Bool.and_self]
  clear hfc hb
  (refine run ?_; repeat' (first | with_reducible exact trivial | ((with_reducible apply Fork.mk) <;> intro hb) | with_reducible apply Two.mk))
  rw [← shL_zeros, show List.replicate fr ((0, 0) : Sh) = fillS fr 0 from rfl]
  refine go_loop (fun a : Nat => [(1, .ptr H.length 0 0 0), (3, .sl (H.length + 1) 0 0 fr), (4, .int .i64 a)]) (fun a => H ++ [.cells 0 7 [.agg fc], .cells 0 2 (shL (fillS fr a))]) (fun a => fr - a) (fun a => a ≤ fr) 0 (Nat.zero_le _) (Wk.sub (by simp [subEnv, look])) ?_
  rintro K a ha hK
  have hfl := shL_len (fillS fr a)
  rw [fillS_len ha] at hfl
  rcases Nat.lt_or_ge a fr with hlt | hge
  · have hfs : (shL (fillS fr a)).set a (.agg [.int .i64 (-1), .int .i64 (-1)]) = shL (fillS fr (a + 1)) := by
      rw [shL_set _ _ ((-1, -1) : Sh), fillS_set hlt]
    have hfg : (shL (fillS fr a))[a]? = some (.agg [.int .i64 0, .int .i64 0]) := by
      rw [shL_get]
      unfold fillS
      rw [List.getElem?_append_right (by simp), List.length_replicate, Nat.sub_self, List.getElem?_replicate, if_pos (by omega)]
      rfl
    have X := And.intro X (And.intro hfl (And.intro hfs (And.intro (fillS_len ha) hfg)))
    (refine run ?_; repeat' (first | with_reducible exact trivial | ((with_reducible apply Fork.mk) <;> intro hb) | with_reducible apply Two.mk))
    exact hK _ _ (a + 1) (by omega) (by omega) (Wk.sub (by simp [subEnv, look]))
  have : a = fr := by omega
  subst this
  clear hK
  have hsl0 : fillS a a = spansN code [] a 0 := by simp [fillS, spansN]
  have X := And.intro X hfl
  (refine run ?_; repeat' (first | with_reducible exact trivial | ((with_reducible apply Fork.mk) <;> intro hb) | with_reducible apply Two.mk))
  refine callS (hb0 _) ?_
  rintro r H' ⟨rows, hrows, rfl, rfl⟩
  have hrl : rows.length = n := by rw [hrows.1, hcn]
  (refine run ?_; repeat' (first | with_reducible exact trivial | ((with_reducible apply Fork.mk) <;> intro hb) | with_reducible apply Two.mk))
  rw [show fillS a a = spansN code rows a 0 from hsl0]
  clear X
  have X := And.intro noX (And.intro hfcl (And.intro hfc6 (And.intro hcn (And.intro (rowsL_len rows) hrl))))
  refine go_loop (fun i : Nat => [(1, .ptr H.length 0 0 0), (3, .sl (H.length + 1) 0 0 a), (5, .list 1 (rowsL rows)), (6, .int .i64 i)]) (fun i => H ++ [.cells 0 7 [.agg fc], .cells 0 2 (shL (spansN code rows a i))]) (fun i => n - i) (fun i => i ≤ n) 0 (Nat.zero_le _) (Wk.sub (by simp [subEnv, look])) ?_
  rintro K i hi hK
  have hsl := spansN_len code rows a i
  rcases Nat.lt_or_ge i n with hlt | hge
  · have hlt' : i < code.length := by omega
    have e1 : (insL code)[i]? = some (.agg (code[i]).cells) := by simp [insL, hlt']
    have er := rowsL_get rows i (by omega)
    have c1 := fun H => rwrites_ok G hG code[i] H
    have hsx := spansN_succ code rows a i
    have hwn := wrN_eq hlt'
    have hrl2 : (rows.getD i []).length ≤ 4194304 := by
      rw [List.getD_eq_getElem?_getD, List.getElem?_eq_getElem (by omega)]; exact Nat.le_trans (rows_len hrows (by omega)) hr
    rw [hwn] at hsx
    generalize rows.getD i [] = row at er hsx hrl2
    generalize code[i] = x at e1 c1 hsx
    obtain ⟨op, xa, xb, xc, xn, xl⟩ := x
    simp only [Ins.cells] at e1 c1
    generalize wrS ⟨op, xa, xb, xc, xn, xl⟩ = w at c1 hsx
    generalize spansN code rows a i = V0 at hsl hsx ⊢
    have hrm : (row.map (SV.int .i64)).length = row.length := by simp
    have hcall : ∀ (V : List Sh) (s : Int), V.length = a → ACall Tryd.prog G 30 [.sl (H.length + 1) 0 0 a, .int .i64 s, .int .i64 i] (H ++ [.cells 0 7 [.agg fc], .cells 0 2 (shL V)]) (fun r H' => H' = (H ++ [.cells 0 7 [.agg fc], .cells 0 2 (shL (meetS V s i))]) ∧ r = resSV []) := fun V s hV => by
      have := rmeet_ok G hG (H.length + 1) 0 V s i (H ++ [.cells 0 7 [.agg fc], .cells 0 2 (shL V)]) (by simp) (by omega) (by omega)
      rw [hV] at this
      simpa using this
    have X0 := And.intro X (And.intro hrm (And.intro e1 er))
    clear X
    have X := X0
    (refine run ?_; repeat' (first | with_reducible exact trivial | ((with_reducible apply Fork.mk) <;> intro hb) | with_reducible apply Two.mk))
    refine go_loop (fun k : Nat => [(1, .ptr H.length 0 0 0), (3, .sl (H.length + 1) 0 0 a), (5, .list 1 (rowsL rows)), (6, .int .i64 i), (7, .int .i64 k)]) (fun k => H ++ [.cells 0 7 [.agg fc], .cells 0 2 (shL (meets V0 (row.take k) i))]) (fun k => row.length - k) (fun k => k ≤ row.length) 0 (Nat.zero_le _) (Wk.sub (by simp [subEnv, look])) ?_
    rintro K2 k hk hK2
    have hVl := meets_len (row.take k) V0 i
    rw [hsl] at hVl
    rcases Nat.lt_or_ge k row.length with hlt2 | hge2
    · have ht := List.take_succ_eq_append_getElem hlt2
      have hms : meets V0 (row.take (k + 1)) i = meetS (meets V0 (row.take k) i) row[k] i := by unfold meets; rw [ht, List.foldl_append]; rfl
      have e2 : (row.map (SV.int .i64))[k]? = some (.int .i64 row[k]) := by simp [hlt2]
      generalize meets V0 (row.take k) i = V at hms hVl ⊢
      clear X
      have X := And.intro X0 e2
      (refine run ?_; repeat' (first | with_reducible exact trivial | ((with_reducible apply Fork.mk) <;> intro hb) | with_reducible apply Two.mk))
      refine callS (hcall V row[k] hVl) ?_
      rintro r H' ⟨rfl, rfl⟩
      (refine run ?_; repeat' (first | with_reducible exact trivial | ((with_reducible apply Fork.mk) <;> intro hb) | with_reducible apply Two.mk))
      refine hK2 _ _ (k + 1) (by omega) (by omega) ?_
      rw [hms]
      exact Wk.sub (by simp [subEnv, look])
    · have : k = row.length := by omega
      subst this
      clear hK2
      rw [List.take_length] at hVl ⊢
      have hms : spansN code rows a (i + 1) = meetS (meets V0 row i) w i := by rw [hsx]; unfold meets; rw [List.foldl_append]; rfl
      generalize meets V0 row i = V at hms hVl ⊢
      (refine run ?_; repeat' (first | with_reducible exact trivial | ((with_reducible apply Fork.mk) <;> intro hb) | with_reducible apply Two.mk))
      refine callS (hcall V w hVl) ?_
      rintro r H' ⟨rfl, rfl⟩
      (refine run ?_; repeat' (first | with_reducible exact trivial | ((with_reducible apply Fork.mk) <;> intro hb) | with_reducible apply Two.mk))
      refine hK _ _ (i + 1) (by omega) (by omega) ?_
      rw [hms]
      exact Wk.sub (by simp [subEnv, look])
  · have : i = n := by omega
    subst this
    clear hK
    have hvl := shL_len (spansN code rows a i)
    rw [spansN_len] at hvl
    have X := And.intro X hvl
    (refine run ?_; repeat' (first | with_reducible exact trivial | ((with_reducible apply Fork.mk) <;> intro hb) | with_reducible apply Two.mk))
    exact finS hR hC' hcl (y := .list 2 (shL (spansN code rows a i))) (Frz.sf (g := 0) (sz := 2) (vals := shL (spansN code rows a i)) (by simp) (by omega) (by simp) (by rw [List.drop_zero, List.take_of_length_le (by rw [hvl]; exact Nat.le_refl _)]) (shL_under _ _)) ⟨rfl, .inr ⟨hfr, rows, hrows, rfl⟩⟩
end Go.Proofs.YtneklfhahljgnaaDoor
end

section
namespace Go.Proofs.YtneklfhahljgnaaDoor
open Go
set_option linter.unusedSimpArgs false
set_option linter.unusedVariables false
set_option maxRecDepth 10000
set_option maxHeartbeats 4000000

theorem ints_ok (G : Gl) (hG : GClosed G) (l : List Int) (hl : l.length < 1125899906842624) (H : List Blk) : ACall Tryd.prog G 14 [.list 1 (l.map (.int .i64)), .list 1 (l.map (.int .i64))] H (fun r H' => H' = H ∧ r = .bool true) := by
  have hll : (l.map (SV.int .i64)).length = l.length := by simp
  refine ACall.of_go TB [] tabOK _ Tryd.func14 rfl (by decide) Tryd.ntmps14 (by simp) rfl (by simp only [initEnv, Nat.reduceAdd]; rfl) fun C R' hR hC hcl hB => ?_; have X := noX; have hC' := congrArg List.length hC
  have X := And.intro X hll
  (refine run ?_; repeat' (first | with_reducible exact trivial | ((with_reducible apply Fork.mk) <;> intro hb) | with_reducible apply Two.mk))
  refine go_loop (fun a : Nat => [(0, .list 1 (l.map (.int .i64))), (1, .list 1 (l.map (.int .i64))), (5, .int .i64 a)]) (fun _ => H) (fun a => l.length - a) (fun a => a ≤ l.length) 0 (Nat.zero_le _) (Wk.sub (by simp [subEnv, look])) ?_
  rintro K a ha hK
  rcases Nat.lt_or_ge a l.length with hlt | hge
  · have e1 : (l.map (SV.int .i64))[a]? = some (.int .i64 l[a]) := by simp [hlt]
    have X := And.intro X e1
    (refine run ?_; repeat' (first | with_reducible exact trivial | ((with_reducible apply Fork.mk) <;> intro hb) | with_reducible apply Two.mk))
    all_goals first
      | exact hK _ _ (a + 1) (by omega) (by omega) (Wk.sub (by simp [subEnv, look]))
      | (exfalso; revert hb; simp; done)
  · have : a = l.length := by omega
    subst this
    clear hK
    have X := And.intro X (Int.lt_irrefl (l.length : Int))
    (refine run ?_; repeat' (first | with_reducible exact trivial | ((with_reducible apply Fork.mk) <;> intro hb) | with_reducible apply Two.mk))
    exact Fin.out hR ⟨rfl, rfl⟩

/-- how many numbers stand in the lists -/
def lstN (code : List Ins) (m : Nat) : Nat := ((code.take m).map (·.l.length)).sum
theorem lstN_succ (code : List Ins) (m : Nat) (h : m < code.length) : lstN code (m + 1) = lstN code m + code[m].l.length := by
  unfold lstN; rw [List.take_succ_eq_append_getElem h, List.map_append, List.sum_append]; simp
def SmallF (f : Fun) : Prop := f.code.length + lstN f.code f.code.length < 3000 ∧ f.frame < 3000
theorem few_ok (G : Gl) (hG : GClosed G) (f : Fun) (hn : f.code.length < 1125899906842624) (hl : ∀ i ∈ f.code, i.l.length < 1125899906842624) (H : List Blk) :
    ACall Tryd.prog G 8 [.agg f.cells] H (fun r H' => ∃ b, H' = H ∧ r = .bool b ∧ (b = true → SmallF f)) := by
  obtain ⟨name, thunk, upd, free, params, frame, code⟩ := f
  simp only [Fun.cells, SmallF]
  simp only at hn hl
  generalize hfc : [SV.str name, .bool thunk, .bool upd, .int .i64 free, .int .i64 params, .int .i64 frame, .list 6 (insL code)] = fc
  have hfcl : fc.length = 7 := by subst hfc; rfl
  have hfc5 : fc[5]? = some (.int .i64 frame) := by subst hfc; rfl
  have hfc6 : fc[6]? = some (.list 6 (insL code)) := by subst hfc; rfl
  clear hfc
  generalize hcn : code.length = n at hn
  refine ACall.of_go TB [] tabOK _ Tryd.func8 rfl (by decide) Tryd.ntmps8 (by simp) rfl (by simp only [initEnv, Nat.reduceAdd]; rfl) fun C R' hR hC hcl hB => ?_; have X := noX; have hC' := congrArg List.length hC
  have X := And.intro X (And.intro hfcl (And.intro hfc5 (And.intro hfc6 hcn)))
  (refine run ?_; repeat' (first | with_reducible exact trivial | ((with_reducible apply Fork.mk) <;> intro hb) | with_reducible apply Two.mk))
  refine go_loop (fun a : Nat => [(1, .ptr H.length 0 0 0), (3, .int .i64 ((n + lstN code a : Nat) : Int)), (4, .int .i64 a)]) (fun _ => H ++ [.cells 0 7 [.agg fc]]) (fun a => n - a) (fun a => a ≤ n ∧ (0 < a → n + lstN code a < 1125899906842624 + 3000)) 0 ⟨Nat.zero_le _, fun h => absurd h (Nat.lt_irrefl _)⟩ (Wk.sub (by simp [subEnv, look, lstN])) ?_
  rintro K a ⟨ha, ha2⟩ hK
  generalize hm : ((n + lstN code a : Nat) : Int) = m
  rcases Nat.lt_or_ge a n with hlt | hge
  · have hlt' : a < code.length := by omega
    have e1 : (insL code)[a]? = some (.agg (code[a]).cells) := by simp [insL, hlt']
    have hs := lstN_succ code a hlt'
    have hx := hl code[a] (List.getElem_mem hlt')
    generalize code[a] = x at e1 hs hx
    obtain ⟨op, xa, xb, xc, xn, xl⟩ := x
    simp only [Ins.cells] at e1 hs hx
    have hlm : (xl.map (SV.int .i64)).length = xl.length := by simp
    have X := And.intro X (And.intro e1 hlm)
    (refine run ?_; repeat' (first | with_reducible exact trivial | ((with_reducible apply Fork.mk) <;> intro hb) | with_reducible apply Two.mk))
    · simp only [Bool.and_eq_true, decide_eq_true_eq] at hb
      refine hK _ _ (a + 1) (by omega) ⟨by omega, fun _ => by omega⟩ ?_
      rw [wrap_i64 _ (by omega), show m + (xl.length : Int) = ((n + lstN code (a + 1) : Nat) : Int) by omega]
      exact Wk.sub (by simp [subEnv, look])
    · simp only [Bool.and_eq_false_iff, decide_eq_false_iff_not] at hb
      refine finS hR hC' hcl (y := .bool (decide (m < 3000) && decide (frame < 3000))) (.same _ rfl) ⟨_, rfl, rfl, fun h => ?_⟩
      simp only [Bool.and_eq_true, decide_eq_true_eq] at h
      omega
  · have : a = n := by omega
    subst this
    clear hK
    have X := And.intro X (Int.lt_irrefl (a : Int))
    (refine run ?_; repeat' (first | with_reducible exact trivial | ((with_reducible apply Fork.mk) <;> intro hb) | with_reducible apply Two.mk))
    refine finS hR hC' hcl (y := .bool (decide (m < 3000) && decide (frame < 3000))) (.same _ rfl) ⟨_, rfl, rfl, fun h => ?_⟩
    simp only [Bool.and_eq_true, decide_eq_true_eq] at h
    exact ⟨by omega, h.2⟩
theorem small_list {f : Fun} (h : SmallF f) : (∀ i ∈ f.code, i.l.length < 3000) ∧ (f.code.flatMap rdS).length ≤ 4194304 := by
  have key : ∀ l : List Ins, (∀ i ∈ l, i.l.length ≤ (l.map (·.l.length)).sum) ∧ (l.flatMap rdS).length ≤ 3 * l.length + (l.map (·.l.length)).sum := by
    intro l
    induction l with
    | nil => simp
    | cons x r ih =>
      have h1 : (rdS x).length ≤ 1 + 1 + 1 + x.l.length := by
        unfold rdS
        rw [List.length_append, List.length_append, List.length_append]
        refine Nat.add_le_add (Nat.add_le_add (Nat.add_le_add ?_ ?_) ?_) ?_
        · split <;> simp
        · split <;> simp
        · split <;> simp
        · split <;> simp
      refine ⟨fun i hi => ?_, ?_⟩
      · simp only [List.map_cons, List.sum_cons]
        rcases List.mem_cons.1 hi with e | hi
        · rw [e]; omega
        · have := ih.1 i hi; omega
      · have := ih.2
        simp only [List.flatMap_cons, List.length_append, List.map_cons, List.sum_cons, List.length_cons]
        omega
  obtain ⟨h1, h2⟩ := h
  obtain ⟨k1, k2⟩ := key f.code
  unfold lstN at h1
  rw [List.take_length] at h1
  exact ⟨fun i hi => by have := k1 i hi; omega, by omega⟩
end Go.Proofs.YtneklfhahljgnaaDoor
end

section
namespace Go.Proofs.YtneklfhahljgnaaDoor
open Go
set_option linter.unusedSimpArgs false
set_option linter.unusedVariables false
set_option maxRecDepth 10000
set_option maxHeartbeats 4000000

theorem rowsL_range (R : List (List Int)) : rowsL R = (List.range R.length).map fun j => .list 1 ((R.getD j []).map (.int .i64)) := by
  apply List.ext_getElem?
  intro j
  by_cases h : j < R.length
  · rw [rowsL_get R j h, List.getElem?_map, List.getElem?_range h]; rfl
  · rw [List.getElem?_eq_none (by rw [rowsL_len]; omega), List.getElem?_eq_none (by simp; omega)]
/-- the page's rows, once made, are told as a list of lists -/
theorem frz_rows {Q : List Blk} {n0 : Nat} {ks : Keep} {b : Nat} {R : List (List Int)} (hb : Q[b]? = some (.cells 0 1 ((List.range R.length).map fun j => .sl (b + 1 + j) 0 0 (R.getD j []).length)))
    (hrow : ∀ j (h : j < R.length), Q[b + 1 + j]? = some (.cells 0 1 ((R.getD j []).map (.int .i64)))) (hn : n0 ≤ b) (hk : ∀ p ∈ ks, p.1 < b) : Frz Q n0 ks (.sl b 0 0 R.length) (.list 1 (rowsL R)) := by
  refine .sl b 0 0 R.length 1 _ _ hb hn (fun p hp e => by have := hk p hp; omega) ?_
  rw [List.drop_zero, List.take_of_length_le (by simp), rowsL_range]
  refine FrzL.map fun j hj => ?_
  rw [List.mem_range] at hj
  exact Frz.sf (hrow j hj) (by omega) (fun p hp e => by have := hk p hp; omega) (by rw [List.drop_zero, List.take_of_length_le (by simp)]) (ints_under _ _)

theorem liveNeeds_ok (G : Gl) (hG : GClosed G) (hF : GF G) (f : Fun) (hn : f.code.length < 1125899906842624) (hl : ∀ i ∈ f.code, i.l.length < 1125899906842624) (H : List Blk) :
    ACall Tryd.prog G 3 [.agg f.cells] H (fun r H' => H' = H ∧ r = .bool true) := by
  have k1 := fun H => few_ok G hG f hn hl H
  have k2 := fun (h : SmallF f) H => before_ok G hG hF f (by have := h.1; omega) (fun i hi => by have := (small_list h).1 i hi; omega) (small_list h).2 H
  have k3 := fun (h : SmallF f) H => rbefore_ok G hG f (by have := h.1; omega) (fun i hi => by have := (small_list h).1 i hi; omega) (small_list h).2 H
  have k4 := fun (h : SmallF f) H => spans_ok G hG hF f (by have := h.1; omega) (fun i hi => by have := (small_list h).1 i hi; omega) (small_list h).2 H
  have k5 := fun (h : SmallF f) H => rspans_ok G hG f (by have := h.1; omega) (fun i hi => by have := (small_list h).1 i hi; omega) (small_list h).2 H
  have c1 := fun H => awake_ok G hG hF H
  have hfcu : ∀ n, SV.underL n f.cells = true := fun n => Fun.cells_under n f
  have hfcl : f.cells.length = 7 := rfl
  have hfcu2 : ∀ n, SV.underL n [SV.agg f.cells] = true := fun n => by simp only [SV.underL, SV.under, hfcu, Bool.and_self]
  generalize hfc : f.cells = fc at k1 k2 k3 k4 k5 hfcu hfcu2 hfcl
  clear hfc
  refine ACall.of_go TB [] tabOK _ Tryd.func3 rfl (by decide) Tryd.ntmps3 (by simp) rfl (by simp only [initEnv, Nat.reduceAdd]; rfl) fun C R' hR hC hcl hB => ?_; have X := noX; have hC' := congrArg List.length hC
  have X := And.intro X hfcl
  (refine run ?_; repeat' (first | with_reducible exact trivial | ((with_reducible apply Fork.mk) <;> intro hb) | with_reducible apply Two.mk))
  refine callS (k1 _) ?_
  rintro r H' ⟨b, rfl, rfl, hsm⟩
  cases b with
  | false =>
    (refine run ?_; repeat' (first | with_reducible exact trivial | ((with_reducible apply Fork.mk) <;> intro hb) | with_reducible apply Two.mk))
    exact finS hR hC' hcl (y := .bool true) (.same _ rfl) ⟨rfl, rfl⟩
  | true =>
  have hsm := hsm rfl
  have k2 := k2 hsm; have k3 := k3 hsm; have k4 := k4 hsm; have k5 := k5 hsm
  (refine run ?_; repeat' (first | with_reducible exact trivial | ((with_reducible apply Fork.mk) <;> intro hb) | with_reducible apply Two.mk))
  refine callS (k2 _) ?_
  rintro r H' ⟨rows, hrows, rfl, rfl⟩
  have hrl := hrows.1
  have hrs : rows.length < 3000 := by have := hsm.1; omega
  have hlen1 : (H ++ [Blk.cells 0 7 [.agg fc]]).length = H.length + 1 := by simp
  rw [hlen1, List.append_assoc]
  clear hlen1
  simp only [List.cons_append, List.nil_append]
  generalize hX : (Blk.cells 0 7 [SV.agg fc] :: Blk.cells 0 1 ((List.range rows.length).map fun j => SV.sl (H.length + 1 + 1 + j) 0 0 (rows.getD j []).length) :: rows.map fun r => Blk.cells 0 1 (r.map (SV.int .i64))) = XX
  have q0 : (H ++ XX)[H.length]? = some (.cells 0 7 [.agg fc]) := by rw [← hX]; simp
  have q1 : (H ++ XX)[H.length + 1]? = some (.cells 0 1 ((List.range rows.length).map fun j => SV.sl (H.length + 1 + 1 + j) 0 0 (rows.getD j []).length)) := by rw [← hX]; simp
  have q2 : ∀ j (h : j < rows.length), (H ++ XX)[H.length + 1 + 1 + j]? = some (.cells 0 1 ((rows.getD j []).map (.int .i64))) := fun j h => by
    rw [← hX, List.getElem?_append_right (by omega), show H.length + 1 + 1 + j - H.length = j + 2 by omega]
    simp [h]
  refine go_wkO [(1, .ptr H.length 0 0 0), (14, .list 1 (rowsL rows))] (H ++ [.cells 0 7 [.agg fc]]) (wkS (n0 := H.length) [(H.length, 0)] hG hB hC' hcl (hk := .c (g := 0) (sz := 7) (vals := [.agg fc]) q0 (Nat.le_refl _) (Nat.zero_le _) (FrzL.same (hfcu2 _)) .nil)
    (he := ⟨⟨_, rfl, Frz.kp (i := 0) (d := 0) rfl q0 (Nat.le_refl _) rfl rfl⟩, ⟨_, rfl, frz_rows q1 q2 (by omega) (by simp)⟩, trivial⟩)) ?_
  clear q0 q1 q2 hX
  clear XX
  have hrll := rowsL_len rows
  have X := And.intro X hrll
  (refine run ?_; repeat' (first | with_reducible exact trivial | ((with_reducible apply Fork.mk) <;> intro hb) | with_reducible apply Two.mk))
  refine callS (k3 _) ?_
  rintro r H' ⟨rows2, hrows2, rfl, rfl⟩
  obtain rfl := rows_uniq hrows hrows2
  (refine run ?_; repeat' (first | with_reducible exact trivial | ((with_reducible apply Fork.mk) <;> intro hb) | with_reducible apply Two.mk))
  refine callS (k4 _) ?_
  rintro r H' ⟨rfl, hr4⟩
  (refine run ?_; repeat' (first | with_reducible exact trivial | ((with_reducible apply Fork.mk) <;> intro hb) | with_reducible apply Two.mk))
  refine callS (k5 _) ?_
  rintro r' H' ⟨rfl, hr5⟩
  have hrr : ∃ S : List Sh, S.length < 3000 ∧ r = .list 2 (shL S) ∧ r' = .list 2 (shL S) := by
    rcases hr4 with ⟨h1, rfl⟩ | ⟨h1, ra, ha, rfl⟩ <;> rcases hr5 with ⟨h2, rfl⟩ | ⟨h2, rb, hb, rfl⟩
    · exact ⟨[], by simp, rfl, rfl⟩
    · exact absurd h1 h2
    · exact absurd h2 h1
    · obtain rfl := rows_uniq ha hb
      refine ⟨_, ?_, rfl, rfl⟩
      rw [spansN_len]; have := hsm.2; omega
  obtain ⟨S, hS, rfl, rfl⟩ := hrr
  have hSl := shL_len S
  have hl1 := Int.lt_irrefl (rows.length : Int)
  have X0 := And.intro X (And.intro hSl hrll)
  clear X
  have X := X0
  have hrb : ∀ j, (rows.getD j []).length < 1125899906842624 := fun j => by
    rw [List.getD_eq_getElem?_getD]
    by_cases h : j < rows.length
    · rw [List.getElem?_eq_getElem h]; have := rows_len hrows h; have := (small_list hsm).2; simp only [Option.getD_some]; omega
    · rw [List.getElem?_eq_none (by omega)]; simp
  clear k1 k2 k3 k4 k5 hr4 hr5 hrows hsm
  (refine run ?_; repeat' (first | with_reducible exact trivial | ((with_reducible apply Fork.mk) <;> intro hb) | with_reducible apply Two.mk))
  refine go_loop (fun a : Nat => [(3, .list 1 (rowsL rows)), (4, .list 1 (rowsL rows)), (5, .list 2 (shL S)), (6, .list 2 (shL S)), (7, .int .i64 a)]) (fun _ => H ++ [.cells 0 7 [.agg fc]]) (fun a => rows.length - a) (fun a => a ≤ rows.length) 0 (Nat.zero_le _) (Wk.sub (by simp [subEnv, look])) ?_
  rintro K a ha hK
  rcases Nat.lt_or_ge a rows.length with hlt | hge
  · have e1 := rowsL_get rows a hlt
    have c2 := fun H => ints_ok G hG (rows.getD a []) (hrb a) H
    generalize rows.getD a [] = row at e1 c2
    have X := And.intro X e1
    (refine run ?_; repeat' (first | with_reducible exact trivial | ((with_reducible apply Fork.mk) <;> intro hb) | with_reducible apply Two.mk))
    all_goals first
      | exact hK _ _ (a + 1) (by omega) (by omega) (Wk.sub (by simp [subEnv, look]))
      | (exfalso; revert hb; simp; done)
  · have : a = rows.length := by omega
    subst this
    clear hK
    have X := And.intro X (Int.lt_irrefl (rows.length : Int))
    (refine run ?_; repeat' (first | with_reducible exact trivial | ((with_reducible apply Fork.mk) <;> intro hb) | with_reducible apply Two.mk))
    refine go_loop (fun a : Nat => [(5, .list 2 (shL S)), (6, .list 2 (shL S)), (8, .int .i64 a)]) (fun _ => H ++ [.cells 0 7 [.agg fc]]) (fun a => S.length - a) (fun a => a ≤ S.length) 0 (Nat.zero_le _) (Wk.sub (by simp [subEnv, look])) ?_
    rintro K a ha hK
    rcases Nat.lt_or_ge a S.length with hlt | hge
    · have e1 : (shL S)[a]? = some (.agg [.int .i64 S[a].1, .int .i64 S[a].2]) := by rw [shL_get]; simp [hlt]
      have X := And.intro X0 e1
      (refine run ?_; repeat' (first | with_reducible exact trivial | ((with_reducible apply Fork.mk) <;> intro hb) | with_reducible apply Two.mk))
      all_goals first
        | exact hK _ _ (a + 1) (by omega) (by omega) (Wk.sub (by simp [subEnv, look]))
        | (exfalso; revert hb; simp; done)
    · have : a = S.length := by omega
      subst this
      clear hK
      have X := And.intro X0 (Int.lt_irrefl (S.length : Int))
      (refine run ?_; repeat' (first | with_reducible exact trivial | ((with_reducible apply Fork.mk) <;> intro hb) | with_reducible apply Two.mk))
      exact finS hR hC' hcl (y := .bool true) (.same _ rfl) ⟨rfl, rfl⟩
end Go.Proofs.YtneklfhahljgnaaDoor
end

section
namespace Go.Proofs.YtneklfhahljgnaaDoor
open Go Go.ChangeShapes Go.WideShapes Go.RowKit
set_option linter.unusedVariables false

/-- the laid table among what the walks may lean on -/
def Gf : Gl := ⟨[(0, fieldsV)], none⟩
theorem gclosedF : GClosed Gf := by
  intro p hp
  rcases List.mem_cons.1 hp with rfl | hp
  · exact ints_under _ _
  · cases hp
theorem gF : GF Gf := rfl
theorem own : ownKnob Tryd.prog.godebug = none := by kernel_rfl
theorem laid : laidOutB Tryd.prog = true := by kernel_rfl
theorem gTab : Tryd.prog.globalNamed "teasel/code.fields" = some 0 := by kernel_rfl
theorem gTabType : (Tryd.prog.globals[0]?).map (·.type) = some 104 := by kernel_rfl
theorem cellsT : Tryd.prog.cellsOf 104 = 27 := by kernel_rfl
theorem cells3 : Tryd.prog.cellsOf 3 = 1 := by kernel_rfl
theorem table {W : World} (h : laidMetH Tryd.prog [("teasel/code.fields", Rows.laid_teasel_code_fields)] W) : Lib.TabIs Tryd.prog W "teasel/code.fields" .i64 fieldsL :=
  Lib.tabIs_of_head (rest := []) gTab gTabType Tryd.underlying104 Tryd.underlying3 cells3 cellsT h
theorem ints_rep {c : Cx} : ∀ (l : List Int), (∀ n ∈ l, IntKind.i64.min ≤ n ∧ n ≤ IntKind.i64.max) → RepL c (l.map (.int .i64)) (l.map fun n => Value.int .i64 n)
  | [], _ => RepL.mk_nil
  | n :: l, h => RepL.mk_cons (by simp only [Rep]; exact ⟨trivial, h n (by simp)⟩) (ints_rep l fun m hm => h m (by simp [hm]))
theorem gok {W : World} (h : laidMetH Tryd.prog [("teasel/code.fields", Rows.laid_teasel_code_fields)] W) : GOK Gf (rdC W) := by
  refine ⟨fun p hp => ?_, fun C0 h0 => by cases h0⟩
  rcases List.mem_cons.1 hp with rfl | hp
  · have ht : ∀ i, i < 27 → W.cell? ⟨0, i, none⟩ = some (.int .i64 (fieldsL.getD i 0)) := fun i hi => (table h).cell gTab i hi
    have h0 := ht 0 (by omega)
    have hsz : 0 < W.heap.size := by
      have : W.heap[0]? ≠ none := fun e => by simp [World.cell?, e] at h0
      simp only [ne_eq, Array.getElem?_eq_none_iff] at this; omega
    simp only [Rep]
    refine ⟨0, 0, .agg (fieldsL.map fun n => Value.int .i64 n).toArray, rfl, ⟨_, ints_rep fieldsL (by decide), ?_, rfl⟩, ?_, ?_, rdC_imm hsz⟩
    · intro u hu; obtain ⟨n, _, rfl⟩ := List.mem_map.1 hu; rfl
    · intro v hv
      obtain ⟨n, _, rfl⟩ := List.mem_map.1 (show v ∈ fieldsL.map fun n => Value.int .i64 n by simpa [Value.cells] using hv)
      rfl
    · intro j v hv
      have hv2 : (fieldsL.map fun n => Value.int .i64 n)[j]? = some v := by simpa [Value.cells] using hv
      rw [List.getElem?_map, Option.map_eq_some_iff] at hv2
      obtain ⟨n, hn, rfl⟩ := hv2
      have hj := (List.getElem?_eq_some_iff.1 hn).1
      show W.cell? ⟨0, 0 + j, none⟩ = _
      rw [Nat.zero_add, ht j hj, List.getD_eq_getElem?_getD, hn]; rfl
  · cases hp

section
variable {H : Type} {enc : TypeId × Value → H} {W : World} {sp : Nat → Bool}
theorem law_callsG {P : Program} {G : Gl} {f : FuncId} {args : List SV} {vs : List Value} (h : ACall P G f args [] (fun r H' => H' = [] ∧ r = .bool true)) (hg : GOK G (rdC W)) (hv : RepL (rdC W) args vs) {R : World → Prop} (hR : ∀ W', Below W.heap.size W W' → R W') :
    Calls P f vs.toArray W fun e W' => ∃ v, e = .returned v ∧ v = .bool true ∧ R W' := by
  refine (callsIn_wide (n := 0)).1 ((h.2 (rdC W) vs rfl (rdC_ok W) hg hv).mono ?_)
  rintro e w' ⟨v, x, c', rfl, hw, ⟨_, rfl⟩, _, hx, hg⟩
  simp only [Rep] at hx
  exact ⟨v, rfl, hx, hR _ (Grow.below hg hw)⟩
theorem read_int (n : Nat) : Rd enc Tryd.prog W sp n 3 (fun i : Int => [.int .i64 i]) (fun _ => 1) := rd_int (by kernel_rfl) (by kernel_rfl)
theorem read_bool (n : Nat) : Rd enc Tryd.prog W sp n 4 (fun b : Bool => [.bool b]) (fun _ => 1) := rd_bool (by kernel_rfl) (by kernel_rfl)
theorem read_str (n : Nat) : Rd enc Tryd.prog W sp n 9 (fun s : Str => [.str s]) (fun s => s.length + 1) := rd_str (by kernel_rfl) (by kernel_rfl)
theorem read_shift (n : Nat) : Rd enc Tryd.prog W sp n 42 (fun p : Sh => [.int .i64 p.1, .int .i64 p.2]) (fun _ => 2) := by
  intro cs x hx
  obtain ⟨xs, m, rfl, rfl, hl, hlen, hf⟩ := DataW.trod_struct Tryd.underlying42 hx
  obtain ⟨z0, z1, rfl⟩ := len_two (show xs.length = 2 from hlen)
  have hsz : Tryd.prog.cellsOf 42 = 2 := by kernel_rfl
  obtain ⟨y0, a, e0, g0, w0⟩ := field_of hf 0 0 1 (by kernel_rfl) (by kernel_rfl) (read_int m) (by simp)
  obtain ⟨y1, b, e1, g1, w1⟩ := field_of hf 1 1 1 (by kernel_rfl) (by kernel_rfl) (read_int m) (by simp)
  rw [hsz] at hl
  refine ⟨(a, b), ?_, by rw [hsz, hl], ?_⟩
  · have : [SV.int .i64 a, SV.int .i64 b] = [SV.int .i64 a] ++ ([SV.int .i64 b] ++ []) := rfl
    simp only
    rw [this, ← List.drop_zero (l := cs)]
    refine .cut g0 (.cut g1 ?_)
    rw [List.drop_eq_nil_of_le (by omega)]
    exact .nil
  · cases e0; cases e1
    simp only [Rows.uptoBulk, Rows.uptoBulkAll, List.map_cons, List.map_nil]
    omega
theorem read_shifts (n : Nat) : Rd enc Tryd.prog W sp n 35 (fun l : List Sh => [.list 2 (shL l)]) (fun l => 1 + 2 * l.length) := by
  have h := rd_slice (enc := enc) (P := Tryd.prog) (W := W) (sp := sp) (t := 35) (e := 42) true (f := fun p : Sh => [SV.int .i64 p.1, SV.int .i64 p.2]) (wt := fun _ => 2) (n := 2) (N := n) (by kernel_rfl) (by kernel_rfl) (by kernel_rfl) (by omega) (.inl rfl) (fun m _ => read_shift m)
  intro cs x hx
  obtain ⟨a, h1, h2, h3⟩ := h cs x hx
  refine ⟨a, h1, h2, ?_⟩
  have : (a.map fun _ : Sh => 2).sum = 2 * a.length := by
    clear h1 h2 h3
    induction a with
    | nil => rfl
    | cons x l ih => simp only [List.map_cons, List.sum_cons, ih, List.length_cons]; omega
  simp only [this] at h3
  exact h3
end

/-- A WORLD FOR THE WITNESS. -/
noncomputable def laidWorld (os : Os) : World :=
  { World.holding Tryd.prog os ⟨#[], #[], []⟩ with heap := (World.holding Tryd.prog os ⟨#[], #[], []⟩).heap.modify 0 fun
      | .cells _ t frozen => .cells (fieldsL.map fun n => Value.int .i64 n).toArray t frozen
      | o => o }
end Go.Proofs.YtneklfhahljgnaaDoor
end

section
namespace Go.Proofs.YtneklfhahljgnaaDoor
open Go Go.ChangeShapes Go.WideShapes Go.RowKit
set_option linter.unusedVariables false

section
variable {H : Type} {enc : TypeId × Value → H} {W : World} {sp : Nat → Bool}
theorem read_ints (n : Nat) : Rd enc Tryd.prog W sp n 32 (fun l : List Int => [.list 1 (l.map (.int .i64))]) (fun l => 1 + l.length) := by
  have h := rd_slice (enc := enc) (P := Tryd.prog) (W := W) (sp := sp) (t := 32) (e := 3) false (f := fun i : Int => [SV.int .i64 i]) (wt := fun _ => 1) (n := 1) (N := n) (by kernel_rfl) (by kernel_rfl) (by kernel_rfl) (by omega) (.inr rfl) (fun m _ => read_int m)
  intro cs x hx
  obtain ⟨a, h1, h2, h3⟩ := h cs x hx
  refine ⟨a, h1, h2, ?_⟩
  have : (a.map fun _ : Int => 1).sum = a.length := by
    clear h1 h2 h3
    induction a with
    | nil => rfl
    | cons x l ih => simp only [List.map_cons, List.sum_cons, ih, List.length_cons]; omega
  simp only [this] at h3
  exact h3
def insW (i : Ins) : Nat := 6 + i.l.length
theorem ins_cells (i : Ins) : i.cells = [.int .i64 i.op] ++ ([.int .i64 i.a] ++ ([.int .i64 i.b] ++ ([.int .i64 i.c] ++ ([.int .i64 i.n] ++ ([.list 1 (i.l.map (.int .i64))] ++ []))))) := rfl
theorem read_ins (n : Nat) : Rd enc Tryd.prog W sp n 40 Ins.cells insW := by
  intro cs x hx
  obtain ⟨xs, m, rfl, rfl, hl, hlen, hf⟩ := DataW.trod_struct Tryd.underlying40 hx
  obtain ⟨z0, z1, z2, z3, z4, z5, rfl⟩ := len_six (show xs.length = 6 from hlen)
  have hsz : Tryd.prog.cellsOf 40 = 6 := by kernel_rfl
  obtain ⟨y0, a0, e0, g0, w0⟩ := field_of hf 0 0 1 (by kernel_rfl) (by kernel_rfl) (read_int m) (by simp)
  obtain ⟨y1, a1, e1, g1, w1⟩ := field_of hf 1 1 1 (by kernel_rfl) (by kernel_rfl) (read_int m) (by simp)
  obtain ⟨y2, a2, e2, g2, w2⟩ := field_of hf 2 2 1 (by kernel_rfl) (by kernel_rfl) (read_int m) (by simp)
  obtain ⟨y3, a3, e3, g3, w3⟩ := field_of hf 3 3 1 (by kernel_rfl) (by kernel_rfl) (read_int m) (by simp)
  obtain ⟨y4, a4, e4, g4, w4⟩ := field_of hf 4 4 1 (by kernel_rfl) (by kernel_rfl) (read_int m) (by simp)
  obtain ⟨y5, a5, e5, g5, w5⟩ := field_of hf 5 5 1 (by kernel_rfl) (by kernel_rfl) (read_ints m) (by simp)
  rw [hsz] at hl
  refine ⟨⟨a0, a1, a2, a3, a4, a5⟩, ?_, by rw [hsz, hl], ?_⟩
  · rw [ins_cells, ← List.drop_zero (l := cs)]
    refine .cut g0 (.cut g1 (.cut g2 (.cut g3 (.cut g4 (.cut g5 ?_)))))
    rw [List.drop_eq_nil_of_le (by omega)]
    exact .nil
  · cases e0; cases e1; cases e2; cases e3; cases e4; cases e5
    simp only [Rows.uptoBulk, Rows.uptoBulkAll, List.map_cons, List.map_nil, insW]
    omega
def funW (f : Fun) : Nat := (f.code.map insW).sum
theorem fun_cells (f : Fun) : f.cells = [.str f.name] ++ ([.bool f.thunk] ++ ([.bool f.upd] ++ ([.int .i64 f.free] ++ ([.int .i64 f.params] ++ ([.int .i64 f.frame] ++ ([.list 6 (f.code.map fun x => bx true x.cells)] ++ [])))))) := rfl
theorem read_fun (n : Nat) : Rd enc Tryd.prog W sp n 24 Fun.cells funW := by
  intro cs x hx
  obtain ⟨xs, m, rfl, rfl, hl, hlen, hf⟩ := DataW.trod_struct Tryd.underlying24 hx
  obtain ⟨z0, z1, z2, z3, z4, z5, z6, rfl⟩ := len_seven (show xs.length = 7 from hlen)
  have hsz : Tryd.prog.cellsOf 24 = 7 := by kernel_rfl
  obtain ⟨y0, a0, e0, g0, w0⟩ := field_of hf 0 0 1 (by kernel_rfl) (by kernel_rfl) (read_str m) (by simp)
  obtain ⟨y1, a1, e1, g1, w1⟩ := field_of hf 1 1 1 (by kernel_rfl) (by kernel_rfl) (read_bool m) (by simp)
  obtain ⟨y2, a2, e2, g2, w2⟩ := field_of hf 2 2 1 (by kernel_rfl) (by kernel_rfl) (read_bool m) (by simp)
  obtain ⟨y3, a3, e3, g3, w3⟩ := field_of hf 3 3 1 (by kernel_rfl) (by kernel_rfl) (read_int m) (by simp)
  obtain ⟨y4, a4, e4, g4, w4⟩ := field_of hf 4 4 1 (by kernel_rfl) (by kernel_rfl) (read_int m) (by simp)
  obtain ⟨y5, a5, e5, g5, w5⟩ := field_of hf 5 5 1 (by kernel_rfl) (by kernel_rfl) (read_int m) (by simp)
  obtain ⟨y6, a6, e6, g6, w6⟩ := field_of hf 6 6 1 (by kernel_rfl) (by kernel_rfl) (rd_slice (t := 22) (e := 40) true (by kernel_rfl) (by kernel_rfl) (n := 6) (by kernel_rfl) (by omega) (.inl rfl) (fun m' _ => read_ins m')) (by simp)
  rw [hsz] at hl
  refine ⟨⟨a0, a1, a2, a3, a4, a5, a6⟩, ?_, by rw [hsz, hl], ?_⟩
  · rw [fun_cells, ← List.drop_zero (l := cs)]
    refine .cut g0 (.cut g1 (.cut g2 (.cut g3 (.cut g4 (.cut g5 (.cut g6 ?_))))))
    rw [List.drop_eq_nil_of_le (by omega)]
    exact .nil
  · cases e0; cases e1; cases e2; cases e3; cases e4; cases e5; cases e6
    simp only [Rows.uptoBulk, Rows.uptoBulkAll, List.map_cons, List.map_nil, funW]
    omega
theorem funW_le (f : Fun) : f.code.length ≤ funW f ∧ ∀ i ∈ f.code, i.l.length ≤ funW f := by
  unfold funW
  have hk : ∀ l : List Ins, l.length ≤ (l.map insW).sum := by
    intro l
    induction l with
    | nil => simp
    | cons x r ih => simp only [List.length_cons, List.map_cons, List.sum_cons, insW] at ih ⊢; omega
  refine ⟨hk _, fun i hi => ?_⟩
  have key : ∀ l : List Ins, i ∈ l → i.l.length ≤ (l.map insW).sum := by
    intro l
    induction l with
    | nil => intro h; cases h
    | cons x r ih =>
      intro h
      simp only [List.map_cons, List.sum_cons, insW]
      rcases List.mem_cons.1 h with e | h
      · rw [e]; omega
      · have := ih h; omega
  exact key _ hi
end
end Go.Proofs.YtneklfhahljgnaaDoor
end

section
namespace Go.Proofs.YtneklfhahljgnaaDoor.liveNeeds
open Go Go.ChangeShapes Go.WideShapes Go.RowKit
set_option linter.unusedVariables false

set_option maxRecDepth 100000 in
theorem contract (H : Type) (enc : TypeId × Value → H) (W : World) (base : Nat) (args : Array Value) (ds gs : List (DataW H)) (before : List MemPlace)
    (hval : ∀ (j : Nat) t v, Tryd.f3.params[j]? = some t → args[j]? = some v → Value.okWide Tryd.prog W .any base t v)
    (hW : DataW.Whole enc Tryd.prog Tryd.f3.params.toList Rows.liveNeedsSpec.vars false W args.toList ds gs before) (hL : laidMetH Tryd.prog Rows.liveNeedsUptoRow.laid W) (hk : Rows.uptoSmall H (ds ++ gs) = true) :
    Calls Tryd.prog 3 args W fun e W' => ∃ v, e = .returned v ∧ Rows.liveNeedsSpec.post enc Tryd.prog Tryd.f3 false true false false W args v W' := by
  have hW' := hW
  obtain ⟨p, q, hA0, hV, rfl, hfz, hnd⟩ := hW
  have hA : DataW.TrodAll enc Tryd.prog W 0 (fun _ => true) true Tryd.f3.params.toList args.toList ds p := hA0
  rw [Tryd.params3] at hA hval
  obtain ⟨v0, vs0, d0, ds0, p0, q0, hargs, rfl, rfl, h0, r0⟩ := trodAll_cons hA
  obtain ⟨rfl, rfl, rfl⟩ := trodAll_nil r0
  obtain rfl : args = #[v0] := by cases args; simp_all
  obtain ⟨rfl, rfl⟩ := trodVars_none hV
  obtain ⟨cs, rfl, _⟩ := okWide_struct Tryd.underlying24 (hval 0 24 v0 (by simp) (by simp))
  obtain ⟨fuel, hf⟩ := h0
  obtain ⟨f, hf2, _, hw⟩ := read_fun fuel _ _ hf
  have hb : funW f ≤ 1048576 := by
    simp only [Rows.uptoSmall, decide_eq_true_eq, List.append_nil, Rows.uptoBulkAll] at hk
    simp only at hw
    omega
  obtain ⟨k1, k2⟩ := funW_le f
  refine (law_callsG (args := [.agg f.cells]) (vs := [.agg cs]) (liveNeeds_ok Gf gclosedF gF f (by omega) (fun i hi => by have := k2 i hi; omega) []) (gok hL) ?_ (fun W' => law_post laid rfl hW' ?_ rfl (by kernel_rfl) rfl rfl rfl)).mono ?_
  · refine RepL.mk_cons ?_ RepL.mk_nil
    simp only [Rep]
    exact ⟨cs.toList, hf2.1, hf2.2, rfl⟩
  · intro t ht
    rw [Tryd.params3] at ht
    simp only [List.mem_cons, List.not_mem_nil, or_false] at ht
    rcases ht with rfl
    exact ⟨by kernel_rfl, of_decide_eq_true (by kernel_rfl)⟩
  · rintro _ W' ⟨v, rfl, rfl, hp⟩
    exact ⟨_, rfl, hp⟩

theorem laid_met (os : Os) : laidMet Tryd.prog Rows.liveNeedsUptoRow.laid ((laidWorld os).forCall (fun _ _ => 0) ⟨#[], #[Value.agg #[.string ⟨⟨[]⟩⟩, .bool false, .bool false, .int .i64 0, .int .i64 0, .int .i64 0, .slice none 0 0]], []⟩).memory :=
  laidMet_of_run' 8 (by kernel_rfl) (by kernel_rfl)
theorem reads (os : Os) {H : Type} (enc : TypeId × Value → H) : ∃ places, DataW.whole enc Tryd.prog ((laidWorld os).forCall (fun _ _ => 0) ⟨#[], #[Value.agg #[.string ⟨⟨[]⟩⟩, .bool false, .bool false, .int .i64 0, .int .i64 0, .int .i64 0, .slice none 0 0]], []⟩).memory Tryd.f3.params.toList Rows.liveNeedsSpec.vars false #[Value.agg #[.string ⟨⟨[]⟩⟩, .bool false, .bool false, .int .i64 0, .int .i64 0, .int .i64 0, .slice none 0 0]].toList 8 = some ([.agg [.lit (.string []), .lit (.bool false), .lit (.bool false), .lit (.int .i64 0), .lit (.int .i64 0), .lit (.int .i64 0), .nil]], [], places) :=
  ⟨[], by kernel_rfl⟩
set_option maxRecDepth 100000 in
theorem lifted (os : Os) (started : os.Started) (H : Type) (enc : TypeId × Value → H) (F : Stop.Interp) :
    ReturnsInHanded {} Tryd.checked os 3 .any ((Rows.OpenSpec.upto Rows.liveNeedsSpec).preRow enc Tryd.prog Tryd.f3 Rows.liveNeedsUptoRow.domain false Rows.liveNeedsUptoRow.laid) (((Rows.OpenSpec.upto Rows.liveNeedsSpec).at F).post enc Tryd.prog Tryd.f3 false true false false) := by
  obtain ⟨places, hx⟩ := reads os enc
  refine returnsInHanded_of_row (C := Tryd.checked) (s := Rows.OpenSpec.upto Rows.liveNeedsSpec) own started (by kernel_rfl) Tryd.func3
    (witness_row_at (enc := enc) (C := Tryd.checked) false (laidWorld os) #[Value.agg #[.string ⟨⟨[]⟩⟩, .bool false, .bool false, .int .i64 0, .int .i64 0, .int .i64 0, .slice none 0 0]] rfl (by kernel_rfl) (by kernel_rfl) (by kernel_rfl)
      (OpenSpec.preRow_of_cond 8 hx (by kernel_rfl) (fun k hk => by cases hk; kernel_rfl) (by kernel_rfl) (laid_met os))) ?_
  intro W base args ds gs before hval hW _ hcond _ hL _ _
  exact contract H enc W base args ds gs before hval hW hL (hcond _ rfl)
theorem said : Rows.LiveNeedsUptoSaid :=
  OpenClaim.holds_of_cond 3 Tryd.f3 rfl rfl rfl rfl rfl rfl rfl ⟨rfl, rfl, rfl, rfl, rfl⟩ rfl rfl rfl rfl rfl (by kernel_rfl) Tryd.func3 (by kernel_rfl)
    (of_decide_eq_true (by kernel_rfl)) (by unfold Func.isWrapper; first | (rw [if_pos (by decide +kernel)]; kernel_rfl) | (rw [if_neg (by decide +kernel)]; exact ⟨rfl, rfl⟩))
    (fun os started H enc _ F => by rw [OpenClaim.pre_eq_preRow]; exact lifted os started H enc F)
theorem plain (f : FuncId) (fn : Func) (hf : Tryd.pinned.checked.prog.funcNamed "teasel/teasellaw22.LiveNeeds" = some f) (hfn : Tryd.pinned.checked.prog.funcs[f]? = some fn) :
    false = Tryd.pinned.checked.prog.looks [] ∧ ∀ (j : Nat) t, fn.params[j]? = some t → Tryd.pinned.checked.prog.wantsStandIn t = false := by
  obtain rfl : f = 3 := Option.some.inj ((show Tryd.prog.funcNamed "teasel/teasellaw22.LiveNeeds" = some 3 by kernel_rfl).symm.trans hf) |>.symm
  obtain rfl : fn = Tryd.f3 := (Option.some.inj (Tryd.func3.symm.trans hfn)).symm
  refine ⟨by kernel_rfl, fun j t ht => ?_⟩
  rw [Tryd.params3] at ht
  have hm := Array.mem_of_getElem? ht
  obtain rfl : t = 24 := by simpa using hm
  exact (show Tryd.prog.wantsStandIn 24 = false by kernel_rfl)
theorem proved : Rows.LiveNeedsUptoCardSaid :=
  Claim7.holds_tied_plain_at .later [] _ _ _ _ said (fun _ h => by cases h) (by kernel_rfl) (fun _ h => by cases h) liveNeedsUpto_row_tie rfl ⟨rfl, rfl⟩ (by kernel_rfl) rfl plain (by kernel_rfl)
end Go.Proofs.YtneklfhahljgnaaDoor.liveNeeds
end
