/- LiveSpans: a slot is needed, or written, nowhere but within its span, and at both its ends, for all images of bulk at most 1048576; the card that ties the list of fields to the text. -/
import Derived.Test.YtneklfhahljgnaaDoorMi
import Derived.Test.YtneklfhahljgnaaDoorCards
import Derived.Test.YtneklfhahljgnaaDoorTie
import Derived.Deep.DeepHandedRow
import Derived.Lib.LaidTab

section
namespace Go.Proofs.YtneklfhahljgnaaDoor
open Go
set_option linter.unusedSimpArgs false
set_option linter.unusedVariables false

/-! ### what the moves do -/
def stM (m : Int → Int) (p : Sh) : Int → Int := fun x => if x = p.1 then m p.2 else m x
def exM (out : List Sh) : Int → Int := out.foldl stM id
theorem exM_snoc (out : List Sh) (p : Sh) (x : Int) : exM (out ++ [p]) x = if x = p.1 then exM out p.2 else exM out x := by
  unfold exM; rw [List.foldl_append]; rfl
theorem exM_other : ∀ (out : List Sh) (m : Int → Int) (x : Int), (∀ p ∈ out, p.1 ≠ x) → out.foldl stM m x = m x
  | [], m, x, h => rfl
  | p :: out, m, x, h => by
    rw [List.foldl_cons, exM_other out _ x fun q hq => h q (List.mem_cons_of_mem _ hq)]
    unfold stM
    rw [if_neg fun e => h p (List.mem_cons_self ..) e.symm]
theorem run_law (hand : Int) (l : List Sh) (orig : Int → Int) (hl : ∀ s ∈ l, orig s.1 = s.2 ∧ s.1 ≠ hand) : ∀ (f : Nat) (left out : List Sh), WFS left hand → muS left ≤ f → (∀ s ∈ left, exM out s.2 = orig s.1) → (∀ s ∈ l, s.1 ∉ left.map (·.1) → exM out s.1 = s.2) →
    (∀ x ∈ left, x.1 ∈ l.map (·.1)) → (∀ p ∈ out, p.1 = hand ∨ p.1 ∈ l.map (·.1)) →
    (∀ s ∈ l, exM (runS hand f (left, out)) s.1 = s.2) ∧ (∀ p ∈ runS hand f (left, out), p.1 = hand ∨ p.1 ∈ l.map (·.1)) ∧ (runS hand f (left, out)).length + 1 ≤ out.length + muS left
  | 0, left, out, hw, hf, h1, h2, h3, h4 => by
    have h0 : left = [] := by
      cases left with
      | nil => rfl
      | cons s r => simp only [muS, List.length_cons] at hf; omega
    subst h0
    exact ⟨fun s hs => h2 s hs (by simp), h4, by simp [runS, muS]⟩
  | f + 1, left, out, hw, hf, h1, h2, h3, h4 => by
    rw [runS]
    by_cases h0 : left = []
    · subst h0
      rw [if_pos rfl]
      exact ⟨fun s hs => h2 s hs (by simp), h4, by simp [muS]⟩
    rw [if_neg h0]
    cases hfi : left.findIdx? (freeP left) with
    | some i =>
      have hst : stepS hand (left, out) = (left.eraseIdx i, out ++ [left.getD i (0, 0)]) := by simp only [stepS, hfi]
      rw [hst]
      obtain ⟨hi, hfree, _⟩ := List.findIdx?_eq_some_iff_getElem.1 hfi
      have hget : left.getD i (0, 0) = left[i] := by simp [hi]
      rw [hget]
      have hmem : left[i] ∈ left := List.getElem_mem hi
      simp only [freeP, List.all_eq_true, Bool.not_eq_true', decide_eq_false_iff_not] at hfree
      have hmu := mu_erase hfi
      have hother : ∀ x ∈ left.eraseIdx i, x.1 ≠ left[i].1 := by
        intro x hx e
        have e1 : left = left.take i ++ left[i] :: left.drop (i + 1) := by rw [← List.drop_eq_getElem_cons hi, List.take_append_drop]
        have hn := hw.1
        rw [e1, List.map_append, List.map_cons, List.nodup_append] at hn
        rw [List.eraseIdx_eq_take_drop_succ] at hx
        rcases List.mem_append.1 hx with hx | hx
        · exact hn.2.2 _ (List.mem_map.2 ⟨x, hx, rfl⟩) _ (List.mem_cons_self ..) e
        · have := (List.nodup_cons.1 hn.2.1).1
          exact this (List.mem_map.2 ⟨x, hx, e⟩)
      have := run_law hand l orig hl f (left.eraseIdx i) (out ++ [left[i]]) (hw.erase i) (by omega) (fun s hs => ?_) (fun s hs hn => ?_) (fun x hx => h3 x (List.mem_of_mem_eraseIdx hx)) (fun p hp => ?_)
      · refine ⟨this.1, this.2.1, ?_⟩
        have := this.2.2
        rw [List.length_append, List.length_singleton] at this
        omega
      · have hs' := List.mem_of_mem_eraseIdx hs
        rw [exM_snoc, if_neg (hfree s hs')]
        exact h1 s hs'
      · rw [exM_snoc]
        by_cases e : s.1 = left[i].1
        · rw [if_pos e, h1 _ hmem, ← e]; exact (hl s hs).1
        · rw [if_neg e]
          refine h2 s hs fun hm => ?_
          obtain ⟨x, hx, hx2⟩ := List.mem_map.1 hm
          refine hn (List.mem_map.2 ⟨x, ?_, hx2⟩)
          rw [List.mem_eraseIdx_iff_getElem]
          obtain ⟨j, hj, rfl⟩ := List.getElem_of_mem hx
          exact ⟨j, hj, fun e2 => by subst e2; exact e hx2.symm, rfl⟩
      · rcases List.mem_append.1 hp with hp | hp
        · exact h4 p hp
        · rw [List.mem_singleton.1 hp]; exact .inr (h3 _ hmem)
    | none =>
      have hst : stepS hand (left, out) = (left.map (toHand hand (left.headD (0, 0)).1), out ++ [(hand, (left.headD (0, 0)).1)]) := by simp only [stepS, hfi]
      rw [hst]
      have hmu := mu_hand hw h0 hfi
      have hnh := stuck_hand hw hfi
      generalize (left.headD (0, 0)).1 = t at hmu
      have hmt := map_toHand hand t left
      have := run_law hand l orig hl f (left.map (toHand hand t)) (out ++ [(hand, t)]) (hw.hand t) (by omega) (fun s hs => ?_) (fun s hs hn => ?_) (fun x hx => ?_) (fun p hp => ?_)
      · refine ⟨this.1, this.2.1, ?_⟩
        have := this.2.2
        rw [List.length_append, List.length_singleton] at this
        omega
      · obtain ⟨x, hx, rfl⟩ := List.mem_map.1 hs
        rw [exM_snoc, toHand_fst]
        unfold toHand
        by_cases e : x.2 = t
        · rw [if_pos e]
          simp only [if_true]
          rw [← e]; exact h1 x hx
        · rw [if_neg e, if_neg (fun e2 => hnh (List.mem_map.2 ⟨x, hx, e2⟩))]
          exact h1 x hx
      · rw [exM_snoc, if_neg (hl s hs).2]
        rw [hmt] at hn
        exact h2 s hs hn
      · obtain ⟨y, hy, rfl⟩ := List.mem_map.1 hx
        rw [toHand_fst]; exact h3 y hy
      · rcases List.mem_append.1 hp with hp | hp
        · exact h4 p hp
        · rw [List.mem_singleton.1 hp]; exact .inl rfl

theorem nodup_fst {l : List Sh} (h : (l.map (·.1)).Nodup) {s x : Sh} (hs : s ∈ l) (hx : x ∈ l) (e : s.1 = x.1) : s = x := by
  induction l with
  | nil => cases hs
  | cons y r ih =>
    rw [List.map_cons, List.nodup_cons] at h
    rcases List.mem_cons.1 hs with e1 | hs <;> rcases List.mem_cons.1 hx with e2 | hx
    · rw [e1, e2]
    · exact absurd (List.mem_map.2 ⟨x, hx, by rw [← e, e1]⟩) h.1
    · exact absurd (List.mem_map.2 ⟨s, hs, by rw [e, e2]⟩) h.1
    · exact ih h.2 hs hx
def origS (l : List Sh) (x : Int) : Int := match l.find? fun s => decide (s.1 = x) with
  | some s => s.2
  | none => x
theorem origS_eq {l : List Sh} (h : (l.map (·.1)).Nodup) {s : Sh} (hs : s ∈ l) : origS l s.1 = s.2 := by
  unfold origS
  cases hf : l.find? fun x => decide (x.1 = s.1) with
  | none => rw [List.find?_eq_none] at hf; exact absurd (decide_eq_true rfl) (hf s hs)
  | some x =>
    have h1 := List.mem_of_find?_eq_some hf
    have h2 := List.find?_some hf
    rw [nodup_fst h hs h1 (by simpa using (of_decide_eq_true h2).symm)]
theorem sh_law {l : List Sh} {hand : Int} (h : okS l hand = true) : (∀ s ∈ l, exM (shS l hand) s.1 = s.2) ∧ (∀ p ∈ shS l hand, p.1 = hand ∨ p.1 ∈ l.map (·.1)) ∧ (shS l hand).length ≤ 2 * l.length := by
  simp only [okS, Bool.and_eq_true, List.all_eq_true, Bool.not_eq_true', decide_eq_false_iff_not, decide_eq_true_eq] at h
  have hfl : (l.filter keepSh).length ≤ l.length := List.length_filter_le _ _
  have hmu : muS (l.filter keepSh) ≤ 2 * l.length + 1 := by simp only [muS]; split <;> omega
  have hk : ∀ s ∈ l, s ∉ l.filter keepSh → s.1 = s.2 := fun s hs hn => by
    have : keepSh s = false := by
      cases e : keepSh s with
      | false => rfl
      | true => exact absurd (List.mem_filter.2 ⟨hs, e⟩) hn
    simpa [keepSh] using this
  have := run_law hand l (origS l) (fun s hs => ⟨origS_eq h.2 hs, (h.1 s hs).1⟩) (2 * l.length + 2) (l.filter keepSh) []
    ⟨h.2.sublist ((List.filter_sublist).map _), fun s hs => (h.1 s (List.mem_filter.1 hs).1).1⟩ (by omega) (fun s hs => (origS_eq h.2 (List.mem_filter.1 hs).1).symm) (fun s hs hn => hk s hs fun hm => hn (List.mem_map.2 ⟨s, hm, rfl⟩)) (fun x hx => List.mem_map.2 ⟨x, (List.mem_filter.1 hx).1, rfl⟩) (by simp)
  refine ⟨this.1, this.2.1, ?_⟩
  have h3 := this.2.2
  rw [List.length_nil] at h3
  show (runS hand (2 * l.length + 2) (l.filter keepSh, [])).length ≤ _
  omega
theorem sh_other {l : List Sh} {hand : Int} (h : okS l hand = true) {x : Int} (h1 : x ≠ hand) (h2 : x ∉ l.map (·.1)) : exM (shS l hand) x = x := by
  have := (sh_law h).2.1
  exact exM_other _ _ _ fun p hp e => by
    rcases this p hp with e2 | e2
    · exact h1 (e ▸ e2)
    · exact h2 (e ▸ e2)
end Go.Proofs.YtneklfhahljgnaaDoor
end

section
namespace Go.Proofs.YtneklfhahljgnaaDoor
open Go
set_option linter.unusedSimpArgs false
set_option linter.unusedVariables false
set_option maxRecDepth 10000
set_option maxHeartbeats 4000000

theorem okS_err (b : Bool) : (if b = true then (0 : Int) else 1) = if b then 0 else 1 := rfl

theorem liveShifts_ok (G : Gl) (hG : GClosed G) (hF : GF G) (l : List Sh) (hand : Int) (H : List Blk) : ACall Tryd.prog G 4 [.list 2 (shL l), .int .i64 hand] H (fun r H' => H' = H ∧ r = .bool true) := by
  refine ACall.of_go TB [] tabOK _ Tryd.func4 rfl (by decide) Tryd.ntmps4 (by simp) rfl (by simp only [initEnv, Nat.reduceAdd]; rfl) fun C R' hR hC hcl hB => ?_; have X := noX; have hC' := congrArg List.length hC
  have c1 := fun H => awake_ok G hG hF H
  (refine run ?_; repeat' (first | with_reducible exact trivial | ((with_reducible apply Fork.mk) <;> intro hb) | with_reducible apply Two.mk))
  · rw [← List.append_nil H]
    exact finS hR hC' hcl (y := .bool true) (.same _ rfl) ⟨rfl, rfl⟩
  have hfr : Frz (H ++ [.cells 1 2 (shL l)]) H.length [] (.sl H.length 1 0 l.length) (.list 2 (shL l)) := Frz.sf (g := 1) (sz := 2) (vals := shL l) (by simp) (by omega) (by simp) (by rw [List.drop_zero, List.take_of_length_le (by rw [shL_len]; exact Nat.le_refl _)]) (shL_under _ _)
  refine go_wkO [(0, .list 2 (shL l)), (1, .int .i64 hand), (21, .int .i64 hand), (20, .list 2 (shL l)), (5, .list 2 (shL l))] H
    (Wk.tell hG (fun C0 h0 => by have := hB C0 h0; omega) (by omega) hcl ⟨⟨_, rfl, .same _ (by simp only [SV.under, shL_under])⟩, ⟨_, rfl, .same _ rfl⟩, ⟨_, rfl, .same _ rfl⟩, ⟨_, rfl, hfr⟩, ⟨_, rfl, hfr⟩, trivial⟩) ?_
  have hl : l.length < 1048576 := by omega
  have c2 := fun H => shifts_ok G hG l hand hl H
  have c3 := fun H => rshifts_ok G hG l hand hl H
  (refine run ?_; repeat' (first | with_reducible exact trivial | ((with_reducible apply Fork.mk) <;> intro hb) | with_reducible apply Two.mk))
  have hML : (if okS l hand = true then shS l hand else []).length ≤ 600 := by
    split
    · rename_i h; have := (sh_law h).2.2; omega
    · simp
  generalize (if okS l hand = true then shS l hand else []) = M at hML
  generalize (if okS l hand = true then (0 : Int) else 1) = e
  have hMl : (mvL M).length = M.length := by simp [mvL]
  have hll : (shL l).length = l.length := by simp [shL]
  clear hfr c2 c3 X
  have X := And.intro noX (And.intro hMl hll)
  refine go_loop (fun i : Nat => [(0, .list 2 (shL l)), (5, .list 2 (shL l)), (6, .list 6 (mvL M)), (8, .list 6 (mvL M)), (10, .int .i64 i)]) (fun _ => H ++ []) (fun i => M.length - i) (fun i => i ≤ M.length) 0 (Nat.zero_le _) ?_ ?_
  · rw [List.append_nil]; exact Wk.sub (by simp [subEnv, look])
  · intro K i hi hK
    rw [List.append_nil] at hK ⊢
    rcases Nat.lt_or_ge i M.length with hlt | hge
    · have e1 : (mvL M)[i]? = some (.agg [.int .i64 2, .int .i64 M[i].1, .int .i64 M[i].2, .int .i64 0, .int .i64 0, .list 1 []]) := by simp [mvL, hlt]
      have X := And.intro X e1
      (refine run ?_; repeat' (first | with_reducible exact trivial | ((with_reducible apply Fork.mk) <;> intro hb) | with_reducible apply Two.mk))
      exact hK _ _ (i + 1) (by omega) (by omega) (Wk.sub (by simp [subEnv, look]))
    · have : i = M.length := by omega
      subst this
      clear hK
      (refine run ?_; repeat' (first | with_reducible exact trivial | ((with_reducible apply Fork.mk) <;> intro hb) | with_reducible apply Two.mk))
      refine go_loop (fun i : Nat => [(0, .list 2 (shL l)), (5, .list 2 (shL l)), (11, .int .i64 i)]) (fun _ => H ++ []) (fun i => l.length - i) (fun i => i ≤ l.length) 0 (Nat.zero_le _) ?_ ?_
      · rw [List.append_nil]; exact Wk.sub (by simp [subEnv, look])
      · intro K i hi hK
        rw [List.append_nil] at hK ⊢
        rcases Nat.lt_or_ge i l.length with hlt | hge
        · have e1 : (shL l)[i]? = some (.agg [.int .i64 l[i].1, .int .i64 l[i].2]) := by simp [shL, hlt]
          have X := And.intro X e1
          (refine run ?_; repeat' (first | with_reducible exact trivial | ((with_reducible apply Fork.mk) <;> intro hb) | with_reducible apply Two.mk))
          exact hK _ _ (i + 1) (by omega) (by omega) (Wk.sub (by simp [subEnv, look]))
        · have : i = l.length := by omega
          subst this
          clear hK
          have c1 := fun H => awake_ok G hG hF H
          (refine run ?_; repeat' (first | with_reducible exact trivial | ((with_reducible apply Fork.mk) <;> intro hb) | with_reducible apply Two.mk))
          rw [← List.append_nil H]
          exact finS hR hC' hcl (y := .bool true) (.same _ rfl) ⟨rfl, rfl⟩
end Go.Proofs.YtneklfhahljgnaaDoor
end

section
namespace Go.Proofs.YtneklfhahljgnaaDoor
open Go
set_option linter.unusedSimpArgs false
set_option linter.unusedVariables false
set_option maxRecDepth 10000
set_option maxHeartbeats 4000000

theorem rowsL_range (R : List (List Int)) : rowsL R = (List.range R.length).map fun j => .list 1 ((R.getD j []).map (.int .i64)) := by
  apply List.ext_getElem?
  intro j
  by_cases h : j < R.length
  · rw [rowsL_get R j h, List.getElem?_map, List.getElem?_range h]; rfl
  · rw [List.getElem?_eq_none (by rw [rowsL_len]; omega), List.getElem?_eq_none (by simp; omega)]
/-- the page's rows, once made, are told as a list of lists -/
theorem frz_rows {Q : List Blk} {n0 : Nat} {ks : Keep} {b : Nat} {R : List (List Int)} (hb : Q[b]? = some (.cells 0 1 ((List.range R.length).map fun j => .sl (b + 1 + j) 0 0 (R.getD j []).length)))
    (hrow : ∀ j (h : j < R.length), Q[b + 1 + j]? = some (.cells 0 1 ((R.getD j []).map (.int .i64)))) (hn : n0 ≤ b) (hk : ∀ p ∈ ks, p.1 < b) : Frz Q n0 ks (.sl b 0 0 R.length) (.list 1 (rowsL R)) := by
  refine .sl b 0 0 R.length 1 _ _ hb hn (fun p hp e => by have := hk p hp; omega) ?_
  rw [List.drop_zero, List.take_of_length_le (by simp), rowsL_range]
  refine FrzL.map fun j hj => ?_
  rw [List.mem_range] at hj
  exact Frz.sf (hrow j hj) (by omega) (fun p hp e => by have := hk p hp; omega) (by rw [List.drop_zero, List.take_of_length_le (by simp)]) (ints_under _ _)

theorem liveNeeds_ok (G : Gl) (hG : GClosed G) (hF : GF G) (f : Fun) (hn : f.code.length < 1125899906842624) (hl : ∀ i ∈ f.code, i.l.length < 1125899906842624) (H : List Blk) :
    ACall Tryd.prog G 3 [.agg f.cells] H (fun r H' => H' = H ∧ r = .bool true) := by
  have k1 := fun H => few_ok G hG f hn hl H
  have k2 := fun (h : SmallF f) H => before_ok G hG hF f (by have := h.1; omega) (fun i hi => by have := (small_list h).1 i hi; omega) (small_list h).2 H
  have k3 := fun (h : SmallF f) H => rbefore_ok G hG f (by have := h.1; omega) (fun i hi => by have := (small_list h).1 i hi; omega) (small_list h).2 H
  have k4 := fun (h : SmallF f) H => spans_ok G hG hF f (by have := h.1; omega) (fun i hi => by have := (small_list h).1 i hi; omega) (small_list h).2 H
  have k5 := fun (h : SmallF f) H => rspans_ok G hG f (by have := h.1; omega) (fun i hi => by have := (small_list h).1 i hi; omega) (small_list h).2 H
  have c1 := fun H => awake_ok G hG hF H
  have hfcu : ∀ n, SV.underL n f.cells = true := fun n => Fun.cells_under n f
  have hfcl : f.cells.length = 7 := rfl
  have hfcu2 : ∀ n, SV.underL n [SV.agg f.cells] = true := fun n => by simp only [SV.underL, SV.under, hfcu, Bool.and_self]
  generalize hfc : f.cells = fc at k1 k2 k3 k4 k5 hfcu hfcu2 hfcl
  clear hfc
  refine ACall.of_go TB [] tabOK _ Tryd.func3 rfl (by decide) Tryd.ntmps3 (by simp) rfl (by simp only [initEnv, Nat.reduceAdd]; rfl) fun C R' hR hC hcl hB => ?_; have X := noX; have hC' := congrArg List.length hC
  have X := And.intro X hfcl
  (refine run ?_; repeat' (first | with_reducible exact trivial | ((with_reducible apply Fork.mk) <;> intro hb) | with_reducible apply Two.mk))
  refine callS (k1 _) ?_
  rintro r H' ⟨b, rfl, rfl, hsm⟩
  cases b with
  | false =>
    (refine run ?_; repeat' (first | with_reducible exact trivial | ((with_reducible apply Fork.mk) <;> intro hb) | with_reducible apply Two.mk))
    exact finS hR hC' hcl (y := .bool true) (.same _ rfl) ⟨rfl, rfl⟩
  | true =>
  have hsm := hsm rfl
  have k2 := k2 hsm; have k3 := k3 hsm; have k4 := k4 hsm; have k5 := k5 hsm
  (refine run ?_; repeat' (first | with_reducible exact trivial | ((with_reducible apply Fork.mk) <;> intro hb) | with_reducible apply Two.mk))
  refine callS (k2 _) ?_
  rintro r H' ⟨rows, hrows, rfl, rfl⟩
  have hrl := hrows.1
  have hrs : rows.length < 3000 := by have := hsm.1; omega
  have hlen1 : (H ++ [Blk.cells 0 7 [.agg fc]]).length = H.length + 1 := by simp
  rw [hlen1, List.append_assoc]
  clear hlen1
  simp only [List.cons_append, List.nil_append]
  generalize hX : (Blk.cells 0 7 [SV.agg fc] :: Blk.cells 0 1 ((List.range rows.length).map fun j => SV.sl (H.length + 1 + 1 + j) 0 0 (rows.getD j []).length) :: rows.map fun r => Blk.cells 0 1 (r.map (SV.int .i64))) = XX
  have q0 : (H ++ XX)[H.length]? = some (.cells 0 7 [.agg fc]) := by rw [← hX]; simp
  have q1 : (H ++ XX)[H.length + 1]? = some (.cells 0 1 ((List.range rows.length).map fun j => SV.sl (H.length + 1 + 1 + j) 0 0 (rows.getD j []).length)) := by rw [← hX]; simp
  have q2 : ∀ j (h : j < rows.length), (H ++ XX)[H.length + 1 + 1 + j]? = some (.cells 0 1 ((rows.getD j []).map (.int .i64))) := fun j h => by
    rw [← hX, List.getElem?_append_right (by omega), show H.length + 1 + 1 + j - H.length = j + 2 by omega]
    simp [h]
  refine go_wkO [(1, .ptr H.length 0 0 0), (14, .list 1 (rowsL rows))] (H ++ [.cells 0 7 [.agg fc]]) (wkS (n0 := H.length) [(H.length, 0)] hG hB hC' hcl (hk := .c (g := 0) (sz := 7) (vals := [.agg fc]) q0 (Nat.le_refl _) (Nat.zero_le _) (FrzL.same (hfcu2 _)) .nil)
    (he := ⟨⟨_, rfl, Frz.kp (i := 0) (d := 0) rfl q0 (Nat.le_refl _) rfl rfl⟩, ⟨_, rfl, frz_rows q1 q2 (by omega) (by simp)⟩, trivial⟩)) ?_
  clear q0 q1 q2 hX
  clear XX
  have hrll := rowsL_len rows
  have X := And.intro X hrll
  (refine run ?_; repeat' (first | with_reducible exact trivial | ((with_reducible apply Fork.mk) <;> intro hb) | with_reducible apply Two.mk))
  refine callS (k3 _) ?_
  rintro r H' ⟨rows2, hrows2, rfl, rfl⟩
  obtain rfl := rows_uniq hrows hrows2
  (refine run ?_; repeat' (first | with_reducible exact trivial | ((with_reducible apply Fork.mk) <;> intro hb) | with_reducible apply Two.mk))
  refine callS (k4 _) ?_
  rintro r H' ⟨rfl, hr4⟩
  (refine run ?_; repeat' (first | with_reducible exact trivial | ((with_reducible apply Fork.mk) <;> intro hb) | with_reducible apply Two.mk))
  refine callS (k5 _) ?_
  rintro r' H' ⟨rfl, hr5⟩
  have hrr : ∃ S : List Sh, S.length < 3000 ∧ r = .list 2 (shL S) ∧ r' = .list 2 (shL S) := by
    rcases hr4 with ⟨h1, rfl⟩ | ⟨h1, ra, ha, rfl⟩ <;> rcases hr5 with ⟨h2, rfl⟩ | ⟨h2, rb, hb, rfl⟩
    · exact ⟨[], by simp, rfl, rfl⟩
    · exact absurd h1 h2
    · exact absurd h2 h1
    · obtain rfl := rows_uniq ha hb
      refine ⟨_, ?_, rfl, rfl⟩
      rw [spansN_len]; have := hsm.2; omega
  obtain ⟨S, hS, rfl, rfl⟩ := hrr
  have hSl := shL_len S
  have hl1 := Int.lt_irrefl (rows.length : Int)
  have X0 := And.intro X (And.intro hSl hrll)
  clear X
  have X := X0
  have hrb : ∀ j, (rows.getD j []).length < 1125899906842624 := fun j => by
    rw [List.getD_eq_getElem?_getD]
    by_cases h : j < rows.length
    · rw [List.getElem?_eq_getElem h]; have := rows_len hrows h; have := (small_list hsm).2; simp only [Option.getD_some]; omega
    · rw [List.getElem?_eq_none (by omega)]; simp
  clear k1 k2 k3 k4 k5 hr4 hr5 hrows hsm
  (refine run ?_; repeat' (first | with_reducible exact trivial | ((with_reducible apply Fork.mk) <;> intro hb) | with_reducible apply Two.mk))
  refine go_loop (fun a : Nat => [(3, .list 1 (rowsL rows)), (4, .list 1 (rowsL rows)), (5, .list 2 (shL S)), (6, .list 2 (shL S)), (7, .int .i64 a)]) (fun _ => H ++ [.cells 0 7 [.agg fc]]) (fun a => rows.length - a) (fun a => a ≤ rows.length) 0 (Nat.zero_le _) (Wk.sub (by simp [subEnv, look])) ?_
  rintro K a ha hK
  rcases Nat.lt_or_ge a rows.length with hlt | hge
  · have e1 := rowsL_get rows a hlt
    have c2 := fun H => ints_ok G hG (rows.getD a []) (hrb a) H
    generalize rows.getD a [] = row at e1 c2
    have X := And.intro X e1
    (refine run ?_; repeat' (first | with_reducible exact trivial | ((with_reducible apply Fork.mk) <;> intro hb) | with_reducible apply Two.mk))
    all_goals first
      | exact hK _ _ (a + 1) (by omega) (by omega) (Wk.sub (by simp [subEnv, look]))
      | (exfalso; revert hb; simp; done)
  · have : a = rows.length := by omega
    subst this
    clear hK
    have X := And.intro X (Int.lt_irrefl (rows.length : Int))
    (refine run ?_; repeat' (first | with_reducible exact trivial | ((with_reducible apply Fork.mk) <;> intro hb) | with_reducible apply Two.mk))
    refine go_loop (fun a : Nat => [(5, .list 2 (shL S)), (6, .list 2 (shL S)), (8, .int .i64 a)]) (fun _ => H ++ [.cells 0 7 [.agg fc]]) (fun a => S.length - a) (fun a => a ≤ S.length) 0 (Nat.zero_le _) (Wk.sub (by simp [subEnv, look])) ?_
    rintro K a ha hK
    rcases Nat.lt_or_ge a S.length with hlt | hge
    · have e1 : (shL S)[a]? = some (.agg [.int .i64 S[a].1, .int .i64 S[a].2]) := by rw [shL_get]; simp [hlt]
      have X := And.intro X0 e1
      (refine run ?_; repeat' (first | with_reducible exact trivial | ((with_reducible apply Fork.mk) <;> intro hb) | with_reducible apply Two.mk))
      all_goals first
        | exact hK _ _ (a + 1) (by omega) (by omega) (Wk.sub (by simp [subEnv, look]))
        | (exfalso; revert hb; simp; done)
    · have : a = S.length := by omega
      subst this
      clear hK
      have X := And.intro X0 (Int.lt_irrefl (S.length : Int))
      (refine run ?_; repeat' (first | with_reducible exact trivial | ((with_reducible apply Fork.mk) <;> intro hb) | with_reducible apply Two.mk))
      exact finS hR hC' hcl (y := .bool true) (.same _ rfl) ⟨rfl, rfl⟩
end Go.Proofs.YtneklfhahljgnaaDoor
end

section
namespace Go.Proofs.YtneklfhahljgnaaDoor
open Go
set_option linter.unusedSimpArgs false
set_option linter.unusedVariables false
set_option maxRecDepth 10000
set_option maxHeartbeats 4000000

/-! ### what a function that may be is like -/
theorem inR_iff {n lo hi : Int} : inR n lo hi = true ↔ lo ≤ n ∧ n ≤ hi := by simp [inR]
structure FunG (f : Fun) : Prop where
  frame : 0 ≤ f.frame ∧ f.frame ≤ 65536
  len : 1 ≤ f.code.length
  next : ∀ k (h : k < f.code.length), ∀ n ∈ nxS f.code[k] k, 0 ≤ n ∧ n < f.code.length
  reads : ∀ k (h : k < f.code.length), ∀ s ∈ rdS f.code[k], 0 ≤ s ∧ s < f.frame
  writes : ∀ k (h : k < f.code.length), wrS f.code[k] = -1 ∨ (0 ≤ wrS f.code[k] ∧ wrS f.code[k] < f.frame)
theorem insTop_le {op slots frame : Int} (hs : 1 ≤ slots) : insTop op slots frame ≤ frame := by unfold insTop; (repeat' split) <;> omega
theorem ins_reads {m : Img} {slots frame : Int} {len : Nat} {i : Ins} (hs : 1 ≤ slots) (h : insOK m slots frame len i = true) : (∀ s ∈ rdS i, 0 ≤ s ∧ s < frame) ∧ (wrS i = -1 ∨ (0 ≤ wrS i ∧ wrS i < frame)) := by
  have ht := insTop_le (op := i.op) (frame := frame) hs
  simp only [insOK, Bool.and_eq_true] at h
  obtain ⟨⟨⟨⟨⟨⟨_, ha⟩, hb⟩, hc⟩, _⟩, hl⟩, _⟩ := h
  have key : ∀ {has : Bool} {n : Int}, slotB has (insTop i.op slots frame) n = true → has = true → 0 ≤ n ∧ n < frame := fun {has n} h e => by
    subst e
    simp only [slotB, if_true, inR_iff] at h
    omega
  refine ⟨fun s hs' => ?_, ?_⟩
  · unfold rdS at hs'
    simp only [List.mem_append] at hs'
    rcases hs' with ((hs' | hs') | hs') | hs'
    · split at hs'
      · rename_i e
        rw [List.mem_singleton] at hs'
        subst hs'
        exact key ha (by rw [e]; decide)
      · cases hs'
    · split at hs'
      · rename_i e
        rw [List.mem_singleton] at hs'; subst hs'
        exact key hb e
      · cases hs'
    · split at hs'
      · rename_i e
        rw [List.mem_singleton] at hs'; subst hs'
        exact key hc e
      · cases hs'
    · split at hs'
      · rename_i e
        simp only [lstOK, e, if_true, Bool.not_eq_true', List.any_eq_false, Bool.not_eq_true, Bool.not_eq_false'] at hl
        have := hl s hs'
        have := inR_iff.1 (by simpa using this)
        omega
      · cases hs'
  · unfold wrS
    split
    · exact .inl rfl
    · rename_i h
      simp only [not_or, Bool.not_eq_false] at h
      exact .inr (key ha h.1)
theorem ins_next {m : Img} {slots frame : Int} {len : Nat} {i : Ins} (h : insOK m slots frame len i = true) (at_ : Int) (hlast : bitOf 64 i.op = false → 0 ≤ at_ + 1 ∧ at_ + 1 < len) : ∀ n ∈ nxS i at_, 0 ≤ n ∧ n < len := by
  simp only [insOK, Bool.and_eq_true] at h
  obtain ⟨⟨_, hl⟩, hf⟩ := h
  intro n hn
  rw [nxS_mem] at hn
  unfold nxL at hn
  simp only [List.mem_append] at hn
  rcases hn with (hn | hn) | hn
  · split at hn
    · cases hn
    · rename_i e
      rw [List.mem_singleton] at hn; subst hn
      exact hlast (by simpa using e)
  · split at hn
    · rename_i e
      rw [List.mem_singleton] at hn; subst hn
      rcases e with e | e
      · simp only [finOK, e] at hf
        have := inR_iff.1 (by simpa using hf); omega
      · simp only [finOK, e] at hf
        have hf : inR i.n 0 ((len : Int) - 1) = true := by simp at hf; exact hf.1
        have := inR_iff.1 hf; omega
    · cases hn
  · split at hn
    · rename_i e
      rw [List.mem_filter] at hn
      have h16 : bitOf 16 i.op = false := by
        rw [bit32] at e
        rw [bit16]
        simp only [Bool.or_eq_true, decide_eq_true_eq] at e
        rcases e with e | e <;> simp [e]
      simp only [lstOK, h16, e, if_true, Bool.false_eq_true, if_false, Bool.not_eq_true', List.any_eq_false] at hl
      have := hl n hn.1
      have h0 : 0 ≤ n := by simpa using hn.2
      simp only [badP, Bool.and_eq_true, Bool.not_eq_true', decide_eq_true_eq, not_and, Bool.and_eq_false_iff, decide_eq_false_iff_not] at this
      cases hi : inR n 0 ((len : Int) - 1) with
      | true => have := inR_iff.1 hi; omega
      | false => exact absurd (.inr (by omega)) (this hi)
    · cases hn
theorem fun_good {m : Img} {slots : Int} {f : Fun} (hs : 1 ≤ slots) (h : funOK m slots f = true) : FunG f := by
  simp only [funOK, Bool.and_eq_true, Bool.not_eq_true'] at h
  obtain ⟨⟨hb, hi⟩, hl⟩ := h
  have hi : ∀ x ∈ f.code, insOK m slots f.frame f.code.length x = true := fun x hx => by
    rw [List.any_eq_false] at hi
    have := hi x hx
    simpa using this
  simp only [funBad, Bool.or_eq_false_iff, Bool.not_eq_false'] at hb
  have hfr := inR_iff.1 hb.1.1.1.1.1.2
  have hlen := inR_iff.1 hb.2
  have hfr2 : (if slots ≤ 16 then (250 : Int) else 65536) ≤ 65536 := by split <;> omega
  refine ⟨⟨hfr.1, by omega⟩, by omega, fun k hk => ?_, fun k hk => (ins_reads hs (hi _ (List.getElem_mem hk))).1, fun k hk => (ins_reads hs (hi _ (List.getElem_mem hk))).2⟩
  refine ins_next (hi _ (List.getElem_mem hk)) k fun h64 => ⟨by omega, ?_⟩
  rcases Nat.lt_or_ge (k + 1) f.code.length with h | h
  · omega
  · exfalso
    have : k = f.code.length - 1 := by omega
    subst this
    unfold lastOp at hl
    rw [List.getElem?_eq_getElem hk] at hl
    simp only at hl
    rw [hl] at h64; cases h64
theorem chk_good {m : Img} (h : chkS m 65536 = 0) {f : Fun} (hf : f ∈ m.funcs) : FunG f := by
  unfold chkS at h
  split at h
  · cases h
  split at h
  · cases h
  split at h
  · cases h
  rename_i h3
  simp only [Bool.or_eq_true, List.any_eq_true, not_or, not_exists, not_and, Bool.not_eq_true', Bool.not_eq_false] at h3
  exact fun_good (slots := 65536) (by omega) (h3.1 f hf)

/-- what is put together -/
def putW (w : Int) (m T : List Int) : List Int := (m.filter fun s => !decide (s = w)).foldl putO T
def nexP (w : Int) (R : List (List Int)) (nx T : List Int) : List Int := nx.foldl (fun T k => putW w (R.getD k.toNat []) T) T
theorem putW_snoc (w : Int) (m T : List Int) (x : Int) : putW w (m ++ [x]) T = if x = w then putW w m T else putO (putW w m T) x := by
  unfold putW
  rw [List.filter_append, List.foldl_append]
  by_cases h : x = w <;> simp [List.filter_cons, h]
theorem putW_mem (w : Int) (m T : List Int) (x : Int) : x ∈ putW w m T ↔ x ∈ T ∨ (x ∈ m ∧ x ≠ w) := by
  unfold putW; rw [puts_mem, List.mem_filter]; simp
theorem nexP_snoc (w : Int) (R : List (List Int)) (nx T : List Int) (k : Int) : nexP w R (nx ++ [k]) T = putW w (R.getD k.toNat []) (nexP w R nx T) := by
  unfold nexP; rw [List.foldl_append]; rfl
theorem nexP_mem (w : Int) (R : List (List Int)) (x : Int) : ∀ (nx T : List Int), x ∈ nexP w R nx T ↔ x ∈ T ∨ ∃ k ∈ nx, x ∈ R.getD k.toNat [] ∧ x ≠ w
  | [], T => by simp [nexP]
  | k :: nx, T => by
    have ih := nexP_mem w R x nx (putW w (R.getD k.toNat []) T)
    unfold nexP at ih ⊢
    rw [List.foldl_cons, ih, putW_mem]
    constructor
    · rintro ((h | h) | ⟨q, h1, h2⟩)
      · exact .inl h
      · exact .inr ⟨k, List.mem_cons_self .., h⟩
      · exact .inr ⟨q, List.mem_cons_of_mem _ h1, h2⟩
    · rintro (h | ⟨q, h1, h2⟩)
      · exact .inl (.inl h)
      · rcases List.mem_cons.1 h1 with rfl | h1
        · exact .inl (.inr h2)
        · exact .inr ⟨q, h1, h2⟩
theorem putW_nodup (w : Int) (m : List Int) {T : List Int} (h : T.Nodup) : (putW w m T).Nodup := puts_nodup _ _ h
theorem nexP_nodup (w : Int) (R : List (List Int)) : ∀ (nx : List Int) {T : List Int}, T.Nodup → (nexP w R nx T).Nodup
  | [], _, h => h
  | k :: nx, _, h => nexP_nodup w R nx (putW_nodup w _ h)
/-- a row is what is read, and what is needed behind -/
theorem row_mem {f : Fun} {rows : List (List Int)} (hg : FunG f) (hr : Rows f.code rows) {k : Nat} (hk : k < f.code.length) (s : Int) :
    s ∈ nexP (wrS f.code[k]) rows (nxS f.code[k] k) ((rdS f.code[k]).foldl putO []) ↔ s ∈ rows.getD k [] := by
  have hget : ∀ q, q < f.code.length → ∀ s, s ∈ rows.getD q [] ↔ NeedP f.code q s := fun q hq s => by
    have hq' : q < rows.length := by rw [hr.1]; exact hq
    rw [List.getD_eq_getElem?_getD, List.getElem?_eq_getElem hq']
    exact (hr.2 q hq').2 s
  have hpos : ∀ q s, NeedP f.code q s → 0 ≤ s := fun q s h => by
    induction h with
    | read i s h hs => exact (hg.reads i h s hs).1
    | step _ _ _ _ _ _ _ _ ih => exact ih
  rw [nexP_mem, puts_mem, hget k hk]
  constructor
  · rintro ((h | h) | ⟨q, h1, h2, h3⟩)
    · cases h
    · exact .read k s hk h
    · have hq := hg.next k hk q h1
      rw [hget q.toNat (by omega)] at h2
      exact .step k q.toNat s hk (by omega) (by rw [Int.toNat_of_nonneg hq.1]; exact h1) (.inl h3) h2
  · intro h
    cases h with
    | read _ _ _ h => exact .inl (.inr h)
    | step _ q _ _ hq hn hw h =>
      refine .inr ⟨q, hn, by rw [Int.toNat_natCast, hget q hq]; exact h, ?_⟩
      have := hpos q s h
      rcases hw with hw | hw
      · exact hw
      · omega
theorem row_len {f : Fun} {rows : List (List Int)} (hg : FunG f) (hr : Rows f.code rows) {k : Nat} (hk : k < f.code.length) : (nexP (wrS f.code[k]) rows (nxS f.code[k] k) ((rdS f.code[k]).foldl putO [])).length = (rows.getD k []).length := by
  have hk' : k < rows.length := by rw [hr.1]; exact hk
  have h1 := nexP_nodup (wrS f.code[k]) rows (nxS f.code[k] k) (puts_nodup (rdS f.code[k]) [] List.nodup_nil)
  have h2 : (rows.getD k []).Nodup := by
    rw [List.getD_eq_getElem?_getD, List.getElem?_eq_getElem hk']; exact lt_nodup (hr.2 k hk').1
  exact Nat.le_antisymm (nodup_le h1 fun s hs => (row_mem hg hr hk s).1 hs) (nodup_le h2 fun s hs => (row_mem hg hr hk s).2 hs)
end Go.Proofs.YtneklfhahljgnaaDoor
end

section
namespace Go.Proofs.YtneklfhahljgnaaDoor
open Go
set_option linter.unusedSimpArgs false
set_option linter.unusedVariables false
set_option maxRecDepth 10000
set_option maxHeartbeats 4000000

theorem liveReads_ok (G : Gl) (hG : GClosed G) (hF : GF G) (m : Img) (hb : ImgB m) (H : List Blk) : ACall Tryd.prog G 6 [.agg m.cells] H (fun r H' => H' = H ∧ r = .bool true) := by
  have k0 := fun H => check_ok G hG hF m 65536 hb H
  have c1 := fun H => awake_ok G hG hF H
  have hmcl : m.cells.length = 4 := rfl
  have hmc1 : m.cells[1]? = some (.list 7 (funsL m.funcs)) := rfl
  have hmcu : ∀ n, SV.underL n [SV.agg m.cells] = true := fun n => by simp only [SV.underL, SV.under, Img.cells_under, Bool.and_self]
  have hfb := hb.code
  have hfl := hb.f
  generalize hmc : m.cells = mc at k0 hmcl hmc1 hmcu
  clear hmc
  generalize hst : chkS m 65536 = st at k0
  have hgood : st = 0 → ∀ f ∈ m.funcs, FunG f := fun e f hf => chk_good (hst.trans e) hf
  generalize m.funcs = funcs at hmc1 hfb hfl hgood
  clear hst hb
  clear m
  refine ACall.of_go TB [] tabOK _ Tryd.func6 rfl (by decide) Tryd.ntmps6 (by simp) rfl (by simp only [initEnv, Nat.reduceAdd]; rfl) fun C R' hR hC hcl hB => ?_; have X := noX; have hC' := congrArg List.length hC
  have X := And.intro X hmcl
  (refine run ?_; repeat' (first | with_reducible exact trivial | ((with_reducible apply Fork.mk) <;> intro hb) | with_reducible apply Two.mk))
  refine callS (k0 _) ?_
  rintro r H' ⟨rfl, rfl⟩
  by_cases hz : st = 0
  · have hgood := hgood hz
    have X := And.intro X hz
    (refine run ?_; repeat' (first | with_reducible exact trivial | ((with_reducible apply Fork.mk) <;> intro hb) | with_reducible apply Two.mk))
    clear X
    refine go_loop (fun i : Nat => [(1, .ptr H.length 0 0 0), (3, .int .i64 i)]) (fun _ => H ++ [.cells 0 4 [.agg mc]]) (fun i => funcs.length - i) (fun i => i ≤ funcs.length) 0 (Nat.zero_le _) (Wk.sub (by simp [subEnv, look])) ?_
    rintro K i hi hK
    have X0 := And.intro noX (And.intro hmcl (And.intro hmc1 (funsL_len funcs)))
    rcases Nat.lt_or_ge i funcs.length with hlt | hge
    · have e1 : (funsL funcs)[i]? = some (.agg (funcs[i]).cells) := by simp [funsL, hlt]
      have hg := hgood _ (List.getElem_mem hlt)
      have hbnd := hfb _ (List.getElem_mem hlt)
      generalize funcs[i] = f at e1 hg hbnd
      have k1 := fun H => few_ok G hG f (by omega) (fun x hx => by have := hbnd.2 x hx; omega) H
      have k2 := fun (h : SmallF f) H => before_ok G hG hF f (by have := h.1; omega) (fun i hi => by have := (small_list h).1 i hi; omega) (small_list h).2 H
      have hfcl : f.cells.length = 7 := rfl
      have hfc6 : f.cells[6]? = some (.list 6 (insL f.code)) := rfl
      have hfcu : ∀ n, SV.underL n [SV.agg f.cells] = true := fun n => by simp only [SV.underL, SV.under, Fun.cells_under, Bool.and_self]
      generalize hfc : f.cells = fc at e1 k1 k2 hfcl hfc6 hfcu
      clear hfc
      have X := And.intro X0 (And.intro e1 hfcl)
      (refine run ?_; repeat' (first | with_reducible exact trivial | ((with_reducible apply Fork.mk) <;> intro hb) | with_reducible apply Two.mk))
      refine callS (k1 _) ?_
      rintro r H' ⟨b, rfl, rfl, hsm⟩
      cases b with
      | false =>
        (refine run ?_; repeat' (first | with_reducible exact trivial | ((with_reducible apply Fork.mk) <;> intro hb) | with_reducible apply Two.mk))
        exact finS hR hC' hcl (y := .bool true) (.same _ rfl) ⟨rfl, rfl⟩
      | true =>
      have hsm := hsm rfl
      (refine run ?_; repeat' (first | with_reducible exact trivial | ((with_reducible apply Fork.mk) <;> intro hb) | with_reducible apply Two.mk))
      refine callS (k2 hsm _) ?_
      rintro r H' ⟨rows, hrows, rfl, rfl⟩
      have hrl := hrows.1
      have hrs : rows.length < 3000 := by have := hsm.1; omega
      have hlen1 : (H ++ [Blk.cells 0 4 [SV.agg mc], Blk.cells 0 7 [SV.agg fc]]).length = H.length + 2 := by simp
      rw [hlen1, List.append_assoc]
      clear hlen1
      simp only [List.cons_append, List.nil_append]
      generalize hX : (Blk.cells 0 4 [SV.agg mc] :: Blk.cells 0 7 [SV.agg fc] :: Blk.cells 0 1 ((List.range rows.length).map fun j => SV.sl (H.length + 2 + 1 + j) 0 0 (rows.getD j []).length) :: rows.map fun r => Blk.cells 0 1 (r.map (SV.int .i64))) = XX
      have q0 : (H ++ XX)[H.length]? = some (.cells 0 4 [.agg mc]) := by rw [← hX]; simp
      have q0' : (H ++ XX)[H.length + 1]? = some (.cells 0 7 [.agg fc]) := by rw [← hX]; simp
      have q1 : (H ++ XX)[H.length + 2]? = some (.cells 0 1 ((List.range rows.length).map fun j => SV.sl (H.length + 2 + 1 + j) 0 0 (rows.getD j []).length)) := by rw [← hX]; simp
      have q2 : ∀ j (h : j < rows.length), (H ++ XX)[H.length + 2 + 1 + j]? = some (.cells 0 1 ((rows.getD j []).map (.int .i64))) := fun j h => by
        rw [← hX, List.getElem?_append_right (by omega), show H.length + 2 + 1 + j - H.length = j + 3 by omega]
        simp [h]
      refine go_wkO [(1, .ptr H.length 0 0 0), (3, .int .i64 i), (4, .ptr (H.length + 1) 0 0 0), (36, .list 1 (rowsL rows))] (H ++ [.cells 0 4 [.agg mc], .cells 0 7 [.agg fc]]) (wkS (n0 := H.length) [(H.length, 0), (H.length + 1, 0)] hG hB hC' hcl (hk := .c (g := 0) (sz := 4) (vals := [.agg mc]) q0 (Nat.le_refl _) (Nat.zero_le _) (FrzL.same (hmcu _)) (.c (g := 0) (sz := 7) (vals := [.agg fc]) q0' (by omega) (Nat.zero_le _) (FrzL.same (hfcu _)) .nil))
        (he := ⟨⟨_, rfl, Frz.kp (i := 0) (d := 0) rfl q0 (Nat.le_refl _) rfl rfl⟩, ⟨_, rfl, .same _ rfl⟩, ⟨_, rfl, Frz.kp (i := 1) (d := 0) rfl q0' (Nat.le_refl _) rfl rfl⟩, ⟨_, rfl, frz_rows q1 q2 (by omega) (by simp)⟩, trivial⟩)) ?_
      clear q0 q0' q1 q2 hX
      clear XX k1 k2
      have X1 := And.intro X0 (And.intro hfcl (And.intro hfc6 (And.intro (rowsL_len rows) (insL_len f.code))))
      have X := And.intro X1 hrl
      clear e1
      (refine run ?_; repeat' (first | with_reducible exact trivial | ((with_reducible apply Fork.mk) <;> intro hb) | with_reducible apply Two.mk))
      clear X
      refine go_loop (fun k : Nat => [(1, .ptr H.length 0 0 0), (3, .int .i64 i), (4, .ptr (H.length + 1) 0 0 0), (5, .list 1 (rowsL rows)), (6, .int .i64 k)]) (fun _ => H ++ [.cells 0 4 [.agg mc], .cells 0 7 [.agg fc]]) (fun k => f.code.length - k) (fun k => k ≤ f.code.length) 0 (Nat.zero_le _) (Wk.sub (by simp [subEnv, look])) ?_
      rintro K2 k hk hK2
      rcases Nat.lt_or_ge k f.code.length with hlt | hge
      · have e1 : (insL f.code)[k]? = some (.agg (f.code[k]).cells) := by simp [insL, hlt]
        have er := rowsL_get rows k (by omega)
        have hmem := row_mem hg hrows hlt
        have hlen2 := row_len hg hrows hlt
        have hnx := hg.next k hlt
        have hsz := (small_list hsm).1 _ (List.getElem_mem hlt)
        have hrowl : (rows.getD k []).length ≤ 4194304 := by
          rw [List.getD_eq_getElem?_getD, List.getElem?_eq_getElem (by omega)]; exact Nat.le_trans (rows_len hrows (by omega)) (small_list hsm).2
        have hrow : (rows.getD k []).Pairwise (fun x y => x < y) := by
          rw [List.getD_eq_getElem?_getD, List.getElem?_eq_getElem (by omega)]; exact (hrows.2 k (by omega)).1
        have hrlen : ∀ q, (rows.getD q []).length ≤ 4194304 := fun q => by
          rw [List.getD_eq_getElem?_getD]
          by_cases hq : q < rows.length
          · rw [List.getElem?_eq_getElem hq]; exact Nat.le_trans (rows_len hrows hq) (small_list hsm).2
          · rw [List.getElem?_eq_none (by omega)]; simp
        have hkb : k < 3000 := by have := hsm.1; omega
        have c2 := fun H => reads_ok G hG hF f.code[k] (by omega) H
        have c3 := fun H => next_ok G hG hF f.code[k] (k : Int) (by omega) (by omega) H
        have c4 := fun H => writes_ok G hG hF f.code[k] H
        have hrdl : (rdS f.code[k]).length < 1099511627776 := by
          have h1 : (rdS f.code[k]).length ≤ 1 + 1 + 1 + f.code[k].l.length := by
            unfold rdS
            rw [List.length_append, List.length_append, List.length_append]
            refine Nat.add_le_add (Nat.add_le_add (Nat.add_le_add ?_ ?_) ?_) ?_
            · split <;> simp
            · split <;> simp
            · split <;> simp
            · split <;> simp
          omega
        have hnxl : (nxS f.code[k] k).length < 1099511627776 := by
          have h1 : (nxS f.code[k] k).length ≤ (nxL f.code[k] k).length := Nat.le_trans (compS_len _) (by rw [sortI_len]; exact Nat.le_refl _)
          have h2 : (nxL f.code[k] k).length ≤ 1 + 1 + f.code[k].l.length := by
            unfold nxL
            rw [List.length_append, List.length_append]
            refine Nat.add_le_add (Nat.add_le_add ?_ ?_) ?_
            · split <;> simp
            · split <;> simp
            · split
              · exact List.length_filter_le _ _
              · exact Nat.zero_le _
          omega
        generalize hxx : f.code[k] = x at *
        clear hxx
        obtain ⟨op, xa, xb, xc, xn, xl⟩ := x
        simp only [Ins.cells] at *
        generalize rdS ⟨op, xa, xb, xc, xn, xl⟩ = rd at *
        generalize wrS ⟨op, xa, xb, xc, xn, xl⟩ = w at *
        generalize nxS ⟨op, xa, xb, xc, xn, xl⟩ k = nx at *
        generalize rows.getD k [] = row at er hmem hlen2 hrowl hrow
        have hrdm : (rd.map (SV.int .i64)).length = rd.length := by simp
        have hnxm : (nx.map (SV.int .i64)).length = nx.length := by simp
        have hrowm : (row.map (SV.int .i64)).length = row.length := by simp
        have X := And.intro X1 e1
        (refine run ?_; repeat' (first | with_reducible exact trivial | ((with_reducible apply Fork.mk) <;> intro hb) | with_reducible apply Two.mk))
        refine go_loop (fun j : Nat => [(1, .ptr H.length 0 0 0), (3, .int .i64 i), (4, .ptr (H.length + 1) 0 0 0), (5, .list 1 (rowsL rows)), (6, .int .i64 k), (7, .map (H.length + 2)), (8, .list 1 (rd.map (.int .i64))), (9, .int .i64 j)]) (fun j => H ++ [.cells 0 4 [.agg mc], .cells 0 7 [.agg fc], .map (some .i64) (esO ((rd.take j).foldl putO []))]) (fun j => rd.length - j) (fun j => j ≤ rd.length) 0 (Nat.zero_le _) (Wk.sub (by simp [subEnv, look])) ?_
        rintro K3 j hj hK3
        rcases Nat.lt_or_ge j rd.length with hlt3 | hge3
        · have e2 : (rd.map (SV.int .i64))[j]? = some (.int .i64 rd[j]) := by simp [hlt3]
          have ht := List.take_succ_eq_append_getElem hlt3
          have hnew : (rd.take (j + 1)).foldl putO [] = putO ((rd.take j).foldl putO []) rd[j] := by rw [ht, List.foldl_append]; rfl
          generalize (rd.take j).foldl putO [] = T at hnew ⊢
          clear X
          have X := And.intro X1 (And.intro hrdm (And.intro e2 (setSV_esO T rd[j])))
          (refine run ?_; repeat' (first | with_reducible exact trivial | ((with_reducible apply Fork.mk) <;> intro hb) | with_reducible apply Two.mk))
          refine hK3 _ _ (j + 1) (by omega) (by omega) ?_
          rw [hnew]
          exact Wk.sub (by simp [subEnv, look])
        have : j = rd.length := by omega
        subst this
        clear hK3
        rw [List.take_length]
        clear X
        have X := And.intro X1 (And.intro e1 (And.intro hrdm (Int.lt_irrefl (rd.length : Int))))
        generalize rd.foldl putO [] = T0 at hmem hlen2 ⊢
        (refine run ?_; repeat' (first | with_reducible exact trivial | ((with_reducible apply Fork.mk) <;> intro hb) | with_reducible apply Two.mk))
        clear X
        refine go_loop (fun j : Nat => [(1, .ptr H.length 0 0 0), (3, .int .i64 i), (4, .ptr (H.length + 1) 0 0 0), (5, .list 1 (rowsL rows)), (6, .int .i64 k), (7, .map (H.length + 2)), (10, .list 1 (nx.map (.int .i64))), (11, .int .i64 w), (12, .int .i64 j)]) (fun j => H ++ [.cells 0 4 [.agg mc], .cells 0 7 [.agg fc], .map (some .i64) (esO (nexP w rows (nx.take j) T0))]) (fun j => nx.length - j) (fun j => j ≤ nx.length) 0 (Nat.zero_le _) (Wk.sub (by simp [subEnv, look, nexP])) ?_
        rintro K3 j hj hK3
        rcases Nat.lt_or_ge j nx.length with hlt3 | hge3
        · have ht := List.take_succ_eq_append_getElem hlt3
          have hin := hnx nx[j] (List.getElem_mem hlt3)
          obtain ⟨t, ht2⟩ := Int.eq_ofNat_of_zero_le hin.1
          have e2 : (nx.map (SV.int .i64))[j]? = some (.int .i64 t) := by simp [hlt3, ht2]
          have htl : t < f.code.length := by omega
          have hnew : nexP w rows (nx.take (j + 1)) T0 = putW w (rows.getD t []) (nexP w rows (nx.take j) T0) := by rw [ht, nexP_snoc, ht2, Int.toNat_natCast]
          have er2 := rowsL_get rows t (by omega)
          have hr2 := hrlen t
          generalize rows.getD t [] = r2 at hnew er2 hr2
          generalize nexP w rows (nx.take j) T0 = T1 at hnew ⊢
          have hr2m : (r2.map (SV.int .i64)).length = r2.length := by simp
          have X2 := And.intro X1 (And.intro hnxm (And.intro e2 (And.intro er2 hr2m)))
          have X := X2
          (refine run ?_; repeat' (first | with_reducible exact trivial | ((with_reducible apply Fork.mk) <;> intro hb) | with_reducible apply Two.mk))
          refine go_loop (fun q : Nat => [(1, .ptr H.length 0 0 0), (3, .int .i64 i), (4, .ptr (H.length + 1) 0 0 0), (5, .list 1 (rowsL rows)), (6, .int .i64 k), (7, .map (H.length + 2)), (10, .list 1 (nx.map (.int .i64))), (11, .int .i64 w), (12, .int .i64 j), (13, .int .i64 q)]) (fun q => H ++ [.cells 0 4 [.agg mc], .cells 0 7 [.agg fc], .map (some .i64) (esO (putW w (r2.take q) T1))]) (fun q => r2.length - q) (fun q => q ≤ r2.length) 0 (Nat.zero_le _) (Wk.sub (by simp [subEnv, look, putW])) ?_
          rintro K4 q hq hK4
          rcases Nat.lt_or_ge q r2.length with hlt4 | hge4
          · have e3 : (r2.map (SV.int .i64))[q]? = some (.int .i64 r2[q]) := by simp [hlt4]
            have hnew2 : putW w (r2.take (q + 1)) T1 = if r2[q] = w then putW w (r2.take q) T1 else putO (putW w (r2.take q) T1) r2[q] := by rw [List.take_succ_eq_append_getElem hlt4, putW_snoc]
            generalize putW w (r2.take q) T1 = T2 at hnew2 ⊢
            have X := And.intro X2 (And.intro e3 (setSV_esO T2 r2[q]))
            (refine run ?_; repeat' (first | with_reducible exact trivial | ((with_reducible apply Fork.mk) <;> intro hb) | with_reducible apply Two.mk))
            · refine hK4 _ _ (q + 1) (by omega) (by omega) ?_
              rw [hnew2, if_neg (by simpa using hb)]
              exact Wk.sub (by simp [subEnv, look])
            · refine hK4 _ _ (q + 1) (by omega) (by omega) ?_
              rw [hnew2, if_pos (by simpa using hb)]
              exact Wk.sub (by simp [subEnv, look])
          · have : q = r2.length := by omega
            subst this
            clear hK4
            rw [List.take_length, ← hnew]
            generalize hT3 : nexP w rows (nx.take (j + 1)) T0 = T3
            have X := And.intro X2 (Int.lt_irrefl (r2.length : Int))
            (refine run ?_; repeat' (first | with_reducible exact trivial | ((with_reducible apply Fork.mk) <;> intro hb) | with_reducible apply Two.mk))
            subst hT3
            exact hK3 _ _ (j + 1) (by omega) (by omega) (Wk.sub (by simp [subEnv, look]))
        have : j = nx.length := by omega
        subst this
        clear hK3
        rw [List.take_length]
        generalize nexP w rows nx T0 = T at hmem hlen2 ⊢
        have X := And.intro X1 (And.intro hnxm (And.intro (Int.lt_irrefl (nx.length : Int)) (And.intro er (And.intro hrowm hlen2))))
        (refine run ?_; repeat' (first | with_reducible exact trivial | ((with_reducible apply Fork.mk) <;> intro hb) | with_reducible apply Two.mk))
        clear X
        refine go_loop (fun j : Nat => [(1, .ptr H.length 0 0 0), (3, .int .i64 i), (4, .ptr (H.length + 1) 0 0 0), (5, .list 1 (rowsL rows)), (6, .int .i64 k), (7, .map (H.length + 2)), (14, .int .i64 j)]) (fun j => H ++ [.cells 0 4 [.agg mc], .cells 0 7 [.agg fc], .map (some .i64) (esO T)]) (fun j => row.length - j) (fun j => j ≤ row.length) 0 (Nat.zero_le _) (Wk.sub (by simp [subEnv, look])) ?_
        rintro K3 j hj hK3
        have X2 := And.intro X1 (And.intro er hrowm)
        rcases Nat.lt_or_ge j row.length with hlt3 | hge3
        · have e3 : (row.map (SV.int .i64))[j]? = some (.int .i64 row[j]) := by simp [hlt3]
          have e4 : (findSV (esO T) (.int .i64 row[j])).getD (.bool false) = .bool true := by rw [findSV_esO, decide_eq_true ((hmem _).2 (List.getElem_mem hlt3))]
          cases j with
          | zero =>
            have X := And.intro X2 (And.intro e3 e4)
            (refine run ?_; repeat' (first | with_reducible exact trivial | ((with_reducible apply Fork.mk) <;> intro hb) | with_reducible apply Two.mk))
            all_goals first
              | exact hK3 _ _ 1 (by omega) (by omega) (Wk.sub (by simp [subEnv, look]))
              | (exfalso; revert hb; simp; done)
          | succ p =>
            have e5 : (row.map (SV.int .i64))[p]? = some (.int .i64 (row[p]'(by omega))) := by simp [show p < row.length by omega]
            have e6 : ((p + 1 : Nat) : Int) - 1 = (p : Int) := by omega
            have hlt5 := List.pairwise_iff_getElem.1 hrow p (p + 1) (by omega) hlt3 (by omega)
            have e7 : ¬ row[p + 1] ≤ row[p]'(by omega) := by omega
            have e8 : (0 : Int) < ((p + 1 : Nat) : Int) := by omega
            have X := And.intro X2 (And.intro e3 (And.intro e4 (And.intro e5 (And.intro e6 (And.intro e7 e8)))))
            (refine run ?_; repeat' (first | with_reducible exact trivial | ((with_reducible apply Fork.mk) <;> intro hb) | with_reducible apply Two.mk))
            all_goals first
              | exact hK3 _ _ (p + 1 + 1) (by omega) (by omega) (Wk.sub (by simp [subEnv, look]))
              | (exfalso; revert hb; simp; done)
        · have : j = row.length := by omega
          subst this
          clear hK3
          have X := And.intro X2 (Int.lt_irrefl (row.length : Int))
          (refine run ?_; repeat' (first | with_reducible exact trivial | ((with_reducible apply Fork.mk) <;> intro hb) | with_reducible apply Two.mk))
          exact hK2 _ _ (k + 1) (by omega) (by omega) (wkS (n0 := H.length) [(H.length, 0), (H.length + 1, 0)] hG hB hC' hcl (hk := .c (g := 0) (sz := 4) (vals := [.agg mc]) (by simp) (Nat.le_refl _) (Nat.zero_le _) (FrzL.same (hmcu _)) (.c (g := 0) (sz := 7) (vals := [.agg fc]) (by simp) (by omega) (Nat.zero_le _) (FrzL.same (hfcu _)) .nil))
            (he := ⟨⟨_, rfl, Frz.kp (i := 0) (d := 0) (g := 0) (sz := 4) (vals := [.agg mc]) rfl (by simp) (Nat.le_refl _) rfl rfl⟩, ⟨_, rfl, .same _ rfl⟩, ⟨_, rfl, Frz.kp (i := 1) (d := 0) (g := 0) (sz := 7) (vals := [.agg fc]) rfl (by simp) (Nat.le_refl _) rfl rfl⟩, ⟨_, rfl, .same _ (show SV.underL _ (rowsL rows) = true from rowsL_under _ _)⟩, ⟨_, rfl, .same _ rfl⟩, trivial⟩))
      · have : k = f.code.length := by omega
        subst this
        clear hK2
        have X := And.intro X1 (Int.lt_irrefl (f.code.length : Int))
        (refine run ?_; repeat' (first | with_reducible exact trivial | ((with_reducible apply Fork.mk) <;> intro hb) | with_reducible apply Two.mk))
        exact hK _ _ (i + 1) (by omega) (by omega) (wkS (n0 := H.length) [(H.length, 0)] hG hB hC' hcl (hk := .c (g := 0) (sz := 4) (vals := [.agg mc]) (by simp) (Nat.le_refl _) (Nat.zero_le _) (FrzL.same (hmcu _)) .nil))
    · have : i = funcs.length := by omega
      subst this
      clear hK
      have X := And.intro X0 (Int.lt_irrefl (funcs.length : Int))
      (refine run ?_; repeat' (first | with_reducible exact trivial | ((with_reducible apply Fork.mk) <;> intro hb) | with_reducible apply Two.mk))
      exact finS hR hC' hcl (y := .bool true) (.same _ rfl) ⟨rfl, rfl⟩
  · have X := And.intro X hz
    (refine run ?_; repeat' (first | with_reducible exact trivial | ((with_reducible apply Fork.mk) <;> intro hb) | with_reducible apply Two.mk))
    exact finS hR hC' hcl (y := .bool true) (.same _ rfl) ⟨rfl, rfl⟩
end Go.Proofs.YtneklfhahljgnaaDoor
end

section
namespace Go.Proofs.YtneklfhahljgnaaDoor
open Go
set_option linter.unusedSimpArgs false
set_option linter.unusedVariables false
set_option maxRecDepth 10000
set_option maxHeartbeats 4000000

def fsL (V : List Sh) : List SV := V.map fun p => .int .i64 p.1
def snL (V : List Sh) : List SV := V.map fun p => .int .i64 p.2
theorem fsL_len (V : List Sh) : (fsL V).length = V.length := by simp [fsL]
theorem snL_len (V : List Sh) : (snL V).length = V.length := by simp [snL]
theorem fsL_under (n : Nat) (V : List Sh) : SV.underL n (fsL V) = true := SV.underL_map fun _ _ => rfl
theorem snL_under (n : Nat) (V : List Sh) : SV.underL n (snL V) = true := SV.underL_map fun _ _ => rfl
theorem fsL_set (V : List Sh) (t : Nat) (p : Sh) : fsL (V.set t p) = (fsL V).set t (.int .i64 p.1) := by simp [fsL]
theorem snL_set (V : List Sh) (t : Nat) (p : Sh) : snL (V.set t p) = (snL V).set t (.int .i64 p.2) := by simp [snL]
theorem fsL_get (V : List Sh) (t : Nat) (h : t < V.length) : (fsL V)[t]? = some (.int .i64 (V.getD t (0, 0)).1) := by simp [fsL, h]
theorem snL_get (V : List Sh) (t : Nat) (h : t < V.length) : (snL V)[t]? = some (.int .i64 (V.getD t (0, 0)).2) := by simp [snL, h]
theorem fsL_zero (n : Nat) : fsL (fillS n 0) = List.replicate n (.int .i64 0) := by simp [fsL, fillS]
theorem snL_zero (n : Nat) : snL (fillS n 0) = List.replicate n (.int .i64 0) := by simp [snL, fillS]
theorem meetS_in {V : List Sh} {t : Nat} (h : t < V.length) (i : Nat) : meetS V t i = V.set t (if (V.getD t (0, 0)).1 < 0 then ((i : Int), (i : Int)) else ((V.getD t (0, 0)).1, (i : Int))) := by
  unfold meetS; rw [if_neg (by omega), Int.toNat_natCast]
theorem set_getD (V : List Sh) (t : Nat) (h : t < V.length) : (fsL V).set t (.int .i64 (V.getD t (0, 0)).1) = fsL V := by
  apply List.ext_getElem?
  intro j
  rw [List.getElem?_set]
  split
  · rename_i e; subst e; rw [if_pos (by rw [fsL_len]; exact h), fsL_get V t h]
  · rfl
/-- slots that are needed are a function's own -/
theorem need_in {f : Fun} (hg : FunG f) {k : Nat} {s : Int} (h : NeedP f.code k s) : 0 ≤ s ∧ s < f.frame := by
  induction h with
  | read i s h hs => exact hg.reads i h s hs
  | step _ _ _ _ _ _ _ _ ih => exact ih

theorem liveSpans_ok (G : Gl) (hG : GClosed G) (hF : GF G) (m : Img) (hb : ImgB m) (H : List Blk) : ACall Tryd.prog G 7 [.agg m.cells] H (fun r H' => H' = H ∧ r = .bool true) := by
  have k0 := fun H => check_ok G hG hF m 65536 hb H
  have c1 := fun H => awake_ok G hG hF H
  have hmcl : m.cells.length = 4 := rfl
  have hmc1 : m.cells[1]? = some (.list 7 (funsL m.funcs)) := rfl
  have hmcu : ∀ n, SV.underL n [SV.agg m.cells] = true := fun n => by simp only [SV.underL, SV.under, Img.cells_under, Bool.and_self]
  have hfb := hb.code
  have hfl := hb.f
  generalize hmc : m.cells = mc at k0 hmcl hmc1 hmcu
  clear hmc
  generalize hst : chkS m 65536 = st at k0
  have hgood : st = 0 → ∀ f ∈ m.funcs, FunG f := fun e f hf => chk_good (hst.trans e) hf
  generalize m.funcs = funcs at hmc1 hfb hfl hgood
  clear hst hb
  clear m
  refine ACall.of_go TB [] tabOK _ Tryd.func7 rfl (by decide) Tryd.ntmps7 (by simp) rfl (by simp only [initEnv, Nat.reduceAdd]; rfl) fun C R' hR hC hcl hB => ?_; have X := noX; have hC' := congrArg List.length hC
  have X := And.intro X hmcl
  (refine run ?_; repeat' (first | with_reducible exact trivial | ((with_reducible apply Fork.mk) <;> intro hb) | with_reducible apply Two.mk))
  refine callS (k0 _) ?_
  rintro r H' ⟨rfl, rfl⟩
  by_cases hz : st = 0
  · have hgood := hgood hz
    have X := And.intro X hz
    (refine run ?_; repeat' (first | with_reducible exact trivial | ((with_reducible apply Fork.mk) <;> intro hb) | with_reducible apply Two.mk))
    clear X
    refine go_loop (fun i : Nat => [(1, .ptr H.length 0 0 0), (3, .int .i64 i)]) (fun _ => H ++ [.cells 0 4 [.agg mc]]) (fun i => funcs.length - i) (fun i => i ≤ funcs.length) 0 (Nat.zero_le _) (Wk.sub (by simp [subEnv, look])) ?_
    rintro K i hi hK
    have X0 := And.intro noX (And.intro hmcl (And.intro hmc1 (funsL_len funcs)))
    rcases Nat.lt_or_ge i funcs.length with hlt | hge
    · have e1 : (funsL funcs)[i]? = some (.agg (funcs[i]).cells) := by simp [funsL, hlt]
      have hg := hgood _ (List.getElem_mem hlt)
      have hbnd := hfb _ (List.getElem_mem hlt)
      generalize funcs[i] = f at e1 hg hbnd
      have k1 := fun H => few_ok G hG f (by omega) (fun x hx => by have := hbnd.2 x hx; omega) H
      have k4 := fun (h : SmallF f) H => spans_ok G hG hF f (by have := h.1; omega) (fun i hi => by have := (small_list h).1 i hi; omega) (small_list h).2 H
      have k2 := fun (h : SmallF f) H => before_ok G hG hF f (by have := h.1; omega) (fun i hi => by have := (small_list h).1 i hi; omega) (small_list h).2 H
      have hfcl : f.cells.length = 7 := rfl
      have hfc5 : f.cells[5]? = some (.int .i64 f.frame) := rfl
      have hfc6 : f.cells[6]? = some (.list 6 (insL f.code)) := rfl
      have hfcu : ∀ n, SV.underL n [SV.agg f.cells] = true := fun n => by simp only [SV.underL, SV.under, Fun.cells_under, Bool.and_self]
      generalize hfc : f.cells = fc at e1 k1 k2 k4 hfcl hfc5 hfc6 hfcu
      clear hfc
      have X := And.intro X0 (And.intro e1 hfcl)
      (refine run ?_; repeat' (first | with_reducible exact trivial | ((with_reducible apply Fork.mk) <;> intro hb) | with_reducible apply Two.mk))
      refine callS (k1 _) ?_
      rintro r H' ⟨b, rfl, rfl, hsm⟩
      cases b with
      | false =>
        (refine run ?_; repeat' (first | with_reducible exact trivial | ((with_reducible apply Fork.mk) <;> intro hb) | with_reducible apply Two.mk))
        exact finS hR hC' hcl (y := .bool true) (.same _ rfl) ⟨rfl, rfl⟩
      | true =>
      have hsm := hsm rfl
      (refine run ?_; repeat' (first | with_reducible exact trivial | ((with_reducible apply Fork.mk) <;> intro hb) | with_reducible apply Two.mk))
      refine callS (k2 hsm _) ?_
      rintro r H' ⟨rows, hrows, rfl, rfl⟩
      have hrl := hrows.1
      have hrs : rows.length < 3000 := by have := hsm.1; omega
      have hlen1 : (H ++ [Blk.cells 0 4 [SV.agg mc], Blk.cells 0 7 [SV.agg fc]]).length = H.length + 2 := by simp
      rw [hlen1, List.append_assoc]
      clear hlen1
      simp only [List.cons_append, List.nil_append]
      generalize hX : (Blk.cells 0 4 [SV.agg mc] :: Blk.cells 0 7 [SV.agg fc] :: Blk.cells 0 1 ((List.range rows.length).map fun j => SV.sl (H.length + 2 + 1 + j) 0 0 (rows.getD j []).length) :: rows.map fun r => Blk.cells 0 1 (r.map (SV.int .i64))) = XX
      have q0 : (H ++ XX)[H.length]? = some (.cells 0 4 [.agg mc]) := by rw [← hX]; simp
      have q0' : (H ++ XX)[H.length + 1]? = some (.cells 0 7 [.agg fc]) := by rw [← hX]; simp
      have q1 : (H ++ XX)[H.length + 2]? = some (.cells 0 1 ((List.range rows.length).map fun j => SV.sl (H.length + 2 + 1 + j) 0 0 (rows.getD j []).length)) := by rw [← hX]; simp
      have q2 : ∀ j (h : j < rows.length), (H ++ XX)[H.length + 2 + 1 + j]? = some (.cells 0 1 ((rows.getD j []).map (.int .i64))) := fun j h => by
        rw [← hX, List.getElem?_append_right (by omega), show H.length + 2 + 1 + j - H.length = j + 3 by omega]
        simp [h]
      refine go_wkO [(1, .ptr H.length 0 0 0), (3, .int .i64 i), (4, .ptr (H.length + 1) 0 0 0), (36, .list 1 (rowsL rows))] (H ++ [.cells 0 4 [.agg mc], .cells 0 7 [.agg fc]]) (wkS (n0 := H.length) [(H.length, 0), (H.length + 1, 0)] hG hB hC' hcl (hk := .c (g := 0) (sz := 4) (vals := [.agg mc]) q0 (Nat.le_refl _) (Nat.zero_le _) (FrzL.same (hmcu _)) (.c (g := 0) (sz := 7) (vals := [.agg fc]) q0' (by omega) (Nat.zero_le _) (FrzL.same (hfcu _)) .nil))
        (he := ⟨⟨_, rfl, Frz.kp (i := 0) (d := 0) rfl q0 (Nat.le_refl _) rfl rfl⟩, ⟨_, rfl, .same _ rfl⟩, ⟨_, rfl, Frz.kp (i := 1) (d := 0) rfl q0' (Nat.le_refl _) rfl rfl⟩, ⟨_, rfl, frz_rows q1 q2 (by omega) (by simp)⟩, trivial⟩)) ?_
      clear q0 q0' q1 q2 hX
      clear XX k1 k2
      obtain ⟨fr, hfr⟩ := Int.eq_ofNat_of_zero_le hg.frame.1
      rw [hfr] at hfc5
      have hfr2 : fr ≤ 65536 := by have := hg.frame.2; omega
      have X1 := And.intro X0 (And.intro hfcl (And.intro hfc5 (And.intro hfc6 (And.intro (rowsL_len rows) (insL_len f.code)))))
      have X := And.intro X1 hrl
      clear e1
      (refine run ?_; repeat' (first | with_reducible exact trivial | ((with_reducible apply Fork.mk) <;> intro hb) | with_reducible apply Two.mk))
      refine callS (k4 hsm _) ?_
      rintro r H' ⟨rfl, hr4⟩
      have hS : ∃ S : List Sh, S = spansN f.code rows fr f.code.length ∧ r = .list 2 (shL S) := by
        rcases hr4 with ⟨h1, rfl⟩ | ⟨h1, ra, ha, rfl⟩
        · have h0 : fr = 0 := by omega
          refine ⟨_, rfl, ?_⟩
          have : spansN f.code rows fr f.code.length = [] := List.eq_nil_of_length_eq_zero (by rw [spansN_len, h0])
          rw [this]; rfl
        · obtain rfl := rows_uniq ha hrows
          exact ⟨_, rfl, by rw [hfr, Int.toNat_natCast]⟩
      obtain ⟨S, hSe, rfl⟩ := hS
      have hSl : S.length = fr := by rw [hSe, spansN_len]
      clear k4 hr4 X
      have X2 := And.intro X1 (And.intro hrl (And.intro (shL_len S) hSl))
      have X := X2
      (refine run ?_; repeat' (first | with_reducible exact trivial | ((with_reducible apply Fork.mk) <;> intro hb) | with_reducible apply Two.mk))
      clear X
      refine go_loop (fun a : Nat => [(1, .ptr H.length 0 0 0), (3, .int .i64 i), (4, .ptr (H.length + 1) 0 0 0), (5, .list 1 (rowsL rows)), (6, .list 2 (shL S)), (7, .sl (H.length + 2) 0 0 fr), (8, .sl (H.length + 3) 0 0 fr), (9, .int .i64 a)]) (fun a => H ++ [.cells 0 4 [.agg mc], .cells 0 7 [.agg fc], .cells 0 1 (fsL (fillS fr a)), .cells 0 1 (snL (fillS fr a))]) (fun a => fr - a) (fun a => a ≤ fr) 0 (Nat.zero_le _) (by rw [fsL_zero, snL_zero]; exact Wk.sub (by simp [subEnv, look])) ?_
      rintro K2 a ha hK2
      have hfl := fillS_len ha
      rcases Nat.lt_or_ge a fr with hlt | hge
      · have s1 : (fsL (fillS fr a)).set a (.int .i64 (-1)) = fsL (fillS fr (a + 1)) := by rw [← fillS_set hlt, fsL_set]
        have s2 : (snL (fillS fr a)).set a (.int .i64 (-1)) = snL (fillS fr (a + 1)) := by rw [← fillS_set hlt, snL_set]
        have g1 := fsL_get (fillS fr a) a (by omega)
        have g2 := snL_get (fillS fr a) a (by omega)
        have X := And.intro X2 (And.intro s1 (And.intro s2 (And.intro g1 (And.intro g2 (And.intro (fsL_len (fillS fr a)) (And.intro (snL_len (fillS fr a)) hfl))))))
        (refine run ?_; repeat' (first | with_reducible exact trivial | ((with_reducible apply Fork.mk) <;> intro hb) | with_reducible apply Two.mk))
        exact hK2 _ _ (a + 1) (by omega) (by omega) (Wk.sub (by simp [subEnv, look]))
      have : a = fr := by omega
      subst this
      clear hK2
      have X := And.intro X2 (Int.lt_irrefl (a : Int))
      (refine run ?_; repeat' (first | with_reducible exact trivial | ((with_reducible apply Fork.mk) <;> intro hb) | with_reducible apply Two.mk))
      clear X
      rw [show fillS a a = spansN f.code rows a 0 by simp [fillS, spansN]]
      refine go_loop (fun k : Nat => [(1, .ptr H.length 0 0 0), (3, .int .i64 i), (4, .ptr (H.length + 1) 0 0 0), (5, .list 1 (rowsL rows)), (6, .list 2 (shL S)), (7, .sl (H.length + 2) 0 0 a), (8, .sl (H.length + 3) 0 0 a), (10, .int .i64 k)]) (fun k => H ++ [.cells 0 4 [.agg mc], .cells 0 7 [.agg fc], .cells 0 1 (fsL (spansN f.code rows a k)), .cells 0 1 (snL (spansN f.code rows a k))]) (fun k => f.code.length - k) (fun k => k ≤ f.code.length) 0 (Nat.zero_le _) (Wk.sub (by simp [subEnv, look])) ?_
      rintro K2 k hk hK2
      have hVl := spansN_len f.code rows a k
      rcases Nat.lt_or_ge k f.code.length with hlt | hge
      · have e1 : (insL f.code)[k]? = some (.agg (f.code[k]).cells) := by simp [insL, hlt]
        have er := rowsL_get rows k (by omega)
        have hrow : ∀ s ∈ rows.getD k [], 0 ≤ s ∧ s < f.frame := fun s hs => by
          rw [List.getD_eq_getElem?_getD, List.getElem?_eq_getElem (by omega)] at hs
          exact need_in hg (((hrows.2 k (by omega)).2 s).1 hs)
        have hrowl : (rows.getD k []).length ≤ 4194304 := by
          rw [List.getD_eq_getElem?_getD, List.getElem?_eq_getElem (by omega)]; exact Nat.le_trans (rows_len hrows (by omega)) (small_list hsm).2
        have hkb : k < 3000 := by have := hsm.1; omega
        have c4 := fun H => writes_ok G hG hF f.code[k] H
        have hwr := hg.writes k hlt
        have hsx := spansN_succ f.code rows a k
        rw [wrN_eq hlt] at hsx
        rw [hfr] at hrow hwr
        generalize rows.getD k [] = row at er hrow hrowl hsx
        generalize f.code[k] = x at e1 c4 hwr hsx
        obtain ⟨op, xa, xb, xc, xn, xl⟩ := x
        simp only [Ins.cells] at e1 c4
        generalize wrS ⟨op, xa, xb, xc, xn, xl⟩ = w at c4 hwr hsx
        generalize spansN f.code rows a k = V0 at hVl hsx ⊢
        have hrowm : (row.map (SV.int .i64)).length = row.length := by simp
        have key : ∀ (W : List Int), W = (if 0 ≤ w then row ++ [w] else row) → (∀ s ∈ W, 0 ≤ s ∧ s < (a : Int)) ∧ meets V0 W k = spansN f.code rows a (k + 1) ∧ W.length ≤ 4194305 := fun W hW => by
          by_cases h0 : 0 ≤ w
          · rw [if_pos h0] at hW
            subst hW
            refine ⟨fun s hs => ?_, hsx.symm, by simp; omega⟩
            rcases List.mem_append.1 hs with hs | hs
            · exact hrow s hs
            · rw [List.mem_singleton.1 hs]; omega
          · rw [if_neg h0] at hW
            subst hW
            refine ⟨hrow, ?_, by omega⟩
            rw [hsx]; unfold meets; rw [List.foldl_append]
            have hno : ∀ V : List Sh, meetS V w k = V := fun V => by unfold meetS; rw [if_pos (.inl (by omega))]
            exact (hno _).symm
        by_cases h0 : 0 ≤ w
        · have hk2 := key (row ++ [w]) (by rw [if_pos h0])
          have X := And.intro X2 (And.intro e1 (And.intro er (And.intro hrowm h0)))
          (refine run ?_; repeat' (first | with_reducible exact trivial | ((with_reducible apply Fork.mk) <;> intro hb) | with_reducible apply Two.mk))
          have hWe : row.map (SV.int .i64) ++ [SV.int .i64 w] = (row ++ [w]).map (.int .i64) := by simp
          have hWl : row.length + 1 = (row ++ [w]).length := by simp
          rw [hWe, hWl]
          clear hWe hWl
          generalize row ++ [w] = W at hk2 ⊢
          clear X
          refine go_loop (fun j : Nat => [(1, .ptr H.length 0 0 0), (3, .int .i64 i), (4, .ptr (H.length + 1) 0 0 0), (5, .list 1 (rowsL rows)), (6, .list 2 (shL S)), (7, .sl (H.length + 2) 0 0 a), (8, .sl (H.length + 3) 0 0 a), (10, .int .i64 k), (11, .sl (H.length + 4) 2 0 W.length), (13, .int .i64 j)]) (fun j => H ++ [.cells 0 4 [.agg mc], .cells 0 7 [.agg fc], .cells 0 1 (fsL (meets V0 (W.take j) k)), .cells 0 1 (snL (meets V0 (W.take j) k)), .cells 2 1 (W.map (.int .i64))]) (fun j => W.length - j) (fun j => j ≤ W.length) 0 (Nat.zero_le _) (Wk.sub (by simp [subEnv, look, meets])) ?_
          rintro K3 j hj hK3
          have hWm : (W.map (SV.int .i64)).length = W.length := by simp
          have hVm := meets_len (W.take j) V0 k
          rw [hVl] at hVm
          rcases Nat.lt_or_ge j W.length with hlt3 | hge3
          · obtain ⟨t, ht0⟩ := Int.eq_ofNat_of_zero_le (hk2.1 W[j] (List.getElem_mem hlt3)).1
            have hta := (hk2.1 W[j] (List.getElem_mem hlt3)).2
            rw [ht0] at hta
            have hta : t < a := by omega
            have e2 : (W.map (SV.int .i64))[j]? = some (.int .i64 t) := by simp [hlt3, ht0]
            have hms : meets V0 (W.take (j + 1)) k = meetS (meets V0 (W.take j) k) t k := by
              unfold meets; rw [List.take_succ_eq_append_getElem hlt3, List.foldl_append, ← ht0]; rfl
            generalize meets V0 (W.take j) k = V at hms hVm ⊢
            rw [meetS_in (by omega)] at hms
            have g1 := fsL_get V t (by omega)
            have g2 := snL_get V t (by omega)
            have g3 := set_getD V t (by omega)
            have X := And.intro X2 (And.intro e2 (And.intro hWm (And.intro hVm (And.intro (fsL_len V) (And.intro (snL_len V) (And.intro g1 (And.intro g2 hta)))))))
            (refine run ?_; repeat' (first | with_reducible exact trivial | ((with_reducible apply Fork.mk) <;> intro hb) | with_reducible apply Two.mk))
            · refine hK3 _ _ (j + 1) (by omega) (by omega) ?_
              rw [hms, if_pos hb, fsL_set, snL_set]
              exact Wk.sub (by simp [subEnv, look])
            · refine hK3 _ _ (j + 1) (by omega) (by omega) ?_
              rw [hms, if_neg hb, fsL_set, snL_set, g3]
              exact Wk.sub (by simp [subEnv, look])
          · have : j = W.length := by omega
            subst this
            clear hK3
            rw [List.take_length, hk2.2.1]
            have X := And.intro X2 (And.intro hWm (Int.lt_irrefl (W.length : Int)))
            generalize hV1 : spansN f.code rows a (k + 1) = V1
            (refine run ?_; repeat' (first | with_reducible exact trivial | ((with_reducible apply Fork.mk) <;> intro hb) | with_reducible apply Two.mk))
            subst hV1
            exact hK2 _ _ (k + 1) (by omega) (by omega) (wkS (n0 := H.length) [(H.length, 0), (H.length + 1, 0), (H.length + 2, 0), (H.length + 3, 0)] hG hB hC' hcl (hk := .c (g := 0) (sz := 4) (vals := [.agg mc]) (by simp) (Nat.le_refl _) (Nat.zero_le _) (FrzL.same (hmcu _)) (.c (g := 0) (sz := 7) (vals := [.agg fc]) (by simp) (by omega) (Nat.zero_le _) (FrzL.same (hfcu _)) (.c (g := 0) (sz := 1) (vals := fsL (spansN f.code rows a (k + 1))) (by simp) (by omega) (Nat.zero_le _) (FrzL.same (fsL_under _ _)) (.c (g := 0) (sz := 1) (vals := snL (spansN f.code rows a (k + 1))) (by simp) (by omega) (Nat.zero_le _) (FrzL.same (snL_under _ _)) .nil))))
              (he := ⟨⟨_, rfl, Frz.kp (i := 0) (d := 0) (g := 0) (sz := 4) (vals := [.agg mc]) rfl (by simp) (Nat.le_refl _) rfl rfl⟩, ⟨_, rfl, .same _ rfl⟩, ⟨_, rfl, Frz.kp (i := 1) (d := 0) (g := 0) (sz := 7) (vals := [.agg fc]) rfl (by simp) (Nat.le_refl _) rfl rfl⟩, ⟨_, rfl, .same _ (show SV.underL _ (rowsL rows) = true from rowsL_under _ _)⟩, ⟨_, rfl, .same _ (show SV.underL _ (shL S) = true from shL_under _ _)⟩, ⟨_, rfl, Frz.ks (i := 2) (d := 0) (g := 0) (sz := 1) (vals := fsL (spansN f.code rows a (k + 1))) rfl (by simp) (Nat.zero_le _) rfl rfl rfl⟩, ⟨_, rfl, Frz.ks (i := 3) (d := 0) (g := 0) (sz := 1) (vals := snL (spansN f.code rows a (k + 1))) rfl (by simp) (Nat.zero_le _) rfl rfl rfl⟩, ⟨_, rfl, .same _ rfl⟩, trivial⟩))
        · have hk2 := key row (by rw [if_neg h0])
          have X := And.intro X2 (And.intro e1 (And.intro er (And.intro hrowm h0)))
          (refine run ?_; repeat' (first | with_reducible exact trivial | ((with_reducible apply Fork.mk) <;> intro hb) | with_reducible apply Two.mk))
          clear key
          generalize row = W at hk2 ⊢
          clear X
          refine go_loop (fun j : Nat => [(1, .ptr H.length 0 0 0), (3, .int .i64 i), (4, .ptr (H.length + 1) 0 0 0), (5, .list 1 (rowsL rows)), (6, .list 2 (shL S)), (7, .sl (H.length + 2) 0 0 a), (8, .sl (H.length + 3) 0 0 a), (10, .int .i64 k), (11, .sl (H.length + 4) 1 0 W.length), (13, .int .i64 j)]) (fun j => H ++ [.cells 0 4 [.agg mc], .cells 0 7 [.agg fc], .cells 0 1 (fsL (meets V0 (W.take j) k)), .cells 0 1 (snL (meets V0 (W.take j) k)), .cells 1 1 (W.map (.int .i64))]) (fun j => W.length - j) (fun j => j ≤ W.length) 0 (Nat.zero_le _) (Wk.sub (by simp [subEnv, look, meets])) ?_
          rintro K3 j hj hK3
          have hWm : (W.map (SV.int .i64)).length = W.length := by simp
          have hVm := meets_len (W.take j) V0 k
          rw [hVl] at hVm
          rcases Nat.lt_or_ge j W.length with hlt3 | hge3
          · obtain ⟨t, ht0⟩ := Int.eq_ofNat_of_zero_le (hk2.1 W[j] (List.getElem_mem hlt3)).1
            have hta := (hk2.1 W[j] (List.getElem_mem hlt3)).2
            rw [ht0] at hta
            have hta : t < a := by omega
            have e2 : (W.map (SV.int .i64))[j]? = some (.int .i64 t) := by simp [hlt3, ht0]
            have hms : meets V0 (W.take (j + 1)) k = meetS (meets V0 (W.take j) k) t k := by
              unfold meets; rw [List.take_succ_eq_append_getElem hlt3, List.foldl_append, ← ht0]; rfl
            generalize meets V0 (W.take j) k = V at hms hVm ⊢
            rw [meetS_in (by omega)] at hms
            have g1 := fsL_get V t (by omega)
            have g2 := snL_get V t (by omega)
            have g3 := set_getD V t (by omega)
            have X := And.intro X2 (And.intro e2 (And.intro hWm (And.intro hVm (And.intro (fsL_len V) (And.intro (snL_len V) (And.intro g1 (And.intro g2 hta)))))))
            (refine run ?_; repeat' (first | with_reducible exact trivial | ((with_reducible apply Fork.mk) <;> intro hb) | with_reducible apply Two.mk))
            · refine hK3 _ _ (j + 1) (by omega) (by omega) ?_
              rw [hms, if_pos hb, fsL_set, snL_set]
              exact Wk.sub (by simp [subEnv, look])
            · refine hK3 _ _ (j + 1) (by omega) (by omega) ?_
              rw [hms, if_neg hb, fsL_set, snL_set, g3]
              exact Wk.sub (by simp [subEnv, look])
          · have : j = W.length := by omega
            subst this
            clear hK3
            rw [List.take_length, hk2.2.1]
            have X := And.intro X2 (And.intro hWm (Int.lt_irrefl (W.length : Int)))
            generalize hV1 : spansN f.code rows a (k + 1) = V1
            (refine run ?_; repeat' (first | with_reducible exact trivial | ((with_reducible apply Fork.mk) <;> intro hb) | with_reducible apply Two.mk))
            subst hV1
            exact hK2 _ _ (k + 1) (by omega) (by omega) (wkS (n0 := H.length) [(H.length, 0), (H.length + 1, 0), (H.length + 2, 0), (H.length + 3, 0)] hG hB hC' hcl (hk := .c (g := 0) (sz := 4) (vals := [.agg mc]) (by simp) (Nat.le_refl _) (Nat.zero_le _) (FrzL.same (hmcu _)) (.c (g := 0) (sz := 7) (vals := [.agg fc]) (by simp) (by omega) (Nat.zero_le _) (FrzL.same (hfcu _)) (.c (g := 0) (sz := 1) (vals := fsL (spansN f.code rows a (k + 1))) (by simp) (by omega) (Nat.zero_le _) (FrzL.same (fsL_under _ _)) (.c (g := 0) (sz := 1) (vals := snL (spansN f.code rows a (k + 1))) (by simp) (by omega) (Nat.zero_le _) (FrzL.same (snL_under _ _)) .nil))))
              (he := ⟨⟨_, rfl, Frz.kp (i := 0) (d := 0) (g := 0) (sz := 4) (vals := [.agg mc]) rfl (by simp) (Nat.le_refl _) rfl rfl⟩, ⟨_, rfl, .same _ rfl⟩, ⟨_, rfl, Frz.kp (i := 1) (d := 0) (g := 0) (sz := 7) (vals := [.agg fc]) rfl (by simp) (Nat.le_refl _) rfl rfl⟩, ⟨_, rfl, .same _ (show SV.underL _ (rowsL rows) = true from rowsL_under _ _)⟩, ⟨_, rfl, .same _ (show SV.underL _ (shL S) = true from shL_under _ _)⟩, ⟨_, rfl, Frz.ks (i := 2) (d := 0) (g := 0) (sz := 1) (vals := fsL (spansN f.code rows a (k + 1))) rfl (by simp) (Nat.zero_le _) rfl rfl rfl⟩, ⟨_, rfl, Frz.ks (i := 3) (d := 0) (g := 0) (sz := 1) (vals := snL (spansN f.code rows a (k + 1))) rfl (by simp) (Nat.zero_le _) rfl rfl rfl⟩, ⟨_, rfl, .same _ rfl⟩, trivial⟩))
      · have : k = f.code.length := by omega
        subst this
        clear hK2
        rw [← hSe]
        have X := And.intro X2 (Int.lt_irrefl (f.code.length : Int))
        (refine run ?_; repeat' (first | with_reducible exact trivial | ((with_reducible apply Fork.mk) <;> intro hb) | with_reducible apply Two.mk))
        clear X
        refine go_loop (fun q : Nat => [(1, .ptr H.length 0 0 0), (3, .int .i64 i), (4, .ptr (H.length + 1) 0 0 0), (5, .list 1 (rowsL rows)), (6, .list 2 (shL S)), (7, .sl (H.length + 2) 0 0 a), (8, .sl (H.length + 3) 0 0 a), (14, .int .i64 q)]) (fun q => H ++ [.cells 0 4 [.agg mc], .cells 0 7 [.agg fc], .cells 0 1 (fsL (S)), .cells 0 1 (snL (S))]) (fun q => a - q) (fun q => q ≤ a) 0 (Nat.zero_le _) (Wk.sub (by simp [subEnv, look])) ?_
        rintro K3 q hq hK3
        rcases Nat.lt_or_ge q a with hlt3 | hge3
        · have e1 : (shL S)[q]? = some (.agg [.int .i64 (S.getD q (0, 0)).1, .int .i64 (S.getD q (0, 0)).2]) := by
            rw [shL_get, List.getElem?_eq_getElem (by omega), List.getD_eq_getElem?_getD, List.getElem?_eq_getElem (by omega)]; rfl
          have g1 := fsL_get S q (by omega)
          have g2 := snL_get S q (by omega)
          have X := And.intro X2 (And.intro e1 (And.intro g1 (And.intro g2 (And.intro (fsL_len S) (snL_len S)))))
          (refine run ?_; repeat' (first | with_reducible exact trivial | ((with_reducible apply Fork.mk) <;> intro hb) | with_reducible apply Two.mk))
          all_goals first
            | exact hK3 _ _ (q + 1) (by omega) (by omega) (Wk.sub (by simp [subEnv, look]))
            | (exfalso; revert hb; simp; done)
        · have : q = a := by omega
          subst this
          clear hK3
          have X := And.intro X2 (Int.lt_irrefl (q : Int))
          (refine run ?_; repeat' (first | with_reducible exact trivial | ((with_reducible apply Fork.mk) <;> intro hb) | with_reducible apply Two.mk))
          exact hK _ _ (i + 1) (by omega) (by omega) (wkS (n0 := H.length) [(H.length, 0)] hG hB hC' hcl (hk := .c (g := 0) (sz := 4) (vals := [.agg mc]) (by simp) (Nat.le_refl _) (Nat.zero_le _) (FrzL.same (hmcu _)) .nil))
    · have : i = funcs.length := by omega
      subst this
      clear hK
      have X := And.intro X0 (Int.lt_irrefl (funcs.length : Int))
      (refine run ?_; repeat' (first | with_reducible exact trivial | ((with_reducible apply Fork.mk) <;> intro hb) | with_reducible apply Two.mk))
      exact finS hR hC' hcl (y := .bool true) (.same _ rfl) ⟨rfl, rfl⟩
  · have X := And.intro X hz
    (refine run ?_; repeat' (first | with_reducible exact trivial | ((with_reducible apply Fork.mk) <;> intro hb) | with_reducible apply Two.mk))
    exact finS hR hC' hcl (y := .bool true) (.same _ rfl) ⟨rfl, rfl⟩
end Go.Proofs.YtneklfhahljgnaaDoor
end

section
namespace Go.Proofs.YtneklfhahljgnaaDoor
open Go Go.ChangeShapes Go.WideShapes Go.RowKit
set_option linter.unusedVariables false

/-- the laid table among what the walks may lean on -/
def Gf : Gl := ⟨[(0, fieldsV)], none⟩
theorem gclosedF : GClosed Gf := by
  intro p hp
  rcases List.mem_cons.1 hp with rfl | hp
  · exact ints_under _ _
  · cases hp
theorem gF : GF Gf := rfl
theorem own : ownKnob Tryd.prog.godebug = none := by kernel_rfl
theorem laid : laidOutB Tryd.prog = true := by kernel_rfl
theorem gTab : Tryd.prog.globalNamed "teasel/code.fields" = some 0 := by kernel_rfl
theorem gTabType : (Tryd.prog.globals[0]?).map (·.type) = some 104 := by kernel_rfl
theorem cellsT : Tryd.prog.cellsOf 104 = 27 := by kernel_rfl
theorem cells3 : Tryd.prog.cellsOf 3 = 1 := by kernel_rfl
theorem table {W : World} (h : laidMetH Tryd.prog [("teasel/code.fields", Rows.laid_teasel_code_fields)] W) : Lib.TabIs Tryd.prog W "teasel/code.fields" .i64 fieldsL :=
  Lib.tabIs_of_head (rest := []) gTab gTabType Tryd.underlying104 Tryd.underlying3 cells3 cellsT h
theorem ints_rep {c : Cx} : ∀ (l : List Int), (∀ n ∈ l, IntKind.i64.min ≤ n ∧ n ≤ IntKind.i64.max) → RepL c (l.map (.int .i64)) (l.map fun n => Value.int .i64 n)
  | [], _ => RepL.mk_nil
  | n :: l, h => RepL.mk_cons (by simp only [Rep]; exact ⟨trivial, h n (by simp)⟩) (ints_rep l fun m hm => h m (by simp [hm]))
theorem gok {W : World} (h : laidMetH Tryd.prog [("teasel/code.fields", Rows.laid_teasel_code_fields)] W) : GOK Gf (rdC W) := by
  refine ⟨fun p hp => ?_, fun C0 h0 => by cases h0⟩
  rcases List.mem_cons.1 hp with rfl | hp
  · have ht : ∀ i, i < 27 → W.cell? ⟨0, i, none⟩ = some (.int .i64 (fieldsL.getD i 0)) := fun i hi => (table h).cell gTab i hi
    have h0 := ht 0 (by omega)
    have hsz : 0 < W.heap.size := by
      have : W.heap[0]? ≠ none := fun e => by simp [World.cell?, e] at h0
      simp only [ne_eq, Array.getElem?_eq_none_iff] at this; omega
    simp only [Rep]
    refine ⟨0, 0, .agg (fieldsL.map fun n => Value.int .i64 n).toArray, rfl, ⟨_, ints_rep fieldsL (by decide), ?_, rfl⟩, ?_, ?_, rdC_imm hsz⟩
    · intro u hu; obtain ⟨n, _, rfl⟩ := List.mem_map.1 hu; rfl
    · intro v hv
      obtain ⟨n, _, rfl⟩ := List.mem_map.1 (show v ∈ fieldsL.map fun n => Value.int .i64 n by simpa [Value.cells] using hv)
      rfl
    · intro j v hv
      have hv2 : (fieldsL.map fun n => Value.int .i64 n)[j]? = some v := by simpa [Value.cells] using hv
      rw [List.getElem?_map, Option.map_eq_some_iff] at hv2
      obtain ⟨n, hn, rfl⟩ := hv2
      have hj := (List.getElem?_eq_some_iff.1 hn).1
      show W.cell? ⟨0, 0 + j, none⟩ = _
      rw [Nat.zero_add, ht j hj, List.getD_eq_getElem?_getD, hn]; rfl
  · cases hp

section
variable {H : Type} {enc : TypeId × Value → H} {W : World} {sp : Nat → Bool}
theorem law_callsG {P : Program} {G : Gl} {f : FuncId} {args : List SV} {vs : List Value} (h : ACall P G f args [] (fun r H' => H' = [] ∧ r = .bool true)) (hg : GOK G (rdC W)) (hv : RepL (rdC W) args vs) {R : World → Prop} (hR : ∀ W', Below W.heap.size W W' → R W') :
    Calls P f vs.toArray W fun e W' => ∃ v, e = .returned v ∧ v = .bool true ∧ R W' := by
  refine (callsIn_wide (n := 0)).1 ((h.2 (rdC W) vs rfl (rdC_ok W) hg hv).mono ?_)
  rintro e w' ⟨v, x, c', rfl, hw, ⟨_, rfl⟩, _, hx, hg⟩
  simp only [Rep] at hx
  exact ⟨v, rfl, hx, hR _ (Grow.below hg hw)⟩
theorem read_int (n : Nat) : Rd enc Tryd.prog W sp n 3 (fun i : Int => [.int .i64 i]) (fun _ => 1) := rd_int (by kernel_rfl) (by kernel_rfl)
theorem read_bool (n : Nat) : Rd enc Tryd.prog W sp n 4 (fun b : Bool => [.bool b]) (fun _ => 1) := rd_bool (by kernel_rfl) (by kernel_rfl)
theorem read_str (n : Nat) : Rd enc Tryd.prog W sp n 9 (fun s : Str => [.str s]) (fun s => s.length + 1) := rd_str (by kernel_rfl) (by kernel_rfl)
theorem read_shift (n : Nat) : Rd enc Tryd.prog W sp n 42 (fun p : Sh => [.int .i64 p.1, .int .i64 p.2]) (fun _ => 2) := by
  intro cs x hx
  obtain ⟨xs, m, rfl, rfl, hl, hlen, hf⟩ := DataW.trod_struct Tryd.underlying42 hx
  obtain ⟨z0, z1, rfl⟩ := len_two (show xs.length = 2 from hlen)
  have hsz : Tryd.prog.cellsOf 42 = 2 := by kernel_rfl
  obtain ⟨y0, a, e0, g0, w0⟩ := field_of hf 0 0 1 (by kernel_rfl) (by kernel_rfl) (read_int m) (by simp)
  obtain ⟨y1, b, e1, g1, w1⟩ := field_of hf 1 1 1 (by kernel_rfl) (by kernel_rfl) (read_int m) (by simp)
  rw [hsz] at hl
  refine ⟨(a, b), ?_, by rw [hsz, hl], ?_⟩
  · have : [SV.int .i64 a, SV.int .i64 b] = [SV.int .i64 a] ++ ([SV.int .i64 b] ++ []) := rfl
    simp only
    rw [this, ← List.drop_zero (l := cs)]
    refine .cut g0 (.cut g1 ?_)
    rw [List.drop_eq_nil_of_le (by omega)]
    exact .nil
  · cases e0; cases e1
    simp only [Rows.uptoBulk, Rows.uptoBulkAll, List.map_cons, List.map_nil]
    omega
theorem read_shifts (n : Nat) : Rd enc Tryd.prog W sp n 35 (fun l : List Sh => [.list 2 (shL l)]) (fun l => 1 + 2 * l.length) := by
  have h := rd_slice (enc := enc) (P := Tryd.prog) (W := W) (sp := sp) (t := 35) (e := 42) true (f := fun p : Sh => [SV.int .i64 p.1, SV.int .i64 p.2]) (wt := fun _ => 2) (n := 2) (N := n) (by kernel_rfl) (by kernel_rfl) (by kernel_rfl) (by omega) (.inl rfl) (fun m _ => read_shift m)
  intro cs x hx
  obtain ⟨a, h1, h2, h3⟩ := h cs x hx
  refine ⟨a, h1, h2, ?_⟩
  have : (a.map fun _ : Sh => 2).sum = 2 * a.length := by
    clear h1 h2 h3
    induction a with
    | nil => rfl
    | cons x l ih => simp only [List.map_cons, List.sum_cons, ih, List.length_cons]; omega
  simp only [this] at h3
  exact h3
end

/-- A WORLD FOR THE WITNESS. -/
noncomputable def laidWorld (os : Os) : World :=
  { World.holding Tryd.prog os ⟨#[], #[], []⟩ with heap := (World.holding Tryd.prog os ⟨#[], #[], []⟩).heap.modify 0 fun
      | .cells _ t frozen => .cells (fieldsL.map fun n => Value.int .i64 n).toArray t frozen
      | o => o }
end Go.Proofs.YtneklfhahljgnaaDoor
end

section
namespace Go.Proofs.YtneklfhahljgnaaDoor
open Go Go.ChangeShapes Go.WideShapes Go.RowKit
set_option linter.unusedVariables false

section
variable {H : Type} {enc : TypeId × Value → H} {W : World} {sp : Nat → Bool}
theorem read_ints (n : Nat) : Rd enc Tryd.prog W sp n 32 (fun l : List Int => [.list 1 (l.map (.int .i64))]) (fun l => 1 + l.length) := by
  have h := rd_slice (enc := enc) (P := Tryd.prog) (W := W) (sp := sp) (t := 32) (e := 3) false (f := fun i : Int => [SV.int .i64 i]) (wt := fun _ => 1) (n := 1) (N := n) (by kernel_rfl) (by kernel_rfl) (by kernel_rfl) (by omega) (.inr rfl) (fun m _ => read_int m)
  intro cs x hx
  obtain ⟨a, h1, h2, h3⟩ := h cs x hx
  refine ⟨a, h1, h2, ?_⟩
  have : (a.map fun _ : Int => 1).sum = a.length := by
    clear h1 h2 h3
    induction a with
    | nil => rfl
    | cons x l ih => simp only [List.map_cons, List.sum_cons, ih, List.length_cons]; omega
  simp only [this] at h3
  exact h3
def insW (i : Ins) : Nat := 6 + i.l.length
theorem ins_cells (i : Ins) : i.cells = [.int .i64 i.op] ++ ([.int .i64 i.a] ++ ([.int .i64 i.b] ++ ([.int .i64 i.c] ++ ([.int .i64 i.n] ++ ([.list 1 (i.l.map (.int .i64))] ++ []))))) := rfl
theorem read_ins (n : Nat) : Rd enc Tryd.prog W sp n 40 Ins.cells insW := by
  intro cs x hx
  obtain ⟨xs, m, rfl, rfl, hl, hlen, hf⟩ := DataW.trod_struct Tryd.underlying40 hx
  obtain ⟨z0, z1, z2, z3, z4, z5, rfl⟩ := len_six (show xs.length = 6 from hlen)
  have hsz : Tryd.prog.cellsOf 40 = 6 := by kernel_rfl
  obtain ⟨y0, a0, e0, g0, w0⟩ := field_of hf 0 0 1 (by kernel_rfl) (by kernel_rfl) (read_int m) (by simp)
  obtain ⟨y1, a1, e1, g1, w1⟩ := field_of hf 1 1 1 (by kernel_rfl) (by kernel_rfl) (read_int m) (by simp)
  obtain ⟨y2, a2, e2, g2, w2⟩ := field_of hf 2 2 1 (by kernel_rfl) (by kernel_rfl) (read_int m) (by simp)
  obtain ⟨y3, a3, e3, g3, w3⟩ := field_of hf 3 3 1 (by kernel_rfl) (by kernel_rfl) (read_int m) (by simp)
  obtain ⟨y4, a4, e4, g4, w4⟩ := field_of hf 4 4 1 (by kernel_rfl) (by kernel_rfl) (read_int m) (by simp)
  obtain ⟨y5, a5, e5, g5, w5⟩ := field_of hf 5 5 1 (by kernel_rfl) (by kernel_rfl) (read_ints m) (by simp)
  rw [hsz] at hl
  refine ⟨⟨a0, a1, a2, a3, a4, a5⟩, ?_, by rw [hsz, hl], ?_⟩
  · rw [ins_cells, ← List.drop_zero (l := cs)]
    refine .cut g0 (.cut g1 (.cut g2 (.cut g3 (.cut g4 (.cut g5 ?_)))))
    rw [List.drop_eq_nil_of_le (by omega)]
    exact .nil
  · cases e0; cases e1; cases e2; cases e3; cases e4; cases e5
    simp only [Rows.uptoBulk, Rows.uptoBulkAll, List.map_cons, List.map_nil, insW]
    omega
def funW (f : Fun) : Nat := (f.code.map insW).sum
theorem fun_cells (f : Fun) : f.cells = [.str f.name] ++ ([.bool f.thunk] ++ ([.bool f.upd] ++ ([.int .i64 f.free] ++ ([.int .i64 f.params] ++ ([.int .i64 f.frame] ++ ([.list 6 (f.code.map fun x => bx true x.cells)] ++ [])))))) := rfl
theorem read_fun (n : Nat) : Rd enc Tryd.prog W sp n 24 Fun.cells funW := by
  intro cs x hx
  obtain ⟨xs, m, rfl, rfl, hl, hlen, hf⟩ := DataW.trod_struct Tryd.underlying24 hx
  obtain ⟨z0, z1, z2, z3, z4, z5, z6, rfl⟩ := len_seven (show xs.length = 7 from hlen)
  have hsz : Tryd.prog.cellsOf 24 = 7 := by kernel_rfl
  obtain ⟨y0, a0, e0, g0, w0⟩ := field_of hf 0 0 1 (by kernel_rfl) (by kernel_rfl) (read_str m) (by simp)
  obtain ⟨y1, a1, e1, g1, w1⟩ := field_of hf 1 1 1 (by kernel_rfl) (by kernel_rfl) (read_bool m) (by simp)
  obtain ⟨y2, a2, e2, g2, w2⟩ := field_of hf 2 2 1 (by kernel_rfl) (by kernel_rfl) (read_bool m) (by simp)
  obtain ⟨y3, a3, e3, g3, w3⟩ := field_of hf 3 3 1 (by kernel_rfl) (by kernel_rfl) (read_int m) (by simp)
  obtain ⟨y4, a4, e4, g4, w4⟩ := field_of hf 4 4 1 (by kernel_rfl) (by kernel_rfl) (read_int m) (by simp)
  obtain ⟨y5, a5, e5, g5, w5⟩ := field_of hf 5 5 1 (by kernel_rfl) (by kernel_rfl) (read_int m) (by simp)
  obtain ⟨y6, a6, e6, g6, w6⟩ := field_of hf 6 6 1 (by kernel_rfl) (by kernel_rfl) (rd_slice (t := 22) (e := 40) true (by kernel_rfl) (by kernel_rfl) (n := 6) (by kernel_rfl) (by omega) (.inl rfl) (fun m' _ => read_ins m')) (by simp)
  rw [hsz] at hl
  refine ⟨⟨a0, a1, a2, a3, a4, a5, a6⟩, ?_, by rw [hsz, hl], ?_⟩
  · rw [fun_cells, ← List.drop_zero (l := cs)]
    refine .cut g0 (.cut g1 (.cut g2 (.cut g3 (.cut g4 (.cut g5 (.cut g6 ?_))))))
    rw [List.drop_eq_nil_of_le (by omega)]
    exact .nil
  · cases e0; cases e1; cases e2; cases e3; cases e4; cases e5; cases e6
    simp only [Rows.uptoBulk, Rows.uptoBulkAll, List.map_cons, List.map_nil, funW]
    omega
theorem funW_le (f : Fun) : f.code.length ≤ funW f ∧ ∀ i ∈ f.code, i.l.length ≤ funW f := by
  unfold funW
  have hk : ∀ l : List Ins, l.length ≤ (l.map insW).sum := by
    intro l
    induction l with
    | nil => simp
    | cons x r ih => simp only [List.length_cons, List.map_cons, List.sum_cons, insW] at ih ⊢; omega
  refine ⟨hk _, fun i hi => ?_⟩
  have key : ∀ l : List Ins, i ∈ l → i.l.length ≤ (l.map insW).sum := by
    intro l
    induction l with
    | nil => intro h; cases h
    | cons x r ih =>
      intro h
      simp only [List.map_cons, List.sum_cons, insW]
      rcases List.mem_cons.1 h with e | h
      · rw [e]; omega
      · have := ih h; omega
  exact key _ hi
end
end Go.Proofs.YtneklfhahljgnaaDoor
end

section
namespace Go.Proofs.YtneklfhahljgnaaDoor
open Go Go.ChangeShapes Go.WideShapes Go.RowKit
set_option linter.unusedVariables false

section
variable {H : Type} {enc : TypeId × Value → H} {W : World} {sp : Nat → Bool}
theorem read_con (n : Nat) : Rd enc Tryd.prog W sp n 92 Con.cells (fun _ => 1) := by
  intro cs x hx
  obtain ⟨xs, m, rfl, rfl, hl, hlen, hf⟩ := DataW.trod_struct Tryd.underlying92 hx
  obtain ⟨z0, z1, z2, z3, rfl⟩ := len_four (show xs.length = 4 from hlen)
  have hsz : Tryd.prog.cellsOf 92 = 4 := by kernel_rfl
  obtain ⟨y0, a0, e0, g0, w0⟩ := field_of hf 0 0 1 (by kernel_rfl) (by kernel_rfl) (read_str m) (by simp)
  obtain ⟨y1, a1, e1, g1, w1⟩ := field_of hf 1 1 1 (by kernel_rfl) (by kernel_rfl) (read_int m) (by simp)
  obtain ⟨y2, a2, e2, g2, w2⟩ := field_of hf 2 2 1 (by kernel_rfl) (by kernel_rfl) (read_int m) (by simp)
  obtain ⟨y3, a3, e3, g3, w3⟩ := field_of hf 3 3 1 (by kernel_rfl) (by kernel_rfl) (read_int m) (by simp)
  rw [hsz] at hl
  refine ⟨⟨a0, a1, a2, a3⟩, ?_, by rw [hsz, hl], ?_⟩
  · have : (⟨a0, a1, a2, a3⟩ : Con).cells = [.str a0] ++ ([.int .i64 a1] ++ ([.int .i64 a2] ++ ([.int .i64 a3] ++ []))) := rfl
    rw [this, ← List.drop_zero (l := cs)]
    refine .cut g0 (.cut g1 (.cut g2 (.cut g3 ?_)))
    rw [List.drop_eq_nil_of_le (by omega)]
    exact .nil
  · cases e0; cases e1; cases e2; cases e3
    simp only [Rows.uptoBulk, Rows.uptoBulkAll, List.map_cons, List.map_nil]
    omega
theorem read_ref (n : Nat) : Rd enc Tryd.prog W sp n 102 (fun p : Int × Int => [.int .i64 p.1, .int .i64 p.2]) (fun _ => 1) := by
  intro cs x hx
  obtain ⟨xs, m, rfl, rfl, hl, hlen, hf⟩ := DataW.trod_struct Tryd.underlying102 hx
  obtain ⟨z0, z1, rfl⟩ := len_two (show xs.length = 2 from hlen)
  have hsz : Tryd.prog.cellsOf 102 = 2 := by kernel_rfl
  obtain ⟨y0, a, e0, g0, w0⟩ := field_of hf 0 0 1 (by kernel_rfl) (by kernel_rfl) (read_int m) (by simp)
  obtain ⟨y1, b, e1, g1, w1⟩ := field_of hf 1 1 1 (by kernel_rfl) (by kernel_rfl) (read_int m) (by simp)
  rw [hsz] at hl
  refine ⟨(a, b), ?_, by rw [hsz, hl], ?_⟩
  · have : [SV.int .i64 a, SV.int .i64 b] = [SV.int .i64 a] ++ ([SV.int .i64 b] ++ []) := rfl
    simp only
    rw [this, ← List.drop_zero (l := cs)]
    refine .cut g0 (.cut g1 ?_)
    rw [List.drop_eq_nil_of_le (by omega)]
    exact .nil
  · cases e0; cases e1
    simp only [Rows.uptoBulk, Rows.uptoBulkAll, List.map_cons, List.map_nil]
    omega
theorem sum_one {α : Type} (a : List α) : (a.map fun _ => 1).sum = a.length := by
  induction a with
  | nil => rfl
  | cons x l ih => simp only [List.map_cons, List.sum_cons, ih, List.length_cons]; omega
def glbW (g : Glb) : Nat := 1 + g.args.length
theorem read_glb (n : Nat) : Rd enc Tryd.prog W sp n 80 Glb.cells glbW := by
  intro cs x hx
  obtain ⟨xs, m, rfl, rfl, hl, hlen, hf⟩ := DataW.trod_struct Tryd.underlying80 hx
  obtain ⟨z0, z1, z2, rfl⟩ := len_three (show xs.length = 3 from hlen)
  have hsz : Tryd.prog.cellsOf 80 = 3 := by kernel_rfl
  obtain ⟨y0, a0, e0, g0, w0⟩ := field_of hf 0 0 1 (by kernel_rfl) (by kernel_rfl) (read_int m) (by simp)
  obtain ⟨y1, a1, e1, g1, w1⟩ := field_of hf 1 1 1 (by kernel_rfl) (by kernel_rfl) (read_int m) (by simp)
  obtain ⟨y2, a2, e2, g2, w2⟩ := field_of hf 2 2 1 (by kernel_rfl) (by kernel_rfl) (rd_slice (t := 78) (e := 102) (f := fun p : Int × Int => [SV.int .i64 p.1, SV.int .i64 p.2]) true (by kernel_rfl) (by kernel_rfl) (n := 2) (by kernel_rfl) (by omega) (.inl rfl) (fun m' _ => read_ref m')) (by simp)
  rw [hsz] at hl
  refine ⟨⟨a0, a1, a2⟩, ?_, by rw [hsz, hl], ?_⟩
  · have : (⟨a0, a1, a2⟩ : Glb).cells = [.int .i64 a0] ++ ([.int .i64 a1] ++ ([.list 2 (a2.map fun x => bx true [.int .i64 x.1, .int .i64 x.2])] ++ [])) := rfl
    rw [this, ← List.drop_zero (l := cs)]
    refine .cut g0 (.cut g1 (.cut g2 ?_))
    rw [List.drop_eq_nil_of_le (by omega)]
    exact .nil
  · cases e0; cases e1; cases e2
    rw [sum_one] at w2
    simp only [Rows.uptoBulk, Rows.uptoBulkAll, List.map_cons, List.map_nil, glbW]
    omega
theorem read_fun1 (n : Nat) : Rd enc Tryd.prog W sp n 24 Fun.cells (fun f => 1 + funW f) := by
  intro cs x hx
  obtain ⟨xs, m, rfl, rfl, hl, hlen, hf⟩ := DataW.trod_struct Tryd.underlying24 hx
  obtain ⟨z0, z1, z2, z3, z4, z5, z6, rfl⟩ := len_seven (show xs.length = 7 from hlen)
  have hsz : Tryd.prog.cellsOf 24 = 7 := by kernel_rfl
  obtain ⟨y0, a0, e0, g0, w0⟩ := field_of hf 0 0 1 (by kernel_rfl) (by kernel_rfl) (read_str m) (by simp)
  obtain ⟨y1, a1, e1, g1, w1⟩ := field_of hf 1 1 1 (by kernel_rfl) (by kernel_rfl) (read_bool m) (by simp)
  obtain ⟨y2, a2, e2, g2, w2⟩ := field_of hf 2 2 1 (by kernel_rfl) (by kernel_rfl) (read_bool m) (by simp)
  obtain ⟨y3, a3, e3, g3, w3⟩ := field_of hf 3 3 1 (by kernel_rfl) (by kernel_rfl) (read_int m) (by simp)
  obtain ⟨y4, a4, e4, g4, w4⟩ := field_of hf 4 4 1 (by kernel_rfl) (by kernel_rfl) (read_int m) (by simp)
  obtain ⟨y5, a5, e5, g5, w5⟩ := field_of hf 5 5 1 (by kernel_rfl) (by kernel_rfl) (read_int m) (by simp)
  obtain ⟨y6, a6, e6, g6, w6⟩ := field_of hf 6 6 1 (by kernel_rfl) (by kernel_rfl) (rd_slice (t := 22) (e := 40) true (by kernel_rfl) (by kernel_rfl) (n := 6) (by kernel_rfl) (by omega) (.inl rfl) (fun m' _ => read_ins m')) (by simp)
  rw [hsz] at hl
  refine ⟨⟨a0, a1, a2, a3, a4, a5, a6⟩, ?_, by rw [hsz, hl], ?_⟩
  · rw [fun_cells, ← List.drop_zero (l := cs)]
    refine .cut g0 (.cut g1 (.cut g2 (.cut g3 (.cut g4 (.cut g5 (.cut g6 ?_))))))
    rw [List.drop_eq_nil_of_le (by omega)]
    exact .nil
  · cases e0; cases e1; cases e2; cases e3; cases e4; cases e5; cases e6
    simp only [Rows.uptoBulk, Rows.uptoBulkAll, List.map_cons, List.map_nil, funW]
    omega
def imgW (m : Img) : Nat := m.cons.length + (m.funcs.map fun f => 1 + funW f).sum + (m.globals.map glbW).sum
theorem read_img (n : Nat) : Rd enc Tryd.prog W sp n 52 Img.cells imgW := by
  intro cs x hx
  obtain ⟨xs, m, rfl, rfl, hl, hlen, hf⟩ := DataW.trod_struct Tryd.underlying52 hx
  obtain ⟨z0, z1, z2, z3, rfl⟩ := len_four (show xs.length = 4 from hlen)
  have hsz : Tryd.prog.cellsOf 52 = 4 := by kernel_rfl
  obtain ⟨y0, a0, e0, g0, w0⟩ := field_of hf 0 0 1 (by kernel_rfl) (by kernel_rfl) (rd_slice (t := 48) (e := 92) true (by kernel_rfl) (by kernel_rfl) (n := 4) (by kernel_rfl) (by omega) (.inl rfl) (fun m' _ => read_con m')) (by simp)
  obtain ⟨y1, a1, e1, g1, w1⟩ := field_of hf 1 1 1 (by kernel_rfl) (by kernel_rfl) (rd_slice (t := 49) (e := 24) true (by kernel_rfl) (by kernel_rfl) (n := 7) (by kernel_rfl) (by omega) (.inl rfl) (fun m' _ => read_fun1 m')) (by simp)
  obtain ⟨y2, a2, e2, g2, w2⟩ := field_of hf 2 2 1 (by kernel_rfl) (by kernel_rfl) (rd_slice (t := 50) (e := 80) true (by kernel_rfl) (by kernel_rfl) (n := 3) (by kernel_rfl) (by omega) (.inl rfl) (fun m' _ => read_glb m')) (by simp)
  obtain ⟨y3, a3, e3, g3, w3⟩ := field_of hf 3 3 1 (by kernel_rfl) (by kernel_rfl) (read_int m) (by simp)
  rw [hsz] at hl
  refine ⟨⟨a0, a1, a2, a3⟩, ?_, by rw [hsz, hl], ?_⟩
  · have : (⟨a0, a1, a2, a3⟩ : Img).cells = [.list 4 (a0.map fun x => bx true x.cells)] ++ ([.list 7 (a1.map fun x => bx true x.cells)] ++ ([.list 3 (a2.map fun x => bx true x.cells)] ++ ([.int .i64 a3] ++ []))) := rfl
    rw [this, ← List.drop_zero (l := cs)]
    refine .cut g0 (.cut g1 (.cut g2 (.cut g3 ?_)))
    rw [List.drop_eq_nil_of_le (by omega)]
    exact .nil
  · cases e0; cases e1; cases e2; cases e3
    rw [sum_one] at w0
    simp only [Rows.uptoBulk, Rows.uptoBulkAll, List.map_cons, List.map_nil, imgW]
    omega
theorem sum_mem {α : Type} (g : α → Nat) (x : α) : ∀ l : List α, x ∈ l → g x ≤ (l.map g).sum
  | [], h => by cases h
  | y :: r, h => by
    simp only [List.map_cons, List.sum_cons]
    rcases List.mem_cons.1 h with e | h
    · rw [e]; omega
    · have := sum_mem g x r h; omega
theorem sum_len {α : Type} (g : α → Nat) : ∀ l : List α, (∀ x ∈ l, 1 ≤ g x) → l.length ≤ (l.map g).sum
  | [], _ => by simp
  | y :: r, h => by
    have := sum_len g r fun x hx => h x (List.mem_cons_of_mem _ hx)
    have := h y (List.mem_cons_self ..)
    simp only [List.map_cons, List.sum_cons, List.length_cons]; omega
theorem imgB (m : Img) (h : imgW m < 1099511627776) : ImgB m := by
  unfold imgW at h
  have h1 := sum_len (fun f => 1 + funW f) m.funcs (fun x _ => by omega)
  have h2 := sum_len glbW m.globals (fun x _ => by unfold glbW; omega)
  refine ⟨by omega, by omega, by omega, fun f hf => ?_, fun g hg => ?_⟩
  · have h3 := sum_mem (fun f => 1 + funW f) f m.funcs hf
    obtain ⟨k1, k2⟩ := funW_le f
    exact ⟨by omega, fun i hi => by have := k2 i hi; omega⟩
  · have h3 := sum_mem glbW g m.globals hg
    unfold glbW at h3 h; omega
end
end Go.Proofs.YtneklfhahljgnaaDoor
end

section
namespace Go.Proofs.YtneklfhahljgnaaDoor.liveSpans
open Go Go.ChangeShapes Go.WideShapes Go.RowKit
set_option linter.unusedVariables false

set_option maxRecDepth 100000 in
theorem contract (H : Type) (enc : TypeId × Value → H) (W : World) (base : Nat) (args : Array Value) (ds gs : List (DataW H)) (before : List MemPlace)
    (hval : ∀ (j : Nat) t v, Tryd.f7.params[j]? = some t → args[j]? = some v → Value.okWide Tryd.prog W .any base t v)
    (hW : DataW.Whole enc Tryd.prog Tryd.f7.params.toList Rows.liveSpansSpec.vars false W args.toList ds gs before) (hL : laidMetH Tryd.prog Rows.liveSpansUptoRow.laid W) (hk : Rows.uptoSmall H (ds ++ gs) = true) :
    Calls Tryd.prog 7 args W fun e W' => ∃ v, e = .returned v ∧ Rows.liveSpansSpec.post enc Tryd.prog Tryd.f7 false true false false W args v W' := by
  have hW' := hW
  obtain ⟨p, q, hA0, hV, rfl, hfz, hnd⟩ := hW
  have hA : DataW.TrodAll enc Tryd.prog W 0 (fun _ => true) true Tryd.f7.params.toList args.toList ds p := hA0
  rw [Tryd.params7] at hA hval
  obtain ⟨v0, vs0, d0, ds0, p0, q0, hargs, rfl, rfl, h0, r0⟩ := trodAll_cons hA
  obtain ⟨rfl, rfl, rfl⟩ := trodAll_nil r0
  obtain rfl : args = #[v0] := by cases args; simp_all
  obtain ⟨rfl, rfl⟩ := trodVars_none hV
  obtain ⟨cs, rfl, _⟩ := okWide_struct Tryd.underlying52 (hval 0 52 v0 (by simp) (by simp))
  obtain ⟨fuel, hf⟩ := h0
  obtain ⟨m, hf2, _, hw⟩ := read_img fuel _ _ hf
  have hb : imgW m ≤ 1048576 := by
    simp only [Rows.uptoSmall, decide_eq_true_eq, List.append_nil, Rows.uptoBulkAll] at hk
    simp only at hw
    omega
  refine (law_callsG (args := [.agg m.cells]) (vs := [.agg cs]) (liveSpans_ok Gf gclosedF gF m (imgB m (by omega)) []) (gok hL) ?_ (fun W' => law_post laid rfl hW' ?_ rfl (by kernel_rfl) rfl rfl rfl)).mono ?_
  · refine RepL.mk_cons ?_ RepL.mk_nil
    simp only [Rep]
    exact ⟨cs.toList, hf2.1, hf2.2, rfl⟩
  · intro t ht
    rw [Tryd.params7] at ht
    simp only [List.mem_cons, List.not_mem_nil, or_false] at ht
    rcases ht with rfl
    exact ⟨by kernel_rfl, of_decide_eq_true (by kernel_rfl)⟩
  · rintro _ W' ⟨v, rfl, rfl, hp⟩
    exact ⟨_, rfl, hp⟩

theorem laid_met (os : Os) : laidMet Tryd.prog Rows.liveSpansUptoRow.laid ((laidWorld os).forCall (fun _ _ => 0) ⟨#[], #[Value.agg #[.slice none 0 0, .slice none 0 0, .slice none 0 0, .int .i64 0]], []⟩).memory :=
  laidMet_of_run' 8 (by kernel_rfl) (by kernel_rfl)
theorem reads (os : Os) {H : Type} (enc : TypeId × Value → H) : ∃ places, DataW.whole enc Tryd.prog ((laidWorld os).forCall (fun _ _ => 0) ⟨#[], #[Value.agg #[.slice none 0 0, .slice none 0 0, .slice none 0 0, .int .i64 0]], []⟩).memory Tryd.f7.params.toList Rows.liveSpansSpec.vars false #[Value.agg #[.slice none 0 0, .slice none 0 0, .slice none 0 0, .int .i64 0]].toList 8 = some ([.agg [.nil, .nil, .nil, .lit (.int .i64 0)]], [], places) :=
  ⟨[], by kernel_rfl⟩
set_option maxRecDepth 100000 in
theorem lifted (os : Os) (started : os.Started) (H : Type) (enc : TypeId × Value → H) (F : Stop.Interp) :
    ReturnsInHanded {} Tryd.checked os 7 .any ((Rows.OpenSpec.upto Rows.liveSpansSpec).preRow enc Tryd.prog Tryd.f7 Rows.liveSpansUptoRow.domain false Rows.liveSpansUptoRow.laid) (((Rows.OpenSpec.upto Rows.liveSpansSpec).at F).post enc Tryd.prog Tryd.f7 false true false false) := by
  obtain ⟨places, hx⟩ := reads os enc
  refine returnsInHanded_of_row (C := Tryd.checked) (s := Rows.OpenSpec.upto Rows.liveSpansSpec) own started (by kernel_rfl) Tryd.func7
    (witness_row_at (enc := enc) (C := Tryd.checked) false (laidWorld os) #[Value.agg #[.slice none 0 0, .slice none 0 0, .slice none 0 0, .int .i64 0]] rfl (by kernel_rfl) (by kernel_rfl) (by kernel_rfl)
      (OpenSpec.preRow_of_cond 8 hx (by kernel_rfl) (fun k hk => by cases hk; kernel_rfl) (by kernel_rfl) (laid_met os))) ?_
  intro W base args ds gs before hval hW _ hcond _ hL _ _
  exact contract H enc W base args ds gs before hval hW hL (hcond _ rfl)
theorem said : Rows.LiveSpansUptoSaid :=
  OpenClaim.holds_of_cond 7 Tryd.f7 rfl rfl rfl rfl rfl rfl rfl ⟨rfl, rfl, rfl, rfl, rfl⟩ rfl rfl rfl rfl rfl (by kernel_rfl) Tryd.func7 (by kernel_rfl)
    (of_decide_eq_true (by kernel_rfl)) (by unfold Func.isWrapper; first | (rw [if_pos (by decide +kernel)]; kernel_rfl) | (rw [if_neg (by decide +kernel)]; exact ⟨rfl, rfl⟩))
    (fun os started H enc _ F => by rw [OpenClaim.pre_eq_preRow]; exact lifted os started H enc F)
theorem plain (f : FuncId) (fn : Func) (hf : Tryd.pinned.checked.prog.funcNamed "teasel/teasellaw22.LiveSpans" = some f) (hfn : Tryd.pinned.checked.prog.funcs[f]? = some fn) :
    false = Tryd.pinned.checked.prog.looks [] ∧ ∀ (j : Nat) t, fn.params[j]? = some t → Tryd.pinned.checked.prog.wantsStandIn t = false := by
  obtain rfl : f = 7 := Option.some.inj ((show Tryd.prog.funcNamed "teasel/teasellaw22.LiveSpans" = some 7 by kernel_rfl).symm.trans hf) |>.symm
  obtain rfl : fn = Tryd.f7 := (Option.some.inj (Tryd.func7.symm.trans hfn)).symm
  refine ⟨by kernel_rfl, fun j t ht => ?_⟩
  rw [Tryd.params7] at ht
  have hm := Array.mem_of_getElem? ht
  obtain rfl : t = 52 := by simpa using hm
  exact (show Tryd.prog.wantsStandIn 52 = false by kernel_rfl)
theorem proved : Rows.LiveSpansUptoCardSaid :=
  Claim7.holds_tied_plain_at .later [] _ _ _ _ said (fun _ h => by cases h) (by kernel_rfl) (fun _ h => by cases h) liveSpansUpto_row_tie rfl ⟨rfl, rfl⟩ (by kernel_rfl) rfl plain (by kernel_rfl)
end Go.Proofs.YtneklfhahljgnaaDoor.liveSpans
end
