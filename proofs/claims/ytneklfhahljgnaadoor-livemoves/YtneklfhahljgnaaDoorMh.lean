/- LiveMoves: behind the page's moves each slot holds what it should and all others what they held, for all shifts and any hand; the card that ties the list of fields to the text. -/
import Derived.Test.YtneklfhahljgnaaDoorMg
import Derived.Test.YtneklfhahljgnaaDoorCards
import Derived.Test.YtneklfhahljgnaaDoorTie
import Derived.Deep.DeepHandedRow
import Derived.Lib.LaidTab

section
namespace Go.Proofs.YtneklfhahljgnaaDoor
open Go
set_option linter.unusedSimpArgs false
set_option linter.unusedVariables false

/-! ### what the moves do -/
def stM (m : Int → Int) (p : Sh) : Int → Int := fun x => if x = p.1 then m p.2 else m x
def exM (out : List Sh) : Int → Int := out.foldl stM id
theorem exM_snoc (out : List Sh) (p : Sh) (x : Int) : exM (out ++ [p]) x = if x = p.1 then exM out p.2 else exM out x := by
  unfold exM; rw [List.foldl_append]; rfl
theorem exM_other : ∀ (out : List Sh) (m : Int → Int) (x : Int), (∀ p ∈ out, p.1 ≠ x) → out.foldl stM m x = m x
  | [], m, x, h => rfl
  | p :: out, m, x, h => by
    rw [List.foldl_cons, exM_other out _ x fun q hq => h q (List.mem_cons_of_mem _ hq)]
    unfold stM
    rw [if_neg fun e => h p (List.mem_cons_self ..) e.symm]
theorem run_law (hand : Int) (l : List Sh) (orig : Int → Int) (hl : ∀ s ∈ l, orig s.1 = s.2 ∧ s.1 ≠ hand) : ∀ (f : Nat) (left out : List Sh), WFS left hand → muS left ≤ f → (∀ s ∈ left, exM out s.2 = orig s.1) → (∀ s ∈ l, s.1 ∉ left.map (·.1) → exM out s.1 = s.2) →
    (∀ x ∈ left, x.1 ∈ l.map (·.1)) → (∀ p ∈ out, p.1 = hand ∨ p.1 ∈ l.map (·.1)) →
    (∀ s ∈ l, exM (runS hand f (left, out)) s.1 = s.2) ∧ (∀ p ∈ runS hand f (left, out), p.1 = hand ∨ p.1 ∈ l.map (·.1)) ∧ (runS hand f (left, out)).length + 1 ≤ out.length + muS left
  | 0, left, out, hw, hf, h1, h2, h3, h4 => by
    have h0 : left = [] := by
      cases left with
      | nil => rfl
      | cons s r => simp only [muS, List.length_cons] at hf; omega
    subst h0
    exact ⟨fun s hs => h2 s hs (by simp), h4, by simp [runS, muS]⟩
  | f + 1, left, out, hw, hf, h1, h2, h3, h4 => by
    rw [runS]
    by_cases h0 : left = []
    · subst h0
      rw [if_pos rfl]
      exact ⟨fun s hs => h2 s hs (by simp), h4, by simp [muS]⟩
    rw [if_neg h0]
    cases hfi : left.findIdx? (freeP left) with
    | some i =>
      have hst : stepS hand (left, out) = (left.eraseIdx i, out ++ [left.getD i (0, 0)]) := by simp only [stepS, hfi]
      rw [hst]
      obtain ⟨hi, hfree, _⟩ := List.findIdx?_eq_some_iff_getElem.1 hfi
      have hget : left.getD i (0, 0) = left[i] := by simp [hi]
      rw [hget]
      have hmem : left[i] ∈ left := List.getElem_mem hi
      simp only [freeP, List.all_eq_true, Bool.not_eq_true', decide_eq_false_iff_not] at hfree
      have hmu := mu_erase hfi
      have hother : ∀ x ∈ left.eraseIdx i, x.1 ≠ left[i].1 := by
        intro x hx e
        have e1 : left = left.take i ++ left[i] :: left.drop (i + 1) := by rw [← List.drop_eq_getElem_cons hi, List.take_append_drop]
        have hn := hw.1
        rw [e1, List.map_append, List.map_cons, List.nodup_append] at hn
        rw [List.eraseIdx_eq_take_drop_succ] at hx
        rcases List.mem_append.1 hx with hx | hx
        · exact hn.2.2 _ (List.mem_map.2 ⟨x, hx, rfl⟩) _ (List.mem_cons_self ..) e
        · have := (List.nodup_cons.1 hn.2.1).1
          exact this (List.mem_map.2 ⟨x, hx, e⟩)
      have := run_law hand l orig hl f (left.eraseIdx i) (out ++ [left[i]]) (hw.erase i) (by omega) (fun s hs => ?_) (fun s hs hn => ?_) (fun x hx => h3 x (List.mem_of_mem_eraseIdx hx)) (fun p hp => ?_)
      · refine ⟨this.1, this.2.1, ?_⟩
        have := this.2.2
        rw [List.length_append, List.length_singleton] at this
        omega
      · have hs' := List.mem_of_mem_eraseIdx hs
        rw [exM_snoc, if_neg (hfree s hs')]
        exact h1 s hs'
      · rw [exM_snoc]
        by_cases e : s.1 = left[i].1
        · rw [if_pos e, h1 _ hmem, ← e]; exact (hl s hs).1
        · rw [if_neg e]
          refine h2 s hs fun hm => ?_
          obtain ⟨x, hx, hx2⟩ := List.mem_map.1 hm
          refine hn (List.mem_map.2 ⟨x, ?_, hx2⟩)
          rw [List.mem_eraseIdx_iff_getElem]
          obtain ⟨j, hj, rfl⟩ := List.getElem_of_mem hx
          exact ⟨j, hj, fun e2 => by subst e2; exact e hx2.symm, rfl⟩
      · rcases List.mem_append.1 hp with hp | hp
        · exact h4 p hp
        · rw [List.mem_singleton.1 hp]; exact .inr (h3 _ hmem)
    | none =>
      have hst : stepS hand (left, out) = (left.map (toHand hand (left.headD (0, 0)).1), out ++ [(hand, (left.headD (0, 0)).1)]) := by simp only [stepS, hfi]
      rw [hst]
      have hmu := mu_hand hw h0 hfi
      have hnh := stuck_hand hw hfi
      generalize (left.headD (0, 0)).1 = t at hmu
      have hmt := map_toHand hand t left
      have := run_law hand l orig hl f (left.map (toHand hand t)) (out ++ [(hand, t)]) (hw.hand t) (by omega) (fun s hs => ?_) (fun s hs hn => ?_) (fun x hx => ?_) (fun p hp => ?_)
      · refine ⟨this.1, this.2.1, ?_⟩
        have := this.2.2
        rw [List.length_append, List.length_singleton] at this
        omega
      · obtain ⟨x, hx, rfl⟩ := List.mem_map.1 hs
        rw [exM_snoc, toHand_fst]
        unfold toHand
        by_cases e : x.2 = t
        · rw [if_pos e]
          simp only [if_true]
          rw [← e]; exact h1 x hx
        · rw [if_neg e, if_neg (fun e2 => hnh (List.mem_map.2 ⟨x, hx, e2⟩))]
          exact h1 x hx
      · rw [exM_snoc, if_neg (hl s hs).2]
        rw [hmt] at hn
        exact h2 s hs hn
      · obtain ⟨y, hy, rfl⟩ := List.mem_map.1 hx
        rw [toHand_fst]; exact h3 y hy
      · rcases List.mem_append.1 hp with hp | hp
        · exact h4 p hp
        · rw [List.mem_singleton.1 hp]; exact .inl rfl

theorem nodup_fst {l : List Sh} (h : (l.map (·.1)).Nodup) {s x : Sh} (hs : s ∈ l) (hx : x ∈ l) (e : s.1 = x.1) : s = x := by
  induction l with
  | nil => cases hs
  | cons y r ih =>
    rw [List.map_cons, List.nodup_cons] at h
    rcases List.mem_cons.1 hs with e1 | hs <;> rcases List.mem_cons.1 hx with e2 | hx
    · rw [e1, e2]
    · exact absurd (List.mem_map.2 ⟨x, hx, by rw [← e, e1]⟩) h.1
    · exact absurd (List.mem_map.2 ⟨s, hs, by rw [e, e2]⟩) h.1
    · exact ih h.2 hs hx
def origS (l : List Sh) (x : Int) : Int := match l.find? fun s => decide (s.1 = x) with
  | some s => s.2
  | none => x
theorem origS_eq {l : List Sh} (h : (l.map (·.1)).Nodup) {s : Sh} (hs : s ∈ l) : origS l s.1 = s.2 := by
  unfold origS
  cases hf : l.find? fun x => decide (x.1 = s.1) with
  | none => rw [List.find?_eq_none] at hf; exact absurd (decide_eq_true rfl) (hf s hs)
  | some x =>
    have h1 := List.mem_of_find?_eq_some hf
    have h2 := List.find?_some hf
    rw [nodup_fst h hs h1 (by simpa using (of_decide_eq_true h2).symm)]
theorem sh_law {l : List Sh} {hand : Int} (h : okS l hand = true) : (∀ s ∈ l, exM (shS l hand) s.1 = s.2) ∧ (∀ p ∈ shS l hand, p.1 = hand ∨ p.1 ∈ l.map (·.1)) ∧ (shS l hand).length ≤ 2 * l.length := by
  simp only [okS, Bool.and_eq_true, List.all_eq_true, Bool.not_eq_true', decide_eq_false_iff_not, decide_eq_true_eq] at h
  have hfl : (l.filter keepSh).length ≤ l.length := List.length_filter_le _ _
  have hmu : muS (l.filter keepSh) ≤ 2 * l.length + 1 := by simp only [muS]; split <;> omega
  have hk : ∀ s ∈ l, s ∉ l.filter keepSh → s.1 = s.2 := fun s hs hn => by
    have : keepSh s = false := by
      cases e : keepSh s with
      | false => rfl
      | true => exact absurd (List.mem_filter.2 ⟨hs, e⟩) hn
    simpa [keepSh] using this
  have := run_law hand l (origS l) (fun s hs => ⟨origS_eq h.2 hs, (h.1 s hs).1⟩) (2 * l.length + 2) (l.filter keepSh) []
    ⟨h.2.sublist ((List.filter_sublist).map _), fun s hs => (h.1 s (List.mem_filter.1 hs).1).1⟩ (by omega) (fun s hs => (origS_eq h.2 (List.mem_filter.1 hs).1).symm) (fun s hs hn => hk s hs fun hm => hn (List.mem_map.2 ⟨s, hm, rfl⟩)) (fun x hx => List.mem_map.2 ⟨x, (List.mem_filter.1 hx).1, rfl⟩) (by simp)
  refine ⟨this.1, this.2.1, ?_⟩
  have h3 := this.2.2
  rw [List.length_nil] at h3
  show (runS hand (2 * l.length + 2) (l.filter keepSh, [])).length ≤ _
  omega
theorem sh_other {l : List Sh} {hand : Int} (h : okS l hand = true) {x : Int} (h1 : x ≠ hand) (h2 : x ∉ l.map (·.1)) : exM (shS l hand) x = x := by
  have := (sh_law h).2.1
  exact exM_other _ _ _ fun p hp e => by
    rcases this p hp with e2 | e2
    · exact h1 (e ▸ e2)
    · exact h2 (e ▸ e2)
end Go.Proofs.YtneklfhahljgnaaDoor
end

section
namespace Go.Proofs.YtneklfhahljgnaaDoor
open Go
set_option linter.unusedSimpArgs false
set_option linter.unusedVariables false
set_option maxRecDepth 10000
set_option maxHeartbeats 4000000

theorem okS_err (b : Bool) : (if b = true then (0 : Int) else 1) = if b then 0 else 1 := rfl

theorem liveShifts_ok (G : Gl) (hG : GClosed G) (hF : GF G) (l : List Sh) (hand : Int) (H : List Blk) : ACall Tryd.prog G 4 [.list 2 (shL l), .int .i64 hand] H (fun r H' => H' = H ∧ r = .bool true) := by
  refine ACall.of_go TB [] tabOK _ Tryd.func4 rfl (by decide) Tryd.ntmps4 (by simp) rfl (by simp only [initEnv, Nat.reduceAdd]; rfl) fun C R' hR hC hcl hB => ?_; have X := noX; have hC' := congrArg List.length hC
  have c1 := fun H => awake_ok G hG hF H
  (refine run ?_; repeat' (first | with_reducible exact trivial | ((with_reducible apply Fork.mk) <;> intro hb) | with_reducible apply Two.mk))
  · rw [← List.append_nil H]
    exact finS hR hC' hcl (y := .bool true) (.same _ rfl) ⟨rfl, rfl⟩
  have hfr : Frz (H ++ [.cells 1 2 (shL l)]) H.length [] (.sl H.length 1 0 l.length) (.list 2 (shL l)) := Frz.sf (g := 1) (sz := 2) (vals := shL l) (by simp) (by omega) (by simp) (by rw [List.drop_zero, List.take_of_length_le (by rw [shL_len]; exact Nat.le_refl _)]) (shL_under _ _)
  refine go_wkO [(0, .list 2 (shL l)), (1, .int .i64 hand), (21, .int .i64 hand), (20, .list 2 (shL l)), (5, .list 2 (shL l))] H
    (Wk.tell hG (fun C0 h0 => by have := hB C0 h0; omega) (by omega) hcl ⟨⟨_, rfl, .same _ (by simp only [SV.under, shL_under])⟩, ⟨_, rfl, .same _ rfl⟩, ⟨_, rfl, .same _ rfl⟩, ⟨_, rfl, hfr⟩, ⟨_, rfl, hfr⟩, trivial⟩) ?_
  have hl : l.length < 1048576 := by omega
  have c2 := fun H => shifts_ok G hG l hand hl H
  have c3 := fun H => rshifts_ok G hG l hand hl H
  (refine run ?_; repeat' (first | with_reducible exact trivial | ((with_reducible apply Fork.mk) <;> intro hb) | with_reducible apply Two.mk))
  have hML : (if okS l hand = true then shS l hand else []).length ≤ 600 := by
    split
    · rename_i h; have := (sh_law h).2.2; omega
    · simp
  generalize (if okS l hand = true then shS l hand else []) = M at hML
  generalize (if okS l hand = true then (0 : Int) else 1) = e
  have hMl : (mvL M).length = M.length := by simp [mvL]
  have hll : (shL l).length = l.length := by simp [shL]
  clear hfr c2 c3 X
  have X := And.intro noX (And.intro hMl hll)
  refine go_loop (fun i : Nat => [(0, .list 2 (shL l)), (5, .list 2 (shL l)), (6, .list 6 (mvL M)), (8, .list 6 (mvL M)), (10, .int .i64 i)]) (fun _ => H ++ []) (fun i => M.length - i) (fun i => i ≤ M.length) 0 (Nat.zero_le _) ?_ ?_
  · rw [List.append_nil]; exact Wk.sub (by simp [subEnv, look])
  · intro K i hi hK
    rw [List.append_nil] at hK ⊢
    rcases Nat.lt_or_ge i M.length with hlt | hge
    · have e1 : (mvL M)[i]? = some (.agg [.int .i64 2, .int .i64 M[i].1, .int .i64 M[i].2, .int .i64 0, .int .i64 0, .list 1 []]) := by simp [mvL, hlt]
      have X := And.intro X e1
      (refine run ?_; repeat' (first | with_reducible exact trivial | ((with_reducible apply Fork.mk) <;> intro hb) | with_reducible apply Two.mk))
      exact hK _ _ (i + 1) (by omega) (by omega) (Wk.sub (by simp [subEnv, look]))
    · have : i = M.length := by omega
      subst this
      clear hK
      (refine run ?_; repeat' (first | with_reducible exact trivial | ((with_reducible apply Fork.mk) <;> intro hb) | with_reducible apply Two.mk))
      refine go_loop (fun i : Nat => [(0, .list 2 (shL l)), (5, .list 2 (shL l)), (11, .int .i64 i)]) (fun _ => H ++ []) (fun i => l.length - i) (fun i => i ≤ l.length) 0 (Nat.zero_le _) ?_ ?_
      · rw [List.append_nil]; exact Wk.sub (by simp [subEnv, look])
      · intro K i hi hK
        rw [List.append_nil] at hK ⊢
        rcases Nat.lt_or_ge i l.length with hlt | hge
        · have e1 : (shL l)[i]? = some (.agg [.int .i64 l[i].1, .int .i64 l[i].2]) := by simp [shL, hlt]
          have X := And.intro X e1
          (refine run ?_; repeat' (first | with_reducible exact trivial | ((with_reducible apply Fork.mk) <;> intro hb) | with_reducible apply Two.mk))
          exact hK _ _ (i + 1) (by omega) (by omega) (Wk.sub (by simp [subEnv, look]))
        · have : i = l.length := by omega
          subst this
          clear hK
          have c1 := fun H => awake_ok G hG hF H
          (refine run ?_; repeat' (first | with_reducible exact trivial | ((with_reducible apply Fork.mk) <;> intro hb) | with_reducible apply Two.mk))
          rw [← List.append_nil H]
          exact finS hR hC' hcl (y := .bool true) (.same _ rfl) ⟨rfl, rfl⟩
end Go.Proofs.YtneklfhahljgnaaDoor
end

section
namespace Go.Proofs.YtneklfhahljgnaaDoor
open Go
set_option linter.unusedSimpArgs false
set_option linter.unusedVariables false
set_option maxRecDepth 10000
set_option maxHeartbeats 4000000

/-- what is in a slot: at first its own number -/
def getB (w : List (Int × Int)) (s : Int) : Int := if s ∈ w.map (·.1) then cntB w s else s
theorem set_mem : ∀ (l : List (Int × Int)) (s n t : Int), t ∈ (setB l s n).map (·.1) ↔ t = s ∨ t ∈ l.map (·.1)
  | [], s, n, t => by simp [setB]
  | (k, m) :: r, s, n, t => by
    unfold setB
    split
    · rename_i h; subst h; simp only [List.map_cons, List.mem_cons]
      constructor
      · rintro (h | h)
        · exact .inl h
        · exact .inr (.inr h)
      · rintro (h | h | h)
        · exact .inl h
        · exact .inl h
        · exact .inr h
    · simp only [List.map_cons, List.mem_cons, set_mem r s n t]
      constructor
      · rintro (h | h | h)
        · exact .inr (.inl h)
        · exact .inl h
        · exact .inr (.inr h)
      · rintro (h | h | h)
        · exact .inr (.inl h)
        · exact .inl h
        · exact .inr (.inr h)
theorem getB_set (w : List (Int × Int)) (s n t : Int) : getB (setB w s n) t = if t = s then n else getB w t := by
  unfold getB
  rw [cnt_set]
  simp only [set_mem]
  by_cases h : t = s
  · rw [if_pos (.inl h), if_pos h, if_pos h]
  · rw [if_neg h]
    have : (t = s ∨ t ∈ w.map (·.1)) ↔ t ∈ w.map (·.1) := ⟨fun e => e.resolve_left h, .inr⟩
    simp only [this]
    by_cases h2 : t ∈ w.map (·.1)
    · simp only [if_pos h2, if_neg h]
    · simp only [if_neg h2, if_neg h]

theorem isSome_esB : ∀ (w : List (Int × Int)) (s : Int), (findSV (esB w) (.int .i64 s)).isSome = decide (s ∈ w.map (·.1))
  | [], s => rfl
  | (k, n) :: r, s => by
    simp only [esB, List.map_cons, findSV, SV.keyEq]
    by_cases h : s = k
    · simp [h]
    · simp only [beq_eq_false_iff_ne.2 h, if_false, Bool.false_eq_true]
      rw [show (findSV (List.map _ r) (.int .i64 s)).isSome = _ from isSome_esB r s]
      simp [h]
theorem get1_ok (G : Gl) (hG : GClosed G) (s : Int) (b m : Nat) (w : List (Int × Int)) (H : List Blk) (hb : H[b]? = some (.cells 0 1 [.map m])) (hm : H[m]? = some (.map (some .i64) (esB w))) :
    ACall Tryd.prog G 17 [.int .i64 s, .ptr b 0 0 0] H (fun r H' => H' = H ∧ r = .int .i64 (getB w s)) := by
  have hbl := (List.getElem?_eq_some_iff.1 hb).1
  have hml := (List.getElem?_eq_some_iff.1 hm).1
  refine ACall.of_go TB [] tabOK _ Tryd.func17 rfl (by decide) Tryd.ntmps17 (by simp) rfl (by simp only [initEnv, Nat.reduceAdd]; rfl) fun C R' hR hC hcl hB => ?_; have X := noX; have hC' := congrArg List.length hC
  have X := And.intro X (And.intro (getX hb) (getX hm))
  (refine run ?_; repeat' (first | with_reducible exact trivial | ((with_reducible apply Fork.mk) <;> intro hb) | with_reducible apply Two.mk))
  · rw [isSome_esB, decide_eq_true_eq] at hb
    rw [← List.append_nil H]
    exact finS hR hC' hcl (y := .int .i64 (cntB w s)) (.same _ rfl) ⟨rfl, by unfold getB; rw [if_pos hb]⟩
  · rw [isSome_esB, decide_eq_false_iff_not] at hb
    rw [← List.append_nil H]
    exact finS hR hC' hcl (y := .int .i64 s) (.same _ rfl) ⟨rfl, by unfold getB; rw [if_neg hb]⟩

theorem putsP_mem : ∀ (l : List Sh) (o : List Int) (s : Int), s ∈ l.foldl (fun o p => putO o p.1) o ↔ s ∈ o ∨ s ∈ l.map (·.1)
  | [], o, s => by simp
  | p :: r, o, s => by
    rw [List.foldl_cons, putsP_mem r]
    rw [putO_mem, List.map_cons, List.mem_cons, or_assoc]
theorem liveMoves_ok (G : Gl) (hG : GClosed G) (hF : GF G) (l : List Sh) (hand : Int) (H : List Blk) : ACall Tryd.prog G 5 [.list 2 (shL l), .int .i64 hand] H (fun r H' => H' = H ∧ r = .bool true) := by
  refine ACall.of_go TB [] tabOK _ Tryd.func5 rfl (by decide) Tryd.ntmps5 (by simp) rfl (by simp only [initEnv, Nat.reduceAdd]; rfl) fun C R' hR hC hcl hB => ?_; have X := noX; have hC' := congrArg List.length hC
  have c1 := fun H => awake_ok G hG hF H
  by_cases hlen : 300 < l.length
  · have X := And.intro X hlen
    (refine run ?_; repeat' (first | with_reducible exact trivial | ((with_reducible apply Fork.mk) <;> intro hb) | with_reducible apply Two.mk))
    rw [← List.append_nil H]
    exact finS hR hC' hcl (y := .bool true) (.same _ rfl) ⟨rfl, rfl⟩
  have hl : l.length < 1048576 := by omega
  have hls : (shL l).length = l.length := by simp [shL]
  cases hok : okS l hand with
  | false =>
    have c2 : ∀ H, ACall Tryd.prog G 15 [.list 2 (shL l), .int .i64 hand] H (fun r H' => H' = H ∧ r = .tuple [.list 6 (mvL []), .int .i64 1]) := fun H => by
      have := shifts_ok G hG l hand hl H
      rw [hok] at this
      exact this
    (refine run ?_; repeat' (first | with_reducible exact trivial | ((with_reducible apply Fork.mk) <;> intro hb) | with_reducible apply Two.mk))
    rw [← List.append_nil H]
    exact finS hR hC' hcl (y := .bool true) (.same _ rfl) ⟨rfl, rfl⟩
  | true =>
    have c2 : ∀ H, ACall Tryd.prog G 15 [.list 2 (shL l), .int .i64 hand] H (fun r H' => H' = H ∧ r = .tuple [.list 6 (mvL (shS l hand)), .int .i64 0]) := fun H => by
      have := shifts_ok G hG l hand hl H
      rw [hok] at this
      exact this
    obtain ⟨lw1, lw2, lw3⟩ := sh_law hok
    have lw4 := fun x => sh_other (x := x) hok
    generalize shS l hand = M at c2 lw1 lw2 lw3 lw4
    (refine run ?_; repeat' (first | with_reducible exact trivial | ((with_reducible apply Fork.mk) <;> intro hb) | with_reducible apply Two.mk))
    have hMl : (mvL M).length = M.length := by simp [mvL]
    clear c2 X
    have X := And.intro noX (And.intro hMl hls)
    refine go_loop (fun a : Nat × List (Int × Int) => [(0, .list 2 (shL l)), (1, .int .i64 hand), (5, .list 6 (mvL M)), (7, .ptr (H.length + 1) 0 0 0), (8, .fn (.func 17) [] [.ptr (H.length + 1) 0 0 0]), (9, .int .i64 a.1)])
      (fun a => H ++ [.map (some .i64) (esB a.2), .cells 0 1 [.map H.length]]) (fun a => M.length - a.1) (fun a => a.1 ≤ M.length ∧ ∀ x, getB a.2 x = exM (M.take a.1) x) (0, []) ⟨Nat.zero_le _, fun x => rfl⟩ (Wk.sub (by simp [subEnv, look])) ?_
    rintro K ⟨i, w⟩ ⟨hi, hw⟩ hK
    dsimp only at hi hw ⊢
    have q0 : (H ++ [Blk.map (some .i64) (esB w), .cells 0 1 [.map H.length]])[H.length]? = some (.map (some .i64) (esB w)) := by simp
    have q1 : (H ++ [Blk.map (some .i64) (esB w), .cells 0 1 [.map H.length]])[H.length + 1]? = some (.cells 0 1 [.map H.length]) := by simp
    rcases Nat.lt_or_ge i M.length with hlt | hge
    · have e1 : (mvL M)[i]? = some (.agg [.int .i64 2, .int .i64 M[i].1, .int .i64 M[i].2, .int .i64 0, .int .i64 0, .list 1 []]) := by simp [mvL, hlt]
      have ht := List.take_succ_eq_append_getElem hlt
      have X := And.intro X e1
      have v1 : ∀ s, ACallV Tryd.prog G (.fn (.func 17) [] [.ptr (H.length + 1) 0 0 0]) [.int .i64 s] (H ++ [Blk.map (some .i64) (esB w), .cells 0 1 [.map H.length]]) (fun r H' => H' = H ++ [Blk.map (some .i64) (esB w), .cells 0 1 [.map H.length]] ∧ r = .int .i64 (getB w s)) := fun s => ACallV.of (get1_ok G hG s (H.length + 1) H.length w _ q1 q0)
      (refine run ?_; repeat' (first | with_reducible exact trivial | ((with_reducible apply Fork.mk) <;> intro hb) | with_reducible apply Two.mk))
      refine hK _ _ (i + 1, setB w M[i].1 (getB w M[i].2)) (by simp only; omega) ⟨by simp only; omega, fun x => ?_⟩ (Wk.sub (by simp [subEnv, look]))
      rw [ht, exM_snoc, getB_set, hw, hw]
    · have : i = M.length := by omega
      subst this
      clear hK
      rw [List.take_length] at hw
      have X := And.intro X (show setSV [] (.int .i64 hand) (.bool true) = esO [hand] from rfl)
      (refine run ?_; repeat' (first | with_reducible exact trivial | ((with_reducible apply Fork.mk) <;> intro hb) | with_reducible apply Two.mk))
      clear X
      have X := And.intro noX (And.intro hMl hls)
      refine go_loop (fun a : Nat => [(0, .list 2 (shL l)), (1, .int .i64 hand), (5, .list 6 (mvL M)), (7, .ptr (H.length + 1) 0 0 0), (8, .fn (.func 17) [] [.ptr (H.length + 1) 0 0 0]), (10, .map (H.length + 2)), (11, .int .i64 a)]) (fun a => H ++ [.map (some .i64) (esB w), .cells 0 1 [.map H.length], .map (some .i64) (esO ((l.take a).foldl (fun o p => putO o p.1) [hand]))]) (fun a => l.length - a) (fun a => a ≤ l.length) 0 (Nat.zero_le _) (Wk.sub (by simp [subEnv, look])) ?_
      rintro K a ha hK
      generalize hO : (l.take a).foldl (fun o p => putO o p.1) [hand] = O
      have q0 : ∀ O, (H ++ [.map (some .i64) (esB w), .cells 0 1 [.map H.length], .map (some .i64) (esO (O))])[H.length]? = some (.map (some .i64) (esB w)) := fun O => by simp
      have q1 : ∀ O, (H ++ [.map (some .i64) (esB w), .cells 0 1 [.map H.length], .map (some .i64) (esO (O))])[H.length + 1]? = some (.cells 0 1 [.map H.length]) := fun O => by simp
      have v1 : ∀ O s, ACallV Tryd.prog G (.fn (.func 17) [] [.ptr (H.length + 1) 0 0 0]) [.int .i64 s] (H ++ [.map (some .i64) (esB w), .cells 0 1 [.map H.length], .map (some .i64) (esO (O))]) (fun r H' => H' = H ++ [.map (some .i64) (esB w), .cells 0 1 [.map H.length], .map (some .i64) (esO (O))] ∧ r = .int .i64 (getB w s)) := fun O s => ACallV.of (get1_ok G hG s (H.length + 1) H.length w _ (q1 O) (q0 O))
      rcases Nat.lt_or_ge a l.length with hlt | hge
      · have e1 : (shL l)[a]? = some (.agg [.int .i64 l[a].1, .int .i64 l[a].2]) := by rw [shL_get]; simp [hlt]
        have ht := List.take_succ_eq_append_getElem hlt
        have hg : getB w l[a].1 = l[a].2 := by rw [hw]; exact lw1 _ (List.getElem_mem hlt)
        have v1 := fun s => v1 (putO O l[a].1) s
        have X := And.intro X (And.intro e1 (And.intro (setSV_esO O l[a].1) hg))
        (refine run ?_; repeat' (first | with_reducible exact trivial | ((with_reducible apply Fork.mk) <;> intro hb) | with_reducible apply Two.mk))
        refine hK _ _ (a + 1) (by omega) (by omega) ?_
        rw [ht, List.foldl_append, hO]
        exact Wk.sub (by simp [subEnv, look])
      · have : a = l.length := by omega
        subst this
        clear hK
        rw [List.take_length] at hO
        have hOm : ∀ s, s ∈ O ↔ s = hand ∨ s ∈ l.map (·.1) := fun s => by rw [← hO, putsP_mem l [hand] s, List.mem_singleton]
        clear hO
        (refine run ?_; repeat' (first | with_reducible exact trivial | ((with_reducible apply Fork.mk) <;> intro hb) | with_reducible apply Two.mk))
        refine go_loop (fun a : Nat => [(0, .list 2 (shL l)), (1, .int .i64 hand), (5, .list 6 (mvL M)), (7, .ptr (H.length + 1) 0 0 0), (8, .fn (.func 17) [] [.ptr (H.length + 1) 0 0 0]), (10, .map (H.length + 2)), (12, .int .i64 a)]) (fun a => H ++ [.map (some .i64) (esB w), .cells 0 1 [.map H.length], .map (some .i64) (esO (O))]) (fun a => M.length - a) (fun a => a ≤ M.length) 0 (Nat.zero_le _) (Wk.sub (by simp [subEnv, look])) ?_
        rintro K a ha hK
        rcases Nat.lt_or_ge a M.length with hlt | hge
        · have e1 : (mvL M)[a]? = some (.agg [.int .i64 2, .int .i64 M[a].1, .int .i64 M[a].2, .int .i64 0, .int .i64 0, .list 1 []]) := by simp [mvL, hlt]
          have e2 : (findSV (esO O) (.int .i64 M[a].1)).getD (.bool false) = .bool true := by
            rw [findSV_esO, decide_eq_true ((hOm _).2 (lw2 _ (List.getElem_mem hlt)))]
          have X := And.intro X (And.intro e1 e2)
          (refine run ?_; repeat' (first | with_reducible exact trivial | ((with_reducible apply Fork.mk) <;> intro hb) | with_reducible apply Two.mk))
          exact hK _ _ (a + 1) (by omega) (by omega) (Wk.sub (by simp [subEnv, look]))
        · have : a = M.length := by omega
          subst this
          clear hK
          (refine run ?_; repeat' (first | with_reducible exact trivial | ((with_reducible apply Fork.mk) <;> intro hb) | with_reducible apply Two.mk))
          refine go_loop (fun a : Nat => [(0, .list 2 (shL l)), (1, .int .i64 hand), (5, .list 6 (mvL M)), (7, .ptr (H.length + 1) 0 0 0), (8, .fn (.func 17) [] [.ptr (H.length + 1) 0 0 0]), (10, .map (H.length + 2)), (13, .int .i64 a)]) (fun a => H ++ [.map (some .i64) (esB w), .cells 0 1 [.map H.length], .map (some .i64) (esO (O))]) (fun a => l.length - a) (fun a => a ≤ l.length) 0 (Nat.zero_le _) (Wk.sub (by simp [subEnv, look])) ?_
          rintro K a ha hK
          have v1 := fun s => v1 O s
          rcases Nat.lt_or_ge a l.length with hlt | hge
          · have e1 : (shL l)[a]? = some (.agg [.int .i64 l[a].1, .int .i64 l[a].2]) := by rw [shL_get]; simp [hlt]
            by_cases hin : l[a].2 ∈ O
            · have e2 : (findSV (esO O) (.int .i64 l[a].2)).getD (.bool false) = .bool true := by rw [findSV_esO, decide_eq_true hin]
              have X := And.intro X (And.intro e1 e2)
              (refine run ?_; repeat' (first | with_reducible exact trivial | ((with_reducible apply Fork.mk) <;> intro hb) | with_reducible apply Two.mk))
              all_goals first
                | exact hK _ _ (a + 1) (by omega) (by omega) (Wk.sub (by simp [subEnv, look]))
                | (exfalso; revert hb; simp; done)
            · have e2 : (findSV (esO O) (.int .i64 l[a].2)).getD (.bool false) = .bool false := by rw [findSV_esO, decide_eq_false hin]
              have e3 : getB w l[a].2 = l[a].2 := by
                rw [hw]; rw [hOm] at hin
                exact lw4 _ (fun h => hin (.inl h)) (fun h => hin (.inr h))
              have X := And.intro X (And.intro e1 (And.intro e2 e3))
              (refine run ?_; repeat' (first | with_reducible exact trivial | ((with_reducible apply Fork.mk) <;> intro hb) | with_reducible apply Two.mk))
              all_goals first
                | exact hK _ _ (a + 1) (by omega) (by omega) (Wk.sub (by simp [subEnv, look]))
                | (exfalso; revert hb; simp; done)
          · have : a = l.length := by omega
            subst this
            clear hK
            have hM2 : ((M.length : Int) ≤ 2 * l.length) := by omega
            (refine run ?_; repeat' (first | with_reducible exact trivial | ((with_reducible apply Fork.mk) <;> intro hb) | with_reducible apply Two.mk))
            all_goals first
              | exact finS hR hC' hcl (y := .bool true) (.same _ rfl) ⟨rfl, by simp [hM2]⟩
              | skip
end Go.Proofs.YtneklfhahljgnaaDoor
end

section
namespace Go.Proofs.YtneklfhahljgnaaDoor
open Go Go.ChangeShapes Go.WideShapes Go.RowKit
set_option linter.unusedVariables false

/-- the laid table among what the walks may lean on -/
def Gf : Gl := ⟨[(0, fieldsV)], none⟩
theorem gclosedF : GClosed Gf := by
  intro p hp
  rcases List.mem_cons.1 hp with rfl | hp
  · exact ints_under _ _
  · cases hp
theorem gF : GF Gf := rfl
theorem own : ownKnob Tryd.prog.godebug = none := by kernel_rfl
theorem laid : laidOutB Tryd.prog = true := by kernel_rfl
theorem gTab : Tryd.prog.globalNamed "teasel/code.fields" = some 0 := by kernel_rfl
theorem gTabType : (Tryd.prog.globals[0]?).map (·.type) = some 104 := by kernel_rfl
theorem cellsT : Tryd.prog.cellsOf 104 = 27 := by kernel_rfl
theorem cells3 : Tryd.prog.cellsOf 3 = 1 := by kernel_rfl
theorem table {W : World} (h : laidMetH Tryd.prog [("teasel/code.fields", Rows.laid_teasel_code_fields)] W) : Lib.TabIs Tryd.prog W "teasel/code.fields" .i64 fieldsL :=
  Lib.tabIs_of_head (rest := []) gTab gTabType Tryd.underlying104 Tryd.underlying3 cells3 cellsT h
theorem ints_rep {c : Cx} : ∀ (l : List Int), (∀ n ∈ l, IntKind.i64.min ≤ n ∧ n ≤ IntKind.i64.max) → RepL c (l.map (.int .i64)) (l.map fun n => Value.int .i64 n)
  | [], _ => RepL.mk_nil
  | n :: l, h => RepL.mk_cons (by simp only [Rep]; exact ⟨trivial, h n (by simp)⟩) (ints_rep l fun m hm => h m (by simp [hm]))
theorem gok {W : World} (h : laidMetH Tryd.prog [("teasel/code.fields", Rows.laid_teasel_code_fields)] W) : GOK Gf (rdC W) := by
  refine ⟨fun p hp => ?_, fun C0 h0 => by cases h0⟩
  rcases List.mem_cons.1 hp with rfl | hp
  · have ht : ∀ i, i < 27 → W.cell? ⟨0, i, none⟩ = some (.int .i64 (fieldsL.getD i 0)) := fun i hi => (table h).cell gTab i hi
    have h0 := ht 0 (by omega)
    have hsz : 0 < W.heap.size := by
      have : W.heap[0]? ≠ none := fun e => by simp [World.cell?, e] at h0
      simp only [ne_eq, Array.getElem?_eq_none_iff] at this; omega
    simp only [Rep]
    refine ⟨0, 0, .agg (fieldsL.map fun n => Value.int .i64 n).toArray, rfl, ⟨_, ints_rep fieldsL (by decide), ?_, rfl⟩, ?_, ?_, rdC_imm hsz⟩
    · intro u hu; obtain ⟨n, _, rfl⟩ := List.mem_map.1 hu; rfl
    · intro v hv
      obtain ⟨n, _, rfl⟩ := List.mem_map.1 (show v ∈ fieldsL.map fun n => Value.int .i64 n by simpa [Value.cells] using hv)
      rfl
    · intro j v hv
      have hv2 : (fieldsL.map fun n => Value.int .i64 n)[j]? = some v := by simpa [Value.cells] using hv
      rw [List.getElem?_map, Option.map_eq_some_iff] at hv2
      obtain ⟨n, hn, rfl⟩ := hv2
      have hj := (List.getElem?_eq_some_iff.1 hn).1
      show W.cell? ⟨0, 0 + j, none⟩ = _
      rw [Nat.zero_add, ht j hj, List.getD_eq_getElem?_getD, hn]; rfl
  · cases hp

section
variable {H : Type} {enc : TypeId × Value → H} {W : World} {sp : Nat → Bool}
theorem law_callsG {P : Program} {G : Gl} {f : FuncId} {args : List SV} {vs : List Value} (h : ACall P G f args [] (fun r H' => H' = [] ∧ r = .bool true)) (hg : GOK G (rdC W)) (hv : RepL (rdC W) args vs) {R : World → Prop} (hR : ∀ W', Below W.heap.size W W' → R W') :
    Calls P f vs.toArray W fun e W' => ∃ v, e = .returned v ∧ v = .bool true ∧ R W' := by
  refine (callsIn_wide (n := 0)).1 ((h.2 (rdC W) vs rfl (rdC_ok W) hg hv).mono ?_)
  rintro e w' ⟨v, x, c', rfl, hw, ⟨_, rfl⟩, _, hx, hg⟩
  simp only [Rep] at hx
  exact ⟨v, rfl, hx, hR _ (Grow.below hg hw)⟩
theorem read_int (n : Nat) : Rd enc Tryd.prog W sp n 3 (fun i : Int => [.int .i64 i]) (fun _ => 1) := rd_int (by kernel_rfl) (by kernel_rfl)
theorem read_bool (n : Nat) : Rd enc Tryd.prog W sp n 4 (fun b : Bool => [.bool b]) (fun _ => 1) := rd_bool (by kernel_rfl) (by kernel_rfl)
theorem read_str (n : Nat) : Rd enc Tryd.prog W sp n 9 (fun s : Str => [.str s]) (fun s => s.length + 1) := rd_str (by kernel_rfl) (by kernel_rfl)
theorem read_shift (n : Nat) : Rd enc Tryd.prog W sp n 42 (fun p : Sh => [.int .i64 p.1, .int .i64 p.2]) (fun _ => 2) := by
  intro cs x hx
  obtain ⟨xs, m, rfl, rfl, hl, hlen, hf⟩ := DataW.trod_struct Tryd.underlying42 hx
  obtain ⟨z0, z1, rfl⟩ := len_two (show xs.length = 2 from hlen)
  have hsz : Tryd.prog.cellsOf 42 = 2 := by kernel_rfl
  obtain ⟨y0, a, e0, g0, w0⟩ := field_of hf 0 0 1 (by kernel_rfl) (by kernel_rfl) (read_int m) (by simp)
  obtain ⟨y1, b, e1, g1, w1⟩ := field_of hf 1 1 1 (by kernel_rfl) (by kernel_rfl) (read_int m) (by simp)
  rw [hsz] at hl
  refine ⟨(a, b), ?_, by rw [hsz, hl], ?_⟩
  · have : [SV.int .i64 a, SV.int .i64 b] = [SV.int .i64 a] ++ ([SV.int .i64 b] ++ []) := rfl
    simp only
    rw [this, ← List.drop_zero (l := cs)]
    refine .cut g0 (.cut g1 ?_)
    rw [List.drop_eq_nil_of_le (by omega)]
    exact .nil
  · cases e0; cases e1
    simp only [Rows.uptoBulk, Rows.uptoBulkAll, List.map_cons, List.map_nil]
    omega
theorem read_shifts (n : Nat) : Rd enc Tryd.prog W sp n 35 (fun l : List Sh => [.list 2 (shL l)]) (fun l => 1 + 2 * l.length) := by
  have h := rd_slice (enc := enc) (P := Tryd.prog) (W := W) (sp := sp) (t := 35) (e := 42) true (f := fun p : Sh => [SV.int .i64 p.1, SV.int .i64 p.2]) (wt := fun _ => 2) (n := 2) (N := n) (by kernel_rfl) (by kernel_rfl) (by kernel_rfl) (by omega) (.inl rfl) (fun m _ => read_shift m)
  intro cs x hx
  obtain ⟨a, h1, h2, h3⟩ := h cs x hx
  refine ⟨a, h1, h2, ?_⟩
  have : (a.map fun _ : Sh => 2).sum = 2 * a.length := by
    clear h1 h2 h3
    induction a with
    | nil => rfl
    | cons x l ih => simp only [List.map_cons, List.sum_cons, ih, List.length_cons]; omega
  simp only [this] at h3
  exact h3
end

/-- A WORLD FOR THE WITNESS. -/
noncomputable def laidWorld (os : Os) : World :=
  { World.holding Tryd.prog os ⟨#[], #[], []⟩ with heap := (World.holding Tryd.prog os ⟨#[], #[], []⟩).heap.modify 0 fun
      | .cells _ t frozen => .cells (fieldsL.map fun n => Value.int .i64 n).toArray t frozen
      | o => o }
end Go.Proofs.YtneklfhahljgnaaDoor
end

section
namespace Go.Proofs.YtneklfhahljgnaaDoor.liveMoves
open Go Go.ChangeShapes Go.WideShapes Go.RowKit
set_option linter.unusedVariables false

set_option maxRecDepth 100000 in
theorem contract (H : Type) (enc : TypeId × Value → H) (W : World) (base : Nat) (args : Array Value) (ds gs : List (DataW H)) (before : List MemPlace)
    (hval : ∀ (j : Nat) t v, Tryd.f5.params[j]? = some t → args[j]? = some v → Value.okWide Tryd.prog W .any base t v)
    (hW : DataW.Whole enc Tryd.prog Tryd.f5.params.toList Rows.liveMovesSpec.vars false W args.toList ds gs before) (hL : laidMetH Tryd.prog Rows.liveMovesRow.laid W) :
    Calls Tryd.prog 5 args W fun e W' => ∃ v, e = .returned v ∧ Rows.liveMovesSpec.post enc Tryd.prog Tryd.f5 false true false false W args v W' := by
  have hW' := hW
  obtain ⟨p, q, hA0, hV, rfl, hfz, hnd⟩ := hW
  have hA : DataW.TrodAll enc Tryd.prog W 0 (fun _ => true) true Tryd.f5.params.toList args.toList ds p := hA0
  rw [Tryd.params5] at hA hval
  obtain ⟨v0, vs0, d0, ds0, p0, q0, hargs, rfl, rfl, h0, r0⟩ := trodAll_cons hA
  obtain ⟨v1, vs1, d1, ds1, p1, q1, rfl, rfl, rfl, h1, r1⟩ := trodAll_cons r0
  obtain ⟨rfl, rfl, rfl⟩ := trodAll_nil r1
  obtain rfl : args = #[v0, v1] := by cases args; simp_all
  obtain ⟨rfl, rfl⟩ := trodVars_none hV
  obtain ⟨aa, len, cap, rfl⟩ := okWide_slice Tryd.underlying35 (hval 0 35 v0 (by simp) (by simp))
  obtain ⟨n, rfl, rfl, rfl, hn⟩ := open_int Tryd.underlying3 (hval 1 3 v1 (by simp) (by simp)) h1
  obtain ⟨fuel, hf⟩ := h0
  obtain ⟨l, hl, _, hw⟩ := read_shifts fuel _ _ hf
  refine (law_callsG (args := [.list 2 (shL l), .int .i64 n]) (vs := [.slice aa len cap, .int .i64 n]) (liveMoves_ok Gf gclosedF gF l n []) (gok hL) ?_ (fun W' => law_post laid rfl hW' ?_ rfl (by kernel_rfl) rfl rfl rfl)).mono ?_
  · refine RepL.mk_cons ?_ (RepL.mk_cons ?_ RepL.mk_nil)
    · exact (RepL.cons_iff.1 hl.1).elim fun u h => h.elim fun us h => by obtain ⟨h1, _, h3⟩ := h; cases h3; exact h1
    · simp only [Rep]; exact ⟨trivial, wf_range hn⟩
  · intro t ht
    rw [Tryd.params5] at ht
    simp only [List.mem_cons, List.not_mem_nil, or_false] at ht
    rcases ht with rfl | rfl
    · exact ⟨by kernel_rfl, of_decide_eq_true (by kernel_rfl)⟩
    · exact ⟨by kernel_rfl, of_decide_eq_true (by kernel_rfl)⟩
  · rintro _ W' ⟨v, rfl, rfl, hp⟩
    exact ⟨_, rfl, hp⟩

theorem laid_met (os : Os) : laidMet Tryd.prog Rows.liveMovesRow.laid ((laidWorld os).forCall (fun _ _ => 0) ⟨#[], #[.slice none 0 0, .int .i64 0], []⟩).memory :=
  laidMet_of_run' 8 (by kernel_rfl) (by kernel_rfl)
theorem reads (os : Os) {H : Type} (enc : TypeId × Value → H) : ∃ places, DataW.whole enc Tryd.prog ((laidWorld os).forCall (fun _ _ => 0) ⟨#[], #[.slice none 0 0, .int .i64 0], []⟩).memory Tryd.f5.params.toList Rows.liveMovesSpec.vars false #[Value.slice none 0 0, .int .i64 0].toList 8 = some ([.nil, .lit (.int .i64 0)], [], places) :=
  ⟨[], by kernel_rfl⟩
set_option maxRecDepth 100000 in
theorem lifted (os : Os) (started : os.Started) (H : Type) (enc : TypeId × Value → H) (F : Stop.Interp) :
    ReturnsInHanded {} Tryd.checked os 5 .any ((OpenSpec.ofChange Rows.liveMovesSpec).preRow enc Tryd.prog Tryd.f5 Rows.liveMovesRow.domain false Rows.liveMovesRow.laid) (((OpenSpec.ofChange Rows.liveMovesSpec).at F).post enc Tryd.prog Tryd.f5 false true false false) := by
  obtain ⟨places, hx⟩ := reads os enc
  refine returnsInHanded_of_row (C := Tryd.checked) (s := OpenSpec.ofChange Rows.liveMovesSpec) own started (by kernel_rfl) Tryd.func5
    (witness_row_at (enc := enc) (C := Tryd.checked) false (laidWorld os) #[.slice none 0 0, .int .i64 0] rfl (by kernel_rfl) (by kernel_rfl) (by kernel_rfl)
      (OpenSpec.preRow_of_cond 8 hx (by kernel_rfl) (fun k hk => by cases hk) (by kernel_rfl) (laid_met os))) ?_
  intro W base args ds gs before hval hW _ _ _ hL _ _
  exact contract H enc W base args ds gs before hval hW hL
theorem said : Rows.LiveMovesSaid :=
  OpenClaim.holds_of_cond 5 Tryd.f5 rfl rfl rfl rfl rfl rfl rfl ⟨rfl, rfl, rfl, rfl, rfl⟩ rfl rfl rfl rfl rfl (by kernel_rfl) Tryd.func5 (by kernel_rfl)
    (of_decide_eq_true (by kernel_rfl)) (by unfold Func.isWrapper; first | (rw [if_pos (by decide +kernel)]; kernel_rfl) | (rw [if_neg (by decide +kernel)]; exact ⟨rfl, rfl⟩))
    (fun os started H enc _ F => by rw [OpenClaim.pre_eq_preRow]; exact lifted os started H enc F)
theorem plain (f : FuncId) (fn : Func) (hf : Tryd.pinned.checked.prog.funcNamed "teasel/teasellaw22.LiveMoves" = some f) (hfn : Tryd.pinned.checked.prog.funcs[f]? = some fn) :
    false = Tryd.pinned.checked.prog.looks [] ∧ ∀ (j : Nat) t, fn.params[j]? = some t → Tryd.pinned.checked.prog.wantsStandIn t = false := by
  obtain rfl : f = 5 := Option.some.inj ((show Tryd.prog.funcNamed "teasel/teasellaw22.LiveMoves" = some 5 by kernel_rfl).symm.trans hf) |>.symm
  obtain rfl : fn = Tryd.f5 := (Option.some.inj (Tryd.func5.symm.trans hfn)).symm
  refine ⟨by kernel_rfl, fun j t ht => ?_⟩
  rw [Tryd.params5] at ht
  have hm := Array.mem_of_getElem? ht
  have : t = 35 ∨ t = 3 := by simpa using hm
  rcases this with rfl | rfl
  · exact (show Tryd.prog.wantsStandIn 35 = false by kernel_rfl)
  · exact (show Tryd.prog.wantsStandIn 3 = false by kernel_rfl)
theorem proved : Rows.LiveMovesCardSaid :=
  Claim7.holds_tied_plain_at .later [] _ _ _ _ said (fun _ h => by cases h) (by kernel_rfl) (fun _ h => by cases h) liveMoves_row_tie rfl ⟨rfl, rfl⟩ (by kernel_rfl) rfl plain (by kernel_rfl)
end Go.Proofs.YtneklfhahljgnaaDoor.liveMoves
end
