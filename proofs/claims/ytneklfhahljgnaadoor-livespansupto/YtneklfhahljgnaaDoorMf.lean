/- A part of the proof: A6, A7, A8, A9, A10. -/
import Derived.Test.YtneklfhahljgnaaDoorMe

section
namespace Go.Proofs.YtneklfhahljgnaaDoor
open Go
set_option linter.unusedSimpArgs false
set_option linter.unusedVariables false
set_option maxRecDepth 10000
set_option maxHeartbeats 4000000

/-! ### maps of numbers: counts, and sets -/
def cntB : List (Int × Int) → Int → Int
  | [], _ => 0
  | (k, n) :: r, s => if s = k then n else cntB r s
def setB : List (Int × Int) → Int → Int → List (Int × Int)
  | [], s, n => [(s, n)]
  | (k, m) :: r, s, n => if s = k then (s, n) :: r else (k, m) :: setB r s n
def esB (l : List (Int × Int)) : List (SV × SV) := l.map fun p => (.int .i64 p.1, .int .i64 p.2)
def putO (l : List Int) (s : Int) : List Int := if s ∈ l then l else l ++ [s]
def esO (l : List Int) : List (SV × SV) := l.map fun s => (.int .i64 s, .bool true)

theorem findSV_esB : ∀ (l : List (Int × Int)) (s : Int), (findSV (esB l) (.int .i64 s)).getD (.int .i64 0) = .int .i64 (cntB l s)
  | [], s => rfl
  | (k, n) :: r, s => by
    simp only [esB, List.map_cons, findSV, SV.keyEq, cntB]
    by_cases h : s = k
    · simp [h]
    · simp only [beq_eq_false_iff_ne.2 h, h, if_false, Bool.false_eq_true]
      exact findSV_esB r s
theorem setSV_esB : ∀ (l : List (Int × Int)) (s : Int) (n : Int), setSV (esB l) (.int .i64 s) (.int .i64 n) = esB (setB l s n)
  | [], s, n => rfl
  | (k, m) :: r, s, n => by
    simp only [esB, List.map_cons, setSV, SV.keyEq, setB]
    by_cases h : s = k
    · simp [h]
    · simp only [beq_eq_false_iff_ne.2 h, h, if_false, Bool.false_eq_true]
      rw [show setSV (List.map _ r) (.int .i64 s) (.int .i64 n) = _ from setSV_esB r s n]
      rfl
theorem setSV_esO : ∀ (l : List Int) (s : Int), setSV (esO l) (.int .i64 s) (.bool true) = esO (putO l s)
  | [], s => rfl
  | k :: r, s => by
    simp only [esO, List.map_cons, setSV, SV.keyEq, putO]
    by_cases h : s = k
    · simp [h]
    · simp only [beq_eq_false_iff_ne.2 h, if_false, Bool.false_eq_true]
      rw [show setSV (List.map _ r) (.int .i64 s) (.bool true) = _ from setSV_esO r s]
      simp only [esO, putO, List.mem_cons, h, false_or]
      split <;> rfl
theorem cnt_set : ∀ (l : List (Int × Int)) (s : Int) (n : Int) (t : Int), cntB (setB l s n) t = if t = s then n else cntB l t
  | [], s, n, t => by simp [setB, cntB]
  | (k, m) :: r, s, n, t => by
    by_cases h : s = k
    · subst h
      by_cases ht : t = s <;> simp [setB, cntB, ht]
    · simp only [setB, if_neg h, cntB, cnt_set r s n t]
      by_cases ht : t = k
      · subst ht
        rw [if_pos rfl, if_neg (fun e => h e.symm)]
        rw [if_pos rfl]
      · rw [if_neg ht, if_neg ht]
def incB (b : List (Int × Int)) (l : List Int) : List (Int × Int) := l.foldl (fun b n => setB b n (cntB b n + 1)) b
def decB (b : List (Int × Int)) (l : List Int) : List (Int × Int) := l.foldl (fun b n => setB b n (cntB b n - 1)) b
theorem cnt_inc : ∀ (l : List Int) (b : List (Int × Int)) (s : Int), cntB (incB b l) s = cntB b s + l.count s
  | [], b, s => by simp [incB]
  | x :: l, b, s => by
    rw [incB, List.foldl_cons, ← incB, cnt_inc l, cnt_set, List.count_cons]
    by_cases h : s = x
    · subst h; simp; omega
    · have h2 : ¬ x = s := fun e => h e.symm
      simp [h, h2]
theorem cnt_dec : ∀ (l : List Int) (b : List (Int × Int)) (s : Int), cntB (decB b l) s = cntB b s - l.count s
  | [], b, s => by simp [decB]
  | x :: l, b, s => by
    rw [decB, List.foldl_cons, ← decB, cnt_dec l, cnt_set, List.count_cons]
    by_cases h : s = x
    · subst h; simp; omega
    · have h2 : ¬ x = s := fun e => h e.symm
      simp [h, h2]
theorem inc_snoc (b : List (Int × Int)) (l : List Int) (x : Int) : incB b (l ++ [x]) = setB (incB b l) x (cntB (incB b l) x + 1) := by simp [incB]
theorem dec_snoc (b : List (Int × Int)) (l : List Int) (x : Int) : decB b (l ++ [x]) = setB (decB b l) x (cntB (decB b l) x - 1) := by simp [decB]

theorem esB_under (n : Nat) : ∀ l : List (Int × Int), belowE n (esB l) = true
  | [] => rfl
  | p :: l => by simp only [esB, List.map_cons, belowE, SV.under, Bool.and_self, Bool.true_and]; exact esB_under n l
theorem esO_under (n : Nat) : ∀ l : List Int, belowE n (esO l) = true
  | [] => rfl
  | p :: l => by simp only [esO, List.map_cons, belowE, SV.under, Bool.and_self, Bool.true_and]; exact esO_under n l
attribute [go_sem] findSV_esB setSV_esB setSV_esO
theorem findSV_esO : ∀ (l : List Int) (s : Int), (findSV (esO l) (.int .i64 s)).getD (.bool false) = .bool (decide (s ∈ l))
  | [], s => rfl
  | k :: r, s => by
    simp only [esO, List.map_cons, findSV, SV.keyEq]
    by_cases h : s = k
    · simp [h]
    · simp only [beq_eq_false_iff_ne.2 h, if_false, Bool.false_eq_true]
      have := findSV_esO r s
      simp only [esO] at this
      rw [this]
      simp [h]
attribute [go_sem] findSV_esO

/-! ### shifts -/
abbrev Sh := Int × Int
def shL (l : List Sh) : List SV := l.map fun p => .agg [.int .i64 p.1, .int .i64 p.2]
theorem shL_len (l : List Sh) : (shL l).length = l.length := by simp [shL]
theorem shL_get (l : List Sh) (i : Nat) : (shL l)[i]? = l[i]?.map fun p => .agg [.int .i64 p.1, .int .i64 p.2] := by simp [shL]
theorem shL_under (n : Nat) (l : List Sh) : SV.underL n (shL l) = true := SV.underL_map fun _ _ => rfl
theorem shL_append (a b : List Sh) : shL (a ++ b) = shL a ++ shL b := by simp [shL]
theorem shL_take (a : List Sh) (n : Nat) : shL (a.take n) = (shL a).take n := by simp [shL]
theorem shL_drop (a : List Sh) (n : Nat) : shL (a.drop n) = (shL a).drop n := by simp [shL]
theorem shL_set (a : List Sh) (n : Nat) (p : Sh) : (shL a).set n (.agg [.int .i64 p.1, .int .i64 p.2]) = shL (a.set n p) := by simp [shL]
def mvL (l : List Sh) : List SV := l.map fun p => .agg [.int .i64 2, .int .i64 p.1, .int .i64 p.2, .int .i64 0, .int .i64 0, .list 1 []]
theorem mvL_len (l : List Sh) : (mvL l).length = l.length := by simp [mvL]
theorem mvL_get (l : List Sh) (i : Nat) : (mvL l)[i]? = l[i]?.map fun p => .agg [.int .i64 2, .int .i64 p.1, .int .i64 p.2, .int .i64 0, .int .i64 0, .list 1 []] := by simp [mvL]
theorem mvL_under (n : Nat) (l : List Sh) : SV.underL n (mvL l) = true := SV.underL_map fun _ _ => rfl
theorem mvL_snoc (a : List Sh) (p : Sh) : mvL (a ++ [p]) = mvL a ++ [.agg [.int .i64 2, .int .i64 p.1, .int .i64 p.2, .int .i64 0, .int .i64 0, .list 1 []]] := by simp [mvL]
attribute [go_sem] shL_len shL_get mvL_len mvL_get

theorem Fin.ownNil {C : Cx} {H : List Blk} {R : SV → List Blk → Prop} (sz : Nat) (h : R (.sl H.length 0 0 0) (H ++ [.cells 0 sz []])) : Fin C H .nil R := by
  intro c v hc hh hv hg
  obtain ⟨g1, g2⟩ := Cx.fresh hh (w' := c.w) c.w.heap.size (Nat.le_refl _) 0 none (.inl rfl) (.cells 0 sz []) (fun _ _ => rfl) (Nat.le_refl _) rfl rfl rfl (fun _ => .inl ⟨by simp, rfl⟩)
  generalize hc2 : (⟨fun i => if i = c.H.length then none else c.θ i, c.H ++ [.cells 0 sz []], c.w⟩ : Cx) = c2 at g1 g2
  have hH : c2.H = H ++ [.cells 0 sz []] := by rw [← hc2]; show c.H ++ _ = _; rw [hc]
  have hw : c2.w = c.w := by rw [← hc2]
  refine ⟨c2, _, hw, by rw [hH]; exact h, g2, ?_, hg.trans g1⟩
  simp only [Rep] at hv
  rw [hv]
  simp only [Rep, hH]
  refine ⟨rfl, ?_⟩
  simp only [List.getElem?_append_right (Nat.le_refl _), Nat.sub_self, List.getElem?_cons_zero]
  exact .inr ⟨trivial, Nat.le_refl _, none, 0, rfl, Nat.le_refl _, Nat.zero_le _, .inl ⟨rfl, .inr (Nat.le_refl _)⟩⟩

theorem same1_ok (G : Gl) (hG : GClosed G) (p : Sh) (H : List Blk) : ACall Tryd.prog G 33 [.agg [.int .i64 p.1, .int .i64 p.2]] H (fun r H' => H' = H ∧ r = .bool (decide (p.1 = p.2))) := by
  refine ACall.of_go TB [] tabOK _ Tryd.func33 rfl (by decide) Tryd.ntmps33 (by simp) rfl (by simp only [initEnv, Nat.reduceAdd]; rfl) fun C R' hR hC hcl hB => ?_; have X := noX; have hC' := congrArg List.length hC
  (refine run ?_; repeat' (first | with_reducible exact trivial | ((with_reducible apply Fork.mk) <;> intro hb) | with_reducible apply Two.mk))
  exact finS hR hC' hcl (y := .bool (decide (p.1 = p.2))) (.same _ rfl) ⟨rfl, rfl⟩
theorem free1_ok (G : Gl) (hG : GClosed G) (p : Sh) (b m : Nat) (w : List (Int × Int)) (H : List Blk) (hb : H[b]? = some (.cells 0 1 [.map m])) (hm : H[m]? = some (.map (some .i64) (esB w))) :
    ACall Tryd.prog G 35 [.agg [.int .i64 p.1, .int .i64 p.2], .ptr b 0 0 0] H (fun r H' => H' = H ∧ r = .bool (decide (cntB w p.1 = 0))) := by
  have hbl := (List.getElem?_eq_some_iff.1 hb).1
  have hml := (List.getElem?_eq_some_iff.1 hm).1
  refine ACall.of_go TB [] tabOK _ Tryd.func35 rfl (by decide) Tryd.ntmps35 (by simp) rfl (by simp only [initEnv, Nat.reduceAdd]; rfl) fun C R' hR hC hcl hB => ?_; have X := noX; have hC' := congrArg List.length hC
  have X := And.intro X (And.intro (fun L : List Blk => (List.getElem?_append_left (l₂ := L) hbl).trans hb) (And.intro (fun L : List Blk => (List.getElem?_append_left (l₂ := L) hml).trans hm) (And.intro hb hm)))
  (refine run ?_; repeat' (first | with_reducible exact trivial | ((with_reducible apply Fork.mk) <;> intro hb) | with_reducible apply Two.mk))
  exact finS hR hC' hcl (y := .bool (decide (cntB w p.1 = 0))) (.same _ rfl) ⟨rfl, rfl⟩

/-- where the first one stands; below 0: there is none -/
def idxP (p : Sh → Bool) (l : List Sh) : Int := match l.findIdx? p with
  | some i => i
  | none => -1
theorem indexFunc_ok (G : Gl) (hG : GClosed G) (f : SV) (p : Sh → Bool) (id g n : Nat) (V : List Sh) (H : List Blk) (hH : H[id]? = some (.cells g 2 (shL V))) (hn : n ≤ V.length) (hl : V.length < 4294967296) (hfu : f.under H.length = true)
    (hf : ∀ x ∈ V.take n, ACallV Tryd.prog G f [.agg [.int .i64 x.1, .int .i64 x.2]] H (fun r H' => H' = H ∧ r = .bool (p x))) :
    ACall Tryd.prog G 34 [.sl id g 0 n, f] H (fun r H' => H' = H ∧ r = .int .i64 (idxP p (V.take n))) := by
  have hid : id < H.length := (List.getElem?_eq_some_iff.1 hH).1
  refine ACall.of_go TB [] tabOK _ Tryd.func34 rfl (by decide) Tryd.ntmps34 (by simp) rfl (by simp only [initEnv, Nat.reduceAdd]; rfl) fun C R' hR hC hcl hB => ?_; have X := noX; have hC' := congrArg List.length hC
  have X := And.intro X hH
  (refine run ?_; repeat' (first | with_reducible exact trivial | ((with_reducible apply Fork.mk) <;> intro hb) | with_reducible apply Two.mk))
  refine go_loop (fun k : Nat => [(0, .sl id g 0 n), (1, f), (7, .int .i64 n), (8, .int .i64 k)]) (fun _ => H) (fun k => n - k) (fun k => k ≤ n ∧ ∀ x ∈ V.take k, p x = false) 0 ⟨Nat.zero_le _, by simp⟩ (Wk.sub (by simp [subEnv, look])) ?_
  rintro K k ⟨hk, hno⟩ hK
  rcases Nat.lt_or_ge k n with hlt | hge
  · have hlt2 : k < V.length := by omega
    have e1 : V[k]? = some V[k] := List.getElem?_eq_getElem hlt2
    have X := And.intro X e1
    (refine run ?_; repeat' (first | with_reducible exact trivial | ((with_reducible apply Fork.mk) <;> intro hb) | with_reducible apply Two.mk))
    refine callV (hf V[k] (by rw [List.mem_take_iff_getElem]; exact ⟨k, by omega, rfl⟩)) ?_
    rintro r H' ⟨rfl, rfl⟩
    (refine run ?_; repeat' (first | with_reducible exact trivial | ((with_reducible apply Fork.mk) <;> intro hb) | with_reducible apply Two.mk))
    · have hfi : (V.take n).findIdx? p = some k := by
        rw [List.findIdx?_eq_some_iff_getElem]
        refine ⟨by simp; omega, by simpa using hb, fun j hj => ?_⟩
        have := hno V[j] (by rw [List.mem_take_iff_getElem]; exact ⟨j, by omega, rfl⟩)
        simp [this]
      refine Fin.out hR ⟨rfl, ?_⟩
      simp only [resSV, idxP, hfi]
    · refine hK _ _ (k + 1) (by omega) ⟨by omega, ?_⟩ (Wk.sub (by simp [subEnv, look]))
      rw [List.take_succ_eq_append_getElem hlt2]
      intro x hx
      rcases List.mem_append.1 hx with hx | hx
      · exact hno x hx
      · rw [List.mem_singleton.1 hx]; exact hb
  · have : k = n := by omega
    subst this
    clear hK
    (refine run ?_; repeat' (first | with_reducible exact trivial | ((with_reducible apply Fork.mk) <;> intro hb) | with_reducible apply Two.mk))
    have hfi : (V.take k).findIdx? p = none := by rw [List.findIdx?_eq_none_iff]; exact hno
    refine Fin.out hR ⟨rfl, ?_⟩
    simp only [resSV, idxP, hfi]
end Go.Proofs.YtneklfhahljgnaaDoor
end

section
namespace Go.Proofs.YtneklfhahljgnaaDoor
open Go
set_option linter.unusedSimpArgs false
set_option linter.unusedVariables false
set_option maxRecDepth 10000
set_option maxHeartbeats 4000000

theorem closed.sh {H : List Blk} (h : closed H) {id : Nat} {g : Nat} (l : List Sh) : closed (H.set id (.cells g 2 (shL l))) := h.set (shL_under _ _)
theorem clone_ok (G : Gl) (hG : GClosed G) (l : List Sh) (hl : l.length < 4294967296) (H : List Blk) : ACall Tryd.prog G 32 [.list 2 (shL l)] H (fun r H' => H' = H ++ [.cells 0 2 (shL l)] ∧ r = .sl H.length 0 0 l.length) := by
  refine ACall.of_go TB [] tabOK _ Tryd.func32 rfl (by decide) Tryd.ntmps32 (by simp) rfl (by simp only [initEnv, Nat.reduceAdd]; rfl) fun C R' hR hC hcl hB => ?_; have X := noX; have hC' := congrArg List.length hC
  (refine run ?_; repeat' (first | with_reducible exact trivial | ((with_reducible apply Fork.mk) <;> intro hb) | with_reducible apply Two.mk))
  · have : l = [] := List.eq_nil_of_length_eq_zero hb
    subst this
    exact Fin.ownNil 2 (hR _ _ ⟨rfl, rfl⟩)
  · exact finK [(H.length, 0)] (.sl H.length 0 0 l.length) [.cells 0 2 (shL l)] hR hC' hcl ⟨rfl, rfl⟩

/-- shifts that do something -/
def keepSh (p : Sh) : Bool := !decide (p.1 = p.2)
theorem deleteFunc_ok (G : Gl) (hG : GClosed G) (id g : Nat) (l : List Sh) (H : List Blk) (hH : H[id]? = some (.cells g 2 (shL l))) (hl : l.length < 4294967296) :
    ACall Tryd.prog G 31 [.sl id g 0 l.length, .fn (.func 33) [] []] H (fun r H' => ∃ V : List Sh, V.length = l.length ∧ V.take (l.filter keepSh).length = (l.filter keepSh) ∧ H' = H.set id (.cells g 2 (shL V)) ∧ r = .sl id g 0 (l.filter keepSh).length) := by
  have hid : id < H.length := (List.getElem?_eq_some_iff.1 hH).1
  have hset : H.set id (.cells g 2 (shL l)) = H := set_self hH
  refine ACall.of_go TB [] tabOK _ Tryd.func31 rfl (by decide) Tryd.ntmps31 (by simp) rfl (by simp only [initEnv, Nat.reduceAdd]; rfl) fun C R' hR hC hcl hB => ?_; have X := noX; have hC' := congrArg List.length hC
  have X := And.intro X hH
  (refine run ?_; repeat' (first | with_reducible exact trivial | ((with_reducible apply Fork.mk) <;> intro hb) | with_reducible apply Two.mk))
  refine callS (indexFunc_ok G hG (.fn (.func 33) [] []) (fun p => decide (p.1 = p.2)) id g l.length l H hH (Nat.le_refl _) hl rfl (fun x _ => ACallV.of (same1_ok G hG x H))) ?_
  rintro r H' ⟨hH', rfl⟩
  rw [hH']
  clear hH' H'
  rw [List.take_length]
  cases hfi : l.findIdx? (fun p => decide (p.1 = p.2)) with
  | none =>
    rw [List.findIdx?_eq_none_iff] at hfi
    have hfl : l.filter keepSh = l := by
      rw [List.filter_eq_self]
      intro x hx
      simp only [keepSh, hfi x hx, Bool.not_false]
    have e : idxP (fun p => decide (p.1 = p.2)) l = -1 := by
      rw [idxP, List.findIdx?_eq_none_iff.2 hfi]
    rw [e]
    (refine run ?_; repeat' (first | with_reducible exact trivial | ((with_reducible apply Fork.mk) <;> intro hb) | with_reducible apply Two.mk))
    exact Fin.out hR ⟨l, rfl, by rw [hfl, List.take_length], hset.symm, by rw [hfl]; rfl⟩
  | some i =>
    have e : idxP (fun p => decide (p.1 = p.2)) l = i := by rw [idxP, hfi]
    rw [List.findIdx?_eq_some_iff_getElem] at hfi
    obtain ⟨hil, hpi, hno⟩ := hfi
    have hfl : (l.take (i + 1)).filter keepSh = l.take i := by
      rw [List.take_succ_eq_append_getElem hil, List.filter_append, List.filter_cons_of_neg (by simpa [keepSh] using hpi), List.filter_nil, List.append_nil, List.filter_eq_self]
      intro x hx
      rw [List.mem_take_iff_getElem] at hx
      obtain ⟨j, hj, rfl⟩ := hx
      have := hno j (by omega)
      simpa [keepSh] using this
    rw [e]
    have hne : ¬ ((i : Int) = -1) := by omega
    (refine run ?_; repeat' (first | with_reducible exact trivial | ((with_reducible apply Fork.mk) <;> intro hb) | with_reducible apply Two.mk))
    refine go_loop (fun a : Nat × Nat × List Sh => [(0, .sl id g 0 l.length), (1, .fn (.func 33) [] []), (5, .int .i64 a.2.1), (6, .int .i64 a.1)]) (fun a => H.set id (.cells g 2 (shL a.2.2)) ++ []) (fun a => l.length - a.1)
      (fun a => a.1 ≤ l.length ∧ a.2.1 = ((l.take a.1).filter keepSh).length ∧ a.2.1 < a.1 ∧ a.2.2.length = l.length ∧ a.2.2.take a.2.1 = (l.take a.1).filter keepSh ∧ ∀ j, a.2.1 ≤ j → a.2.2[j]? = l[j]?) (i + 1, i, l)
      ⟨by simp only; omega, by simp only [hfl]; simp; omega, by simp, rfl, by simp only [hfl], fun j _ => rfl⟩ (by rw [hset, List.append_nil]; exact Wk.sub (by simp [subEnv, look])) ?_
    rintro K ⟨j, m, V⟩ ⟨i1, i2, i3, i4, i5, i6⟩ hK
    dsimp only at i1 i2 i3 i4 i5 i6 ⊢
    rw [List.append_nil]
    have hgets : ∀ L : List Blk, (H.set id (.cells g 2 (shL V)) ++ L)[id]? = some (.cells g 2 (shL V)) := fun L => get_oldS hid
    have hget0 : (H.set id (.cells g 2 (shL V)))[id]? = some (.cells g 2 (shL V)) := List.getElem?_set_self hid
    rcases Nat.lt_or_ge j l.length with hlt | hge
    · have q1 : V[j]? = some l[j] := by rw [i6 _ (by omega)]; exact List.getElem?_eq_getElem hlt
      have X := And.intro X (And.intro q1 (And.intro hgets hget0))
      have ht := List.take_succ_eq_append_getElem hlt
      (refine run ?_; repeat' (first | with_reducible exact trivial | ((with_reducible apply Fork.mk) <;> intro hb) | with_reducible apply Two.mk))
      refine callV (ACallV.of (same1_ok G hG l[j] _)) ?_
      rintro r H' ⟨rfl, rfl⟩
      (refine run ?_; repeat' (first | with_reducible exact trivial | ((with_reducible apply Fork.mk) <;> intro hb) | with_reducible apply Two.mk))
      · have hq : keepSh l[j] = true := by simpa [keepSh] using hb
        refine hK _ _ (j + 1, m + 1, V.set m l[j]) (by simp only; omega) ⟨by simp only; omega, ?_, by simp only; omega, by simp [i4], ?_, fun q hq' => ?_⟩ ?_
        · simp only; rw [ht, List.filter_append, List.filter_cons_of_pos hq, List.filter_nil, List.length_append, ← i2]; rfl
        · simp only
          rw [ht, List.filter_append, List.filter_cons_of_pos hq, List.filter_nil, ← i5, List.take_succ_eq_append_getElem (by simp; omega), List.take_set_of_le (Nat.le_refl _), List.getElem_set_self]
        · simp only at hq' ⊢
          rw [List.getElem?_set_ne (by omega)]
          exact i6 q (by omega)
        · rw [shL_set]
          exact wkS (n0 := H.length) [] hG hB hC' (hcl.sh (id := id) (g := g) (V.set m l[j])) (by simp)
      · have hq : ¬ keepSh l[j] = true := by simpa [keepSh] using hb
        refine hK _ _ (j + 1, m, V) (by simp only; omega) ⟨by simp only; omega, ?_, by simp only; omega, i4, ?_, i6⟩ ?_
        · simp only; rw [ht, List.filter_append, List.filter_cons_of_neg hq, List.filter_nil, List.append_nil, ← i2]
        · simp only; rw [ht, List.filter_append, List.filter_cons_of_neg hq, List.filter_nil, List.append_nil, i5]
        · exact wkS (n0 := H.length) [] hG hB hC' (hcl.sh (id := id) (g := g) V) (by simp)
    · have : j = l.length := by omega
      subst this
      rw [List.take_length] at i2 i5
      clear hK
      have hm : m ≤ V.length := by omega
      have X := And.intro X (And.intro hgets hget0)
      (refine run ?_; repeat' (first | with_reducible exact trivial | ((with_reducible apply Fork.mk) <;> intro hb) | with_reducible apply Two.mk))
      refine Fin.out hR ⟨V.take m ++ List.replicate (l.length - m) (0, 0), by simp; omega, ?_, ?_, ?_⟩
      · rw [← i2, List.take_append_of_le_length (by simp; omega), List.take_take, Nat.min_self, i5]
      · congr 2
        rw [shL_append, ← shL_take]
        simp [shL]
        omega
      · simp only [resSV, ← i2, Nat.sub_zero]

theorem xg_lI {P : Program} {G : Gl} {T : Tab} {own : List Nat} {env : Env} {H H' : List Blk} {all : List Oper} {dst : Option Nat} {ty : Nat} {op : Op} {pos : String} {after : Array Edge} {v : SV} {kk : SV → List Blk → Prop}
    (h : lvI G T env H op = some (v, H')) (hk : kk v H') : exG P G T own all ⟨dst, op, ty, pos, after, none⟩ env H kk := lvI_ok h hk
theorem delete_ok (G : Gl) (hG : GClosed G) (id g n i : Nat) (V : List Sh) (H : List Blk) (hH : H[id]? = some (.cells g 2 (shL V))) (hn : n ≤ V.length) (hi : i < n) (hl : V.length < 4294967296) :
    ACall Tryd.prog G 36 [.sl id g 0 n, .int .i64 i, .int .i64 (i + 1)] H (fun r H' => ∃ V' : List Sh, V'.length = V.length ∧ V'.take (n - 1) = (V.take n).eraseIdx i ∧ H' = H.set id (.cells g 2 (shL V')) ∧ r = .sl id g 0 (n - 1)) := by
  have hid : id < H.length := (List.getElem?_eq_some_iff.1 hH).1
  refine ACall.of_go TB [] tabOK _ Tryd.func36 rfl (by decide) Tryd.ntmps36 (by simp) rfl (by simp only [initEnv, Nat.reduceAdd]; rfl) fun C R' hR hC hcl hB => ?_; have X := noX; have hC' := congrArg List.length hC
  have q1 : ((i : Int) + 1).toNat = i + 1 := by omega
  have X := And.intro X (And.intro hH (And.intro q1 Nat.sub_zero))
  (refine run ?_; repeat' (first | with_reducible exact trivial | ((with_reducible apply Fork.mk) <;> intro hb) | with_reducible apply Two.mk))
  refine xg_lI (v := .sl id g 0 (n - 1)) (H' := H.set id (.cells g 2 (shL (V.take i ++ ((V.take n).drop (i + 1)) ++ V.drop (n - 1)))) ++ [.dead]) ?_ ?_
  · simp only [lvI, appI]
    simp -implicitDefEqProofs (disch := first | assumption | omega) only [go_sem, X, Int.reduceToNat, Nat.reduceAdd, Nat.reduceSub, Nat.reduceMul, Nat.reduceLT, Nat.reduceLeDiff, Nat.reduceEqDiff, Nat.reduceBEq, Nat.reduceBNe, ↓reduceIte, reduceCtorEq]
    have e1 : i + min (n - (i + 1)) (List.drop (i + 1) (shL V)).length = n - 1 := by rw [List.length_drop, shL_len]; omega
    rw [e1, chk_true trivial, chk_true trivial, shL_append, shL_append, shL_take, shL_drop, shL_drop, shL_take, List.drop_take]
  have hlen : (V.take i ++ ((V.take n).drop (i + 1)) ++ V.drop (n - 1)).length = V.length := by simp; omega
  have hpre : (V.take i ++ ((V.take n).drop (i + 1)) ++ V.drop (n - 1)).take (n - 1) = (V.take n).eraseIdx i := by
    rw [List.take_append_of_le_length (by simp; omega), List.take_of_length_le (by simp; omega), List.eraseIdx_eq_take_drop_succ, List.take_take]
    congr 2; omega
  generalize V.take i ++ ((V.take n).drop (i + 1)) ++ V.drop (n - 1) = W at hlen hpre ⊢
  have hgets : ∀ L : List Blk, (H.set id (.cells g 2 (shL W)) ++ L)[id]? = some (.cells g 2 (shL W)) := fun L => get_oldS hid
  have hget0 : (H.set id (.cells g 2 (shL W)))[id]? = some (.cells g 2 (shL W)) := List.getElem?_set_self hid
  have X := And.intro X (And.intro hgets hget0)
  (refine run ?_; repeat' (first | with_reducible exact trivial | ((with_reducible apply Fork.mk) <;> intro hb) | with_reducible apply Two.mk))
  refine finS hR hC' (hcl.set (by
    simp only [Blk.under, SV.underL_append, ← shL_take, ← shL_drop, shL_under, SV.underL_replicate (show SV.under H.length (.agg [.int .i64 0, .int .i64 0]) = true from rfl), Bool.and_self])) (y := .sl id g 0 (n - 1)) (.same _ (by simpa [resSV, SV.under] using hid)) ⟨W.take (n - 1) ++ (List.replicate (n - (n - 1)) (0, 0) ++ W.drop (n - 1 + (n - (n - 1)))), ?_, ?_, ?_, rfl⟩ (by simp)
  · simp; omega
  · rw [List.take_append_of_le_length (by simp; omega), List.take_take, Nat.min_self, hpre]
  · simp [shL]
end Go.Proofs.YtneklfhahljgnaaDoor
end

section
namespace Go.Proofs.YtneklfhahljgnaaDoor
open Go
set_option linter.unusedSimpArgs false
set_option linter.unusedVariables false
set_option maxRecDepth 10000
set_option maxHeartbeats 4000000

/-! ### moves that do some shifts at once -/
def okS (l : List Sh) (hand : Int) : Bool := l.all (fun s => !decide (s.1 = hand) && !decide (s.2 = hand)) && decide (l.map (·.1)).Nodup
def freeP (left : List Sh) (s : Sh) : Bool := left.all fun x => !decide (x.2 = s.1)
def toHand (hand t : Int) (x : Sh) : Sh := if x.2 = t then (x.1, hand) else x
def stepS (hand : Int) (st : List Sh × List Sh) : List Sh × List Sh := match st.1.findIdx? (freeP st.1) with
  | some i => (st.1.eraseIdx i, st.2 ++ [st.1.getD i (0, 0)])
  | none => (st.1.map (toHand hand (st.1.headD (0, 0)).1), st.2 ++ [(hand, (st.1.headD (0, 0)).1)])
def runS (hand : Int) : Nat → List Sh × List Sh → List Sh
  | 0, st => st.2
  | f + 1, st => if st.1 = [] then st.2 else runS hand f (stepS hand st)
def shS (l : List Sh) (hand : Int) : List Sh := runS hand (2 * l.length + 2) (l.filter keepSh, [])
def muS (left : List Sh) : Nat := 2 * left.length + (if (left.findIdx? (freeP left)).isSome then 0 else 1)
def WFS (left : List Sh) (hand : Int) : Prop := (left.map (·.1)).Nodup ∧ ∀ s ∈ left, s.1 ≠ hand

theorem nodup_le {α : Type} [BEq α] [LawfulBEq α] : ∀ {a b : List α}, a.Nodup → (∀ x ∈ a, x ∈ b) → a.length ≤ b.length
  | [], b, _, _ => Nat.zero_le _
  | x :: r, b, hn, h => by
    have hx := h x (List.mem_cons_self ..)
    rw [List.nodup_cons] at hn
    have := nodup_le (b := b.erase x) hn.2 (fun y hy => (List.mem_erase_of_ne (show y ≠ x from fun e => by subst e; exact hn.1 hy)).2 (h y (List.mem_cons_of_mem _ hy)))
    rw [List.length_erase_of_mem hx] at this
    have hp := List.length_pos_of_mem hx
    simp only [List.length_cons]; omega
/-- where all wait for one another, nobody waits for the hand -/
theorem stuck_hand {left : List Sh} {hand : Int} (hw : WFS left hand) (hs : left.findIdx? (freeP left) = none) : hand ∉ left.map (·.2) := by
  intro hm
  rw [List.findIdx?_eq_none_iff] at hs
  have hsub : ∀ x ∈ left.map (·.1), x ∈ (left.map (·.2)).erase hand := by
    intro x hx
    obtain ⟨s, hs1, rfl⟩ := List.mem_map.1 hx
    have := hs s hs1
    simp only [freeP, List.all_eq_false] at this
    obtain ⟨y, hy, hy2⟩ := this
    refine (List.mem_erase_of_ne (hw.2 s hs1)).2 (List.mem_map.2 ⟨y, hy, by simpa using hy2⟩)
  have := nodup_le hw.1 hsub
  rw [List.length_erase_of_mem hm, List.length_map, List.length_map] at this
  have hp := List.length_pos_of_mem hm
  rw [List.length_map] at hp
  omega
theorem toHand_fst (hand t : Int) (x : Sh) : (toHand hand t x).1 = x.1 := by unfold toHand; split <;> rfl
theorem map_toHand (hand t : Int) (l : List Sh) : (l.map (toHand hand t)).map (·.1) = l.map (·.1) := by
  rw [List.map_map]; exact List.map_congr_left fun x _ => toHand_fst hand t x
theorem WFS.hand {left : List Sh} {hand : Int} (hw : WFS left hand) (t : Int) : WFS (left.map (toHand hand t)) hand := by
  refine ⟨by rw [map_toHand]; exact hw.1, fun s hs => ?_⟩
  obtain ⟨x, hx, rfl⟩ := List.mem_map.1 hs
  rw [toHand_fst]; exact hw.2 x hx
theorem WFS.erase {left : List Sh} {hand : Int} (hw : WFS left hand) (i : Nat) : WFS (left.eraseIdx i) hand :=
  ⟨hw.1.sublist ((List.eraseIdx_sublist left i).map _), fun s hs => hw.2 s (List.mem_of_mem_eraseIdx hs)⟩
theorem mu_hand {left : List Sh} {hand : Int} (hw : WFS left hand) (h0 : left ≠ []) (hs : left.findIdx? (freeP left) = none) : muS (left.map (toHand hand (left.headD (0, 0)).1)) < muS left := by
  cases left with
  | nil => exact absurd rfl h0
  | cons s r =>
    have hfree : freeP ((s :: r).map (toHand hand s.1)) (toHand hand s.1 s) = true := by
      simp only [freeP, List.all_eq_true]
      intro x hx
      obtain ⟨y, hy, rfl⟩ := List.mem_map.1 hx
      rw [toHand_fst]
      unfold toHand
      split
      · simpa using fun e => hw.2 s (List.mem_cons_self ..) e.symm
      · rename_i h; simpa using h
    have hsome : (((s :: r).map (toHand hand s.1)).findIdx? (freeP ((s :: r).map (toHand hand s.1)))).isSome = true := by
      cases h : ((s :: r).map (toHand hand s.1)).findIdx? (freeP ((s :: r).map (toHand hand s.1))) with
      | some i => rfl
      | none =>
        rw [List.findIdx?_eq_none_iff] at h
        have := h (toHand hand s.1 s) (by simp)
        rw [hfree] at this; cases this
    simp only [muS, List.headD_cons, hsome, hs, if_true, List.length_map]
    simp
theorem mu_erase {left : List Sh} {i : Nat} (hs : left.findIdx? (freeP left) = some i) : muS (left.eraseIdx i) < muS left := by
  have hi : i < left.length := by
    obtain ⟨h, _⟩ := List.findIdx?_eq_some_iff_getElem.1 hs; exact h
  have hl : (left.eraseIdx i).length = left.length - 1 := List.length_eraseIdx_of_lt hi
  have h2 : muS left = 2 * left.length := by simp only [muS, hs]; simp
  have h3 : muS (left.eraseIdx i) ≤ 2 * (left.length - 1) + 1 := by simp only [muS, hl]; split <;> omega
  omega

/-- how many wait for each -/
def CW (w : List (Int × Int)) (left : List Sh) : Prop := ∀ x, cntB w x = ((left.map (·.2)).count x : Nat)
theorem CW.free {w : List (Int × Int)} {left : List Sh} (h : CW w left) : (fun s : Sh => decide (cntB w s.1 = 0)) = freeP left := by
  funext s
  rw [h s.1]
  simp only [freeP]
  rw [Bool.eq_iff_iff]
  simp only [decide_eq_true_eq, List.all_eq_true, Bool.not_eq_true', decide_eq_false_iff_not]
  constructor
  · intro h0 x hx e
    have : 0 < (left.map (·.2)).count s.1 := List.count_pos_iff.2 (List.mem_map.2 ⟨x, hx, e⟩)
    omega
  · intro h0
    have : (left.map (·.2)).count s.1 = 0 := List.count_eq_zero.2 fun hm => by
      obtain ⟨x, hx, e⟩ := List.mem_map.1 hm
      exact h0 x hx e
    omega
theorem CW.snoc {w : List (Int × Int)} {left : List Sh} (h : CW w left) (s : Sh) : CW (setB w s.2 (cntB w s.2 + 1)) (left ++ [s]) := by
  intro x
  rw [cnt_set, List.map_append, List.count_append]
  simp only [List.map_cons, List.map_nil, List.count_cons, List.count_nil, Nat.zero_add]
  by_cases e : x = s.2
  · subst e; rw [if_pos rfl, h]; simp
  · have e' : ¬ s.2 = x := fun h => e h.symm
    rw [if_neg e, h]; simp [e']
theorem CW.erase {w : List (Int × Int)} {left : List Sh} (h : CW w left) (i : Nat) (hi : i < left.length) : CW (setB w left[i].2 (cntB w left[i].2 - 1)) (left.eraseIdx i) := by
  intro x
  have hc : (left.map (·.2)).count x = ((left.eraseIdx i).map (·.2)).count x + (if left[i].2 = x then 1 else 0) := by
    have e1 : left = left.take i ++ left[i] :: left.drop (i + 1) := by rw [← List.drop_eq_getElem_cons hi, List.take_append_drop]
    have e2 : left.eraseIdx i = left.take i ++ left.drop (i + 1) := List.eraseIdx_eq_take_drop_succ _ _
    rw [e2]
    conv => lhs; rw [e1]
    simp only [List.map_append, List.map_cons, List.count_append, List.count_cons, beq_iff_eq]
    omega
  rw [cnt_set, h, h]
  by_cases e : x = left[i].2
  · rw [if_pos e]; rw [if_pos e.symm] at hc; subst e; omega
  · rw [if_neg e]; rw [if_neg (fun h => e h.symm)] at hc; omega
theorem count_hand (hand t : Int) (hne : hand ≠ t) : ∀ (left : List Sh) (x : Int), ((left.map (toHand hand t)).map (·.2)).count x = if x = t then 0 else if x = hand then (left.map (·.2)).count hand + (left.map (·.2)).count t else (left.map (·.2)).count x
  | [], x => by simp
  | s :: r, x => by
    have ih := count_hand hand t hne r x
    simp only [List.map_cons, List.count_cons, beq_iff_eq, ih]
    unfold toHand
    by_cases h1 : s.2 = t
    · rw [if_pos h1]
      simp only
      by_cases h2 : x = t
      · subst h2; simp [hne]
      · by_cases h3 : x = hand
        · subst h3
          have h4 : ¬ s.2 = x := fun e => h2 (e.symm.trans h1)
          have h6 : ¬ t = x := fun e => h2 e.symm
          rw [if_pos rfl, if_neg h2, if_pos rfl, if_neg h2, if_pos rfl, if_neg h4, if_pos h1]; omega
        · have h4 : ¬ s.2 = x := fun e => h2 (e.symm.trans h1)
          have h5 : ¬ hand = x := fun e => h3 e.symm
          simp [h2, h3, h4, h5]
    · rw [if_neg h1]
      by_cases h2 : x = t
      · subst h2; simp [h1]
      · by_cases h3 : x = hand
        · subst h3; simp [h1, h2]; omega
        · simp [h2, h3]
theorem CW.hand {w : List (Int × Int)} {left : List Sh} (h : CW w left) {hand t : Int} (hne : hand ≠ t) (h0 : hand ∉ left.map (·.2)) : CW (setB (setB w hand (cntB w t)) t 0) (left.map (toHand hand t)) ∧ CW (setB (setB w t 0) hand (cntB w t)) (left.map (toHand hand t)) := by
  have hz : (left.map (·.2)).count hand = 0 := List.count_eq_zero.2 h0
  refine ⟨fun x => ?_, fun x => ?_⟩ <;> rw [count_hand hand t hne, cnt_set, cnt_set, h, h, hz]
  · by_cases h1 : x = t
    · simp [h1]
    · by_cases h2 : x = hand <;> simp [h1, h2]
      subst h2; simp [h1]
  · by_cases h1 : x = t
    · subst h1
      have : ¬ x = hand := fun e => hne e.symm
      simp [this]
    · by_cases h2 : x = hand <;> simp [h1, h2]
      subst h2; simp [h1]
theorem setB_len : ∀ (l : List (Int × Int)) (s n : Int), (setB l s n).length ≤ l.length + 1
  | [], s, n => by simp [setB]
  | (k, m) :: r, s, n => by
    simp only [setB]
    split
    · simp
    · have := setB_len r s n; simp only [List.length_cons]; omega
end Go.Proofs.YtneklfhahljgnaaDoor
end

section
namespace Go.Proofs.YtneklfhahljgnaaDoor
open Go
set_option linter.unusedSimpArgs false
set_option linter.unusedVariables false
set_option maxRecDepth 10000
set_option maxHeartbeats 4000000

theorem runS_nil (hand : Int) (f : Nat) (out : List Sh) : runS hand f ([], out) = out := by cases f <;> rfl
theorem split_take {V L : List Sh} {n : Nat} (h : V.take n = L) : V = L ++ V.drop n := by rw [← h, List.take_append_drop]

theorem shifts_ok (G : Gl) (hG : GClosed G) (l : List Sh) (hand : Int) (hl : l.length < 1048576) (H : List Blk) :
    ACall Tryd.prog G 15 [.list 2 (shL l), .int .i64 hand] H (fun r H' => H' = H ∧ r = .tuple [.list 6 (mvL (if okS l hand then shS l hand else [])), .int .i64 (if okS l hand then 0 else 1)]) := by
  refine ACall.of_go TB [13] tabOK _ Tryd.func15 rfl (by decide) Tryd.ntmps15 (by simp) rfl (by simp only [initEnv, Nat.reduceAdd]; rfl) fun C R' hR hC hcl hB => ?_; have X := noX; have hC' := congrArg List.length hC
  (refine run ?_; repeat' (first | with_reducible exact trivial | ((with_reducible apply Fork.mk) <;> intro hb) | with_reducible apply Two.mk))
  refine go_loop (fun k : Nat => [(0, .list 2 (shL l)), (1, .int .i64 hand), (6, .map H.length), (19, .list 2 (shL l)), (20, .int .i64 l.length), (21, .int .i64 k)]) (fun k => H ++ [.map (some .i64) (esO ((l.take k).map (·.1)))]) (fun k => l.length - k)
    (fun k => k ≤ l.length ∧ ((l.take k).map (·.1)).Nodup ∧ ∀ s ∈ l.take k, s.1 ≠ hand ∧ s.2 ≠ hand) 0 ⟨Nat.zero_le _, by simp, by simp⟩ ?_ ?_
  · exact wkS (n0 := H.length) [(H.length, 0)] hG hB hC' hcl
  rintro K k ⟨hk, hnd, hha⟩ hK
  rcases Nat.lt_or_ge k l.length with hlt | hge
  · have e1 : l[k]? = some l[k] := List.getElem?_eq_getElem hlt
    have ht := List.take_succ_eq_append_getElem hlt
    have X := And.intro X e1
    (refine run ?_; repeat' (first | with_reducible exact trivial | ((with_reducible apply Fork.mk) <;> intro hb) | with_reducible apply Two.mk))
    · have hok : okS l hand = false := by
        cases hok : okS l hand with
        | false => rfl
        | true =>
          exfalso
          simp only [okS, Bool.and_eq_true, List.all_eq_true, Bool.not_eq_true', decide_eq_false_iff_not, decide_eq_true_eq] at hok
          simp only [Bool.or_eq_true, decide_eq_true_eq] at hb
          have hm := hok.1 l[k] (List.getElem_mem hlt)
          rcases hb with (hb | hb) | hb
          · have hnd2 := hok.2.sublist ((List.take_sublist (k + 1) l).map (·.1))
            rw [ht, List.map_append, List.nodup_append] at hnd2
            exact hnd2.2.2 _ hb _ (by simp) rfl
          · exact hm.1 hb
          · exact hm.2 hb
      rw [hok, if_neg (by simp), if_neg (by simp)] at hR
      refine finS hR hC' hcl (y := .tuple [.list 6 [], .int .i64 1]) (.tuple _ _ (.cons _ _ _ _ (.nil 6) (.cons _ _ _ _ (.same _ rfl) .nil))) ⟨rfl, rfl⟩
    · simp only [Bool.or_eq_false_iff, decide_eq_false_iff_not] at hb
      refine hK _ _ (k + 1) (by omega) ⟨by omega, ?_, ?_⟩ ?_
      · rw [ht, List.map_append, List.nodup_append]
        exact ⟨hnd, by simp, fun a ha b hb' e => hb.1.1 (by simp only [List.map_cons, List.map_nil, List.mem_singleton] at hb'; rw [← hb', ← e]; exact ha)⟩
      · rw [ht]
        intro s hs
        rcases List.mem_append.1 hs with hs | hs
        · exact hha s hs
        · rw [List.mem_singleton.1 hs]; exact ⟨hb.1.2, hb.2⟩
      · rw [ht, List.map_append, List.map_cons, List.map_nil, show putO ((l.take k).map (·.1)) l[k].1 = (l.take k).map (·.1) ++ [l[k].1] from if_neg hb.1.1]
        exact wkS (n0 := H.length) [(H.length, 0)] hG hB hC' hcl
  have : k = l.length := by omega
  subst this
  rw [List.take_length] at hnd hha ⊢
  clear hK
  have hok : okS l hand = true := by
    simp only [okS, Bool.and_eq_true, List.all_eq_true, Bool.not_eq_true', decide_eq_false_iff_not, decide_eq_true_eq]
    exact ⟨hha, hnd⟩
  rw [hok, if_pos rfl, if_pos rfl] at hR
  have hw0 : WFS (l.filter keepSh) hand := ⟨hnd.sublist ((List.filter_sublist).map _), fun s hs => (hha s (List.mem_filter.1 hs).1).1⟩
  have hfl : (l.filter keepSh).length ≤ l.length := List.length_filter_le _ _
  have hrun0 : runS hand (2 * l.length + 2) (l.filter keepSh, []) = shS l hand := rfl
  generalize hleft : l.filter keepSh = left0 at hw0 hfl hrun0
  generalize shS l hand = R0 at hrun0 hR
  (refine run ?_; repeat' (first | with_reducible exact trivial | ((with_reducible apply Fork.mk) <;> intro hb) | with_reducible apply Two.mk))
  refine callS (clone_ok G hG l (by omega) _) ?_
  rintro r H' ⟨rfl, rfl⟩
  simp only [List.append_assoc, List.cons_append, List.nil_append, List.length_append, List.length_cons, List.length_nil, List.length_set, X, Nat.reduceAdd]
  (refine run ?_; repeat' (first | with_reducible exact trivial | ((with_reducible apply Fork.mk) <;> intro hb) | with_reducible apply Two.mk))
  refine callS (deleteFunc_ok G hG (H.length + 1) 0 l _ (by simp) (by omega)) ?_
  rintro r H' ⟨V, hV1, hV2, rfl, rfl⟩
  rw [hleft] at hV2 ⊢
  obtain ⟨rest, hrest⟩ : ∃ rest, V = left0 ++ rest := ⟨_, split_take hV2⟩
  subst hrest
  have hlr : left0.length + rest.length = l.length := by simpa using hV1
  clear hV1 hV2 hleft hha hnd hok
  simp only [set_app, List.set_cons_succ, List.set_cons_zero]
  have hlr2 : (left0 ++ rest).length = l.length := by simpa using hlr
  (refine run ?_; repeat' (first | with_reducible exact trivial | ((with_reducible apply Fork.mk) <;> intro hb) | with_reducible apply Two.mk))
  refine go_loop (fun a : Nat × List (Int × Int) => [(1, .int .i64 hand), (9, .sl H.length 0 0 left0.length), (10, .ptr (H.length + 2) 0 0 0), (49, .sl H.length 0 0 left0.length), (50, .int .i64 left0.length), (51, .int .i64 a.1)])
    (fun a => H ++ [.cells 0 2 (shL (left0 ++ rest)), .map (some .i64) (esB a.2), .cells 0 1 [.map (H.length + 1)]]) (fun a => left0.length - a.1) (fun a => a.1 ≤ left0.length ∧ CW a.2 (left0.take a.1) ∧ ∀ x, cntB a.2 x ≤ a.1) (0, []) ⟨Nat.zero_le _, fun x => by simp [cntB], fun x => by simp [cntB]⟩ ?_ ?_
  · exact wkS (n0 := H.length) [(H.length + 1, 0), (H.length + 2, 0), (H.length + 3, 0)] hG hB hC' hcl
  · rintro K ⟨k, w⟩ ⟨hk, hcw, hle⟩ hK
    dsimp only at hk hcw hle ⊢
    rcases Nat.lt_or_ge k left0.length with hlt | hge
    · have e1 : (left0 ++ rest)[k]? = some left0[k] := by rw [List.getElem?_append_left hlt]; exact List.getElem?_eq_getElem hlt
      have ht := List.take_succ_eq_append_getElem hlt
      have hx := hle left0[k].2
      have hx0 : 0 ≤ cntB w left0[k].2 := by rw [hcw]; omega
      have X := And.intro X e1
      (refine run ?_; repeat' (first | with_reducible exact trivial | ((with_reducible apply Fork.mk) <;> intro hb) | with_reducible apply Two.mk))
      refine hK _ _ (k + 1, setB w left0[k].2 (cntB w left0[k].2 + 1)) (by simp only; omega) ⟨by simp only; omega, by simp only; rw [ht]; exact hcw.snoc _, fun x => ?_⟩ ?_
      · simp only
        rw [cnt_set]
        have := hle x
        split <;> omega
      · exact wkS (n0 := H.length) [(H.length, 0), (H.length + 1, 0), (H.length + 2, 0)] hG hB hC' hcl
    · have : k = left0.length := by omega
      subst this
      rw [List.take_length] at hcw
      clear hK
      (refine run ?_; repeat' (first | with_reducible exact trivial | ((with_reducible apply Fork.mk) <;> intro hb) | with_reducible apply Two.mk))
      refine go_loop (fun a : List Sh × List Sh × List (Int × Int) × List Sh × Nat => [(1, .int .i64 hand), (9, .sl H.length 0 0 a.1.length), (10, .ptr (H.length + 2) 0 0 0), (13, .sl (H.length + 3) 0 0 a.2.2.2.1.length)])
        (fun a => H ++ [.cells 0 2 (shL (a.1 ++ a.2.1)), .map (some .i64) (esB a.2.2.1), .cells 0 1 [.map (H.length + 1)], .cells 0 6 (mvL a.2.2.2.1)]) (fun a => muS a.1)
        (fun a => WFS a.1 hand ∧ CW a.2.2.1 a.1 ∧ muS a.1 ≤ a.2.2.2.2 ∧ runS hand a.2.2.2.2 (a.1, a.2.2.2.1) = R0 ∧ a.1.length + a.2.1.length ≤ l.length ∧ a.2.2.2.1.length + a.2.2.2.2 ≤ 2 * l.length + 2)
        (left0, rest, w, [], 2 * l.length + 2) ⟨hw0, hcw, by simp only [muS]; split <;> omega, hrun0, by simp only; omega, by simp⟩ ?_ ?_
      · simp only [List.length_nil, show mvL [] = [] from rfl]
        exact wkS (n0 := H.length) [(H.length, 0), (H.length + 1, 0), (H.length + 2, 0), (H.length + 3, 0)] hG hB hC' hcl
      clear hw0 hcw hle hrun0 hlr hlr2 hfl hk hge
      rintro K ⟨left, rest, w, out, f⟩ ⟨hw, hcw, hmu, hrun, hlr, hof⟩ hK
      dsimp only at hw hcw hmu hrun hlr hof ⊢
      by_cases h0 : left = []
      · subst h0
        rw [runS_nil] at hrun
        subst hrun
        clear hK
        (refine run ?_; repeat' (first | with_reducible exact trivial | ((with_reducible apply Fork.mk) <;> intro hb) | with_reducible apply Two.mk))
        refine finS hR hC' hcl (y := .tuple [.list 6 (mvL out), .int .i64 0]) (.tuple _ _ (.cons _ _ _ _ (.sf (by exact hbS) (by simp) (by simp) ?_ (mvL_under _ _)) (.cons _ _ _ _ (.same _ rfl) .nil))) ⟨rfl, rfl⟩
        rw [List.drop_zero, List.take_of_length_le (by rw [mvL_len]; exact Nat.le_refl _)]
      have hn0 : 0 < left.length := List.length_pos_iff.2 h0
      obtain ⟨f, rfl⟩ : ∃ f', f = f' + 1 := ⟨f - 1, by simp only [muS] at hmu; omega⟩
      rw [runS, if_neg h0] at hrun
      have hLl : (left ++ rest).length = left.length + rest.length := by simp
      have htk : (left ++ rest).take left.length = left := by simp
      (refine run ?_; repeat' (first | with_reducible exact trivial | ((with_reducible apply Fork.mk) <;> intro hb) | with_reducible apply Two.mk))
      refine callS (indexFunc_ok G hG (.fn (.func 35) [] [.ptr (H.length + 2) 0 0 0]) (fun s => decide (cntB w s.1 = 0)) H.length 0 left.length (left ++ rest) _ (by simp) (by omega) (by omega) (by simp [SV.under, SV.underL]) (fun x _ => ACallV.of (free1_ok G hG x (H.length + 2) (H.length + 1) w _ (by simp) (by simp)))) ?_
      rintro r H' ⟨rfl, rfl⟩
      rw [htk, hcw.free]
      cases hfi : left.findIdx? (freeP left) with
      | none =>
        have e : idxP (freeP left) left = -1 := by rw [idxP, hfi]
        rw [e]
        have hst := stuck_hand hw hfi
        have hmu2 := mu_hand hw h0 hfi
        have hstep : stepS hand (left, out) = (left.map (toHand hand (left.headD (0, 0)).1), out ++ [(hand, (left.headD (0, 0)).1)]) := by simp only [stepS, hfi]
        rw [hstep] at hrun
        have hhead : left[0]? = some (left.headD (0, 0)) := by cases left with
          | nil => exact absurd rfl h0
          | cons a r => rfl
        have hmem : left.headD (0, 0) ∈ left := List.mem_of_getElem? hhead
        have hne : hand ≠ (left.headD (0, 0)).1 := fun e => hw.2 _ hmem e.symm
        have hh2 : (left ++ rest)[0]? = some (left.headD (0, 0)) := by rw [List.getElem?_append_left hn0]; exact hhead
        generalize hs0 : left.headD (0, 0) = s0 at hrun hmu2 hhead hmem hne hh2
        clear hstep
        have X := And.intro X hh2
        (refine run ?_; repeat' (first | with_reducible exact trivial | ((with_reducible apply Fork.mk) <;> intro hb) | with_reducible apply Two.mk))
        refine go_loop (fun k : Nat => [(1, .int .i64 hand), (9, .sl H.length 0 0 left.length), (10, .ptr (H.length + 2) 0 0 0), (13, .sl (H.length + 3) 0 0 (out.length + 1)), (15, .int .i64 s0.1), (80, .int .i64 left.length), (81, .int .i64 k)])
          (fun k => H ++ [.cells 0 2 (shL ((left.take k).map (toHand hand s0.1) ++ left.drop k ++ rest)), .map (some .i64) (esB w), .cells 0 1 [.map (H.length + 1)], .cells 0 6 (mvL (out ++ [(hand, s0.1)]))]) (fun k => left.length - k) (fun k => k ≤ left.length) 0 (Nat.zero_le _) ?_ ?_
        · simp only [List.take_zero, List.map_nil, List.nil_append, List.drop_zero, mvL_snoc]
          exact wkS (n0 := H.length) [(H.length, 0), (H.length + 1, 0), (H.length + 2, 0), (H.length + 3, 0)] hG hB hC' hcl
        · rintro K2 k hk hK2
          rcases Nat.lt_or_ge k left.length with hlt | hge
          · have hd := List.drop_eq_getElem_cons hlt
            have ht := List.take_succ_eq_append_getElem hlt
            have q1 : ((left.take k).map (toHand hand s0.1) ++ left.drop k ++ rest)[k]? = some left[k] := by
              rw [List.append_assoc, List.getElem?_append_right (by simp; omega), List.length_map, List.length_take, Nat.min_eq_left (by omega), Nat.sub_self, hd]; rfl
            have q2 : ((left.take k).map (toHand hand s0.1) ++ left.drop k ++ rest).set k (toHand hand s0.1 left[k]) = (left.take (k + 1)).map (toHand hand s0.1) ++ left.drop (k + 1) ++ rest := by
              rw [List.append_assoc, List.set_append_right _ _ (by simp; omega), List.length_map, List.length_take, Nat.min_eq_left (by omega), Nat.sub_self, hd, ht, List.map_append, List.cons_append, List.set_cons_zero]
              simp only [List.map_cons, List.map_nil, List.append_assoc, List.cons_append, List.nil_append]
            have q3 : ((left.take k).map (toHand hand s0.1) ++ left.drop k ++ rest).set k left[k] = (left.take k).map (toHand hand s0.1) ++ left.drop k ++ rest := by
              apply List.ext_getElem?
              intro j
              rw [List.getElem?_set]
              split
              · rename_i e; subst e; rw [q1]; simp; omega
              · rfl
            generalize hV : (left.take k).map (toHand hand s0.1) ++ left.drop k ++ rest = V at q1 q2 q3 ⊢
            have hVl : V.length = left.length + rest.length := by rw [← hV]; simp; omega
            have X := And.intro X q1
            (refine run ?_; repeat' (first | with_reducible exact trivial | ((with_reducible apply Fork.mk) <;> intro hb) | with_reducible apply Two.mk))
            · have hth : toHand hand s0.1 left[k] = (left[k].1, hand) := if_pos hb
              refine hK2 _ _ (k + 1) (by omega) (by omega) ?_
              rw [← q2, hth, show (shL V).set k (.agg [.int .i64 left[k].1, .int .i64 hand]) = shL (V.set k (left[k].1, hand)) from shL_set V k (left[k].1, hand)]
              exact wkS (n0 := H.length) [(H.length, 0), (H.length + 1, 0), (H.length + 2, 0), (H.length + 3, 0)] hG hB hC' hcl
            · have hth : toHand hand s0.1 left[k] = left[k] := if_neg hb
              refine hK2 _ _ (k + 1) (by omega) (by omega) ?_
              rw [← q2, hth, q3]
              exact wkS (n0 := H.length) [(H.length, 0), (H.length + 1, 0), (H.length + 2, 0), (H.length + 3, 0)] hG hB hC' hcl
          · have : k = left.length := by omega
            subst this
            simp only [List.take_length, List.drop_length, List.append_nil]
            clear hK2
            have hcw2 := hcw.hand hne hst
            (refine run ?_; repeat' (first | with_reducible exact trivial | ((with_reducible apply Fork.mk) <;> intro hb) | with_reducible apply Two.mk))
            refine hK _ _ (left.map (toHand hand s0.1), rest, setB (setB w hand (cntB w s0.1)) s0.1 0, out ++ [(hand, s0.1)], f) hmu2 ⟨hw.hand s0.1, hcw2.1, by simp only; omega, hrun, by simpa using hlr, by simp; omega⟩ ?_
            simp only [List.length_map, List.length_append, List.length_cons, List.length_nil, Nat.zero_add]
            exact wkS (n0 := H.length) [(H.length, 0), (H.length + 1, 0), (H.length + 2, 0), (H.length + 3, 0)] hG hB hC' hcl
      | some i =>
        have e : idxP (freeP left) left = i := by rw [idxP, hfi]
        rw [e]
        have hmu2 := mu_erase hfi
        obtain ⟨hil, _⟩ := List.findIdx?_eq_some_iff_getElem.1 hfi
        have hg : left[i]? = some left[i] := List.getElem?_eq_getElem hil
        have hstep : stepS hand (left, out) = (left.eraseIdx i, out ++ [left[i]]) := by simp only [stepS, hfi, List.getD_eq_getElem?_getD, hg, Option.getD_some]
        rw [hstep] at hrun
        have hh2 : (left ++ rest)[i]? = some left[i] := by rw [List.getElem?_append_left hil]; exact hg
        have hcw2 := hcw.erase i hil
        have hc1 : 0 < cntB w left[i].2 := by
          rw [hcw]
          have : 0 < (left.map (·.2)).count left[i].2 := List.count_pos_iff.2 (List.mem_map.2 ⟨_, List.getElem_mem hil, rfl⟩)
          omega
        have hc2 : cntB w left[i].2 ≤ left.length := by
          rw [hcw]
          have := List.count_le_length (a := left[i].2) (l := left.map (·.2))
          rw [List.length_map] at this; omega
        have X := And.intro X hh2
        (refine run ?_; repeat' (first | with_reducible exact trivial | ((with_reducible apply Fork.mk) <;> intro hb) | with_reducible apply Two.mk))
        refine callS (delete_ok G hG H.length 0 left.length i (left ++ rest) _ (by simp) (by omega) hil (by omega)) ?_
        rintro r H' ⟨V', hV1, hV2, rfl, rfl⟩
        rw [htk] at hV2
        have hel : (left.eraseIdx i).length = left.length - 1 := List.length_eraseIdx_of_lt hil
        obtain ⟨rest2, hrest2⟩ : ∃ rest2, V' = left.eraseIdx i ++ rest2 := ⟨_, split_take hV2⟩
        subst hrest2
        have hlr2 : (left.eraseIdx i).length + rest2.length = left.length + rest.length := by simpa using hV1
        simp only [set_app0, List.set_cons_succ, List.set_cons_zero]
        (refine run ?_; repeat' (first | with_reducible exact trivial | ((with_reducible apply Fork.mk) <;> intro hb) | with_reducible apply Two.mk))
        refine hK _ _ (left.eraseIdx i, rest2, setB w left[i].2 (cntB w left[i].2 - 1), out ++ [left[i]], f) hmu2 ⟨hw.erase i, hcw2, by simp only; omega, hrun, by simp only; omega, by simp; omega⟩ ?_
        simp only [List.length_append, List.length_cons, List.length_nil, Nat.zero_add, hel, mvL_snoc]
        exact wkS (n0 := H.length) [(H.length, 0), (H.length + 1, 0), (H.length + 2, 0), (H.length + 3, 0)] hG hB hC' hcl
end Go.Proofs.YtneklfhahljgnaaDoor
end

section
namespace Go.Proofs.YtneklfhahljgnaaDoor
open Go
set_option linter.unusedSimpArgs false
set_option linter.unusedVariables false
set_option maxRecDepth 10000
set_option maxHeartbeats 4000000

theorem okS_false {l : List Sh} {hand : Int} (h : ∃ s ∈ l, s.1 = hand ∨ s.2 = hand) : okS l hand = false := by
  cases hok : okS l hand with
  | false => rfl
  | true =>
    exfalso
    simp only [okS, Bool.and_eq_true, List.all_eq_true, Bool.not_eq_true', decide_eq_false_iff_not, decide_eq_true_eq] at hok
    obtain ⟨s, hs, h⟩ := h
    have := hok.1 s hs
    rcases h with h | h
    · exact this.1 h
    · exact this.2 h
theorem okS_dup {l : List Sh} {hand : Int} {i k : Nat} (hk : k < i) (hi : i < l.length) (h : l[k].1 = l[i].1) : okS l hand = false := by
  cases hok : okS l hand with
  | false => rfl
  | true =>
    exfalso
    simp only [okS, Bool.and_eq_true, decide_eq_true_eq] at hok
    have hn := hok.2
    have := (List.getElem_inj (h₀ := by simp; omega) (h₁ := by simp; omega) hn (i := k) (j := i)).1 (by simpa using h)
    omega
theorem okS_true {l : List Sh} {hand : Int} (h1 : ∀ s ∈ l, ¬ s.1 = hand ∧ ¬ s.2 = hand) (h2 : ∀ i k (hi : i < l.length) (hk : k < i), ¬ l[k].1 = l[i].1) : okS l hand = true := by
  simp only [okS, Bool.and_eq_true, List.all_eq_true, Bool.not_eq_true', decide_eq_false_iff_not, decide_eq_true_eq]
  refine ⟨h1, ?_⟩
  rw [List.nodup_iff_pairwise_ne, List.pairwise_map, List.pairwise_iff_getElem]
  intro i j hi hj hij
  exact h2 j i hj hij
/-- as the page has it: does none but itself wait? -/
def freeR (left : List Sh) (i : Nat) (s : Sh) : Bool := (List.range left.length).all fun k => decide (k = i) || !decide ((left.getD k (0, 0)).2 = s.1)

theorem rshifts_ok (G : Gl) (hG : GClosed G) (l : List Sh) (hand : Int) (hl : l.length < 1048576) (H : List Blk) :
    ACall Tryd.prog G 16 [.list 2 (shL l), .int .i64 hand] H (fun r H' => H' = H ∧ r = .tuple [.list 6 (mvL (if okS l hand then shS l hand else [])), .int .i64 (if okS l hand then 0 else 1)]) := by
  refine ACall.of_go TB [8, 10, 17] tabOK _ Tryd.func16 rfl (by decide) Tryd.ntmps16 (by simp) rfl (by simp only [initEnv, Nat.reduceAdd]; rfl) fun C R' hR hC hcl hB => ?_; have X := noX; have hC' := congrArg List.length hC
  have hbad : okS l hand = false → ∀ X, Fin C (H ++ X) (resSV [.nil, .int .i64 1]) R' := fun hok X => by
    rw [hok, if_neg (by simp), if_neg (by simp)] at hR
    exact finS hR hC' hcl (y := .tuple [.list 6 [], .int .i64 1]) (.tuple _ _ (.cons _ _ _ _ (.nil 6) (.cons _ _ _ _ (.same _ rfl) .nil))) ⟨rfl, rfl⟩
  have hbad0 : okS l hand = false → Fin C H (resSV [.nil, .int .i64 1]) R' := fun hok => by have := hbad hok []; rwa [List.append_nil] at this
  (refine run ?_; repeat' (first | with_reducible exact trivial | ((with_reducible apply Fork.mk) <;> intro hb) | with_reducible apply Two.mk))
  refine go_loop (fun k : Nat => [(0, .list 2 (shL l)), (1, .int .i64 hand), (6, .int .i64 k)]) (fun k => H) (fun k => l.length - k)
    (fun k => k ≤ l.length ∧ (∀ i k' (hi : i < k) (hl : i < l.length) (hk : k' < i), ¬ l[k'].1 = l[i].1) ∧ ∀ s ∈ l.take k, ¬ s.1 = hand ∧ ¬ s.2 = hand) 0 ⟨Nat.zero_le _, fun i k' hi => by omega, by simp⟩ (Wk.sub (by simp [subEnv, look])) ?_
  rintro K i ⟨hi, hnd, hha⟩ hK
  rcases Nat.lt_or_ge i l.length with hlt | hge
  · have e1 : l[i]? = some l[i] := List.getElem?_eq_getElem hlt
    have ht := List.take_succ_eq_append_getElem hlt
    have X := And.intro X e1
    (refine run ?_; repeat' (first | with_reducible exact trivial | ((with_reducible apply Fork.mk) <;> intro hb) | with_reducible apply Two.mk))
    · refine hbad0 (okS_false ⟨l[i], List.getElem_mem hlt, by simpa using hb⟩)
    · simp only [Bool.or_eq_false_iff, decide_eq_false_iff_not] at hb
      have hb0 := hb
      refine go_loop (fun k : Nat => [(0, .list 2 (shL l)), (1, .int .i64 hand), (6, .int .i64 i), (7, .int .i64 k)]) (fun k => H) (fun k => i - k) (fun k => k ≤ i ∧ ∀ k' (hk : k' < k) (hl : k' < l.length), ¬ l[k'].1 = l[i].1) 0 ⟨Nat.zero_le _, fun k' hk => by omega⟩ (Wk.sub (by simp [subEnv, look])) ?_
      rintro K2 k ⟨hk, hno⟩ hK2
      rcases Nat.lt_or_ge k i with hlt2 | hge2
      · have e2 : l[k]? = some l[k] := List.getElem?_eq_getElem (by omega)
        have X := And.intro X e2
        (refine run ?_; repeat' (first | with_reducible exact trivial | ((with_reducible apply Fork.mk) <;> intro hb) | with_reducible apply Two.mk))
        · exact hbad0 (okS_dup hlt2 hlt hb)
        · refine hK2 _ _ (k + 1) (by omega) ⟨by omega, fun k' hk' hl' => ?_⟩ (Wk.sub (by simp [subEnv, look]))
          rcases Nat.lt_or_ge k' k with h | h
          · exact hno k' h hl'
          · have : k' = k := by omega
            subst this; exact hb
      · have : k = i := by omega
        subst this
        clear hK2
        (refine run ?_; repeat' (first | with_reducible exact trivial | ((with_reducible apply Fork.mk) <;> intro hb) | with_reducible apply Two.mk))
        refine hK _ _ (k + 1) (by omega) ⟨by omega, fun a b ha hal hb' => ?_, ?_⟩ (Wk.sub (by simp [subEnv, look]))
        · rcases Nat.lt_or_ge a k with h | h
          · exact hnd a b h hal hb'
          · have : a = k := by omega
            subst this
            exact hno b hb' (by omega)
        · rw [ht]
          intro s hs
          rcases List.mem_append.1 hs with hs | hs
          · exact hha s hs
          · rw [List.mem_singleton.1 hs]; exact hb0
  have : i = l.length := by omega
  subst this
  rw [List.take_length] at hha
  clear hK
  have hok : okS l hand = true := okS_true hha (fun i k hi hk => hnd i k hi hi hk)
  rw [hok, if_pos rfl, if_pos rfl] at hR
  clear hbad hbad0
  (refine run ?_; repeat' (first | with_reducible exact trivial | ((with_reducible apply Fork.mk) <;> intro hb) | with_reducible apply Two.mk))
  refine go_loop (fun k : Nat => [(0, .list 2 (shL l)), (1, .int .i64 hand), (9, .int .i64 k), (8, .sl H.length 0 0 ((l.take k).filter keepSh).length)]) (fun k => H ++ [.cells 0 2 (shL ((l.take k).filter keepSh))]) (fun k => l.length - k) (fun k => k ≤ l.length) 0 (Nat.zero_le _) ?_ ?_
  · simp only [List.take_zero, List.filter_nil, List.length_nil, show shL [] = [] from rfl]
    exact wkS (n0 := H.length) [(H.length, 0)] hG hB hC' hcl
  rintro K i hi hK
  rcases Nat.lt_or_ge i l.length with hlt | hge2
  · have e1 : l[i]? = some l[i] := List.getElem?_eq_getElem hlt
    have ht := List.take_succ_eq_append_getElem hlt
    have hfl : ((l.take i).filter keepSh).length ≤ i := Nat.le_trans (List.length_filter_le _ _) (by simp; omega)
    have hnext : (l.take (i + 1)).filter keepSh = (l.take i).filter keepSh ++ [l[i]].filter keepSh := by rw [ht, List.filter_append]
    generalize hF : (l.take i).filter keepSh = F at hfl hnext ⊢
    have X := And.intro X e1
    (refine run ?_; repeat' (first | with_reducible exact trivial | ((with_reducible apply Fork.mk) <;> intro hb) | with_reducible apply Two.mk))
    · refine hK _ _ (i + 1) (by omega) (by omega) ?_
      rw [hnext, List.filter_cons_of_pos (by simpa [keepSh] using hb), List.filter_nil, shL_append, List.length_append, List.length_singleton]
      exact wkS (n0 := H.length) [(H.length, 0)] hG hB hC' hcl
    · refine hK _ _ (i + 1) (by omega) (by omega) ?_
      rw [hnext, List.filter_cons_of_neg (by simpa [keepSh] using hb), List.filter_nil, List.append_nil]
      exact wkS (n0 := H.length) [(H.length, 0)] hG hB hC' hcl
  have : i = l.length := by omega
  subst this
  rw [List.take_length]
  clear hK
  have hw0 : WFS (l.filter keepSh) hand := by
    have hok2 := hok
    simp only [okS, Bool.and_eq_true, decide_eq_true_eq] at hok2
    exact ⟨hok2.2.sublist ((List.filter_sublist).map _), fun s hs => (hha s (List.mem_filter.1 hs).1).1⟩
  have hne0 : ∀ s ∈ l.filter keepSh, ¬ s.1 = s.2 := fun s hs => by have := (List.mem_filter.1 hs).2; simpa [keepSh] using this
  have hfl : (l.filter keepSh).length ≤ l.length := List.length_filter_le _ _
  have hrun0 : runS hand (2 * l.length + 2) (l.filter keepSh, []) = shS l hand := rfl
  generalize hleft : l.filter keepSh = left0 at hw0 hfl hrun0 hne0
  generalize shS l hand = R0 at hrun0 hR
  (refine run ?_; repeat' (first | with_reducible exact trivial | ((with_reducible apply Fork.mk) <;> intro hb) | with_reducible apply Two.mk))
  refine go_loop (fun a : List Sh × List Sh × Nat => [(1, .int .i64 hand), (8, .sl H.length 0 0 a.1.length), (10, .sl (H.length + 1) 0 0 a.2.1.length)])
    (fun a => H ++ [.cells 0 2 (shL a.1), .cells 0 6 (mvL a.2.1)]) (fun a => muS a.1)
    (fun a => WFS a.1 hand ∧ (∀ s ∈ a.1, ¬ s.1 = s.2) ∧ muS a.1 ≤ a.2.2 ∧ runS hand a.2.2 (a.1, a.2.1) = R0 ∧ a.1.length ≤ l.length ∧ a.2.1.length + a.2.2 ≤ 2 * l.length + 2)
    (left0, [], 2 * l.length + 2) ⟨hw0, hne0, by simp only [muS]; split <;> omega, hrun0, hfl, by simp⟩ ?_ ?_
  · simp only [List.length_nil, show mvL [] = [] from rfl]
    exact wkS (n0 := H.length) [(H.length, 0), (H.length + 1, 0)] hG hB hC' hcl
  clear hw0 hne0 hrun0 hfl hleft
  rintro K ⟨left, out, f⟩ ⟨hw, hne, hmu, hrun, hlr, hof⟩ hK
  dsimp only at hw hne hmu hrun hlr hof ⊢
  by_cases h0 : left = []
  · subst h0
    rw [runS_nil] at hrun
    subst hrun
    clear hK
    (refine run ?_; repeat' (first | with_reducible exact trivial | ((with_reducible apply Fork.mk) <;> intro hb) | with_reducible apply Two.mk))
    refine finS hR hC' hcl (y := .tuple [.list 6 (mvL out), .int .i64 0]) (.tuple _ _ (.cons _ _ _ _ (.sf (by exact hbS) (by simp) (by simp) ?_ (mvL_under _ _)) (.cons _ _ _ _ (.same _ rfl) .nil))) ⟨rfl, rfl⟩
    rw [List.drop_zero, List.take_of_length_le (by rw [mvL_len]; exact Nat.le_refl _)]
  have hn0 : 0 < left.length := List.length_pos_iff.2 h0
  obtain ⟨f, rfl⟩ : ∃ f', f = f' + 1 := ⟨f - 1, by simp only [muS] at hmu; omega⟩
  rw [runS, if_neg h0] at hrun
  (refine run ?_; repeat' (first | with_reducible exact trivial | ((with_reducible apply Fork.mk) <;> intro hb) | with_reducible apply Two.mk))
  refine go_loop (fun a : Nat × Int => [(1, .int .i64 hand), (8, .sl H.length 0 0 left.length), (10, .sl (H.length + 1) 0 0 out.length), (11, .int .i64 a.2), (12, .int .i64 a.1)])
    (fun a => H ++ [.cells 0 2 (shL left), .cells 0 6 (mvL out)]) (fun a => left.length - a.1)
    (fun a => a.1 ≤ left.length ∧ ((a.2 = -1 ∧ ∀ j (hj : j < left.length), j < a.1 → freeP left left[j] = false) ∨ (∃ j : Nat, a.2 = j ∧ left.findIdx? (freeP left) = some j))) (0, -1) ⟨Nat.zero_le _, .inl ⟨rfl, fun j _ hj => by simp at hj⟩⟩ ?_ ?_
  · exact wkS (n0 := H.length) [(H.length, 0), (H.length + 1, 0)] hG hB hC' hcl
  rintro K2 ⟨i, at_⟩ ⟨hi, hat⟩ hK2
  dsimp only at hi hat ⊢
  by_cases hgo : i < left.length ∧ at_ < 0
  · obtain ⟨hlt, hneg⟩ := hgo
    have hat := hat.resolve_right (by rintro ⟨j, rfl, _⟩; omega)
    obtain ⟨rfl, hno⟩ := hat
    have e1 : left[i]? = some left[i] := List.getElem?_eq_getElem hlt
    have hgo1 : (decide ((i : Int) < left.length) && decide ((-1 : Int) < 0)) = true := by simp; omega
    have X := And.intro X (And.intro e1 hgo1)
    (refine run ?_; repeat' (first | with_reducible exact trivial | ((with_reducible apply Fork.mk) <;> intro hb) | with_reducible apply Two.mk))
    refine go_loop (fun a : Nat × Bool => [(1, .int .i64 hand), (8, .sl H.length 0 0 left.length), (10, .sl (H.length + 1) 0 0 out.length), (11, .int .i64 (-1)), (12, .int .i64 i), (13, .bool a.2), (14, .int .i64 a.1)])
      (fun a => H ++ [.cells 0 2 (shL left), .cells 0 6 (mvL out)]) (fun a => left.length - a.1)
      (fun a => a.1 ≤ left.length ∧ a.2 = ((left.take a.1).all fun x => !decide (x.2 = left[i].1))) (0, true) ⟨Nat.zero_le _, by simp⟩ ?_ ?_
    · exact wkS (n0 := H.length) [(H.length, 0), (H.length + 1, 0)] hG hB hC' hcl
    · rintro K3 ⟨k, b⟩ ⟨hk, hbb⟩ hK3
      dsimp only at hk hbb ⊢
      rcases Nat.lt_or_ge k left.length with hlt2 | hge2
      · have e2 : left[k]? = some left[k] := List.getElem?_eq_getElem hlt2
        have ht := List.take_succ_eq_append_getElem hlt2
        have hown : ¬ left[i].2 = left[i].1 := fun e => hne _ (List.getElem_mem hlt) e.symm
        have X := And.intro X e2
        cases b
        · (refine run ?_; repeat' (first | with_reducible exact trivial | ((with_reducible apply Fork.mk) <;> intro hb) | with_reducible apply Two.mk))
          refine hK3 _ _ (k + 1, false) (by simp only; omega) ⟨by simp only; omega, ?_⟩ ?_
          · simp only
            rw [ht, List.all_append, ← hbb]; rfl
          · exact wkS (n0 := H.length) [(H.length, 0), (H.length + 1, 0)] hG hB hC' hcl
        · (refine run ?_; repeat' (first | with_reducible exact trivial | ((with_reducible apply Fork.mk) <;> intro hb) | with_reducible apply Two.mk))
          refine hK3 _ _ (k + 1, decide ((k : Int) = i) || decide (¬ left[k].2 = left[i].1)) (by simp only; omega) ⟨by simp only; omega, ?_⟩ ?_
          · simp only
            rw [ht, List.all_append, ← hbb]
            simp only [List.all_cons, List.all_nil, Bool.and_true, Bool.true_and, decide_not]
            by_cases hki : (k : Int) = i
            · have : k = i := by omega
              subst this
              simp [hown]
            · simp [hki]
          · exact wkS (n0 := H.length) [(H.length, 0), (H.length + 1, 0)] hG hB hC' hcl
      · have : k = left.length := by omega
        subst this
        rw [List.take_length] at hbb
        clear hK3
        (refine run ?_; repeat' (first | with_reducible exact trivial | ((with_reducible apply Fork.mk) <;> intro hb) | with_reducible apply Two.mk))
        · refine hK2 _ _ (i + 1, (i : Int)) (by simp only; omega) ⟨by simp only; omega, .inr ⟨i, rfl, ?_⟩⟩ ?_
          · rw [List.findIdx?_eq_some_iff_getElem]
            refine ⟨hlt, ?_, fun j hj => by simp [hno j (by omega) hj]⟩
            rw [freeP, ← hbb, hb]
          · exact wkS (n0 := H.length) [(H.length, 0), (H.length + 1, 0)] hG hB hC' hcl
        · refine hK2 _ _ (i + 1, -1) (by simp only; omega) ⟨by simp only; omega, .inl ⟨rfl, fun j hj hj2 => ?_⟩⟩ ?_
          · simp only at hj2
            rcases Nat.lt_or_ge j i with h | h
            · exact hno j hj h
            · have : j = i := by omega
              subst this
              rw [freeP, ← hbb]; assumption
          · exact wkS (n0 := H.length) [(H.length, 0), (H.length + 1, 0)] hG hB hC' hcl
  clear hK2
  have hex : (at_ = -1 ∧ left.findIdx? (freeP left) = none) ∨ ∃ j : Nat, at_ = j ∧ left.findIdx? (freeP left) = some j := by
    rcases hat with ⟨h1, h2⟩ | h
    · refine .inl ⟨h1, ?_⟩
      rw [List.findIdx?_eq_none_iff]
      intro x hx
      obtain ⟨j, hj, rfl⟩ := List.getElem_of_mem hx
      refine h2 j hj ?_
      by_cases hji : j < i
      · exact hji
      · exact absurd ⟨by omega, by omega⟩ hgo
    · exact .inr h
  have hgo2 : (decide ((i : Int) < left.length) && decide (at_ < 0)) = false := by
    rw [Bool.and_eq_false_iff, decide_eq_false_iff_not, decide_eq_false_iff_not]
    omega
  clear hgo hat
  rcases hex with ⟨rfl, hfi⟩ | ⟨j, rfl, hfi⟩
  · have hmu2 := mu_hand hw h0 hfi
    have hstep : stepS hand (left, out) = (left.map (toHand hand (left.headD (0, 0)).1), out ++ [(hand, (left.headD (0, 0)).1)]) := by simp only [stepS, hfi]
    rw [hstep] at hrun
    have hhead : left[0]? = some (left.headD (0, 0)) := by cases left with
      | nil => exact absurd rfl h0
      | cons a r => rfl
    have hmem : left.headD (0, 0) ∈ left := List.mem_of_getElem? hhead
    generalize hs0 : left.headD (0, 0) = s0 at hrun hmu2 hhead hmem
    clear hstep
    have hlt01 : ((-1 : Int) < 0) = True := by simp
    have X := And.intro X (And.intro hgo2 hhead)
    (refine run ?_; repeat' (first | with_reducible exact trivial | ((with_reducible apply Fork.mk) <;> intro hb) | with_reducible apply Two.mk))
    refine go_loop (fun k : Nat => [(1, .int .i64 hand), (8, .sl H.length 0 0 left.length), (10, .sl (H.length + 1) 0 0 (out.length + 1)), (15, .int .i64 s0.1), (16, .int .i64 k)])
      (fun k => H ++ [.cells 0 2 (shL ((left.take k).map (toHand hand s0.1) ++ left.drop k)), .cells 0 6 (mvL (out ++ [(hand, s0.1)]))]) (fun k => left.length - k) (fun k => k ≤ left.length) 0 (Nat.zero_le _) ?_ ?_
    · simp only [List.take_zero, List.map_nil, List.nil_append, List.drop_zero, mvL_snoc]
      exact wkS (n0 := H.length) [(H.length, 0), (H.length + 1, 0)] hG hB hC' hcl
    · rintro K2 k hk hK2
      rcases Nat.lt_or_ge k left.length with hlt | hge
      · have hd := List.drop_eq_getElem_cons hlt
        have ht := List.take_succ_eq_append_getElem hlt
        have q1 : ((left.take k).map (toHand hand s0.1) ++ left.drop k)[k]? = some left[k] := by
          rw [List.getElem?_append_right (by simp; omega), List.length_map, List.length_take, Nat.min_eq_left (by omega), Nat.sub_self, hd]; rfl
        have q2 : ((left.take k).map (toHand hand s0.1) ++ left.drop k).set k (toHand hand s0.1 left[k]) = (left.take (k + 1)).map (toHand hand s0.1) ++ left.drop (k + 1) := by
          rw [List.set_append_right _ _ (by simp; omega), List.length_map, List.length_take, Nat.min_eq_left (by omega), Nat.sub_self, hd, ht, List.map_append, List.set_cons_zero]
          simp only [List.map_cons, List.map_nil, List.append_assoc, List.cons_append, List.nil_append]
        have q3 : ((left.take k).map (toHand hand s0.1) ++ left.drop k).set k left[k] = (left.take k).map (toHand hand s0.1) ++ left.drop k := by
          apply List.ext_getElem?
          intro j
          rw [List.getElem?_set]
          split
          · rename_i e; subst e; rw [q1]; simp; omega
          · rfl
        generalize hV : (left.take k).map (toHand hand s0.1) ++ left.drop k = V at q1 q2 q3 ⊢
        have hVl : V.length = left.length := by rw [← hV]; simp; omega
        have X := And.intro X q1
        (refine run ?_; repeat' (first | with_reducible exact trivial | ((with_reducible apply Fork.mk) <;> intro hb) | with_reducible apply Two.mk))
        · have hth : toHand hand s0.1 left[k] = (left[k].1, hand) := if_pos hb
          refine hK2 _ _ (k + 1) (by omega) (by omega) ?_
          rw [← q2, hth, show (shL V).set k (.agg [.int .i64 left[k].1, .int .i64 hand]) = shL (V.set k (left[k].1, hand)) from shL_set V k (left[k].1, hand)]
          exact wkS (n0 := H.length) [(H.length, 0), (H.length + 1, 0)] hG hB hC' hcl
        · have hth : toHand hand s0.1 left[k] = left[k] := if_neg hb
          refine hK2 _ _ (k + 1) (by omega) (by omega) ?_
          rw [← q2, hth, q3]
          exact wkS (n0 := H.length) [(H.length, 0), (H.length + 1, 0)] hG hB hC' hcl
      · have : k = left.length := by omega
        subst this
        simp only [List.take_length, List.drop_length, List.append_nil]
        clear hK2
        have hne2 : ∀ s ∈ left.map (toHand hand s0.1), ¬ s.1 = s.2 := by
          intro s hs
          obtain ⟨x, hx, rfl⟩ := List.mem_map.1 hs
          unfold toHand
          split
          · exact hw.2 x hx
          · exact hne x hx
        (refine run ?_; repeat' (first | with_reducible exact trivial | ((with_reducible apply Fork.mk) <;> intro hb) | with_reducible apply Two.mk))
        refine hK _ _ (left.map (toHand hand s0.1), out ++ [(hand, s0.1)], f) hmu2 ⟨hw.hand s0.1, hne2, by simp only; omega, hrun, by simpa using hlr, by simp; omega⟩ ?_
        simp only [List.length_map, List.length_append, List.length_cons, List.length_nil, Nat.zero_add]
        exact wkS (n0 := H.length) [(H.length, 0), (H.length + 1, 0)] hG hB hC' hcl
  · have hmu2 := mu_erase hfi
    obtain ⟨hil, _⟩ := List.findIdx?_eq_some_iff_getElem.1 hfi
    have hg : left[j]? = some left[j] := List.getElem?_eq_getElem hil
    have hstep : stepS hand (left, out) = (left.eraseIdx j, out ++ [left[j]]) := by simp only [stepS, hfi, List.getD_eq_getElem?_getD, hg, Option.getD_some]
    rw [hstep] at hrun
    have hnj : ¬ ((j : Int) < 0) := by omega
    have X := And.intro X (And.intro hgo2 hg)
    (refine run ?_; repeat' (first | with_reducible exact trivial | ((with_reducible apply Fork.mk) <;> intro hb) | with_reducible apply Two.mk))
    have z1 : ((j : Int) + 1).toNat = j + 1 := by omega
    have z3 : (shL left).take j ++ ((shL left).drop (j + 1)).take (left.length - (j + 1)) = shL (left.eraseIdx j) := by
      rw [← shL_take, ← shL_drop, ← shL_take, List.take_of_length_le (l := left.drop (j + 1)) (by rw [List.length_drop]; exact Nat.le_refl _), ← shL_append, List.eraseIdx_eq_take_drop_succ]
    have hel : (left.eraseIdx j).length = left.length - 1 := List.length_eraseIdx_of_lt hil
    have z4 : min j left.length + min (left.length - (j + 1)) ((shL left).drop (j + 1)).length = (left.eraseIdx j).length := by
      rw [List.length_drop, shL_len, hel]; omega
    simp only [z1, Nat.sub_zero, z3, z4]
    have hne2 : ∀ s ∈ left.eraseIdx j, ¬ s.1 = s.2 := fun s hs => hne s (List.mem_of_mem_eraseIdx hs)
    refine hK _ _ (left.eraseIdx j, out ++ [left[j]], f) hmu2 ⟨hw.erase j, hne2, by simp only; omega, hrun, by simp only; omega, by simp; omega⟩ ?_
    simp only [List.length_append, List.length_cons, List.length_nil, Nat.zero_add, mvL_snoc]
    exact wkS (n0 := H.length) [(H.length + 2, 0), (H.length + 1, 0)] hG hB hC' hcl
end Go.Proofs.YtneklfhahljgnaaDoor
end
