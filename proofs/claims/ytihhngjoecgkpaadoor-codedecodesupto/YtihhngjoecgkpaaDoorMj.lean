/- A part of the proof: E1, G1, G2, G3, G4, G5, G6, H1, H2, H3. -/
import Derived.Test.YtihhngjoecgkpaaDoorMi

section
namespace Go.Proofs.YtihhngjoecgkpaaDoor
open Go
set_option linter.unusedSimpArgs false
set_option linter.unusedVariables false
set_option maxRecDepth 10000
set_option maxHeartbeats 4000000

def lstI (op : Int) : Int := if bitOf 16 op then 1 else if bitOf 32 op then 2 else 0
theorem has_ok (G : Gl) (hG : GClosed G) (op : Int) (H : List Blk) : ACall Tryd.prog G 84 [.int .i64 op] H (fun r H' => H' = H ∧ r = .tuple [.bool (bitOf 1 op), .bool (bitOf 2 op), .bool (bitOf 4 op), .bool (bitOf 8 op), .int .i64 (lstI op)]) := by
  refine ACall.of_go TB [] tabOK _ Tryd.func84 rfl (by decide) Tryd.ntmps84 (by simp) rfl (by simp only [initEnv, Nat.reduceAdd]; rfl) fun C R' hR hC hcl hB => ?_; have X := noX; have hC' := congrArg List.length hC
  have hlast : (op ≠ 26 → op < 1 ∨ 27 ≤ op) → Fin C H (resSV [SV.bool false, SV.bool false, SV.bool false, SV.bool false, SV.int .i64 0]) R' := fun h => by
    refine Fin.out hR ⟨rfl, ?_⟩
    by_cases e : op = 26
    · subst e; rfl
    · have : ofS op = 0 := by unfold ofS; rw [if_pos (h e)]
      simp only [lstI, bitOf, this]; rfl
  (refine run ?_; repeat' (first | with_reducible exact trivial | ((with_reducible apply Fork.mk) <;> intro hb) | with_reducible apply Two.mk))
  all_goals first
    | (subst hb; exact Fin.out hR ⟨rfl, rfl⟩)
    | (refine hlast fun e => ?_; omega)
end Go.Proofs.YtihhngjoecgkpaaDoor
end

section
namespace Go.Proofs.YtihhngjoecgkpaaDoor
open Go
set_option linter.unusedSimpArgs false
set_option linter.unusedVariables false
set_option maxRecDepth 10000
set_option maxHeartbeats 4000000

/-! ### the reference: may an instruction be? -/
def g1B (op a b c n : Int) (b1 b2 b4 b8 : Bool) (li : Int) (l : List Int) : Bool :=
  decide (op < 1) || decide (26 < op) || (!b1 && decide (¬a = 0)) || (!b2 && decide (¬b = 0)) || (!b4 && decide (¬c = 0)) || (!b8 && decide (¬n = 0)) || (decide (li = 0) && decide ((0 : Int) < l.length))
def g2B (T a b c : Int) (b1 b2 b4 : Bool) : Bool :=
  b1 && (decide (a < 0) || decide (T ≤ a)) || b2 && (decide (b < 0) || decide (T ≤ b)) || b4 && (decide (c < 0) || decide (T ≤ c))
def g3B (op frame : Int) (len : Nat) (li x : Int) : Bool :=
  decide (li = 1) && (decide (x < 0) || decide (frame ≤ x)) || decide (li = 2) && decide ((len : Int) ≤ x) || decide (li = 2) && decide (x < 0) && (decide (x < -1) || decide (¬op = 21))
theorem ofS_zero (op : Int) : ofS op = 0 ↔ (op < 1 ∨ 26 < op) := by
  constructor
  · intro h
    rcases Int.lt_or_le op 1 with h1 | h1
    · exact .inl h1
    rcases Int.lt_or_le 26 op with h2 | h2
    · exact .inr h2
    exfalso
    have hk : ∀ k : _root_.Fin 26, ofS ((k.val : Int) + 1) ≠ 0 := by decide +kernel
    exact hk ⟨(op - 1).toNat, by omega⟩ (by rw [show (((op - 1).toNat : Nat) : Int) + 1 = op by omega]; exact h)
  · intro h
    unfold ofS
    rw [if_pos (by omega)]
theorem lst_bits (op : Int) : (lstI op = 1 ↔ bitOf 16 op = true) ∧ (lstI op = 2 ↔ (bitOf 16 op = false ∧ bitOf 32 op = true)) ∧ (lstI op = 0 ↔ (bitOf 16 op = false ∧ bitOf 32 op = false)) := by
  unfold lstI
  cases bitOf 16 op <;> cases bitOf 32 op <;> decide
theorem slotB_iff (b : Bool) (T a : Int) : slotB b T a = true ↔ ((b = true → 0 ≤ a ∧ a < T) ∧ (b = false → a = 0)) := by
  unfold slotB
  cases b
  · simp
  · simp [inR]; omega
/-- what the reference looks at, part by part, is what the program looks at -/
theorem insR (m : Img) (slots frame : Int) (len : Nat) (i : Ins) :
    (g1B i.op i.a i.b i.c i.n (bitOf 1 i.op) (bitOf 2 i.op) (bitOf 4 i.op) (bitOf 8 i.op) (lstI i.op) i.l = true → insOK m slots frame len i = false) ∧
    (g2B (insTop i.op slots frame) i.a i.b i.c (bitOf 1 i.op) (bitOf 2 i.op) (bitOf 4 i.op) = true → insOK m slots frame len i = false) ∧
    (∀ x ∈ i.l, g3B i.op frame len (lstI i.op) x = true → insOK m slots frame len i = false) ∧
    (g1B i.op i.a i.b i.c i.n (bitOf 1 i.op) (bitOf 2 i.op) (bitOf 4 i.op) (bitOf 8 i.op) (lstI i.op) i.l = false → g2B (insTop i.op slots frame) i.a i.b i.c (bitOf 1 i.op) (bitOf 2 i.op) (bitOf 4 i.op) = false →
      (∀ x ∈ i.l, g3B i.op frame len (lstI i.op) x = false) → insOK m slots frame len i = finOK m len i) := by
  obtain ⟨k1, k2, k3⟩ := lst_bits i.op
  have h0 := ofS_zero i.op
  have hs1 := slotB_iff (bitOf 1 i.op) (insTop i.op slots frame) i.a
  have hs2 := slotB_iff (bitOf 2 i.op) (insTop i.op slots frame) i.b
  have hs4 := slotB_iff (bitOf 4 i.op) (insTop i.op slots frame) i.c
  have hl1 : lstI i.op = 1 → (lstOK i.op frame len i.l = true ↔ ∀ x ∈ i.l, 0 ≤ x ∧ x < frame) := fun h => by
    simp only [lstOK, k1.1 h, if_true, Bool.not_eq_true', List.any_eq_false, Bool.not_eq_true, Bool.not_eq_false', inR_iff]
    constructor
    · intro h x hx; have := inR_iff.1 (by simpa using h x hx); omega
    · intro h x hx; have := h x hx; simp [inR]; omega
  have hl2 : lstI i.op = 2 → (lstOK i.op frame len i.l = true ↔ ∀ x ∈ i.l, (0 ≤ x ∧ x < len) ∨ (i.op = 21 ∧ x = -1)) := fun h => by
    simp only [lstOK, (k2.1 h).1, (k2.1 h).2, if_true, Bool.false_eq_true, if_false, Bool.not_eq_true', List.any_eq_false]
    constructor
    · intro h x hx
      have h1 := h x hx
      simp only [badP, inR, Bool.and_eq_true, Bool.not_eq_true', decide_eq_true_eq, Bool.and_eq_false_iff, decide_eq_false_iff_not] at h1
      omega
    · intro h x hx
      have h1 := h x hx
      simp only [badP, inR, Bool.and_eq_true, Bool.not_eq_true', decide_eq_true_eq, Bool.and_eq_false_iff, decide_eq_false_iff_not]
      omega
  have hl0 : lstI i.op = 0 → (lstOK i.op frame len i.l = true ↔ i.l.length = 0) := fun h => by
    simp only [lstOK, (k3.1 h).1, (k3.1 h).2, Bool.false_eq_true, if_false, Bool.not_eq_true', decide_eq_false_iff_not]
    omega
  have hli : lstI i.op = 0 ∨ lstI i.op = 1 ∨ lstI i.op = 2 := by unfold lstI; (repeat' split) <;> simp
  have hok : insOK m slots frame len i = true ↔ (¬ ofS i.op = 0 ∧ slotB (bitOf 1 i.op) (insTop i.op slots frame) i.a = true ∧ slotB (bitOf 2 i.op) (insTop i.op slots frame) i.b = true ∧ slotB (bitOf 4 i.op) (insTop i.op slots frame) i.c = true ∧ (bitOf 8 i.op = true ∨ i.n = 0) ∧ lstOK i.op frame len i.l = true ∧ finOK m len i = true) := by
    simp only [insOK, Bool.and_eq_true, Bool.or_eq_true, Bool.not_eq_true', decide_eq_true_eq, decide_eq_false_iff_not, and_assoc]
  refine ⟨fun h => ?_, fun h => ?_, fun x hx h => ?_, fun h1 h2 h3 => ?_⟩
  · rw [← Bool.not_eq_true, hok]
    rintro ⟨c0, c1, c2, c4, c8, cl, _⟩
    rw [hs1] at c1; rw [hs2] at c2; rw [hs4] at c4
    simp only [g1B, Bool.or_eq_true, Bool.and_eq_true, decide_eq_true_eq, Bool.not_eq_true'] at h
    rcases h with (((((h | h) | h) | h) | h) | h) | h
    · exact c0 (h0.2 (.inl h))
    · exact c0 (h0.2 (.inr h))
    · exact h.2 (c1.2 h.1)
    · exact h.2 (c2.2 h.1)
    · exact h.2 (c4.2 h.1)
    · rcases c8 with c8 | c8
      · rw [c8] at h; cases h.1
      · exact h.2 c8
    · have := (hl0 h.1).1 cl; omega
  · rw [← Bool.not_eq_true, hok]
    rintro ⟨c0, c1, c2, c4, c8, cl, _⟩
    rw [hs1] at c1; rw [hs2] at c2; rw [hs4] at c4
    simp only [g2B, Bool.or_eq_true, Bool.and_eq_true, decide_eq_true_eq] at h
    rcases h with (h | h) | h
    · have := c1.1 h.1; omega
    · have := c2.1 h.1; omega
    · have := c4.1 h.1; omega
  · rw [← Bool.not_eq_true, hok]
    rintro ⟨c0, c1, c2, c4, c8, cl, _⟩
    simp only [g3B, Bool.or_eq_true, Bool.and_eq_true, decide_eq_true_eq] at h
    rcases h with (h | h) | h
    · have := (hl1 h.1).1 cl x hx; omega
    · have := (hl2 h.1).1 cl x hx; omega
    · have := (hl2 h.1.1).1 cl x hx; omega
  · simp only [g1B, Bool.or_eq_false_iff, Bool.and_eq_false_iff, decide_eq_false_iff_not, Bool.not_eq_false', Decidable.not_not] at h1
    simp only [g2B, Bool.or_eq_false_iff, Bool.and_eq_false_iff, decide_eq_false_iff_not] at h2
    obtain ⟨⟨⟨⟨⟨⟨e1, e2⟩, e3⟩, e4⟩, e5⟩, e6⟩, e7⟩ := h1
    obtain ⟨⟨f1, f2⟩, f4⟩ := h2
    have a1 : slotB (bitOf 1 i.op) (insTop i.op slots frame) i.a = true := hs1.2 ⟨fun h => by rw [h] at f1; simp at f1; omega, fun h => by rw [h] at e3; simpa using e3⟩
    have a2 : slotB (bitOf 2 i.op) (insTop i.op slots frame) i.b = true := hs2.2 ⟨fun h => by rw [h] at f2; simp at f2; omega, fun h => by rw [h] at e4; simpa using e4⟩
    have a4 : slotB (bitOf 4 i.op) (insTop i.op slots frame) i.c = true := hs4.2 ⟨fun h => by rw [h] at f4; simp at f4; omega, fun h => by rw [h] at e5; simpa using e5⟩
    have a0 : ¬ ofS i.op = 0 := fun h => by have := h0.1 h; omega
    have al : lstOK i.op frame len i.l = true := by
      rcases hli with h | h | h
      · refine (hl0 h).2 ?_
        rcases e7 with e7 | e7
        · exact absurd h e7
        · omega
      · refine (hl1 h).2 fun x hx => ?_
        have := h3 x hx
        simp only [g3B, h, Bool.or_eq_false_iff, Bool.and_eq_false_iff, decide_eq_false_iff_not, not_true_eq_false, false_or] at this
        omega
      · refine (hl2 h).2 fun x hx => ?_
        have := h3 x hx
        simp only [g3B, h, Bool.or_eq_false_iff, Bool.and_eq_false_iff, decide_eq_false_iff_not, not_true_eq_false, false_or] at this
        omega
    have hfin : ∀ b : Bool, (insOK m slots frame len i = true ↔ b = true) → insOK m slots frame len i = b := fun b h => by
      cases b
      · rw [← Bool.not_eq_true, h]; decide
      · exact h.2 rfl
    exact hfin _ (hok.trans ⟨fun h => h.2.2.2.2.2.2, fun h => ⟨a0, a1, a2, a4, e6, al, h⟩⟩)
end Go.Proofs.YtihhngjoecgkpaaDoor
end

section
namespace Go.Proofs.YtihhngjoecgkpaaDoor
open Go
set_option linter.unusedSimpArgs false
set_option linter.unusedVariables false
set_option maxRecDepth 10000
set_option maxHeartbeats 4000000

theorem rins_ok (G : Gl) (hG : GClosed G) (m : Img) (slots frame : Int) (fc : List SV) (code : List Ins) (hfcl : fc.length = 7) (hfc5 : fc[5]? = some (.int .i64 frame)) (hfc6 : fc[6]? = some (.list 6 (insL code))) (hfcu : ∀ n, SV.underL n fc = true) (i : Ins) (hn : code.length < 1099511627776) (hl : i.l.length < 1099511627776)
    (hm1 : m.cons.length < 1099511627776) (hm2 : m.funcs.length < 1099511627776) (hm3 : m.globals.length < 1099511627776) (hs : 1 ≤ slots ∧ slots ≤ 65536) (H : List Blk) :
    ACall Tryd.prog G 72 [.agg m.cells, .agg fc, .agg i.cells, .int .i64 slots] H (fun r H' => H' = H ∧ r = .bool (insOK m slots frame code.length i)) := by
  obtain ⟨hr1, hr2, hr3, hr4⟩ := insR m slots frame code.length i
  have hfin : finOK m code.length i = finOK m code.length i := rfl
  obtain ⟨op, a, b, c, n, l⟩ := i
  have c1 := fun H => has_ok G hG op H
  have hml : m.cells.length = 4 := rfl
  have hmu := fun n => Img.cells_under n m
  have hm0 : m.cells[0]? = some (.list 4 (consL m.cons)) := rfl
  have hmf : m.cells[1]? = some (.list 7 (funsL m.funcs)) := rfl
  have hmg : m.cells[2]? = some (.list 3 (glbsL m.globals)) := rfl
  simp only [Ins.cells]
  simp only at hl hr1 hr2 hr3 hr4
  have hT : (op = 2 ∧ insTop op slots frame = frame) ∨ (op ≠ 2 ∧ insTop op slots frame = if slots < frame then slots else frame) := by
    unfold insTop
    by_cases h : op = 2
    · exact .inl ⟨h, if_pos h⟩
    · exact .inr ⟨h, if_neg h⟩
  generalize hok : insOK m slots frame code.length ⟨op, a, b, c, n, l⟩ = ok at *
  generalize hfo : finOK m code.length ⟨op, a, b, c, n, l⟩ = fo at *
  generalize insTop op slots frame = T at *
  generalize m.cells = mc at *
  generalize bitOf 1 op = b1 at *
  generalize bitOf 2 op = b2 at *
  generalize bitOf 4 op = b4 at *
  generalize bitOf 8 op = b8 at *
  generalize lstI op = li at *
  have hsl : IntKind.i64.min ≤ slots ∧ slots ≤ IntKind.i64.max := by
    have h1 : IntKind.i64.min = -9223372036854775808 := by decide
    have h2 : IntKind.i64.max = 9223372036854775807 := by decide
    rw [h1, h2]; omega
  refine ACall.of_go TB [] tabOK _ Tryd.func72 rfl (by decide) Tryd.ntmps72 (by simp) rfl (by simp only [initEnv, Nat.reduceAdd]; rfl) fun C R' hR hC hcl hB => ?_; have X := noX; have hC' := congrArg List.length hC
  have X0 := And.intro hml (And.intro hm0 (And.intro hmf (And.intro hmg (And.intro hfcl (And.intro hfc5 (And.intro hfc6 hsl))))))
  by_cases hg1 : g1B op a b c n b1 b2 b4 b8 li l = true
  · have e := hr1 hg1
    unfold g1B at hg1
    have X := And.intro X0 hg1
    (refine run ?_; repeat' (first | with_reducible exact trivial | ((with_reducible apply Fork.mk) <;> intro hb) | with_reducible apply Two.mk))
    · exact finS hR hC' hcl (.same _ rfl) ⟨rfl, by rw [e]; rfl⟩
    all_goals (rename_i hb; rw [hg1] at hb; cases hb)
  · have hg1 : g1B op a b c n b1 b2 b4 b8 li l = false := by simpa using hg1
    have hg1' := hg1
    unfold g1B at hg1'
    have X := And.intro X0 hg1'
    (refine runC ?_; repeat' (first | with_reducible exact trivial | ((with_reducible apply Fork.mk) <;> intro hb) | with_reducible apply Two.mk))
    refine go_condF (by rfl) ?_
    (refine runC ?_; repeat' (first | with_reducible exact trivial | ((with_reducible apply Fork.mk) <;> intro hb) | with_reducible apply Two.mk))
    refine go_cut (fun _ : Unit => [(4, .ptr H.length 0 0 0), (5, .ptr (H.length + 1) 0 0 0), (6, .ptr (H.length + 2) 0 0 0), (9, .bool b1), (10, .bool b2), (11, .bool b4), (13, .int .i64 li), (14, .int .i64 T)]) (fun _ => H ++ [.cells 0 4 [.agg mc], .cells 0 7 [.agg fc], .cells 0 6 [.agg [.int .i64 op, .int .i64 a, .int .i64 b, .int .i64 c, .int .i64 n, .list 1 (l.map (.int .i64))]]]) (fun _ => True) (fun K hK => ?_) (fun _ _ => ?_)
    · rcases hT with ⟨h2, hT⟩ | ⟨h2, hT⟩
      · have X := And.intro X0 h2
        rw [hT] at hK
        (refine run ?_; repeat' (first | with_reducible exact trivial | ((with_reducible apply Fork.mk) <;> intro hb) | with_reducible apply Two.mk))
        exact hK _ _ () trivial (Wk.sub (by simp [subEnv, look, h2]))
      · have X := And.intro X0 h2
        (refine run ?_; repeat' (first | with_reducible exact trivial | ((with_reducible apply Fork.mk) <;> intro hb) | with_reducible apply Two.mk))
        rw [hT] at hK
        exact hK _ _ () trivial (Wk.sub (by simp [subEnv, look]))
    by_cases hg2 : g2B T a b c b1 b2 b4 = true
    · have e := hr2 hg2
      unfold g2B at hg2
      have X := And.intro X0 hg2
      (refine run ?_; repeat' (first | with_reducible exact trivial | ((with_reducible apply Fork.mk) <;> intro hb) | with_reducible apply Two.mk))
      exact finS hR hC' hcl (.same _ rfl) ⟨rfl, by rw [e]; rfl⟩
    have hg2 : g2B T a b c b1 b2 b4 = false := by simpa using hg2
    have hg2' := hg2
    unfold g2B at hg2'
    have X := And.intro X0 hg2'
    (refine run ?_; repeat' (first | with_reducible exact trivial | ((with_reducible apply Fork.mk) <;> intro hb) | with_reducible apply Two.mk))
    clear X
    refine go_loop (fun j : Nat => [(4, .ptr H.length 0 0 0), (5, .ptr (H.length + 1) 0 0 0), (6, .ptr (H.length + 2) 0 0 0), (13, .int .i64 li), (15, .int .i64 j)]) (fun _ => H ++ [.cells 0 4 [.agg mc], .cells 0 7 [.agg fc], .cells 0 6 [.agg [.int .i64 op, .int .i64 a, .int .i64 b, .int .i64 c, .int .i64 n, .list 1 (l.map (.int .i64))]]]) (fun j => l.length - j) (fun j => j ≤ l.length ∧ ∀ x ∈ l.take j, g3B op frame code.length li x = false) 0 ⟨Nat.zero_le _, fun x hx => by simp at hx⟩ (Wk.sub (by simp [subEnv, look])) ?_
    rintro K j ⟨hj, hall⟩ hK
    have hll : (l.map (SV.int .i64)).length = l.length := by simp
    rcases Nat.lt_or_ge j l.length with hlt | hge
    · have e1 : (l.map (SV.int .i64))[j]? = some (.int .i64 l[j]) := by simp [hlt]
      have htk := List.take_succ_eq_append_getElem hlt
      have hbad := hr3 l[j] (List.getElem_mem hlt)
      generalize l[j] = x at *
      by_cases hx : g3B op frame code.length li x = true
      · have e := hbad hx
        unfold g3B at hx
        have X := And.intro X0 (And.intro e1 (And.intro hll hx))
        (refine run ?_; repeat' (first | with_reducible exact trivial | ((with_reducible apply Fork.mk) <;> intro hb) | with_reducible apply Two.mk))
        exact finS hR hC' hcl (.same _ rfl) ⟨rfl, by rw [e]; rfl⟩
      · have hx : g3B op frame code.length li x = false := by simpa using hx
        have hx' := hx
        unfold g3B at hx'
        have X := And.intro X0 (And.intro e1 (And.intro hll hx'))
        (refine run ?_; repeat' (first | with_reducible exact trivial | ((with_reducible apply Fork.mk) <;> intro hb) | with_reducible apply Two.mk))
        refine hK _ _ (j + 1) (by omega) ⟨by omega, fun y hy => ?_⟩ (Wk.sub (by simp [subEnv, look]))
        rw [htk] at hy
        rcases List.mem_append.1 hy with h | h
        · exact hall y h
        · rw [List.mem_singleton.1 h]; exact hx
    have : j = l.length := by omega
    subst this
    clear hK
    rw [List.take_length] at hall
    have hofo := hr4 hg1 hg2 hall
    have hfin : ∀ v : Bool, v = fo → Fin C (H ++ [.cells 0 4 [.agg mc], .cells 0 7 [.agg fc], .cells 0 6 [.agg [.int .i64 op, .int .i64 a, .int .i64 b, .int .i64 c, .int .i64 n, .list 1 (l.map (.int .i64))]]]) (resSV [SV.bool v]) R' := fun v e => finS hR hC' hcl (.same _ rfl) ⟨rfl, by rw [hofo, ← e]; rfl⟩
    have hirr := Int.lt_irrefl (l.length : Int)
    clear hr1 hr2 hr3 hr4 hg1 hg2 hg1' hg2' hall hofo
    by_cases h12 : op = 12
    · subst h12
      have hfo2 : fo = (inR n 0 ((m.cons.length : Int) - 1) && decide (getA m.cons n = (l.length : Int))) := by rw [← hfo]; rfl
      by_cases hin : 0 ≤ n ∧ n < m.cons.length
      · have e1 : (consL m.cons)[n.toNat]? = some (.agg (m.cons[n.toNat]'(by omega)).cells) := by simp [consL, show n.toNat < m.cons.length by omega]
        have e2 : getA m.cons n = (m.cons[n.toNat]'(by omega)).arity := by unfold getA; rw [List.getElem?_eq_getElem (by omega)]
        generalize (m.cons[n.toNat]'(by omega)) = x at e1 e2
        obtain ⟨x0, x1, x2, x3⟩ := x
        simp only [Con.cells] at e1 e2
        have e3 : inR n 0 ((m.cons.length : Int) - 1) = true := inR_iff.2 (by omega)
        rw [e2, e3, Bool.true_and] at hfo2
        have X := And.intro X0 (And.intro hirr (And.intro hin.1 (And.intro hin.2 (And.intro e1 hll))))
        (refine run ?_; repeat' (first | with_reducible exact trivial | ((with_reducible apply Fork.mk) <;> intro hb) | with_reducible apply Two.mk))
        all_goals exact hfin _ (by rw [hfo2]; simp_all)
      · have e3 : inR n 0 ((m.cons.length : Int) - 1) = false := by rw [← Bool.not_eq_true, inR_iff]; omega
        have e4 : (decide (0 ≤ n) && decide (n < (m.cons.length : Int))) = false := by rw [← Bool.not_eq_true]; simp only [Bool.and_eq_true, decide_eq_true_eq]; exact hin
        rw [e3, Bool.false_and] at hfo2
        have X := And.intro X0 (And.intro hirr (And.intro e4 hll))
        (refine run ?_; repeat' (first | with_reducible exact trivial | ((with_reducible apply Fork.mk) <;> intro hb) | with_reducible apply Two.mk))
        all_goals exact hfin _ (by rw [hfo2]; try simp_all)
    by_cases h13 : op = 13
    · subst h13
      have hfo2 : fo = (inR n 0 ((m.funcs.length : Int) - 1) && decide (getF m.funcs n = (l.length : Int))) := by rw [← hfo]; rfl
      by_cases hin : 0 ≤ n ∧ n < m.funcs.length
      · have e1 : (funsL m.funcs)[n.toNat]? = some (.agg (m.funcs[n.toNat]'(by omega)).cells) := by simp [funsL, show n.toNat < m.funcs.length by omega]
        have e2 : getF m.funcs n = (m.funcs[n.toNat]'(by omega)).free := by unfold getF; rw [List.getElem?_eq_getElem (by omega)]
        generalize (m.funcs[n.toNat]'(by omega)) = x at e1 e2
        obtain ⟨x0, x1, x2, x3, x4, x5, x6⟩ := x
        simp only [Fun.cells] at e1 e2
        have e3 : inR n 0 ((m.funcs.length : Int) - 1) = true := inR_iff.2 (by omega)
        rw [e2, e3, Bool.true_and] at hfo2
        have X := And.intro X0 (And.intro hirr (And.intro hin.1 (And.intro hin.2 (And.intro e1 hll))))
        (refine run ?_; repeat' (first | with_reducible exact trivial | ((with_reducible apply Fork.mk) <;> intro hb) | with_reducible apply Two.mk))
        all_goals exact hfin _ (by rw [hfo2]; simp_all)
      · have e3 : inR n 0 ((m.funcs.length : Int) - 1) = false := by rw [← Bool.not_eq_true, inR_iff]; omega
        have e4 : (decide (0 ≤ n) && decide (n < (m.funcs.length : Int))) = false := by rw [← Bool.not_eq_true]; simp only [Bool.and_eq_true, decide_eq_true_eq]; exact hin
        rw [e3, Bool.false_and] at hfo2
        have X := And.intro X0 (And.intro hirr (And.intro e4 hll))
        (refine run ?_; repeat' (first | with_reducible exact trivial | ((with_reducible apply Fork.mk) <;> intro hb) | with_reducible apply Two.mk))
        all_goals exact hfin _ (by rw [hfo2]; try simp_all)
    have hfo2 : fo = (if op = 11 then inR n 0 ((m.globals.length : Int) - 1)
      else if op = 14 then inR n 0 1000
      else if op = 20 then inR n 0 99
      else if op = 21 then inR n 0 ((code.length : Int) - 1) && decide ((l.length : Int) ≤ 1000)
      else if op = 23 then inR n 0 ((code.length : Int) - 1)
      else if op = 22 then decide ((l.length : Int) = 1)
      else if op = 16 ∨ op = 17 then decide ((0 : Int) < l.length)
      else true) := by rw [← hfo]; unfold finOK; rw [if_neg h12, if_neg h13]
    have hin1 : ∀ k : Int, (decide (0 ≤ n) && decide (n < k)) = inR n 0 (k - 1) := fun k => by
      rw [Bool.eq_iff_iff]; simp only [Bool.and_eq_true, decide_eq_true_eq, inR_iff]; omega
    have hin2 : ∀ k : Int, (decide (0 ≤ n) && decide (n ≤ k)) = inR n 0 k := fun k => rfl
    have hge1 : decide ((1 : Int) ≤ l.length) = decide ((0 : Int) < l.length) := by rw [decide_eq_decide]; omega
    have X := And.intro X0 (And.intro hirr (And.intro h12 (And.intro h13 hll)))
    (refine run ?_; repeat' (first | with_reducible exact trivial | ((with_reducible apply Fork.mk) <;> intro hb) | with_reducible apply Two.mk))
    all_goals first | exact hfin _ (by rw [hfo2]; simp_all; done) | skip
end Go.Proofs.YtihhngjoecgkpaaDoor
end

section
namespace Go.Proofs.YtihhngjoecgkpaaDoor
open Go
set_option linter.unusedSimpArgs false
set_option linter.unusedVariables false
set_option maxRecDepth 10000
set_option maxHeartbeats 4000000

def fB (most : Int) (t u : Bool) (free params frame : Int) (len : Nat) : Bool :=
  decide (free < 0) || decide (params < 0) || decide (frame < 0) || decide (most < frame) || decide (frame < free) || decide (frame - free < params) || (t && decide (0 < params)) || (!t && (decide (params < 1) || u)) || decide ((len : Int) < 1) || decide ((65536 : Int) < len)
theorem fB_eq (slots : Int) (f : Fun) : fB (if slots ≤ 16 then 250 else 65536) f.thunk f.upd f.free f.params f.frame f.code.length = funBad slots f := by
  rw [Bool.eq_iff_iff]
  simp only [fB, funBad, inR, wrap64, Bool.or_eq_true, Bool.and_eq_true, Bool.not_eq_true', decide_eq_true_eq, Bool.and_eq_false_iff, decide_eq_false_iff_not]
  have hm : (if slots ≤ 16 then (250 : Int) else 65536) ≤ 65536 := by split <;> omega
  generalize (if slots ≤ 16 then (250 : Int) else 65536) = most at *
  cases f.thunk <;> cases f.upd <;> simp <;> omega
theorem last64 (op : Int) : bitOf 64 op = (decide (op = 17) || decide (op = 18) || decide (op = 19) || decide (op = 21) || decide (op = 23) || decide (op = 26)) := bit64 op
theorem rfun_ok (G : Gl) (hG : GClosed G) (m : Img) (slots : Int) (f : Fun) (hn : f.code.length < 1099511627776) (hl : ∀ i ∈ f.code, i.l.length < 1099511627776)
    (hm1 : m.cons.length < 1099511627776) (hm2 : m.funcs.length < 1099511627776) (hm3 : m.globals.length < 1099511627776) (hs : 1 ≤ slots ∧ slots ≤ 65536) (H : List Blk) :
    ACall Tryd.prog G 36 [.agg m.cells, .agg f.cells, .int .i64 slots] H (fun r H' => H' = H ∧ r = .bool (funOK m slots f)) := by
  have hfb := fB_eq slots f
  have k1 := fun i hi H => rins_ok G hG m slots f.frame f.cells f.code rfl rfl rfl (fun n => Fun.cells_under n f) i hn (hl i hi) hm1 hm2 hm3 hs H
  have hml : m.cells.length = 4 := rfl
  have hmu := fun n => Img.cells_under n m
  have hux := fun n => insL_under n f.code
  have hfo : funOK m slots f = (!funBad slots f && !(f.code.any fun i => !insOK m slots f.frame f.code.length i) && bitOf 64 (lastOp f.code)) := rfl
  rw [hfo]
  obtain ⟨name, thunk, upd, free, params, frame, code⟩ := f
  simp only [Fun.cells] at k1 ⊢
  simp only at hfb hn hl k1 hux
  generalize funBad slots ⟨name, thunk, upd, free, params, frame, code⟩ = bad at *
  generalize hp : (fun i => insOK m slots frame code.length i) = p
  have hpe : ∀ i, insOK m slots frame code.length i = p i := fun i => by rw [← hp]
  simp only [hpe] at k1 ⊢
  clear hpe hp
  generalize hmc : m.cells = mc at *
  refine ACall.of_go TB [] tabOK _ Tryd.func36 rfl (by decide) Tryd.ntmps36 (by simp) rfl (by simp only [initEnv, Nat.reduceAdd]; rfl) fun C R' hR hC hcl hB => ?_; have X := noX; have hC' := congrArg List.length hC
  obtain ⟨most, hmost⟩ : ∃ most : Int, most = if slots ≤ 16 then 250 else 65536 := ⟨_, rfl⟩
  rw [← hmost] at hfb
  have X := hml
  (refine runC ?_; repeat' (first | with_reducible exact trivial | ((with_reducible apply Fork.mk) <;> intro hb) | with_reducible apply Two.mk))
  refine go_cut (fun _ : Unit => [(2, .int .i64 slots), (3, .ptr H.length 0 0 0), (4, .ptr (H.length + 1) 0 0 0), (7, .int .i64 most)]) (fun _ => H ++ [.cells 0 4 [.agg mc], .cells 0 7 [.agg [.str name, .bool thunk, .bool upd, .int .i64 free, .int .i64 params, .int .i64 frame, .list 6 (insL code)]]]) (fun _ => True) (fun K hK => ?_) (fun _ _ => ?_)
  · by_cases h16 : slots ≤ 16
    · rw [if_pos h16] at hmost
      have X := h16
      (refine run ?_; repeat' (first | with_reducible exact trivial | ((with_reducible apply Fork.mk) <;> intro hb) | with_reducible apply Two.mk))
      exact hK _ _ () trivial (Wk.sub (by simp [subEnv, look, hmost]))
    · rw [if_neg h16] at hmost
      have X := h16
      (refine run ?_; repeat' (first | with_reducible exact trivial | ((with_reducible apply Fork.mk) <;> intro hb) | with_reducible apply Two.mk))
      exact hK _ _ () trivial (Wk.sub (by simp [subEnv, look, hmost]))
  have hfin : ∀ v : Bool, v = (!bad && !(code.any fun i => !p i) && bitOf 64 (lastOp code)) → Fin C (H ++ [.cells 0 4 [.agg mc], .cells 0 7 [.agg [.str name, .bool thunk, .bool upd, .int .i64 free, .int .i64 params, .int .i64 frame, .list 6 (insL code)]]]) (resSV [SV.bool v]) R' := fun v e => finS hR hC' hcl (.same _ rfl) ⟨rfl, by rw [← e]; rfl⟩
  by_cases hbad : fB most thunk upd free params frame code.length = true
  · rw [hbad] at hfb
    unfold fB at hbad
    have X := And.intro hml hbad
    (refine run ?_; repeat' (first | with_reducible exact trivial | ((with_reducible apply Fork.mk) <;> intro hb) | with_reducible apply Two.mk))
    exact hfin _ (by rw [← hfb]; rfl)
  have hbad : fB most thunk upd free params frame code.length = false := by simpa using hbad
  have hlen : 1 ≤ code.length := by
    have := hbad
    simp only [fB, Bool.or_eq_false_iff, decide_eq_false_iff_not] at this
    omega
  rw [hbad] at hfb
  unfold fB at hbad
  have X := And.intro hml hbad
  (refine run ?_; repeat' (first | with_reducible exact trivial | ((with_reducible apply Fork.mk) <;> intro hb) | with_reducible apply Two.mk))
  clear X
  refine go_loop (fun j : Nat => [(2, .int .i64 slots), (3, .ptr H.length 0 0 0), (4, .ptr (H.length + 1) 0 0 0), (8, .int .i64 j)]) (fun _ => H ++ [.cells 0 4 [.agg mc], .cells 0 7 [.agg [.str name, .bool thunk, .bool upd, .int .i64 free, .int .i64 params, .int .i64 frame, .list 6 (insL code)]]]) (fun j => code.length - j) (fun j => j ≤ code.length ∧ ∀ x ∈ code.take j, p x = true) 0 ⟨Nat.zero_le _, fun x hx => by simp at hx⟩ (Wk.sub (by simp [subEnv, look])) ?_
  rintro K j ⟨hj, hall⟩ hK
  rcases Nat.lt_or_ge j code.length with hlt | hge
  · have e1 : (insL code)[j]? = some (.agg code[j].cells) := by simp [insL, hlt]
    have htk := List.take_succ_eq_append_getElem hlt
    have c1 := k1 code[j] (List.getElem_mem hlt)
    have hcl6 := Ins.cells_len code[j]
    have hmem := List.getElem_mem hlt
    have hno : p code[j] = false → (code.any fun i => !p i) = true := fun h => by
      rw [List.any_eq_true]; exact ⟨code[j], hmem, by rw [h]; rfl⟩
    have hyes : p code[j] = true → ∀ x ∈ code.take (j + 1), p x = true := fun h x hx => by
      rw [htk] at hx
      rcases List.mem_append.1 hx with h1 | h1
      · exact hall x h1
      · rw [List.mem_singleton.1 h1]; exact h
    generalize p code[j] = pv at *
    generalize code[j].cells = xc at *
    have X := And.intro hml (And.intro e1 hcl6)
    cases pv with
    | true =>
      (refine run ?_; repeat' (first | with_reducible exact trivial | ((with_reducible apply Fork.mk) <;> intro hb) | with_reducible apply Two.mk))
      exact hK _ _ (j + 1) (by omega) ⟨by omega, hyes rfl⟩ (Wk.sub (by simp [subEnv, look]))
    | false =>
      (refine run ?_; repeat' (first | with_reducible exact trivial | ((with_reducible apply Fork.mk) <;> intro hb) | with_reducible apply Two.mk))
      exact hfin _ (by rw [hno rfl]; simp)
  have : j = code.length := by omega
  subst this
  clear hK
  rw [List.take_length] at hall
  have hany : (code.any fun i => !p i) = false := by
    rw [List.any_eq_false]; intro x hx; rw [hall x hx]; simp
  have e1 : (insL code)[code.length - 1]? = some (.agg (code[code.length - 1]'(by omega)).cells) := by simp [insL, show code.length - 1 < code.length by omega]
  have e2 : ((code.length : Int) - 1).toNat = code.length - 1 := by omega
  have hlast : lastOp code = (code[code.length - 1]'(by omega)).op := by unfold lastOp; rw [List.getElem?_eq_getElem (by omega)]
  generalize (code[code.length - 1]'(by omega)) = x at e1 hlast
  obtain ⟨op, xa, xb, xc, xn, xl⟩ := x
  simp only [Ins.cells] at e1 hlast
  have X := And.intro hml (And.intro e1 (And.intro e2 (Int.lt_irrefl (code.length : Int))))
  have hv : (!bad && !(code.any fun i => !p i) && bitOf 64 (lastOp code)) = (decide (op = 17) || decide (op = 18) || decide (op = 19) || decide (op = 21) || decide (op = 23) || decide (op = 26)) := by
    rw [← hfb, hany, hlast, last64]; simp
  (refine run ?_; repeat' (first | with_reducible exact trivial | ((with_reducible apply Fork.mk) <;> intro hb) | with_reducible apply Two.mk))
  all_goals exact hfin _ (by rw [hv]; simp_all)
end Go.Proofs.YtihhngjoecgkpaaDoor
end

section
namespace Go.Proofs.YtihhngjoecgkpaaDoor
open Go
set_option linter.unusedSimpArgs false
set_option linter.unusedVariables false
set_option maxRecDepth 10000
set_option maxHeartbeats 4000000

/-! ### the reference: may the constructors be? -/
def esN (l : List Con) : List (SV × SV) := l.map fun c => (.str c.name, .bool true)
theorem esN_some : ∀ (l : List Con) (s : Str), (findSV (esN l) (.str s)).getD (.bool false) = .bool (decide (s ∈ l.map (·.name)))
  | [], s => rfl
  | c :: r, s => by
    simp only [esN, List.map_cons, findSV, SV.keyEq]
    by_cases h : s = c.name
    · subst h; simp
    · have h' : ¬ c.name = s := fun e => h e.symm
      have ih := esN_some r s
      simp only [esN] at ih
      simp only [beq_eq_false_iff_ne.2 h, beq_eq_false_iff_ne.2 h', if_false, Bool.false_eq_true, ih, List.mem_cons, h, false_or]
theorem esN_set : ∀ (l : List Con) (c : Con), c.name ∉ l.map (·.name) → setSV (esN l) (.str c.name) (.bool true) = esN (l ++ [c])
  | [], c, _ => rfl
  | x :: r, c, h => by
    simp only [List.map_cons, List.mem_cons, not_or] at h
    have h' : ¬ x.name = c.name := fun e => h.1 e.symm
    have ih := esN_set r c h.2
    simp only [esN, List.map_cons, List.cons_append] at ih ⊢
    simp only [setSV, SV.keyEq, beq_eq_false_iff_ne.2 h.1, beq_eq_false_iff_ne.2 h', if_false, Bool.false_eq_true, ih]
theorem esN_under (n : Nat) : ∀ l : List Con, belowE n (esN l) = true
  | [] => rfl
  | c :: r => by
    have ih := esN_under n r
    simp only [esN, List.map_cons, belowE, SV.under, Bool.and_self, Bool.true_and] at ih ⊢
    exact ih
/-- how many of those that are wanted a constructor is -/
def hitC (c : Con) (k : Nat) : Nat := ((wants.take k).filter fun w => conEq c w).length
def hits (l : List Con) : Nat := (l.map fun c => hitC c 4).sum
theorem conEq_iff (a b : Con) : conEq a b = true ↔ a = b := by cases a; cases b; simp [conEq, and_assoc]
instance : DecidableEq Con := fun a b => decidable_of_iff _ (conEq_iff a b)
theorem hitC_eq (c : Con) : hitC c 4 = if c ∈ wants then 1 else 0 := by
  have e : ∀ w, conEq c w = decide (c = w) := fun w => by rw [Bool.eq_iff_iff, conEq_iff, decide_eq_true_eq]
  have h0 : (want0 : Con) ≠ want1 ∧ want0 ≠ want2 ∧ want0 ≠ want3 ∧ want1 ≠ want2 ∧ want1 ≠ want3 ∧ want2 ≠ want3 := by
    refine ⟨?_, ?_, ?_, ?_, ?_, ?_⟩ <;> (intro h; have := congrArg Con.name h; exact absurd this (by decide))
  unfold hitC
  simp only [e, wants, List.take_succ_cons, List.take_zero, List.filter_cons, List.filter_nil, List.mem_cons, List.not_mem_nil, or_false]
  by_cases h1 : c = want0
  · subst h1; simp [h0]
  by_cases h2 : c = want1
  · subst h2; simp [h0, h1]
  by_cases h3 : c = want2
  · subst h3; simp [h0, h1, h2]
  by_cases h4 : c = want3
  · subst h4; simp [h1, h2, h3]
  · simp [h1, h2, h3, h4]
theorem hits_nodup : ∀ (l : List Con), (l.map (·.name)).Nodup → hits l = (wants.filter fun w => decide (w ∈ l)).length
  | [], _ => by simp [hits]; rfl
  | c :: l, h => by
    rw [List.map_cons, List.nodup_cons] at h
    have ih := hits_nodup l h.2
    have hc : c ∉ l := fun hm => h.1 (List.mem_map_of_mem hm)
    have hs : hits (c :: l) = hitC c 4 + hits l := by simp [hits]
    rw [hs, ih, hitC_eq]
    have hw : ∀ L : List Con, L.Nodup → (L.filter fun w => decide (w ∈ c :: l)).length = (if c ∈ L then 1 else 0) + (L.filter fun w => decide (w ∈ l)).length := by
      intro L
      induction L with
      | nil => intro _; rfl
      | cons x L ih2 =>
        intro hn
        rw [List.nodup_cons] at hn
        have ih3 := ih2 hn.2
        by_cases hx : x = c
        · subst hx
          have e1 : decide (x ∈ x :: l) = true := by simp
          have e2 : decide (x ∈ l) = false := decide_eq_false hc
          have e3 : x ∈ x :: L := List.mem_cons_self ..
          rw [List.filter_cons, List.filter_cons, if_pos e1, if_pos e3, if_neg (by rw [e2]; decide), List.length_cons, ih3, if_neg hn.1]; omega
        · have e : decide (x ∈ c :: l) = decide (x ∈ l) := by rw [decide_eq_decide]; simp [hx]
          have e2 : (c ∈ x :: L) = (c ∈ L) := by simp [Ne.symm hx]
          simp only [List.filter_cons, e, e2]
          split
          · simp only [List.length_cons, ih3]; omega
          · exact ih3
    have hnd : wants.Nodup := by
      have : (wants.map (·.name)).Nodup := by decide
      exact (List.nodup_iff_pairwise_ne.2 ((List.pairwise_map.1 (List.nodup_iff_pairwise_ne.1 this)).imp fun h e => h (by rw [e])))
    rw [hw wants hnd]
theorem lookC_mem : ∀ (l : List Con) (w : Con), (l.map (·.name)).Nodup → w.name ≠ [] → (conEq (lookC l w.name) w = true ↔ w ∈ l)
  | [], w, _, hn => by
    rw [conEq_iff]
    constructor
    · intro h; exact absurd (congrArg Con.name h).symm hn
    · intro h; cases h
  | c :: l, w, hd, hn => by
    rw [List.map_cons, List.nodup_cons] at hd
    unfold lookC
    by_cases h : c.name = w.name
    · rw [if_pos h, conEq_iff]
      constructor
      · rintro rfl; exact List.mem_cons_self ..
      · intro hm
        rcases List.mem_cons.1 hm with rfl | hm
        · rfl
        · exact absurd (by rw [h]; exact List.mem_map_of_mem hm) hd.1
    · rw [if_neg h, lookC_mem l w hd.2 hn]
      constructor
      · intro hm; exact List.mem_cons_of_mem _ hm
      · intro hm
        rcases List.mem_cons.1 hm with rfl | hm
        · exact absurd rfl h
        · exact hm
theorem cons_hits (l : List Con) (hb : l.all (fun c => !conBad c) = true) (hd : (l.map (·.name)).Nodup) : consOK l = decide (hits l = 4) := by
  rw [consOK, hb, decide_eq_true hd, Bool.true_and, Bool.true_and, hits_nodup l hd, Bool.eq_iff_iff, decide_eq_true_eq, List.all_eq_true]
  have hw : ∀ w ∈ wants, (conEq (lookC l w.name) w = true ↔ w ∈ l) := fun w hw => lookC_mem l w hd (by
    have : ∀ w ∈ wants, w.name ≠ [] := by decide
    exact this w hw)
  have hlen : wants.length = 4 := rfl
  constructor
  · intro h
    have : (wants.filter fun w => decide (w ∈ l)) = wants := List.filter_eq_self.2 fun w hm => decide_eq_true ((hw w hm).1 (h w hm))
    rw [this, hlen]
  · intro h w hm
    have : (wants.filter fun w => decide (w ∈ l)) = wants := List.Sublist.eq_of_length List.filter_sublist (by rw [h, hlen])
    rw [← this] at hm
    rw [List.mem_filter] at hm
    exact (hw w hm.1).2 (by simpa using hm.2)
end Go.Proofs.YtihhngjoecgkpaaDoor
end

section
namespace Go.Proofs.YtihhngjoecgkpaaDoor
open Go
set_option linter.unusedSimpArgs false
set_option linter.unusedVariables false
set_option maxRecDepth 10000
set_option maxHeartbeats 4000000

def conBad2 (c : Con) : Bool := decide (c.name = []) || decide (c.arity < 0) || decide (100 < c.arity) || decide (c.family < 1) || decide (1000 < c.family) || decide (c.tag < 0) || decide (c.family ≤ c.tag)
theorem conBad2_eq (c : Con) : conBad2 c = conBad c := by
  rw [Bool.eq_iff_iff]
  simp only [conBad2, conBad, inR, wrap64, Bool.or_eq_true, Bool.not_eq_true', decide_eq_true_eq, Bool.and_eq_false_iff, decide_eq_false_iff_not]
  by_cases h : c.name = []
  · simp [h]
  · simp only [h, false_or]; omega
theorem hitC_succ (c : Con) (k : Nat) (w : Con) (h : wants[k]? = some w) : hitC c (k + 1) = hitC c k + (if conEq c w then 1 else 0) := by
  obtain ⟨hl, e⟩ := List.getElem?_eq_some_iff.1 h
  unfold hitC
  rw [List.take_succ_eq_append_getElem hl, e, List.filter_append, List.length_append, List.filter_cons, List.filter_nil]
  split <;> rfl
theorem hitC_le (c : Con) (k : Nat) : hitC c k ≤ 4 := by
  unfold hitC
  refine Nat.le_trans (List.length_filter_le ..) ?_
  rw [List.length_take]
  exact Nat.min_le_right ..
theorem hits_take (l : List Con) {k : Nat} (h : k < l.length) : hits (l.take (k + 1)) = hits (l.take k) + hitC l[k] 4 := by
  unfold hits
  rw [List.take_succ_eq_append_getElem h, List.map_append, List.sum_append]; simp only [List.map_cons, List.map_nil, List.sum_cons, List.sum_nil, Nat.add_zero]
theorem hits_le (l : List Con) : hits l ≤ 4 * l.length := by
  unfold hits
  induction l with
  | nil => simp
  | cons c l ih => have := hitC_le c 4; simp only [List.map_cons, List.sum_cons, List.length_cons]; omega
theorem rcons_ok (G : Gl) (hG : GClosed G) (L : List Con) (hm1 : L.length < 1099511627776) (H : List Blk) :
    ACall Tryd.prog G 35 [.list 4 (consL L)] H (fun r H' => H' = H ∧ r = .bool (consOK L)) := by
  have hll := consL_len L
  have hcu := consL_under H.length L
  refine ACall.of_go TB [] tabOK _ Tryd.func35 rfl (by decide) Tryd.ntmps35 (by simp) rfl (by simp only [initEnv, Nat.reduceAdd]; rfl) fun C R' hR hC hcl hB => ?_; have X := noX; have hC' := congrArg List.length hC
  (refine run ?_; repeat' (first | with_reducible exact trivial | ((with_reducible apply Fork.mk) <;> intro hb) | with_reducible apply Two.mk))
  clear X
  refine go_loop (fun a : Nat × Nat => [(0, .list 4 (consL L)), (3, .list 4 (consL wants)), (4, .map H.length), (5, .int .i64 a.2), (6, .int .i64 a.1)]) (fun a => H ++ [.map none (esN (L.take a.1))]) (fun a => L.length - a.1) (fun a => a.1 ≤ L.length ∧ (L.take a.1).all (fun c => !conBad c) = true ∧ ((L.take a.1).map (·.name)).Nodup ∧ a.2 = hits (L.take a.1)) (0, 0) ⟨Nat.zero_le _, rfl, List.nodup_nil, rfl⟩ (Wk.sub (by simp [subEnv, look, consL, wants, want0, want1, want2, want3, Con.cells])) ?_
  rintro K ⟨k, f⟩ ⟨hk, hall, hnd, hf⟩ hK
  simp only at hk hall hnd hf
  dsimp only
  have hfin : ∀ (X : List Blk) (v : Bool), v = consOK L → Fin C (H ++ X) (resSV [SV.bool v]) R' := fun X v e => finS hR hC' hcl (.same _ rfl) ⟨rfl, by rw [← e]; rfl⟩
  have hfle := hits_le (L.take k)
  rw [← hf] at hfle
  have hfl2 : (L.take k).length ≤ L.length := by rw [List.length_take]; omega
  rcases Nat.lt_or_ge k L.length with hlt | hge
  · have e1 : (consL L)[k]? = some (.agg L[k].cells) := by simp [consL, hlt]
    have ht := List.take_succ_eq_append_getElem hlt
    have hht := hits_take L hlt
    have hdrop : L = L.take k ++ L[k] :: L.drop (k + 1) := by rw [← List.drop_eq_getElem_cons hlt, List.take_append_drop]
    have hes := esN_some (L.take k) L[k].name
    have hset := esN_set (L.take k) L[k]
    have hcb := conBad2_eq L[k]
    generalize L[k] = x at *
    obtain ⟨name, arity, tag, family⟩ := x
    simp only [Con.cells] at e1
    simp only at hes hset
    have hbadE : (decide (name ∈ (L.take k).map (·.name)) || conBad2 ⟨name, arity, tag, family⟩) = true → consOK L = false := fun h => by
      rw [Bool.or_eq_true, decide_eq_true_eq] at h
      rcases h with h | h
      · have : ¬ (L.map (·.name)).Nodup := fun hn => by
          rw [hdrop, List.map_append, List.map_cons, List.nodup_append] at hn
          exact hn.2.2 _ h _ (List.mem_cons_self ..) rfl
        unfold consOK
        rw [decide_eq_false this]; simp
      · unfold consOK
        have : L.all (fun c => !conBad c) = false := by
          rw [List.all_eq_false]
          exact ⟨⟨name, arity, tag, family⟩, by rw [hdrop]; simp, by rw [← hcb, h]; decide⟩
        rw [this]; simp
    by_cases hin : name ∈ (L.take k).map (·.name)
    · rw [decide_eq_true hin] at hes
      have X := And.intro hll (And.intro e1 hes)
      (refine run ?_; repeat' (first | with_reducible exact trivial | ((with_reducible apply Fork.mk) <;> intro hb) | with_reducible apply Two.mk))
      exact hfin _ _ (hbadE (by rw [decide_eq_true hin]; rfl)).symm
    · rw [decide_eq_false hin] at hes
      by_cases hbad : conBad2 ⟨name, arity, tag, family⟩ = true
      · have hv := (hbadE (by rw [hbad, Bool.or_true])).symm
        unfold conBad2 at hbad
        have X := And.intro hll (And.intro e1 (And.intro hes hbad))
        (refine run ?_; repeat' (first | with_reducible exact trivial | ((with_reducible apply Fork.mk) <;> intro hb) | with_reducible apply Two.mk))
        exact hfin _ _ hv
      · have hbad : conBad2 ⟨name, arity, tag, family⟩ = false := by simpa using hbad
        have hbad0 := hbad
        unfold conBad2 at hbad0
        have hset := hset hin
        have X := And.intro hll (And.intro e1 (And.intro hes (And.intro hbad0 hset)))
        (refine run ?_; repeat' (first | with_reducible exact trivial | ((with_reducible apply Fork.mk) <;> intro hb) | with_reducible apply Two.mk))
        clear X
        refine go_loop (fun w : Nat => [(0, .list 4 (consL L)), (3, .list 4 (consL wants)), (4, .map H.length), (5, .int .i64 (f + hitC ⟨name, arity, tag, family⟩ w : Nat)), (6, .int .i64 k), (7, .ptr (H.length + 1) 0 0 0), (8, .int .i64 w)]) (fun _ => H ++ [.map none (esN (L.take k ++ [⟨name, arity, tag, family⟩])), .cells 0 4 [.agg [.str name, .int .i64 arity, .int .i64 tag, .int .i64 family]]]) (fun w => 4 - w) (fun w => w ≤ 4) 0 (Nat.zero_le _) (Wk.sub (by simp [subEnv, look, hitC])) ?_
        rintro K2 w hw hK2
        have hle := hitC_le ⟨name, arity, tag, family⟩ w
        rcases Nat.lt_or_ge w 4 with hwl | hwg
        · have hW : wants[w]? = some (wants[w]'(show w < wants.length from hwl)) := List.getElem?_eq_getElem _
          have e5 : (consL wants)[w]? = some (.agg (wants[w]'(show w < wants.length from hwl)).cells) := by simp [consL, show w < wants.length from hwl]
          have hsu := hitC_succ ⟨name, arity, tag, family⟩ w _ hW
          have hce : conEq ⟨name, arity, tag, family⟩ (wants[w]'(show w < wants.length from hwl)) = conEq ⟨name, arity, tag, family⟩ (wants[w]'(show w < wants.length from hwl)) := rfl
          generalize (wants[w]'(show w < wants.length from hwl)) = W at hsu e5 hce hW
          obtain ⟨wn, wa, wt, wf⟩ := W
          simp only [Con.cells] at e5
          have hcw := consL_len wants
          have hwn : wants.length = 4 := rfl
          have hq : conEq ⟨name, arity, tag, family⟩ ⟨wn, wa, wt, wf⟩ = (decide (name = wn) && (decide (arity = wa) && (decide (tag = wt) && decide (family = wf)))) := by simp only [conEq, Bool.and_assoc]
          rw [hq] at hsu
          have X := And.intro hcw (And.intro hwn e5)
          (refine run ?_; repeat' (first | with_reducible exact trivial | ((with_reducible apply Fork.mk) <;> intro hb) | with_reducible apply Two.mk))
          · rw [if_pos hb] at hsu
            refine hK2 _ _ (w + 1) (by omega) (by omega) (Wk.sub ?_)
            rw [hsu]
            exact ⟨rfl, rfl, rfl, congrArg (fun z => some (SV.int .i64 z)) (by omega), rfl, rfl, congrArg (fun z => some (SV.int .i64 z)) (by omega), trivial⟩
          · rw [if_neg (by rw [hb]; decide)] at hsu
            refine hK2 _ _ (w + 1) (by omega) (by omega) (Wk.sub ?_)
            rw [hsu]
            exact ⟨rfl, rfl, rfl, congrArg (fun z => some (SV.int .i64 z)) (by omega), rfl, rfl, congrArg (fun z => some (SV.int .i64 z)) (by omega), trivial⟩
        · have : w = 4 := by omega
          subst this
          have hcw := consL_len wants
          have hwn : wants.length = 4 := rfl
          have X := And.intro hcw hwn
          (refine run ?_; repeat' (first | with_reducible exact trivial | ((with_reducible apply Fork.mk) <;> intro hb) | with_reducible apply Two.mk))
          refine hK _ _ (k + 1, f + hitC ⟨name, arity, tag, family⟩ 4) (show L.length - (k + 1) < L.length - k by omega) ⟨show k + 1 ≤ L.length by omega, ?_, ?_, ?_⟩ ?_
          · simp only
            rw [ht, List.all_append, hall]
            simp only [List.all_cons, List.all_nil, Bool.and_true, Bool.true_and, ← hcb, hbad, Bool.not_false]
          · simp only
            rw [ht, List.map_append, List.nodup_append]
            refine ⟨hnd, by simp, ?_⟩
            simp only [List.map_cons, List.map_nil, List.mem_singleton]
            intro a ha b hb e
            subst e; subst hb; exact hin ha
          · simp only
            rw [hht, hf]
          · simp only
            rw [ht]
            exact wkS (n0 := H.length) [(H.length, 0)] hG hB hC' hcl (hk := .m (kd := none) (es := esN (L.take k ++ [⟨name, arity, tag, family⟩])) (by simp) (Nat.le_refl _) (FrzE.same (esN_under _ _)) .nil)
  · have : k = L.length := by omega
    subst this
    rw [List.take_length] at hall hnd hf hfle ⊢
    have X := And.intro hll (Int.lt_irrefl (L.length : Int))
    (refine run ?_; repeat' (first | with_reducible exact trivial | ((with_reducible apply Fork.mk) <;> intro hb) | with_reducible apply Two.mk))
    refine hfin _ _ ?_
    have hwn : wants.length = 4 := rfl
    rw [cons_hits L hall hnd, decide_eq_decide, ← hf]
    omega
end Go.Proofs.YtihhngjoecgkpaaDoor
end

section
namespace Go.Proofs.YtihhngjoecgkpaaDoor
open Go
set_option linter.unusedSimpArgs false
set_option linter.unusedVariables false
set_option maxRecDepth 10000
set_option maxHeartbeats 4000000

/-- what a global is of, but for its arguments -/
def glbA (m : Img) (g : Glb) : Bool :=
  if g.kind = 1 ∨ g.kind = 2 then inR g.n 0 ((m.funcs.length : Int) - 1) && (getT m.funcs g.n == decide (g.kind = 2)) && decide (getF m.funcs g.n = 0) && decide ((g.args.length : Int) = 0)
  else if g.kind = 3 then inR g.n 0 ((m.cons.length : Int) - 1) && decide (getA m.cons g.n = (g.args.length : Int)) else false
theorem glb_parts (m : Img) (g : Glb) : glbOK m g = (glbA m g && !(g.args.any (refBad m.globals.length))) := by
  rw [Bool.and_comm]; rfl
theorem rcheck_ok (G : Gl) (hG : GClosed G) (m : Img) (slots : Int) (hIB : ImgB m) (H : List Blk) : ACall Tryd.prog G 12 [.agg m.cells, .int .i64 slots] H (fun r H' => H' = H ∧ r = .int .i64 (chkS m slots)) := by
  have hml : m.cells.length = 4 := rfl
  have hmu := fun n => Img.cells_under n m
  have hm0 : m.cells[0]? = some (.list 4 (consL m.cons)) := rfl
  have hm1 : m.cells[1]? = some (.list 7 (funsL m.funcs)) := rfl
  have hm2 : m.cells[2]? = some (.list 3 (glbsL m.globals)) := rfl
  have hm3 : m.cells[3]? = some (.int .i64 m.main) := rfl
  have b1 := hIB.c
  have b2 := hIB.f
  have b3 := hIB.g
  have k1 := fun H => rcons_ok G hG m.cons b1 H
  have hS : chkS m slots = if inR slots 1 65536 = false then 1 else if !consOK m.cons || decide ((10000 : Int) < m.funcs.length) || decide ((10000 : Int) < m.globals.length) || !inR m.main 0 ((m.globals.length : Int) - 1) then 170 else if m.funcs.any (fun f => !funOK m slots f) || m.globals.any (fun g => !glbOK m g) then 170 else 0 := rfl
  by_cases hs : slots < 1 ∨ 65536 < slots
  · have hb0 : (decide (slots < 1) || decide (65536 < slots)) = true := by simpa using hs
    have e : chkS m slots = 1 := by rw [hS, if_pos]; rw [← Bool.not_eq_true, inR_iff]; omega
    rw [e]
    generalize m.cells = mc at *
    refine ACall.of_go TB [] tabOK _ Tryd.func12 rfl (by decide) Tryd.ntmps12 (by simp) rfl (by simp only [initEnv, Nat.reduceAdd]; rfl) fun C R' hR hC hcl hB => ?_; have X := noX; have hC' := congrArg List.length hC
    have X := And.intro hml hb0
    (refine run ?_; repeat' (first | with_reducible exact trivial | ((with_reducible apply Fork.mk) <;> intro hb) | with_reducible apply Two.mk))
    exact finS hR hC' hcl (.same _ rfl) ⟨rfl, rfl⟩
  have hs : 1 ≤ slots ∧ slots ≤ 65536 := by omega
  have hb0 : (decide (slots < 1) || decide (65536 < slots)) = false := by simp; omega
  rw [if_neg (by rw [inR_iff.2 hs]; decide)] at hS
  have k2 := fun f hf H => rfun_ok G hG m slots f (hIB.code f hf).1 (hIB.code f hf).2 b1 b2 b3 hs H
  have hga := hIB.args
  clear hIB
  generalize hv : chkS m slots = V at *
  generalize hmc : m.cells = mc at *
  generalize consOK m.cons = cok at *
  refine ACall.of_go TB [] tabOK _ Tryd.func12 rfl (by decide) Tryd.ntmps12 (by simp) rfl (by simp only [initEnv, Nat.reduceAdd]; rfl) fun C R' hR hC hcl hB => ?_; have X := noX; have hC' := congrArg List.length hC
  have X0 := And.intro hml (And.intro hm0 (And.intro hm1 (And.intro hm2 hm3)))
  have hfin : ∀ (X : List Blk) (v : Int), v = V → Fin C (H ++ X) (resSV [SV.int .i64 v]) R' := fun X v e => finS hR hC' hcl (.same _ rfl) ⟨rfl, by rw [← e]; rfl⟩
  have c1 := k1
  have X := And.intro X0 hb0
  have hF170 : ∀ f ∈ m.funcs, funOK m slots f = false → (170 : Int) = V := fun f hf h => by
    rw [hS]
    split
    · rfl
    · rw [if_pos]
      rw [Bool.or_eq_true, List.any_eq_true]
      exact .inl ⟨f, hf, by rw [h]; rfl⟩
  have hG170 : ∀ g ∈ m.globals, glbOK m g = false → (170 : Int) = V := fun g hg h => by
    rw [hS]
    split
    · rfl
    · rw [if_pos]
      rw [Bool.or_eq_true, List.any_eq_true (l := m.globals)]
      exact .inr ⟨g, hg, by rw [h]; rfl⟩
  by_cases h0 : (!cok || decide ((10000 : Int) < m.funcs.length) || decide ((10000 : Int) < m.globals.length)) = true
  · have X := And.intro X0 (And.intro hb0 h0)
    (refine run ?_; repeat' (first | with_reducible exact trivial | ((with_reducible apply Fork.mk) <;> intro hb) | with_reducible apply Two.mk))
    exact hfin _ _ (by rw [hS, if_pos (by rw [h0]; rfl)])
  have h0 : (!cok || decide ((10000 : Int) < m.funcs.length) || decide ((10000 : Int) < m.globals.length)) = false := by simpa using h0
  rw [h0, Bool.false_or] at hS
  have X := And.intro X0 (And.intro hb0 h0)
  (refine run ?_; repeat' (first | with_reducible exact trivial | ((with_reducible apply Fork.mk) <;> intro hb) | with_reducible apply Two.mk))
  clear X c1
  refine go_loop (fun i : Nat => [(1, .int .i64 slots), (2, .ptr H.length 0 0 0), (5, .int .i64 i)]) (fun _ => H ++ [.cells 0 4 [.agg mc]]) (fun i => m.funcs.length - i) (fun i => i ≤ m.funcs.length ∧ ∀ f ∈ m.funcs.take i, funOK m slots f = true) 0 ⟨Nat.zero_le _, fun x hx => by simp at hx⟩ (Wk.sub (by simp [subEnv, look])) ?_
  rintro K i ⟨hi, hall⟩ hK
  rcases Nat.lt_or_ge i m.funcs.length with hlt | hge
  · have e1 : (funsL m.funcs)[i]? = some (.agg m.funcs[i].cells) := by simp [funsL, hlt]
    have htk := List.take_succ_eq_append_getElem hlt
    have hmem := List.getElem_mem hlt
    have c1 := k2 m.funcs[i] hmem
    have hbad := hF170 m.funcs[i] hmem
    have hcl7 := Fun.cells_len m.funcs[i]
    have hyes : funOK m slots m.funcs[i] = true → ∀ f ∈ m.funcs.take (i + 1), funOK m slots f = true := fun h x hx => by
      rw [htk] at hx
      rcases List.mem_append.1 hx with h1 | h1
      · exact hall x h1
      · rw [List.mem_singleton.1 h1]; exact h
    generalize funOK m slots m.funcs[i] = pv at *
    generalize m.funcs[i].cells = xc at *
    have X := And.intro X0 (And.intro e1 hcl7)
    cases pv with
    | true =>
      (refine run ?_; repeat' (first | with_reducible exact trivial | ((with_reducible apply Fork.mk) <;> intro hb) | with_reducible apply Two.mk))
      exact hK _ _ (i + 1) (by omega) ⟨by omega, hyes rfl⟩ (Wk.sub (by simp [subEnv, look]))
    | false =>
      (refine run ?_; repeat' (first | with_reducible exact trivial | ((with_reducible apply Fork.mk) <;> intro hb) | with_reducible apply Two.mk))
      exact hfin _ _ (hbad rfl)
  have : i = m.funcs.length := by omega
  subst this
  clear hK
  rw [List.take_length] at hall
  have hany1 : (m.funcs.any fun f => !funOK m slots f) = false := by
    rw [List.any_eq_false]; intro x hx; rw [hall x hx]; simp
  rw [hany1, Bool.false_or] at hS
  have X := And.intro X0 (Int.lt_irrefl (m.funcs.length : Int))
  (refine run ?_; repeat' (first | with_reducible exact trivial | ((with_reducible apply Fork.mk) <;> intro hb) | with_reducible apply Two.mk))
  clear X
  refine go_loop (fun i : Nat => [(2, .ptr H.length 0 0 0), (6, .int .i64 i)]) (fun _ => H ++ [.cells 0 4 [.agg mc]]) (fun i => m.globals.length - i) (fun i => i ≤ m.globals.length ∧ ∀ g ∈ m.globals.take i, glbOK m g = true) 0 ⟨Nat.zero_le _, fun x hx => by simp at hx⟩ (Wk.sub (by simp [subEnv, look])) ?_
  rintro K i ⟨hi, hall2⟩ hK
  rcases Nat.lt_or_ge i m.globals.length with hlt | hge
  · have e1 : (glbsL m.globals)[i]? = some (.agg m.globals[i].cells) := by simp [glbsL, hlt]
    have htk := List.take_succ_eq_append_getElem hlt
    have hmem := List.getElem_mem hlt
    have hbad := hG170 m.globals[i] hmem
    have hal := hga m.globals[i] hmem
    have hyes : glbOK m m.globals[i] = true → ∀ g ∈ m.globals.take (i + 1), glbOK m g = true := fun h x hx => by
      rw [htk] at hx
      rcases List.mem_append.1 hx with h1 | h1
      · exact hall2 x h1
      · rw [List.mem_singleton.1 h1]; exact h
    rw [glb_parts] at hbad hyes
    have hgA : glbA m m.globals[i] = glbA m m.globals[i] := rfl
    generalize m.globals[i] = g at *
    obtain ⟨kind, n, args⟩ := g
    simp only [Glb.cells] at e1
    simp only at hal hbad hyes
    have hux : ∀ n, SV.underL n (args.map encR) = true := fun n => SV.underL_map fun _ _ => rfl
    have hall3 : (args.map encR).length = args.length := by simp
    have X := And.intro X0 e1
    (refine runB ?_; repeat' (first | with_reducible exact trivial | ((with_reducible apply Fork.mk) <;> intro hb) | with_reducible apply Two.mk))
    refine go_block ?_
    (refine runB ?_; repeat' (first | with_reducible exact trivial | ((with_reducible apply Fork.mk) <;> intro hb) | with_reducible apply Two.mk))
    refine go_cut (fun _ : Unit => [(2, .ptr H.length 0 0 0), (6, .int .i64 i), (7, .ptr (H.length + 1) 0 0 0), (8, .bool (glbA m ⟨kind, n, args⟩))]) (fun _ => H ++ [.cells 0 4 [.agg mc], .cells 0 3 [.agg [.int .i64 kind, .int .i64 n, .list 2 (args.map encR)]]]) (fun _ => True) (fun K2 hK2 => ?_) (fun _ _ => ?_)
    · by_cases hk12 : kind = 1 ∨ kind = 2
      · have hA : glbA m ⟨kind, n, args⟩ = (inR n 0 ((m.funcs.length : Int) - 1) && (getT m.funcs n == decide (kind = 2)) && decide (getF m.funcs n = 0) && decide ((args.length : Int) = 0)) := by unfold glbA; rw [if_pos hk12]
        by_cases hin : 0 ≤ n ∧ n < m.funcs.length
        · have e2 : (funsL m.funcs)[n.toNat]? = some (.agg (m.funcs[n.toNat]'(by omega)).cells) := by simp [funsL, show n.toNat < m.funcs.length by omega]
          have e3 : getF m.funcs n = (m.funcs[n.toNat]'(by omega)).free := by unfold getF; rw [List.getElem?_eq_getElem (by omega)]
          have e4 : getT m.funcs n = (m.funcs[n.toNat]'(by omega)).thunk := by unfold getT; rw [List.getElem?_eq_getElem (by omega)]
          generalize (m.funcs[n.toNat]'(by omega)) = x at e2 e3 e4
          obtain ⟨x0, x1, x2, x3, x4, x5, x6⟩ := x
          simp only [Fun.cells] at e2 e3 e4
          have e5 : inR n 0 ((m.funcs.length : Int) - 1) = true := inR_iff.2 (by omega)
          rw [e3, e4, e5, Bool.true_and] at hA
          rw [hA] at hK2
          rcases hk12 with rfl | rfl
          · have X := And.intro X0 (And.intro hin.1 (And.intro hin.2 (And.intro e2 hall3)))
            (refine run ?_; repeat' (first | with_reducible exact trivial | ((with_reducible apply Fork.mk) <;> intro hb) | with_reducible apply Two.mk))
            all_goals (refine hK2 _ _ () trivial (Wk.sub ?_); exact ⟨rfl, rfl, rfl, rfl, trivial⟩)
          · have X := And.intro X0 (And.intro hin.1 (And.intro hin.2 (And.intro e2 hall3)))
            (refine run ?_; repeat' (first | with_reducible exact trivial | ((with_reducible apply Fork.mk) <;> intro hb) | with_reducible apply Two.mk))
            all_goals (refine hK2 _ _ () trivial (Wk.sub ?_); exact ⟨rfl, rfl, rfl, rfl, trivial⟩)
        · have e5 : inR n 0 ((m.funcs.length : Int) - 1) = false := by rw [← Bool.not_eq_true, inR_iff]; omega
          have e6 : (decide (0 ≤ n) && decide (n < (m.funcs.length : Int))) = false := by rw [← Bool.not_eq_true]; simp only [Bool.and_eq_true, decide_eq_true_eq]; exact hin
          rw [e5, Bool.false_and, Bool.false_and, Bool.false_and] at hA
          rw [hA] at hK2
          rcases hk12 with rfl | rfl
          · have X := And.intro X0 (And.intro e6 hall3)
            (refine run ?_; repeat' (first | with_reducible exact trivial | ((with_reducible apply Fork.mk) <;> intro hb) | with_reducible apply Two.mk))
            all_goals (refine hK2 _ _ () trivial (Wk.sub ?_); exact ⟨rfl, rfl, rfl, rfl, trivial⟩)
          · have X := And.intro X0 (And.intro e6 hall3)
            (refine run ?_; repeat' (first | with_reducible exact trivial | ((with_reducible apply Fork.mk) <;> intro hb) | with_reducible apply Two.mk))
            all_goals (refine hK2 _ _ () trivial (Wk.sub ?_); exact ⟨rfl, rfl, rfl, rfl, trivial⟩)
      · by_cases hk3 : kind = 3
        · subst hk3
          have hA : glbA m ⟨3, n, args⟩ = (inR n 0 ((m.cons.length : Int) - 1) && decide (getA m.cons n = (args.length : Int))) := rfl
          by_cases hin : 0 ≤ n ∧ n < m.cons.length
          · have e2 : (consL m.cons)[n.toNat]? = some (.agg (m.cons[n.toNat]'(by omega)).cells) := by simp [consL, show n.toNat < m.cons.length by omega]
            have e3 : getA m.cons n = (m.cons[n.toNat]'(by omega)).arity := by unfold getA; rw [List.getElem?_eq_getElem (by omega)]
            generalize (m.cons[n.toNat]'(by omega)) = x at e2 e3
            obtain ⟨x0, x1, x2, x3⟩ := x
            simp only [Con.cells] at e2 e3
            have e5 : inR n 0 ((m.cons.length : Int) - 1) = true := inR_iff.2 (by omega)
            rw [e3, e5, Bool.true_and] at hA
            rw [hA] at hK2
            have X := And.intro X0 (And.intro hin.1 (And.intro hin.2 (And.intro e2 hall3)))
            (refine run ?_; repeat' (first | with_reducible exact trivial | ((with_reducible apply Fork.mk) <;> intro hb) | with_reducible apply Two.mk))
            all_goals (refine hK2 _ _ () trivial (Wk.sub ?_); exact ⟨rfl, rfl, rfl, rfl, trivial⟩)
          · have e5 : inR n 0 ((m.cons.length : Int) - 1) = false := by rw [← Bool.not_eq_true, inR_iff]; omega
            have e6 : (decide (0 ≤ n) && decide (n < (m.cons.length : Int))) = false := by rw [← Bool.not_eq_true]; simp only [Bool.and_eq_true, decide_eq_true_eq]; exact hin
            rw [e5, Bool.false_and] at hA
            rw [hA] at hK2
            have X := And.intro X0 (And.intro e6 hall3)
            (refine run ?_; repeat' (first | with_reducible exact trivial | ((with_reducible apply Fork.mk) <;> intro hb) | with_reducible apply Two.mk))
            all_goals (refine hK2 _ _ () trivial (Wk.sub ?_); exact ⟨rfl, rfl, rfl, rfl, trivial⟩)
        · have hA : glbA m ⟨kind, n, args⟩ = false := by unfold glbA; rw [if_neg hk12, if_neg hk3]
          rw [hA] at hK2
          have hk1 : ¬ kind = 1 := fun h => hk12 (.inl h)
          have hk2 : ¬ kind = 2 := fun h => hk12 (.inr h)
          have X := And.intro X0 (And.intro hk1 (And.intro hk2 hk3))
          (refine run ?_; repeat' (first | with_reducible exact trivial | ((with_reducible apply Fork.mk) <;> intro hb) | with_reducible apply Two.mk))
          all_goals (refine hK2 _ _ () trivial (Wk.sub ?_); exact ⟨rfl, rfl, rfl, rfl, trivial⟩)
    · generalize glbA m ⟨kind, n, args⟩ = ga at *
      have X := And.intro X0 hall3
      (refine run ?_; repeat' (first | with_reducible exact trivial | ((with_reducible apply Fork.mk) <;> intro hb) | with_reducible apply Two.mk))
      clear X
      refine go_loop (fun j : Nat => [(2, .ptr H.length 0 0 0), (6, .int .i64 i), (7, .ptr (H.length + 1) 0 0 0), (8, .bool (ga && !((args.take j).any (refBad m.globals.length)))), (9, .int .i64 j)]) (fun _ => H ++ [.cells 0 4 [.agg mc], .cells 0 3 [.agg [.int .i64 kind, .int .i64 n, .list 2 (args.map encR)]]]) (fun j => args.length - j) (fun j => j ≤ args.length) 0 (Nat.zero_le _) (Wk.sub (by simp [subEnv, look])) ?_
      rintro K3 j hj hK3
      rcases Nat.lt_or_ge j args.length with hjt | hjg
      · have e2 : (args.map encR)[j]? = some (encR args[j]) := by simp [hjt]
        have hta := List.take_succ_eq_append_getElem hjt
        generalize args[j] = r at *
        obtain ⟨x, y⟩ := r
        simp only [encR] at e2
        have hrb : ∀ q : Bool, (q && decide (-1 ≤ x) && decide (x < (m.globals.length : Int)) && (decide (x < 0) || decide (y = 0))) = (q && !refBad m.globals.length (x, y)) := fun q => by
          cases q
          · simp
          · rw [Bool.eq_iff_iff]
            simp only [refBad, inR, Bool.true_and, Bool.and_eq_true, Bool.or_eq_true, Bool.not_eq_true', decide_eq_true_eq, Bool.or_eq_false_iff, Bool.not_eq_false', Bool.and_eq_false_iff, decide_eq_false_iff_not]
            omega
        have hq2 : (ga && !((args.take (j + 1)).any (refBad m.globals.length))) = ((ga && !((args.take j).any (refBad m.globals.length))) && !refBad m.globals.length (x, y)) := by
          rw [hta, List.any_append]
          simp only [List.any_cons, List.any_nil, Bool.or_false, Bool.not_or, Bool.and_assoc]
        rw [← hrb] at hq2
        generalize (ga && !((args.take j).any (refBad m.globals.length))) = q at *
        have X := And.intro X0 (And.intro e2 hall3)
        (refine run ?_; repeat' (first | with_reducible exact trivial | ((with_reducible apply Fork.mk) <;> intro hb) | with_reducible apply Two.mk))
        refine hK3 _ _ (j + 1) (by omega) (by omega) ?_
        rw [hq2]
        exact wkS (n0 := H.length) [(H.length, 0), (H.length + 1, 0)] hG hB hC' hcl (hk := keepC (g := 0) H.length (by simp) (Nat.le_refl _) (by simp only [SV.underL, SV.under, hmu, Bool.and_self]) (keepC (g := 0) (H.length + 1) (by simp) (by omega) (by simp only [SV.underL, SV.under, hux, Bool.and_self]) .nil))
      · have : j = args.length := by omega
        subst this
        rw [List.take_length]
        clear hK3
        generalize (ga && !(args.any (refBad m.globals.length))) = q at *
        have X := And.intro X0 (And.intro hall3 (Int.lt_irrefl (args.length : Int)))
        cases q with
        | true =>
          (refine run ?_; repeat' (first | with_reducible exact trivial | ((with_reducible apply Fork.mk) <;> intro hb) | with_reducible apply Two.mk))
          refine hK _ _ (i + 1) (by omega) ⟨by omega, hyes rfl⟩ ?_
          exact wkS (n0 := H.length) [(H.length, 0)] hG hB hC' hcl (hk := keepC (g := 0) H.length (by simp) (Nat.le_refl _) (by simp only [SV.underL, SV.under, hmu, Bool.and_self]) .nil)
        | false =>
          (refine run ?_; repeat' (first | with_reducible exact trivial | ((with_reducible apply Fork.mk) <;> intro hb) | with_reducible apply Two.mk))
          exact hfin _ _ (hbad rfl)
  have : i = m.globals.length := by omega
  subst this
  clear hK
  rw [List.take_length] at hall2
  have hany2 : (m.globals.any fun g => !glbOK m g) = false := by
    rw [List.any_eq_false]; intro x hx; rw [hall2 x hx]; simp
  rw [hany2] at hS
  have hmn : (decide (m.main < 0) || decide ((m.globals.length : Int) ≤ m.main)) = !inR m.main 0 ((m.globals.length : Int) - 1) := by
    rw [Bool.eq_iff_iff]; simp only [inR, Bool.or_eq_true, decide_eq_true_eq, Bool.not_eq_true', Bool.and_eq_false_iff, decide_eq_false_iff_not]; omega
  rw [← hmn] at hS
  have X := And.intro X0 (Int.lt_irrefl (m.globals.length : Int))
  (refine run ?_; repeat' (first | with_reducible exact trivial | ((with_reducible apply Fork.mk) <;> intro hb) | with_reducible apply Two.mk))
  · rename_i hb
    exact hfin _ _ (by rw [hS, if_pos hb])
  · rename_i hb
    exact hfin _ _ (by rw [hS, if_neg (by rw [hb]; decide)]; rfl)
end Go.Proofs.YtihhngjoecgkpaaDoor
end

section
namespace Go.Proofs.YtihhngjoecgkpaaDoor
open Go
set_option linter.unusedSimpArgs false
set_option linter.unusedVariables false
set_option maxRecDepth 10000
set_option maxHeartbeats 4000000
set_option pp.deepTerms true
set_option pp.maxSteps 100000

/-- lists that are of one length, alike up to a place -/
theorem take_ext {α : Type} {a b : List α} {k : Nat} (h1 : k < a.length) (h2 : k < b.length) (h : a.take k = b.take k) (e : a[k] = b[k]) : a.take (k + 1) = b.take (k + 1) := by
  rw [List.take_succ_eq_append_getElem h1, List.take_succ_eq_append_getElem h2, h, e]
theorem rints_ok (G : Gl) (hG : GClosed G) (a b : List Int) (ha : a.length < 1099511627776) (hbl : b.length < 1099511627776) (H : List Blk) :
    ACall Tryd.prog G 74 [.list 1 (a.map (.int .i64)), .list 1 (b.map (.int .i64))] H (fun r H' => H' = H ∧ r = .bool (eqL intE a b)) := by
  have hno : a ≠ b → eqL intE a b = false := fun e => by rw [← Bool.not_eq_true, eqL_eq intE_iff]; exact e
  have hyes : a = b → eqL intE a b = true := fun e => (eqL_eq intE_iff a b).2 e
  generalize eqL intE a b = v at *
  refine ACall.of_go TB [] tabOK _ Tryd.func74 rfl (by decide) Tryd.ntmps74 (by simp) rfl (by simp only [initEnv, Nat.reduceAdd]; rfl) fun C R' hR hC hcl hB => ?_; have X := noX; have hC' := congrArg List.length hC
  by_cases hl : a.length = b.length
  rotate_left
  · have hn : ¬ (a.length : Int) = (b.length : Int) := by omega
    have X := And.intro X hn
    (refine run ?_; repeat' (first | with_reducible exact trivial | ((with_reducible apply Fork.mk) <;> intro hb) | with_reducible apply Two.mk))
    exact Fin.out hR ⟨rfl, by rw [hno (fun e => hl (by rw [e]))]; rfl⟩
  have hl' : (a.length : Int) = b.length := by omega
  have X := And.intro X hl'
  (refine run ?_; repeat' (first | with_reducible exact trivial | ((with_reducible apply Fork.mk) <;> intro hb) | with_reducible apply Two.mk))
  refine go_loop (fun k : Nat => [(0, .list 1 (a.map (.int .i64))), (1, .list 1 (b.map (.int .i64))), (5, .int .i64 k)]) (fun _ => H) (fun k => a.length - k) (fun k => k ≤ a.length ∧ a.take k = b.take k) 0 ⟨Nat.zero_le _, rfl⟩ (Wk.sub (by simp [subEnv, look])) ?_
  rintro K k ⟨hk, hp⟩ hK
  rcases Nat.lt_or_ge k a.length with hlt | hge
  · have e1 : (a.map (SV.int .i64))[k]? = some (.int .i64 a[k]) := by simp [hlt]
    have e2 : (b.map (SV.int .i64))[k]? = some (.int .i64 b[k]) := by simp [show k < b.length by omega]
    have hs := take_ext hlt (by omega) hp
    have hd : a[k] ≠ b[k] → a ≠ b := fun h e => h (by subst e; rfl)
    generalize a[k] = x at *
    generalize b[k] = y at *
    have X := And.intro noX (And.intro e1 e2)
    (refine run ?_; repeat' (first | with_reducible exact trivial | ((with_reducible apply Fork.mk) <;> intro hb) | with_reducible apply Two.mk))
    · exact Fin.out hR ⟨rfl, by rw [hno (hd hb)]; rfl⟩
    · exact hK _ _ (k + 1) (by omega) ⟨by omega, hs (by simpa using hb)⟩ (Wk.sub (by simp [subEnv, look]))
  have : k = a.length := by omega
  subst this
  clear hK
  have X := And.intro noX (Int.lt_irrefl (a.length : Int))
  (refine run ?_; repeat' (first | with_reducible exact trivial | ((with_reducible apply Fork.mk) <;> intro hb) | with_reducible apply Two.mk))
  exact Fin.out hR ⟨rfl, by rw [hyes (by rw [List.take_length, hl, List.take_length] at hp; exact hp)]; rfl⟩
end Go.Proofs.YtihhngjoecgkpaaDoor
end

section
namespace Go.Proofs.YtihhngjoecgkpaaDoor
open Go
set_option linter.unusedSimpArgs false
set_option linter.unusedVariables false
set_option maxRecDepth 10000
set_option maxHeartbeats 4000000
set_option pp.deepTerms true
set_option pp.maxSteps 100000

theorem rsfun_ok (G : Gl) (hG : GClosed G) (x y : Fun) (hx : x.code.length < 1099511627776 ∧ ∀ i ∈ x.code, i.l.length < 1099511627776) (hy : y.code.length < 1099511627776 ∧ ∀ i ∈ y.code, i.l.length < 1099511627776) (H : List Blk) :
    ACall Tryd.prog G 61 [.agg x.cells, .agg y.cells] H (fun r H' => H' = H ∧ r = .bool (funE x y)) := by
  have hno : x ≠ y → funE x y = false := fun e => by rw [← Bool.not_eq_true, funE_iff]; exact e
  have hyes : x = y → funE x y = true := fun e => (funE_iff x y).2 e
  generalize funE x y = v at *
  obtain ⟨na1, t1, u1, a1, b1, d1, l1⟩ := x
  obtain ⟨na2, t2, u2, a2, b2, d2, l2⟩ := y
  simp only [Fun.cells]
  simp only [Fun.mk.injEq, ne_eq] at hx hy hno hyes
  obtain ⟨hx1, hx2⟩ := hx
  obtain ⟨hy1, hy2⟩ := hy
  have hux := insL_under H.length l1
  have huy := insL_under H.length l2
  have hl1 := insL_len l1
  have hl2 := insL_len l2
  refine ACall.of_go TB [] tabOK _ Tryd.func61 rfl (by decide) Tryd.ntmps61 (by simp) rfl (by simp only [initEnv, Nat.reduceAdd]; rfl) fun C R' hR hC hcl hB => ?_; have X := noX; have hC' := congrArg List.length hC
  have X := And.intro X (And.intro hl1 hl2)
  (refine run ?_; repeat' (first | with_reducible exact trivial | ((with_reducible apply Fork.mk) <;> intro hb) | with_reducible apply Two.mk))
  · refine finS hR hC' hcl (.same _ rfl) ⟨rfl, ?_⟩
    rw [hno (fun e => by
      obtain ⟨rfl, rfl, rfl, rfl, rfl, rfl, rfl⟩ := e
      simp at hb)]
    rfl
  have hf : (na1 = na2 ∧ t1 = t2 ∧ u1 = u2 ∧ a1 = a2 ∧ b1 = b2 ∧ d1 = d2) ∧ l1.length = l2.length := by
    simp only [Bool.or_eq_false_iff, decide_eq_false_iff_not, Decidable.not_not, Bool.not_eq_false', bne_eq_false_iff_eq, Int.ofNat_inj] at hb
    simpa [and_assoc] using hb
  obtain ⟨hf1, hfl⟩ := hf
  clear hb
  refine go_loop (fun k : Nat => [(2, .ptr H.length 0 0 0), (3, .ptr (H.length + 1) 0 0 0), (5, .int .i64 k)]) (fun _ => H ++ [.cells 0 7 [.agg [.str na1, .bool t1, .bool u1, .int .i64 a1, .int .i64 b1, .int .i64 d1, .list 6 (insL l1)]], .cells 0 7 [.agg [.str na2, .bool t2, .bool u2, .int .i64 a2, .int .i64 b2, .int .i64 d2, .list 6 (insL l2)]]]) (fun k => l1.length - k) (fun k => k ≤ l1.length ∧ l1.take k = l2.take k) 0 ⟨Nat.zero_le _, rfl⟩ (Wk.sub (by simp [subEnv, look])) ?_
  rintro K k ⟨hk, hp⟩ hK
  rcases Nat.lt_or_ge k l1.length with hlt | hge
  · have hlt2 : k < l2.length := by omega
    have e1 : (insL l1)[k]? = some (.agg l1[k].cells) := by simp [insL, hlt]
    have e2 : (insL l2)[k]? = some (.agg l2[k].cells) := by simp [insL, hlt2]
    have hs := take_ext hlt hlt2 hp
    have hd : l1[k] ≠ l2[k] → l1 ≠ l2 := fun h e => h (by subst e; rfl)
    have k1 := hx2 _ (List.getElem_mem hlt)
    have k2 := hy2 _ (List.getElem_mem hlt2)
    generalize l1[k] = x at *
    generalize l2[k] = y at *
    obtain ⟨o1, p1, q1, r1, n1, m1⟩ := x
    obtain ⟨o2, p2, q2, r2, n2, m2⟩ := y
    simp only [Ins.cells] at e1 e2
    simp only [Ins.mk.injEq, ne_eq] at k1 k2 hd hs
    have c1 := fun H => rints_ok G hG m1 m2 k1 k2 H
    have hmE := eqL_eq intE_iff m1 m2
    generalize eqL intE m1 m2 = w at *
    have X := And.intro noX (And.intro hl1 (And.intro hl2 (And.intro e1 e2)))
    (refine run ?_; repeat' (first | with_reducible exact trivial | ((with_reducible apply Fork.mk) <;> intro hb) | with_reducible apply Two.mk))
    · refine finS hR hC' hcl (.same _ rfl) ⟨rfl, ?_⟩
      rw [hno (fun e => hd (fun q => by
        obtain ⟨rfl, rfl, rfl, rfl, rfl, rfl⟩ := q
        simp at hb) e.2.2.2.2.2.2)]
      rfl
    · refine finS hR hC' hcl (.same _ rfl) ⟨rfl, ?_⟩
      rw [hno (fun e => hd (fun q => by
        rw [hmE.2 q.2.2.2.2.2] at hb
        cases hb) e.2.2.2.2.2.2)]
      rfl
    · rename_i hb1
      have q1 : o1 = o2 ∧ p1 = p2 ∧ q1 = q2 ∧ r1 = r2 ∧ n1 = n2 := by simpa [and_assoc] using hb1
      have q2 := hmE.1 (by simpa using hb)
      refine hK _ _ (k + 1) (by omega) ⟨by omega, hs ⟨q1.1, q1.2.1, q1.2.2.1, q1.2.2.2.1, q1.2.2.2.2, q2⟩⟩ ?_
      exact wkS (n0 := H.length) [(H.length, 0), (H.length + 1, 0)] hG hB hC' hcl (hk := keepC (g := 0) H.length (by simp) (Nat.le_refl _) (by simp only [SV.underL, SV.under, hux, Bool.and_self]) (keepC (g := 0) (H.length + 1) (by simp) (by omega) (by simp only [SV.underL, SV.under, huy, Bool.and_self]) .nil))
  have : k = l1.length := by omega
  subst this
  clear hK
  have X := And.intro noX (And.intro hl1 (And.intro hl2 (Int.lt_irrefl (l1.length : Int))))
  (refine run ?_; repeat' (first | with_reducible exact trivial | ((with_reducible apply Fork.mk) <;> intro hb) | with_reducible apply Two.mk))
  refine finS hR hC' hcl (.same _ rfl) ⟨rfl, ?_⟩
  rw [hyes ⟨hf1.1, hf1.2.1, hf1.2.2.1, hf1.2.2.2.1, hf1.2.2.2.2.1, hf1.2.2.2.2.2, by rw [List.take_length, hfl, List.take_length] at hp; exact hp⟩]
  rfl
end Go.Proofs.YtihhngjoecgkpaaDoor
end

section
namespace Go.Proofs.YtihhngjoecgkpaaDoor
open Go
set_option linter.unusedSimpArgs false
set_option linter.unusedVariables false
set_option maxRecDepth 10000
set_option maxHeartbeats 4000000
set_option pp.deepTerms true
set_option pp.maxSteps 100000

theorem rsame_ok (G : Gl) (hG : GClosed G) (x y : Img) (hx : ImgB x) (hy : ImgB y) (H : List Blk) :
    ACall Tryd.prog G 17 [.agg x.cells, .agg y.cells] H (fun r H' => H' = H ∧ r = .bool (imgE x y)) := by
  have hno : x ≠ y → imgE x y = false := fun e => by rw [← Bool.not_eq_true, imgE_iff]; exact e
  have hyes : x = y → imgE x y = true := fun e => (imgE_iff x y).2 e
  have hx1 := hx.c
  have hx2 := hx.f
  have hx3 := hx.g
  have hy1 := hy.c
  have hy2 := hy.f
  have hy3 := hy.g
  have hxc := hx.code
  have hyc := hy.code
  have hxa := hx.args
  have hya := hy.args
  clear hx hy
  generalize imgE x y = v at *
  have hux := Img.cells_under H.length x
  have huy := Img.cells_under H.length y
  have lx : x.cells.length = 4 := rfl
  have ly : y.cells.length = 4 := rfl
  have gx0 : x.cells[0]? = some (.list 4 (consL x.cons)) := rfl
  have gx1 : x.cells[1]? = some (.list 7 (funsL x.funcs)) := rfl
  have gx2 : x.cells[2]? = some (.list 3 (glbsL x.globals)) := rfl
  have gx3 : x.cells[3]? = some (.int .i64 x.main) := rfl
  have gy0 : y.cells[0]? = some (.list 4 (consL y.cons)) := rfl
  have gy1 : y.cells[1]? = some (.list 7 (funsL y.funcs)) := rfl
  have gy2 : y.cells[2]? = some (.list 3 (glbsL y.globals)) := rfl
  have gy3 : y.cells[3]? = some (.int .i64 y.main) := rfl
  generalize x.cells = mx at *
  generalize y.cells = my at *
  obtain ⟨xc, xf, xg, xm⟩ := x
  obtain ⟨yc, yf, yg, ym⟩ := y
  simp only [Img.mk.injEq, ne_eq] at *
  have lxc := consL_len xc
  have lyc := consL_len yc
  have lxf := funsL_len xf
  have lyf := funsL_len yf
  have lxg : (glbsL xg).length = xg.length := by simp [glbsL]
  have lyg : (glbsL yg).length = yg.length := by simp [glbsL]
  refine ACall.of_go TB [] tabOK _ Tryd.func17 rfl (by decide) Tryd.ntmps17 (by simp) rfl (by simp only [initEnv, Nat.reduceAdd]; rfl) fun C R' hR hC hcl hB => ?_; have X := noX; have hC' := congrArg List.length hC
  have X0 := And.intro lx (And.intro ly (And.intro gx0 (And.intro gx1 (And.intro gx2 (And.intro gx3 (And.intro gy0 (And.intro gy1 (And.intro gy2 gy3))))))))
  have X := And.intro X0 (And.intro lxc (And.intro lyc (And.intro lxf (And.intro lyf (And.intro lxg lyg)))))
  (refine run ?_; repeat' (first | with_reducible exact trivial | ((with_reducible apply Fork.mk) <;> intro hb) | with_reducible apply Two.mk))
  · refine finS hR hC' hcl (.same _ rfl) ⟨rfl, ?_⟩
    rw [hno (fun e => by
      obtain ⟨rfl, rfl, rfl, rfl⟩ := e
      simp at hb)]
    rfl
  have hf : (xc.length = yc.length ∧ xf.length = yf.length ∧ xg.length = yg.length) ∧ xm = ym := by
    simp only [Bool.or_eq_false_iff, decide_eq_false_iff_not, Decidable.not_not, Int.ofNat_inj] at hb
    simpa [and_assoc] using hb
  obtain ⟨⟨q1, q2, q3⟩, q4⟩ := hf
  clear hb
  refine go_loop (fun k : Nat => [(2, .ptr H.length 0 0 0), (3, .ptr (H.length + 1) 0 0 0), (5, .int .i64 k)]) (fun _ => H ++ [.cells 0 4 [.agg mx], .cells 0 4 [.agg my]]) (fun k => xc.length - k) (fun k => k ≤ xc.length ∧ xc.take k = yc.take k) 0 ⟨Nat.zero_le _, rfl⟩ (by
    exact wkS (n0 := H.length) [(H.length, 0), (H.length + 1, 0)] hG hB hC' hcl (hk := keepC (g := 0) H.length (by simp) (Nat.le_refl _) (by simp only [SV.underL, SV.under, hux, Bool.and_self]) (keepC (g := 0) (H.length + 1) (by simp) (by omega) (by simp only [SV.underL, SV.under, huy, Bool.and_self]) .nil))) ?_
  rintro K k ⟨hk, hp⟩ hK
  rcases Nat.lt_or_ge k xc.length with hlt | hge
  · have hlt2 : k < yc.length := by omega
    have e1 : (consL xc)[k]? = some (.agg xc[k].cells) := by simp [consL, hlt]
    have e2 : (consL yc)[k]? = some (.agg yc[k].cells) := by simp [consL, hlt2]
    have hs := take_ext hlt hlt2 hp
    have hd : xc[k] ≠ yc[k] → xc ≠ yc := fun h e => h (by subst e; rfl)
    generalize xc[k] = x at *
    generalize yc[k] = y at *
    obtain ⟨o1, p1, q1, r1⟩ := x
    obtain ⟨o2, p2, q2, r2⟩ := y
    simp only [Con.cells] at e1 e2
    simp only [Con.mk.injEq, ne_eq] at hd hs
    have X := And.intro X0 (And.intro lxc (And.intro lyc (And.intro e1 e2)))
    (refine run ?_; repeat' (first | with_reducible exact trivial | ((with_reducible apply Fork.mk) <;> intro hb) | with_reducible apply Two.mk))
    · refine finS hR hC' hcl (.same _ rfl) ⟨rfl, ?_⟩
      rw [hno (fun e => hd (fun q => by
        obtain ⟨rfl, rfl, rfl, rfl⟩ := q
        simp at hb) e.1)]
      rfl
    · have q5 : o1 = o2 ∧ p1 = p2 ∧ q1 = q2 ∧ r1 = r2 := by simpa [and_assoc] using hb
      refine hK _ _ (k + 1) (by omega) ⟨by omega, hs q5⟩ ?_
      exact wkS (n0 := H.length) [(H.length, 0), (H.length + 1, 0)] hG hB hC' hcl (hk := keepC (g := 0) H.length (by simp) (Nat.le_refl _) (by simp only [SV.underL, SV.under, hux, Bool.and_self]) (keepC (g := 0) (H.length + 1) (by simp) (by omega) (by simp only [SV.underL, SV.under, huy, Bool.and_self]) .nil))
  have : k = xc.length := by omega
  subst this
  have hpc : xc = yc := by rw [List.take_length, q1, List.take_length] at hp; exact hp
  clear hK hp
  have X := And.intro X0 (And.intro lxc (And.intro lyc (Int.lt_irrefl (xc.length : Int))))
  (refine run ?_; repeat' (first | with_reducible exact trivial | ((with_reducible apply Fork.mk) <;> intro hb) | with_reducible apply Two.mk))
  refine go_loop (fun k : Nat => [(2, .ptr H.length 0 0 0), (3, .ptr (H.length + 1) 0 0 0), (6, .int .i64 k)]) (fun _ => H ++ [.cells 0 4 [.agg mx], .cells 0 4 [.agg my]]) (fun k => xf.length - k) (fun k => k ≤ xf.length ∧ xf.take k = yf.take k) 0 ⟨Nat.zero_le _, rfl⟩ (by
    exact wkS (n0 := H.length) [(H.length, 0), (H.length + 1, 0)] hG hB hC' hcl (hk := keepC (g := 0) H.length (by simp) (Nat.le_refl _) (by simp only [SV.underL, SV.under, hux, Bool.and_self]) (keepC (g := 0) (H.length + 1) (by simp) (by omega) (by simp only [SV.underL, SV.under, huy, Bool.and_self]) .nil))) ?_
  rintro K k ⟨hk, hp⟩ hK
  rcases Nat.lt_or_ge k xf.length with hlt | hge
  · have hlt2 : k < yf.length := by omega
    have e1 : (funsL xf)[k]? = some (.agg xf[k].cells) := by simp [funsL, hlt]
    have e2 : (funsL yf)[k]? = some (.agg yf[k].cells) := by simp [funsL, hlt2]
    have hs := take_ext hlt hlt2 hp
    have hd : xf[k] ≠ yf[k] → ¬ xf = yf := fun h e => h (by subst e; rfl)
    have c1 := fun H => rsfun_ok G hG xf[k] yf[k] (hxc _ (List.getElem_mem hlt)) (hyc _ (List.getElem_mem hlt2)) H
    have hfE := funE_iff xf[k] yf[k]
    have hcx := Fun.cells_len xf[k]
    have hcy := Fun.cells_len yf[k]
    generalize xf[k] = x at *
    generalize yf[k] = y at *
    generalize funE x y = w at *
    generalize x.cells = cx at *
    generalize y.cells = cy at *
    have X := And.intro X0 (And.intro lxf (And.intro lyf (And.intro e1 (And.intro e2 (And.intro hcx hcy)))))
    (refine run ?_; repeat' (first | with_reducible exact trivial | ((with_reducible apply Fork.mk) <;> intro hb) | with_reducible apply Two.mk))
    · refine finS hR hC' hcl (.same _ rfl) ⟨rfl, ?_⟩
      rw [hno (fun e => hd (fun q => by
        rw [hfE.2 q] at hb
        cases hb) e.2.1)]
      rfl
    · refine hK _ _ (k + 1) (by omega) ⟨by omega, hs (hfE.1 (by simpa using hb))⟩ ?_
      exact wkS (n0 := H.length) [(H.length, 0), (H.length + 1, 0)] hG hB hC' hcl (hk := keepC (g := 0) H.length (by simp) (Nat.le_refl _) (by simp only [SV.underL, SV.under, hux, Bool.and_self]) (keepC (g := 0) (H.length + 1) (by simp) (by omega) (by simp only [SV.underL, SV.under, huy, Bool.and_self]) .nil))
  have : k = xf.length := by omega
  subst this
  have hpf : xf = yf := by rw [List.take_length, q2, List.take_length] at hp; exact hp
  clear hK hp
  have X := And.intro X0 (And.intro lxf (And.intro lyf (Int.lt_irrefl (xf.length : Int))))
  (refine run ?_; repeat' (first | with_reducible exact trivial | ((with_reducible apply Fork.mk) <;> intro hb) | with_reducible apply Two.mk))
  refine go_loop (fun k : Nat => [(2, .ptr H.length 0 0 0), (3, .ptr (H.length + 1) 0 0 0), (7, .int .i64 k)]) (fun _ => H ++ [.cells 0 4 [.agg mx], .cells 0 4 [.agg my]]) (fun k => xg.length - k) (fun k => k ≤ xg.length ∧ xg.take k = yg.take k) 0 ⟨Nat.zero_le _, rfl⟩ (by
    exact wkS (n0 := H.length) [(H.length, 0), (H.length + 1, 0)] hG hB hC' hcl (hk := keepC (g := 0) H.length (by simp) (Nat.le_refl _) (by simp only [SV.underL, SV.under, hux, Bool.and_self]) (keepC (g := 0) (H.length + 1) (by simp) (by omega) (by simp only [SV.underL, SV.under, huy, Bool.and_self]) .nil))) ?_
  rintro K k ⟨hk, hp⟩ hK
  rcases Nat.lt_or_ge k xg.length with hlt | hge
  · have hlt2 : k < yg.length := by omega
    have e1 : (glbsL xg)[k]? = some (.agg xg[k].cells) := by simp [glbsL, hlt]
    have e2 : (glbsL yg)[k]? = some (.agg yg[k].cells) := by simp [glbsL, hlt2]
    have hs := take_ext hlt hlt2 hp
    have hd : xg[k] ≠ yg[k] → ¬ xg = yg := fun h e => h (by subst e; rfl)
    have k1 := hxa _ (List.getElem_mem hlt)
    have k2 := hya _ (List.getElem_mem hlt2)
    generalize xg[k] = x at *
    generalize yg[k] = y at *
    obtain ⟨o1, p1, a1⟩ := x
    obtain ⟨o2, p2, a2⟩ := y
    simp only [Glb.cells] at e1 e2
    simp only [Glb.mk.injEq, ne_eq] at k1 k2 hd hs
    have la1 : (a1.map encR).length = a1.length := by simp
    have la2 : (a2.map encR).length = a2.length := by simp
    have hvx : SV.underL H.length (a1.map encR) = true := SV.underL_map fun _ _ => rfl
    have hvy : SV.underL H.length (a2.map encR) = true := SV.underL_map fun _ _ => rfl
    have X := And.intro X0 (And.intro lxg (And.intro lyg (And.intro e1 (And.intro e2 (And.intro la1 la2)))))
    (refine run ?_; repeat' (first | with_reducible exact trivial | ((with_reducible apply Fork.mk) <;> intro hb) | with_reducible apply Two.mk))
    · refine finS hR hC' hcl (.same _ rfl) ⟨rfl, ?_⟩
      rw [hno (fun e => hd (fun q => by
        obtain ⟨rfl, rfl, rfl⟩ := q
        simp at hb) e.2.2.1)]
      rfl
    have q5 : o1 = o2 ∧ p1 = p2 ∧ a1.length = a2.length := by
      simp only [Bool.or_eq_false_iff, decide_eq_false_iff_not, Decidable.not_not, Int.ofNat_inj] at hb
      simpa [and_assoc] using hb
    obtain ⟨r1, r2, r3⟩ := q5
    refine go_loop (fun j : Nat => [(2, .ptr H.length 0 0 0), (3, .ptr (H.length + 1) 0 0 0), (7, .int .i64 k), (8, .ptr (H.length + 2) 0 0 0), (9, .ptr (H.length + 3) 0 0 0), (10, .int .i64 j)]) (fun _ => H ++ [.cells 0 4 [.agg mx], .cells 0 4 [.agg my], .cells 0 3 [.agg [.int .i64 o1, .int .i64 p1, .list 2 (a1.map encR)]], .cells 0 3 [.agg [.int .i64 o2, .int .i64 p2, .list 2 (a2.map encR)]]]) (fun j => a1.length - j) (fun j => j ≤ a1.length ∧ a1.take j = a2.take j) 0 ⟨Nat.zero_le _, rfl⟩ (Wk.sub (by simp [subEnv, look])) ?_
    rintro K2 j ⟨hj, hp2⟩ hK2
    rcases Nat.lt_or_ge j a1.length with hjt | hjg
    · have hjt2 : j < a2.length := by omega
      have f1 : (a1.map encR)[j]? = some (encR a1[j]) := by simp [hjt]
      have f2 : (a2.map encR)[j]? = some (encR a2[j]) := by simp [hjt2]
      have hs2 := take_ext hjt hjt2 hp2
      have hd2 : a1[j] ≠ a2[j] → ¬ a1 = a2 := fun h e => h (by subst e; rfl)
      generalize a1[j] = x at *
      generalize a2[j] = y at *
      obtain ⟨u1, u2⟩ := x
      obtain ⟨w1, w2⟩ := y
      simp only [encR] at f1 f2
      simp only [Prod.mk.injEq, ne_eq] at hd2 hs2
      have X := And.intro X0 (And.intro f1 (And.intro f2 (And.intro la1 la2)))
      (refine run ?_; repeat' (first | with_reducible exact trivial | ((with_reducible apply Fork.mk) <;> intro hb) | with_reducible apply Two.mk))
      · refine finS hR hC' hcl (.same _ rfl) ⟨rfl, ?_⟩
        rw [hno (fun e => hd (fun q => hd2 (fun q => by
          obtain ⟨rfl, rfl⟩ := q
          simp at hb) q.2.2) e.2.2.1)]
        rfl
      · have q5 : u1 = w1 ∧ u2 = w2 := by simpa [and_assoc] using hb
        exact hK2 _ _ (j + 1) (by omega) ⟨by omega, hs2 q5⟩ (Wk.sub (by simp [subEnv, look]))
    have : j = a1.length := by omega
    subst this
    have hpa : a1 = a2 := by rw [List.take_length, r3, List.take_length] at hp2; exact hp2
    clear hK2 hp2
    have X := And.intro X0 (And.intro la1 (And.intro la2 (Int.lt_irrefl (a1.length : Int))))
    (refine run ?_; repeat' (first | with_reducible exact trivial | ((with_reducible apply Fork.mk) <;> intro hb) | with_reducible apply Two.mk))
    refine hK _ _ (k + 1) (by omega) ⟨by omega, hs ⟨r1, r2, hpa⟩⟩ ?_
    exact wkS (n0 := H.length) [(H.length, 0), (H.length + 1, 0)] hG hB hC' hcl (hk := keepC (g := 0) H.length (by simp) (Nat.le_refl _) (by simp only [SV.underL, SV.under, hux, Bool.and_self]) (keepC (g := 0) (H.length + 1) (by simp) (by omega) (by simp only [SV.underL, SV.under, huy, Bool.and_self]) .nil))
  have : k = xg.length := by omega
  subst this
  have hpg : xg = yg := by rw [List.take_length, q3, List.take_length] at hp; exact hp
  clear hK hp
  have X := And.intro X0 (And.intro lxg (And.intro lyg (Int.lt_irrefl (xg.length : Int))))
  (refine run ?_; repeat' (first | with_reducible exact trivial | ((with_reducible apply Fork.mk) <;> intro hb) | with_reducible apply Two.mk))
  refine finS hR hC' hcl (.same _ rfl) ⟨rfl, ?_⟩
  rw [hyes ⟨hpc, hpf, hpg, q4⟩]
  rfl
end Go.Proofs.YtihhngjoecgkpaaDoor
end
