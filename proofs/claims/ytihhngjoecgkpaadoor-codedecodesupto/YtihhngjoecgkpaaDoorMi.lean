/- A part of the proof: C9, C10, P5, P6, C11, X1, C12. -/
import Derived.Test.YtihhngjoecgkpaaDoorMh
import Derived.Test.YtihhngjoecgkpaaDoorCards
import Derived.Test.YtihhngjoecgkpaaDoorTie
import Derived.Deep.DeepHandedRow
import Derived.Lib.LaidTab

section
namespace Go.Proofs.YtihhngjoecgkpaaDoor
open Go
set_option linter.unusedSimpArgs false
set_option linter.unusedVariables false
set_option maxRecDepth 10000
set_option maxHeartbeats 4000000

/-! ### lists alike (printed by py/eqf.py) -/
def eqL {α : Type} (p : α → α → Bool) : List α → List α → Bool
  | [], [] => true
  | x :: a, y :: b => p x y && eqL p a b
  | _, _ => false
theorem eqL_iff {α : Type} (p : α → α → Bool) : ∀ (a b : List α), eqL p a b = true ↔ a.length = b.length ∧ ∀ i (h : i < a.length) (h' : i < b.length), p a[i] b[i] = true
  | [], [] => by simp [eqL]
  | [], y :: b => by simp [eqL]
  | x :: a, [] => by simp [eqL]
  | x :: a, y :: b => by
    simp only [eqL, Bool.and_eq_true, eqL_iff p a b, List.length_cons, Nat.add_right_cancel_iff]
    constructor
    · rintro ⟨h1, h2, h3⟩
      refine ⟨h2, fun i h h' => ?_⟩
      cases i with
      | zero => exact h1
      | succ i => exact h3 i (by omega) (by omega)
    · rintro ⟨h1, h2⟩
      exact ⟨h2 0 (by omega) (by omega), h1, fun i h h' => h2 (i + 1) (by omega) (by omega)⟩
theorem eqL_no {α : Type} {p : α → α → Bool} {a b : List α} (h : a.length ≠ b.length) : eqL p a b = false := by
  rw [← Bool.not_eq_true, eqL_iff]; exact fun k => h k.1
theorem eqL_at {α : Type} {p : α → α → Bool} {a b : List α} {i : Nat} (h : i < a.length) (h' : i < b.length) (k : p a[i] b[i] = false) : eqL p a b = false := by
  rw [← Bool.not_eq_true, eqL_iff]; exact fun q => by have := q.2 i h h'; rw [k] at this; cases this
theorem eqL_eq {α : Type} {p : α → α → Bool} (hp : ∀ x y, p x y = true ↔ x = y) : ∀ (a b : List α), eqL p a b = true ↔ a = b
  | [], [] => by simp [eqL]
  | [], y :: b => by simp [eqL]
  | x :: a, [] => by simp [eqL]
  | x :: a, y :: b => by simp [eqL, hp, eqL_eq hp a b]
def intE (x y : Int) : Bool := decide (x = y)
def refE (x y : Int × Int) : Bool := decide (x.1 = y.1) && decide (x.2 = y.2)
def conE (x y : Con) : Bool := decide (x.name = y.name) && (decide (x.arity = y.arity) && (decide (x.tag = y.tag) && decide (x.family = y.family)))
theorem eqInts_ok (G : Gl) (hG : GClosed G) (a b : List (Int)) (ha : a.length < 1125899906842624) (hb0 : b.length < 1125899906842624) (H : List Blk) :
    ACall Tryd.prog G 38 [.list 1 (a.map (SV.int .i64)), .list 1 (b.map (SV.int .i64))] H (fun r H' => H' = H ∧ r = .bool (eqL intE a b)) := by
  have h1 : (a.map (SV.int .i64)).length = a.length := by simp
  have h2 : (b.map (SV.int .i64)).length = b.length := by simp
  have hA1 : ∀ k : Nat, (a.map (SV.int .i64))[k]? = a[k]?.map (SV.int .i64) := fun k => List.getElem?_map ..
  have hB1 : ∀ k : Nat, (b.map (SV.int .i64))[k]? = b[k]?.map (SV.int .i64) := fun k => List.getElem?_map ..
  have hu1 : SV.underL H.length (a.map (SV.int .i64)) = true := SV.underL_map fun _ _ => rfl
  have hu2 : SV.underL H.length (b.map (SV.int .i64)) = true := SV.underL_map fun _ _ => rfl
  generalize a.map (SV.int .i64) = A at *
  generalize b.map (SV.int .i64) = B at *
  refine ACall.of_go TB [] tabOK _ Tryd.func38 rfl (by decide) Tryd.ntmps38 (by simp) rfl (by simp only [initEnv, Nat.reduceAdd]; rfl) fun C R' hR hC hcl hB => ?_; have X := noX; have hC' := congrArg List.length hC
  have X := And.intro X (And.intro h1 h2)
  by_cases hl : a.length = b.length
  · have hln : ((a.length : Int) = (b.length : Int)) = True := by simp [hl]
    have X := And.intro X hln
    (refine run ?_; repeat' (first | with_reducible exact trivial | ((with_reducible apply Fork.mk) <;> intro hb) | with_reducible apply Two.mk))
    clear X
    refine go_loop (fun k : Nat => [(0, .list 1 A), (1, .list 1 B), (12, .int .i64 a.length), (13, .int .i64 k)]) (fun _ => H) (fun k => a.length - k) (fun k => k ≤ a.length ∧ ∀ i (h : i < a.length) (h' : i < b.length), i < k → intE a[i] b[i] = true) 0 ⟨Nat.zero_le _, fun i _ _ h => by omega⟩ (Wk.sub (by simp [subEnv, look])) ?_
    rintro K k ⟨hk, hall⟩ hK
    rcases Nat.lt_or_ge k a.length with hlt | hge
    · have hlt2 : k < b.length := by omega
      have e1 : A[k]? = some ((SV.int .i64) a[k]) := by rw [hA1, List.getElem?_eq_getElem hlt]; rfl
      have e2 : B[k]? = some ((SV.int .i64) b[k]) := by rw [hB1, List.getElem?_eq_getElem hlt2]; rfl
      have hno := eqL_at (p := intE) hlt hlt2
      have hyes : intE a[k] b[k] = true → ∀ i (h : i < a.length) (h' : i < b.length), i < k + 1 → intE a[i] b[i] = true := fun h i hi hi' hik => by
        rcases Nat.lt_or_ge i k with h3 | h3
        · exact hall i hi hi' h3
        · have : i = k := by omega
          subst this; exact h
      generalize a[k] = x at *
      generalize b[k] = y at *
      simp only [intE] at hno hyes
      have X := And.intro noX (And.intro h1 (And.intro h2 (And.intro e1 e2)))
      (refine run ?_; repeat' (first | with_reducible exact trivial | ((with_reducible apply Fork.mk) <;> intro hb) | with_reducible apply Two.mk))
      · refine Fin.out hR ⟨rfl, ?_⟩
        rw [hno (by first | (simpa using hb) | (revert hb; simp; done) | (cases h1 : decide (x1 = y1) <;> cases h2 : decide (x2 = y2) <;> simp_all; done) | (cases h1 : decide (x1 = y1) <;> cases h2 : decide (x2 = y2) <;> cases h3 : decide (x3 = y3) <;> cases h4 : decide (x4 = y4) <;> simp_all))]; rfl
      · exact hK _ _ (k + 1) (by omega) ⟨by omega, hyes (by first | (simpa using hb) | (revert hb; simp; done) | (cases h1 : decide (x1 = y1) <;> cases h2 : decide (x2 = y2) <;> simp_all; done) | (cases h1 : decide (x1 = y1) <;> cases h2 : decide (x2 = y2) <;> cases h3 : decide (x3 = y3) <;> cases h4 : decide (x4 = y4) <;> simp_all))⟩ (Wk.sub (by simp [subEnv, look]))
    · have : k = a.length := by omega
      subst this
      have X := And.intro noX (Int.lt_irrefl (a.length : Int))
      (refine run ?_; repeat' (first | with_reducible exact trivial | ((with_reducible apply Fork.mk) <;> intro hb) | with_reducible apply Two.mk))
      refine Fin.out hR ⟨rfl, ?_⟩
      rw [(eqL_iff intE a b).2 ⟨hl, fun i h h' => hall i h h' h⟩]; rfl
  · have hln : ((a.length : Int) = (b.length : Int)) = False := by simp; omega
    have X := And.intro X hln
    (refine run ?_; repeat' (first | with_reducible exact trivial | ((with_reducible apply Fork.mk) <;> intro hb) | with_reducible apply Two.mk))
    refine Fin.out hR ⟨rfl, ?_⟩
    rw [eqL_no hl]; rfl
theorem eqRefs_ok (G : Gl) (hG : GClosed G) (a b : List (Int × Int)) (ha : a.length < 1125899906842624) (hb0 : b.length < 1125899906842624) (H : List Blk) :
    ACall Tryd.prog G 42 [.list 2 (a.map encR), .list 2 (b.map encR)] H (fun r H' => H' = H ∧ r = .bool (eqL refE a b)) := by
  have h1 : (a.map encR).length = a.length := by simp
  have h2 : (b.map encR).length = b.length := by simp
  have hA1 : ∀ k : Nat, (a.map encR)[k]? = a[k]?.map encR := fun k => List.getElem?_map ..
  have hB1 : ∀ k : Nat, (b.map encR)[k]? = b[k]?.map encR := fun k => List.getElem?_map ..
  have hu1 : SV.underL H.length (a.map encR) = true := SV.underL_map fun _ _ => rfl
  have hu2 : SV.underL H.length (b.map encR) = true := SV.underL_map fun _ _ => rfl
  generalize a.map encR = A at *
  generalize b.map encR = B at *
  refine ACall.of_go TB [] tabOK _ Tryd.func42 rfl (by decide) Tryd.ntmps42 (by simp) rfl (by simp only [initEnv, Nat.reduceAdd]; rfl) fun C R' hR hC hcl hB => ?_; have X := noX; have hC' := congrArg List.length hC
  have X := And.intro X (And.intro h1 h2)
  by_cases hl : a.length = b.length
  · have hln : ((a.length : Int) = (b.length : Int)) = True := by simp [hl]
    have X := And.intro X hln
    (refine run ?_; repeat' (first | with_reducible exact trivial | ((with_reducible apply Fork.mk) <;> intro hb) | with_reducible apply Two.mk))
    clear X
    refine go_loop (fun k : Nat => [(0, .list 2 A), (1, .list 2 B), (12, .int .i64 a.length), (13, .int .i64 k)]) (fun _ => H) (fun k => a.length - k) (fun k => k ≤ a.length ∧ ∀ i (h : i < a.length) (h' : i < b.length), i < k → refE a[i] b[i] = true) 0 ⟨Nat.zero_le _, fun i _ _ h => by omega⟩ (Wk.sub (by simp [subEnv, look])) ?_
    rintro K k ⟨hk, hall⟩ hK
    rcases Nat.lt_or_ge k a.length with hlt | hge
    · have hlt2 : k < b.length := by omega
      have e1 : A[k]? = some (encR a[k]) := by rw [hA1, List.getElem?_eq_getElem hlt]; rfl
      have e2 : B[k]? = some (encR b[k]) := by rw [hB1, List.getElem?_eq_getElem hlt2]; rfl
      have hno := eqL_at (p := refE) hlt hlt2
      have hyes : refE a[k] b[k] = true → ∀ i (h : i < a.length) (h' : i < b.length), i < k + 1 → refE a[i] b[i] = true := fun h i hi hi' hik => by
        rcases Nat.lt_or_ge i k with h3 | h3
        · exact hall i hi hi' h3
        · have : i = k := by omega
          subst this; exact h
      generalize a[k] = x at *
      generalize b[k] = y at *
      simp only [refE] at hno hyes
      obtain ⟨x1, x2⟩ := x
      obtain ⟨y1, y2⟩ := y
      simp only [encR] at e1 e2 hno hyes
      have X := And.intro noX (And.intro h1 (And.intro h2 (And.intro e1 e2)))
      (refine run ?_; repeat' (first | with_reducible exact trivial | ((with_reducible apply Fork.mk) <;> intro hb) | with_reducible apply Two.mk))
      · refine Fin.out hR ⟨rfl, ?_⟩
        rw [hno (by first | (simpa using hb) | (revert hb; simp; done) | (cases h1 : decide (x1 = y1) <;> cases h2 : decide (x2 = y2) <;> simp_all; done) | (cases h1 : decide (x1 = y1) <;> cases h2 : decide (x2 = y2) <;> cases h3 : decide (x3 = y3) <;> cases h4 : decide (x4 = y4) <;> simp_all))]; rfl
      · exact hK _ _ (k + 1) (by omega) ⟨by omega, hyes (by first | (simpa using hb) | (revert hb; simp; done) | (cases h1 : decide (x1 = y1) <;> cases h2 : decide (x2 = y2) <;> simp_all; done) | (cases h1 : decide (x1 = y1) <;> cases h2 : decide (x2 = y2) <;> cases h3 : decide (x3 = y3) <;> cases h4 : decide (x4 = y4) <;> simp_all))⟩ (Wk.sub (by simp [subEnv, look]))
    · have : k = a.length := by omega
      subst this
      have X := And.intro noX (Int.lt_irrefl (a.length : Int))
      (refine run ?_; repeat' (first | with_reducible exact trivial | ((with_reducible apply Fork.mk) <;> intro hb) | with_reducible apply Two.mk))
      refine Fin.out hR ⟨rfl, ?_⟩
      rw [(eqL_iff refE a b).2 ⟨hl, fun i h h' => hall i h h' h⟩]; rfl
  · have hln : ((a.length : Int) = (b.length : Int)) = False := by simp; omega
    have X := And.intro X hln
    (refine run ?_; repeat' (first | with_reducible exact trivial | ((with_reducible apply Fork.mk) <;> intro hb) | with_reducible apply Two.mk))
    refine Fin.out hR ⟨rfl, ?_⟩
    rw [eqL_no hl]; rfl
theorem eqCons_ok (G : Gl) (hG : GClosed G) (a b : List (Con)) (ha : a.length < 1125899906842624) (hb0 : b.length < 1125899906842624) (H : List Blk) :
    ACall Tryd.prog G 43 [.list 4 (a.map (fun c : Con => SV.agg c.cells)), .list 4 (b.map (fun c : Con => SV.agg c.cells))] H (fun r H' => H' = H ∧ r = .bool (eqL conE a b)) := by
  have h1 : (a.map (fun c : Con => SV.agg c.cells)).length = a.length := by simp
  have h2 : (b.map (fun c : Con => SV.agg c.cells)).length = b.length := by simp
  have hA1 : ∀ k : Nat, (a.map (fun c : Con => SV.agg c.cells))[k]? = a[k]?.map (fun c : Con => SV.agg c.cells) := fun k => List.getElem?_map ..
  have hB1 : ∀ k : Nat, (b.map (fun c : Con => SV.agg c.cells))[k]? = b[k]?.map (fun c : Con => SV.agg c.cells) := fun k => List.getElem?_map ..
  have hu1 : SV.underL H.length (a.map (fun c : Con => SV.agg c.cells)) = true := SV.underL_map fun _ _ => rfl
  have hu2 : SV.underL H.length (b.map (fun c : Con => SV.agg c.cells)) = true := SV.underL_map fun _ _ => rfl
  generalize a.map (fun c : Con => SV.agg c.cells) = A at *
  generalize b.map (fun c : Con => SV.agg c.cells) = B at *
  refine ACall.of_go TB [] tabOK _ Tryd.func43 rfl (by decide) Tryd.ntmps43 (by simp) rfl (by simp only [initEnv, Nat.reduceAdd]; rfl) fun C R' hR hC hcl hB => ?_; have X := noX; have hC' := congrArg List.length hC
  have X := And.intro X (And.intro h1 h2)
  by_cases hl : a.length = b.length
  · have hln : ((a.length : Int) = (b.length : Int)) = True := by simp [hl]
    have X := And.intro X hln
    (refine run ?_; repeat' (first | with_reducible exact trivial | ((with_reducible apply Fork.mk) <;> intro hb) | with_reducible apply Two.mk))
    clear X
    refine go_loop (fun k : Nat => [(0, .list 4 A), (1, .list 4 B), (12, .int .i64 a.length), (13, .int .i64 k)]) (fun _ => H) (fun k => a.length - k) (fun k => k ≤ a.length ∧ ∀ i (h : i < a.length) (h' : i < b.length), i < k → conE a[i] b[i] = true) 0 ⟨Nat.zero_le _, fun i _ _ h => by omega⟩ (Wk.sub (by simp [subEnv, look])) ?_
    rintro K k ⟨hk, hall⟩ hK
    rcases Nat.lt_or_ge k a.length with hlt | hge
    · have hlt2 : k < b.length := by omega
      have e1 : A[k]? = some ((fun c : Con => SV.agg c.cells) a[k]) := by rw [hA1, List.getElem?_eq_getElem hlt]; rfl
      have e2 : B[k]? = some ((fun c : Con => SV.agg c.cells) b[k]) := by rw [hB1, List.getElem?_eq_getElem hlt2]; rfl
      have hno := eqL_at (p := conE) hlt hlt2
      have hyes : conE a[k] b[k] = true → ∀ i (h : i < a.length) (h' : i < b.length), i < k + 1 → conE a[i] b[i] = true := fun h i hi hi' hik => by
        rcases Nat.lt_or_ge i k with h3 | h3
        · exact hall i hi hi' h3
        · have : i = k := by omega
          subst this; exact h
      generalize a[k] = x at *
      generalize b[k] = y at *
      simp only [conE] at hno hyes
      obtain ⟨x1, x2, x3, x4⟩ := x
      obtain ⟨y1, y2, y3, y4⟩ := y
      simp only [Con.cells] at e1 e2 hno hyes
      have X := And.intro noX (And.intro h1 (And.intro h2 (And.intro e1 e2)))
      (refine run ?_; repeat' (first | with_reducible exact trivial | ((with_reducible apply Fork.mk) <;> intro hb) | with_reducible apply Two.mk))
      · refine Fin.out hR ⟨rfl, ?_⟩
        rw [hno (by first | (simpa using hb) | (revert hb; simp; done) | (cases h1 : decide (x1 = y1) <;> cases h2 : decide (x2 = y2) <;> simp_all; done) | (cases h1 : decide (x1 = y1) <;> cases h2 : decide (x2 = y2) <;> cases h3 : decide (x3 = y3) <;> cases h4 : decide (x4 = y4) <;> simp_all))]; rfl
      · exact hK _ _ (k + 1) (by omega) ⟨by omega, hyes (by first | (simpa using hb) | (revert hb; simp; done) | (cases h1 : decide (x1 = y1) <;> cases h2 : decide (x2 = y2) <;> simp_all; done) | (cases h1 : decide (x1 = y1) <;> cases h2 : decide (x2 = y2) <;> cases h3 : decide (x3 = y3) <;> cases h4 : decide (x4 = y4) <;> simp_all))⟩ (Wk.sub (by simp [subEnv, look]))
    · have : k = a.length := by omega
      subst this
      have X := And.intro noX (Int.lt_irrefl (a.length : Int))
      (refine run ?_; repeat' (first | with_reducible exact trivial | ((with_reducible apply Fork.mk) <;> intro hb) | with_reducible apply Two.mk))
      refine Fin.out hR ⟨rfl, ?_⟩
      rw [(eqL_iff conE a b).2 ⟨hl, fun i h h' => hall i h h' h⟩]; rfl
  · have hln : ((a.length : Int) = (b.length : Int)) = False := by simp; omega
    have X := And.intro X hln
    (refine run ?_; repeat' (first | with_reducible exact trivial | ((with_reducible apply Fork.mk) <;> intro hb) | with_reducible apply Two.mk))
    refine Fin.out hR ⟨rfl, ?_⟩
    rw [eqL_no hl]; rfl
theorem eqInsF_ok (G : Gl) (hG : GClosed G) (f : SV) (p : Ins → Ins → Bool) (a b : List Ins) (ha : a.length < 1125899906842624) (hb0 : b.length < 1125899906842624) (H : List Blk)
    (hfu : f.under H.length = true) (hf : ∀ x ∈ a, ∀ y ∈ b, ∀ L, ACallV Tryd.prog G f [(fun i : Ins => SV.agg i.cells) x, (fun i : Ins => SV.agg i.cells) y] (H ++ L) (fun r H' => H' = H ++ L ∧ r = .bool (p x y))) :
    ACall Tryd.prog G 40 [.list 6 (a.map (fun i : Ins => SV.agg i.cells)), .list 6 (b.map (fun i : Ins => SV.agg i.cells)), f] H (fun r H' => H' = H ∧ r = .bool (eqL p a b)) := by
  have h1 : (a.map (fun i : Ins => SV.agg i.cells)).length = a.length := by simp
  have h2 : (b.map (fun i : Ins => SV.agg i.cells)).length = b.length := by simp
  have hu1 : SV.underL H.length (a.map (fun i : Ins => SV.agg i.cells)) = true := SV.underL_map fun i _ => Ins.cells_under _ i
  have hu2 : SV.underL H.length (b.map (fun i : Ins => SV.agg i.cells)) = true := SV.underL_map fun i _ => Ins.cells_under _ i
  refine ACall.of_go TB [] tabOK _ Tryd.func40 rfl (by decide) Tryd.ntmps40 (by simp) rfl (by simp only [initEnv, Nat.reduceAdd]; rfl) fun C R' hR hC hcl hB => ?_; have X := noX; have hC' := congrArg List.length hC
  have X := And.intro X (And.intro h1 h2)
  by_cases hl : a.length = b.length
  · have hln : ((a.length : Int) = (b.length : Int)) = True := by simp [hl]
    have X := And.intro X hln
    (refine run ?_; repeat' (first | with_reducible exact trivial | ((with_reducible apply Fork.mk) <;> intro hb) | with_reducible apply Two.mk))
    clear X
    refine go_loop (fun k : Nat => [(0, .list 6 (a.map (fun i : Ins => SV.agg i.cells))), (1, .list 6 (b.map (fun i : Ins => SV.agg i.cells))), (2, f), (15, .list 6 (a.map (fun i : Ins => SV.agg i.cells))), (16, .int .i64 a.length), (17, .int .i64 k)]) (fun _ => H ++ []) (fun k => a.length - k) (fun k => k ≤ a.length ∧ ∀ i (h : i < a.length) (h' : i < b.length), i < k → p a[i] b[i] = true) 0 ⟨Nat.zero_le _, fun i _ _ h => by omega⟩ (by rw [List.append_nil]; exact Wk.sub (by simp [subEnv, look])) ?_
    rintro K k ⟨hk, hall⟩ hK
    rcases Nat.lt_or_ge k a.length with hlt | hge
    · have hlt2 : k < b.length := by omega
      have e1 : (a.map (fun i : Ins => SV.agg i.cells))[k]? = some ((fun i : Ins => SV.agg i.cells) a[k]) := by simp [hlt]
      have e2 : (b.map (fun i : Ins => SV.agg i.cells))[k]? = some ((fun i : Ins => SV.agg i.cells) b[k]) := by simp [hlt2]
      have hno := eqL_at (p := p) hlt hlt2
      have hcall := hf a[k] (List.getElem_mem hlt) b[k] (List.getElem_mem hlt2)
      have hyes : p a[k] b[k] = true → ∀ i (h : i < a.length) (h' : i < b.length), i < k + 1 → p a[i] b[i] = true := fun h i hi hi' hik => by
        rcases Nat.lt_or_ge i k with h3 | h3
        · exact hall i hi hi' h3
        · have : i = k := by omega
          subst this; exact h
      generalize a[k] = x at *
      generalize b[k] = y at *
      simp only at hcall e1 e2
      have X := And.intro noX (And.intro h1 (And.intro h2 (And.intro e1 e2)))
      (refine run ?_; repeat' (first | with_reducible exact trivial | ((with_reducible apply Fork.mk) <;> intro hb) | with_reducible apply Two.mk))
      refine callV (hcall _) ?_
      rintro r H' ⟨rfl, rfl⟩
      generalize p x y = pv at *
      (refine run ?_; repeat' (first | with_reducible exact trivial | ((with_reducible apply Fork.mk) <;> intro hb) | with_reducible apply Two.mk))
      · refine finS hR hC' hcl (.same _ ?_) ⟨rfl, ?_⟩
        · rfl
        · rw [hno (by simpa using hb)]; rfl
      · exact hK _ _ (k + 1) (by omega) ⟨by omega, hyes (by simpa using hb)⟩ (wkS (n0 := H.length) [] hG hB hC' hcl)
    · have : k = a.length := by omega
      subst this
      have X := And.intro noX (Int.lt_irrefl (a.length : Int))
      (refine run ?_; repeat' (first | with_reducible exact trivial | ((with_reducible apply Fork.mk) <;> intro hb) | with_reducible apply Two.mk))
      refine Fin.out hR ⟨List.append_nil _, ?_⟩
      rw [(eqL_iff p a b).2 ⟨hl, fun i h h' => hall i h h' h⟩]; rfl
  · have hln : ((a.length : Int) = (b.length : Int)) = False := by simp; omega
    have X := And.intro X hln
    (refine run ?_; repeat' (first | with_reducible exact trivial | ((with_reducible apply Fork.mk) <;> intro hb) | with_reducible apply Two.mk))
    refine Fin.out hR ⟨rfl, ?_⟩
    rw [eqL_no hl]; rfl
theorem eqFunF_ok (G : Gl) (hG : GClosed G) (f : SV) (p : Fun → Fun → Bool) (a b : List Fun) (ha : a.length < 1125899906842624) (hb0 : b.length < 1125899906842624) (H : List Blk)
    (hfu : f.under H.length = true) (hf : ∀ x ∈ a, ∀ y ∈ b, ∀ L, ACallV Tryd.prog G f [(fun i : Fun => SV.agg i.cells) x, (fun i : Fun => SV.agg i.cells) y] (H ++ L) (fun r H' => H' = H ++ L ∧ r = .bool (p x y))) :
    ACall Tryd.prog G 44 [.list 7 (a.map (fun i : Fun => SV.agg i.cells)), .list 7 (b.map (fun i : Fun => SV.agg i.cells)), f] H (fun r H' => H' = H ∧ r = .bool (eqL p a b)) := by
  have h1 : (a.map (fun i : Fun => SV.agg i.cells)).length = a.length := by simp
  have h2 : (b.map (fun i : Fun => SV.agg i.cells)).length = b.length := by simp
  have hu1 : SV.underL H.length (a.map (fun i : Fun => SV.agg i.cells)) = true := SV.underL_map fun i _ => Fun.cells_under _ i
  have hu2 : SV.underL H.length (b.map (fun i : Fun => SV.agg i.cells)) = true := SV.underL_map fun i _ => Fun.cells_under _ i
  refine ACall.of_go TB [] tabOK _ Tryd.func44 rfl (by decide) Tryd.ntmps44 (by simp) rfl (by simp only [initEnv, Nat.reduceAdd]; rfl) fun C R' hR hC hcl hB => ?_; have X := noX; have hC' := congrArg List.length hC
  have X := And.intro X (And.intro h1 h2)
  by_cases hl : a.length = b.length
  · have hln : ((a.length : Int) = (b.length : Int)) = True := by simp [hl]
    have X := And.intro X hln
    (refine run ?_; repeat' (first | with_reducible exact trivial | ((with_reducible apply Fork.mk) <;> intro hb) | with_reducible apply Two.mk))
    clear X
    refine go_loop (fun k : Nat => [(0, .list 7 (a.map (fun i : Fun => SV.agg i.cells))), (1, .list 7 (b.map (fun i : Fun => SV.agg i.cells))), (2, f), (15, .list 7 (a.map (fun i : Fun => SV.agg i.cells))), (16, .int .i64 a.length), (17, .int .i64 k)]) (fun _ => H ++ []) (fun k => a.length - k) (fun k => k ≤ a.length ∧ ∀ i (h : i < a.length) (h' : i < b.length), i < k → p a[i] b[i] = true) 0 ⟨Nat.zero_le _, fun i _ _ h => by omega⟩ (by rw [List.append_nil]; exact Wk.sub (by simp [subEnv, look])) ?_
    rintro K k ⟨hk, hall⟩ hK
    rcases Nat.lt_or_ge k a.length with hlt | hge
    · have hlt2 : k < b.length := by omega
      have e1 : (a.map (fun i : Fun => SV.agg i.cells))[k]? = some ((fun i : Fun => SV.agg i.cells) a[k]) := by simp [hlt]
      have e2 : (b.map (fun i : Fun => SV.agg i.cells))[k]? = some ((fun i : Fun => SV.agg i.cells) b[k]) := by simp [hlt2]
      have hno := eqL_at (p := p) hlt hlt2
      have hcall := hf a[k] (List.getElem_mem hlt) b[k] (List.getElem_mem hlt2)
      have hyes : p a[k] b[k] = true → ∀ i (h : i < a.length) (h' : i < b.length), i < k + 1 → p a[i] b[i] = true := fun h i hi hi' hik => by
        rcases Nat.lt_or_ge i k with h3 | h3
        · exact hall i hi hi' h3
        · have : i = k := by omega
          subst this; exact h
      generalize a[k] = x at *
      generalize b[k] = y at *
      simp only at hcall e1 e2
      have X := And.intro noX (And.intro h1 (And.intro h2 (And.intro e1 e2)))
      (refine run ?_; repeat' (first | with_reducible exact trivial | ((with_reducible apply Fork.mk) <;> intro hb) | with_reducible apply Two.mk))
      refine callV (hcall _) ?_
      rintro r H' ⟨rfl, rfl⟩
      generalize p x y = pv at *
      (refine run ?_; repeat' (first | with_reducible exact trivial | ((with_reducible apply Fork.mk) <;> intro hb) | with_reducible apply Two.mk))
      · refine finS hR hC' hcl (.same _ ?_) ⟨rfl, ?_⟩
        · rfl
        · rw [hno (by simpa using hb)]; rfl
      · exact hK _ _ (k + 1) (by omega) ⟨by omega, hyes (by simpa using hb)⟩ (wkS (n0 := H.length) [] hG hB hC' hcl)
    · have : k = a.length := by omega
      subst this
      have X := And.intro noX (Int.lt_irrefl (a.length : Int))
      (refine run ?_; repeat' (first | with_reducible exact trivial | ((with_reducible apply Fork.mk) <;> intro hb) | with_reducible apply Two.mk))
      refine Fin.out hR ⟨List.append_nil _, ?_⟩
      rw [(eqL_iff p a b).2 ⟨hl, fun i h h' => hall i h h' h⟩]; rfl
  · have hln : ((a.length : Int) = (b.length : Int)) = False := by simp; omega
    have X := And.intro X hln
    (refine run ?_; repeat' (first | with_reducible exact trivial | ((with_reducible apply Fork.mk) <;> intro hb) | with_reducible apply Two.mk))
    refine Fin.out hR ⟨rfl, ?_⟩
    rw [eqL_no hl]; rfl
theorem eqGlbF_ok (G : Gl) (hG : GClosed G) (f : SV) (p : Glb → Glb → Bool) (a b : List Glb) (ha : a.length < 1125899906842624) (hb0 : b.length < 1125899906842624) (H : List Blk)
    (hfu : f.under H.length = true) (hf : ∀ x ∈ a, ∀ y ∈ b, ∀ L, ACallV Tryd.prog G f [(fun i : Glb => SV.agg i.cells) x, (fun i : Glb => SV.agg i.cells) y] (H ++ L) (fun r H' => H' = H ++ L ∧ r = .bool (p x y))) :
    ACall Tryd.prog G 45 [.list 3 (a.map (fun i : Glb => SV.agg i.cells)), .list 3 (b.map (fun i : Glb => SV.agg i.cells)), f] H (fun r H' => H' = H ∧ r = .bool (eqL p a b)) := by
  have h1 : (a.map (fun i : Glb => SV.agg i.cells)).length = a.length := by simp
  have h2 : (b.map (fun i : Glb => SV.agg i.cells)).length = b.length := by simp
  have hu1 : SV.underL H.length (a.map (fun i : Glb => SV.agg i.cells)) = true := SV.underL_map fun i _ => Glb.cells_under _ i
  have hu2 : SV.underL H.length (b.map (fun i : Glb => SV.agg i.cells)) = true := SV.underL_map fun i _ => Glb.cells_under _ i
  refine ACall.of_go TB [] tabOK _ Tryd.func45 rfl (by decide) Tryd.ntmps45 (by simp) rfl (by simp only [initEnv, Nat.reduceAdd]; rfl) fun C R' hR hC hcl hB => ?_; have X := noX; have hC' := congrArg List.length hC
  have X := And.intro X (And.intro h1 h2)
  by_cases hl : a.length = b.length
  · have hln : ((a.length : Int) = (b.length : Int)) = True := by simp [hl]
    have X := And.intro X hln
    (refine run ?_; repeat' (first | with_reducible exact trivial | ((with_reducible apply Fork.mk) <;> intro hb) | with_reducible apply Two.mk))
    clear X
    refine go_loop (fun k : Nat => [(0, .list 3 (a.map (fun i : Glb => SV.agg i.cells))), (1, .list 3 (b.map (fun i : Glb => SV.agg i.cells))), (2, f), (15, .list 3 (a.map (fun i : Glb => SV.agg i.cells))), (16, .int .i64 a.length), (17, .int .i64 k)]) (fun _ => H ++ []) (fun k => a.length - k) (fun k => k ≤ a.length ∧ ∀ i (h : i < a.length) (h' : i < b.length), i < k → p a[i] b[i] = true) 0 ⟨Nat.zero_le _, fun i _ _ h => by omega⟩ (by rw [List.append_nil]; exact Wk.sub (by simp [subEnv, look])) ?_
    rintro K k ⟨hk, hall⟩ hK
    rcases Nat.lt_or_ge k a.length with hlt | hge
    · have hlt2 : k < b.length := by omega
      have e1 : (a.map (fun i : Glb => SV.agg i.cells))[k]? = some ((fun i : Glb => SV.agg i.cells) a[k]) := by simp [hlt]
      have e2 : (b.map (fun i : Glb => SV.agg i.cells))[k]? = some ((fun i : Glb => SV.agg i.cells) b[k]) := by simp [hlt2]
      have hno := eqL_at (p := p) hlt hlt2
      have hcall := hf a[k] (List.getElem_mem hlt) b[k] (List.getElem_mem hlt2)
      have hyes : p a[k] b[k] = true → ∀ i (h : i < a.length) (h' : i < b.length), i < k + 1 → p a[i] b[i] = true := fun h i hi hi' hik => by
        rcases Nat.lt_or_ge i k with h3 | h3
        · exact hall i hi hi' h3
        · have : i = k := by omega
          subst this; exact h
      generalize a[k] = x at *
      generalize b[k] = y at *
      simp only at hcall e1 e2
      have X := And.intro noX (And.intro h1 (And.intro h2 (And.intro e1 e2)))
      (refine run ?_; repeat' (first | with_reducible exact trivial | ((with_reducible apply Fork.mk) <;> intro hb) | with_reducible apply Two.mk))
      refine callV (hcall _) ?_
      rintro r H' ⟨rfl, rfl⟩
      generalize p x y = pv at *
      (refine run ?_; repeat' (first | with_reducible exact trivial | ((with_reducible apply Fork.mk) <;> intro hb) | with_reducible apply Two.mk))
      · refine finS hR hC' hcl (.same _ ?_) ⟨rfl, ?_⟩
        · rfl
        · rw [hno (by simpa using hb)]; rfl
      · exact hK _ _ (k + 1) (by omega) ⟨by omega, hyes (by simpa using hb)⟩ (wkS (n0 := H.length) [] hG hB hC' hcl)
    · have : k = a.length := by omega
      subst this
      have X := And.intro noX (Int.lt_irrefl (a.length : Int))
      (refine run ?_; repeat' (first | with_reducible exact trivial | ((with_reducible apply Fork.mk) <;> intro hb) | with_reducible apply Two.mk))
      refine Fin.out hR ⟨List.append_nil _, ?_⟩
      rw [(eqL_iff p a b).2 ⟨hl, fun i h h' => hall i h h' h⟩]; rfl
  · have hln : ((a.length : Int) = (b.length : Int)) = False := by simp; omega
    have X := And.intro X hln
    (refine run ?_; repeat' (first | with_reducible exact trivial | ((with_reducible apply Fork.mk) <;> intro hb) | with_reducible apply Two.mk))
    refine Fin.out hR ⟨rfl, ?_⟩
    rw [eqL_no hl]; rfl
end Go.Proofs.YtihhngjoecgkpaaDoor
end

section
namespace Go.Proofs.YtihhngjoecgkpaaDoor
open Go
set_option linter.unusedSimpArgs false
set_option linter.unusedVariables false
set_option maxRecDepth 10000
set_option maxHeartbeats 4000000

def insE (x y : Ins) : Bool := (decide (x.op = y.op) && decide (x.a = y.a) && decide (x.b = y.b) && decide (x.c = y.c) && decide (x.n = y.n)) && eqL intE x.l y.l
def funE (x y : Fun) : Bool := (decide (x.name = y.name) && (x.thunk == y.thunk) && (x.upd == y.upd) && decide (x.free = y.free) && decide (x.params = y.params) && decide (x.frame = y.frame)) && eqL insE x.code y.code
def glbE (x y : Glb) : Bool := (decide (x.kind = y.kind) && decide (x.n = y.n)) && eqL refE x.args y.args
def imgE (x y : Img) : Bool := (decide (x.main = y.main) && eqL conE x.cons y.cons) && eqL funE x.funcs y.funcs && eqL glbE x.globals y.globals
theorem sInstr_ok (G : Gl) (hG : GClosed G) (x y : Ins) (hx : x.l.length < 1099511627776) (hy : y.l.length < 1099511627776) (H : List Blk) :
    ACall Tryd.prog G 37 [.agg x.cells, .agg y.cells] H (fun r H' => H' = H ∧ r = .bool (insE x y)) := by
  obtain ⟨o1, a1, b1, d1, n1, l1⟩ := x
  obtain ⟨o2, a2, b2, d2, n2, l2⟩ := y
  simp only [Ins.cells, insE]
  simp only at hx hy
  have c1 := fun H => eqInts_ok G hG l1 l2 (by omega) (by omega) H
  generalize eqL intE l1 l2 = e at *
  refine ACall.of_go TB [] tabOK _ Tryd.func37 rfl (by decide) Tryd.ntmps37 (by simp) rfl (by simp only [initEnv, Nat.reduceAdd]; rfl) fun C R' hR hC hcl hB => ?_; have X := noX; have hC' := congrArg List.length hC
  (refine run ?_; repeat' (first | with_reducible exact trivial | ((with_reducible apply Fork.mk) <;> intro hb) | with_reducible apply Two.mk))
  · exact finS hR hC' hcl (.same _ rfl) ⟨rfl, by rw [hb]; rfl⟩
  · exact finS hR hC' hcl (.same _ rfl) ⟨rfl, by rw [hb]; rfl⟩
theorem sFun_ok (G : Gl) (hG : GClosed G) (x y : Fun) (hx : x.code.length < 1099511627776 ∧ ∀ i ∈ x.code, i.l.length < 1099511627776) (hy : y.code.length < 1099511627776 ∧ ∀ i ∈ y.code, i.l.length < 1099511627776) (bp : Nat) (H : List Blk) (hbp : H[bp]? = some (.cells 0 1 [.fn (.func 37) [] []])) :
    ACall Tryd.prog G 39 [.agg x.cells, .agg y.cells, .ptr bp 0 0 0] H (fun r H' => H' = H ∧ r = .bool (funE x y)) := by
  have hl1 := (List.getElem?_eq_some_iff.1 hbp).1
  obtain ⟨na1, t1, u1, a1, b1, d1, l1⟩ := x
  obtain ⟨na2, t2, u2, a2, b2, d2, l2⟩ := y
  simp only [Fun.cells, funE]
  simp only at hx hy
  have c1 : ∀ L, ACall Tryd.prog G 40 [.list 6 (insL l1), .list 6 (insL l2), .fn (.func 37) [] []] (H ++ L) (fun r H' => H' = H ++ L ∧ r = .bool (eqL insE l1 l2)) := fun L =>
    eqInsF_ok G hG (.fn (.func 37) [] []) insE l1 l2 (by omega) (by omega) (H ++ L) rfl (fun i hi j hj L' => ACallV.of (sInstr_ok G hG i j (hx.2 i hi) (hy.2 j hj) _))
  generalize eqL insE l1 l2 = e at *
  refine ACall.of_go TB [] tabOK _ Tryd.func39 rfl (by decide) Tryd.ntmps39 (by simp) rfl (by simp only [initEnv, Nat.reduceAdd]; rfl) fun C R' hR hC hcl hB => ?_; have X := noX; have hC' := congrArg List.length hC
  have X := And.intro X (getX hbp)
  (refine run ?_; repeat' (first | with_reducible exact trivial | ((with_reducible apply Fork.mk) <;> intro hb) | with_reducible apply Two.mk))
  · exact finS hR hC' hcl (.same _ rfl) ⟨rfl, by rw [hb]; rfl⟩
  · exact finS hR hC' hcl (.same _ rfl) ⟨rfl, by rw [hb]; rfl⟩
theorem sGlb_ok (G : Gl) (hG : GClosed G) (x y : Glb) (hx : x.args.length < 1099511627776) (hy : y.args.length < 1099511627776) (H : List Blk) :
    ACall Tryd.prog G 41 [.agg x.cells, .agg y.cells] H (fun r H' => H' = H ∧ r = .bool (glbE x y)) := by
  obtain ⟨a1, b1, l1⟩ := x
  obtain ⟨a2, b2, l2⟩ := y
  simp only [Glb.cells, glbE]
  simp only at hx hy
  have c1 := fun H => eqRefs_ok G hG l1 l2 (by omega) (by omega) H
  generalize eqL refE l1 l2 = e at *
  refine ACall.of_go TB [] tabOK _ Tryd.func41 rfl (by decide) Tryd.ntmps41 (by simp) rfl (by simp only [initEnv, Nat.reduceAdd]; rfl) fun C R' hR hC hcl hB => ?_; have X := noX; have hC' := congrArg List.length hC
  (refine run ?_; repeat' (first | with_reducible exact trivial | ((with_reducible apply Fork.mk) <;> intro hb) | with_reducible apply Two.mk))
  · exact finS hR hC' hcl (.same _ rfl) ⟨rfl, by rw [hb]; rfl⟩
  · exact finS hR hC' hcl (.same _ rfl) ⟨rfl, by rw [hb]; rfl⟩
theorem same_ok (G : Gl) (hG : GClosed G) (x y : Img) (hx : ImgB x) (hy : ImgB y) (H : List Blk) :
    ACall Tryd.prog G 13 [.agg x.cells, .agg y.cells] H (fun r H' => H' = H ∧ r = .bool (imgE x y)) := by
  have hx1 := hx.c
  have hx2 := hx.f
  have hx3 := hx.g
  have hy1 := hy.c
  have hy2 := hy.f
  have hy3 := hy.g
  have c1 := fun L : List Blk => eqCons_ok G hG x.cons y.cons (by omega) (by omega) (H ++ L)
  have c2 : ∀ x1 x2, ACall Tryd.prog G 44 [.list 7 (funsL x.funcs), .list 7 (funsL y.funcs), .fn (.func 39) [] [.ptr (H.length + 2) 0 0 0]] (H ++ [x1, x2, .cells 0 1 [.fn (.func 37) [] []]]) (fun r H' => H' = H ++ [x1, x2, .cells 0 1 [.fn (.func 37) [] []]] ∧ r = .bool (eqL funE x.funcs y.funcs)) := fun x1 x2 =>
    eqFunF_ok G hG (.fn (.func 39) [] [.ptr (H.length + 2) 0 0 0]) funE x.funcs y.funcs (by omega) (by omega) _ (by simp [SV.under, SV.underL]) (fun i hi j hj L' => ACallV.of (sFun_ok G hG i j (hx.code i hi) (hy.code j hj) (H.length + 2) _ (get_app_left ((get_app _ _ 2).trans rfl))))
  have c3 := fun L : List Blk => eqGlbF_ok G hG (.fn (.func 41) [] []) glbE x.globals y.globals (by omega) (by omega) (H ++ L) rfl (fun i hi j hj L' => ACallV.of (sGlb_ok G hG i j (hx.args i hi) (hy.args j hj) _))
  have e0 : imgE x y = ((decide (x.main = y.main) && eqL conE x.cons y.cons) && eqL funE x.funcs y.funcs && eqL glbE x.globals y.globals) := rfl
  rw [e0]
  clear hx hy e0
  obtain ⟨ca, fa, ga, ma⟩ := x
  obtain ⟨cb, fb, gb, mb⟩ := y
  simp only [Img.cells] at *
  generalize eqL conE ca cb = z1 at *
  generalize eqL funE fa fb = z2 at *
  generalize eqL glbE ga gb = z3 at *
  refine ACall.of_go TB [] tabOK _ Tryd.func13 rfl (by decide) Tryd.ntmps13 (by simp) rfl (by simp only [initEnv, Nat.reduceAdd]; rfl) fun C R' hR hC hcl hB => ?_; have X := noX; have hC' := congrArg List.length hC
  have hfin : ∀ (L : List Blk) (n : Bool), n = (decide (ma = mb) && z1 && z2 && z3) → Fin C (H ++ L) (resSV [SV.bool n]) R' := fun L n e => finS hR hC' hcl (.same _ rfl) ⟨rfl, by rw [← e]; rfl⟩
  (refine run ?_; repeat' (first | with_reducible exact trivial | ((with_reducible apply Fork.mk) <;> intro hb) | with_reducible apply Two.mk))
  all_goals (refine hfin _ _ ?_; simp_all)
end Go.Proofs.YtihhngjoecgkpaaDoor
end

section
namespace Go.Proofs.YtihhngjoecgkpaaDoor
open Go
set_option linter.unusedSimpArgs false
set_option linter.unusedVariables false
set_option maxRecDepth 10000
set_option maxHeartbeats 4000000

/-! ### what is laid is read, what is read is laid again -/
theorem p9 : (128 : Nat) ^ 9 * 2 = 18446744073709551616 := by decide
theorem rd_vb : ∀ (n u : Nat), u ≤ n → ∀ (k acc : Nat) (r : Str), k ≤ 9 → u * 128 ^ k < 18446744073709551616 → (k = 0 ∨ 0 < u) → rdN k acc (vb u ++ r) = some (acc + u * 128 ^ k, r) := by
  intro n
  induction n with
  | zero =>
    intro u hu k acc r hk hlt hp
    have : u = 0 := by omega
    subst this
    rw [vb_lt (by omega)]
    have : k = 0 := by omega
    subst this
    rfl
  | succ n ih =>
    intro u hu k acc r hk hlt hp
    by_cases h : u < 128
    · rw [vb_lt h]
      have hb : (UInt8.ofNat u).toNat = u := by simp; omega
      show rdN k acc (UInt8.ofNat u :: r) = _
      rw [rdN, hb, if_neg (by omega), if_neg (by omega), if_neg]
      rintro (⟨h1, h2⟩ | ⟨h1, h2⟩)
      · omega
      · subst h1
        have := p9
        have h3 := Nat.mul_le_mul_right (128 ^ 9) h2
        omega
    · rw [vb_ge h]
      have hm : u % 128 < 128 := Nat.mod_lt _ (by decide)
      have hb : (UInt8.ofNat (u % 128 + 128)).toNat = u % 128 + 128 := by simp; omega
      show rdN k acc (UInt8.ofNat (u % 128 + 128) :: (vb (u / 128) ++ r)) = _
      have hk8 : k ≤ 8 := by
        rcases Nat.lt_or_ge k 9 with h9 | h9
        · omega
        · have : k = 9 := by omega
          subst this
          have := p9
          have h3 := Nat.mul_le_mul_right (128 ^ 9) (show 128 ≤ u by omega)
          omega
      have hmul : u / 128 * 128 ^ (k + 1) = u / 128 * 128 * 128 ^ k := by rw [Nat.pow_succ, Nat.mul_comm (128 ^ k), Nat.mul_assoc]
      have hdm : u / 128 * 128 + u % 128 = u := by omega
      have hsum : u % 128 * 128 ^ k + u / 128 * 128 ^ (k + 1) = u * 128 ^ k := by
        rw [hmul, ← Nat.add_mul]; congr 1; omega
      rw [rdN, hb, if_neg (by omega), if_pos (by omega), Nat.add_sub_cancel, ih (u / 128) (by omega) (k + 1) _ r (by omega) (by omega) (.inr (by omega))]
      congr 2
      omega
theorem vb_rd : ∀ (s : Str) (k acc v : Nat) (r : Str), rdN k acc s = some (v, r) → ∃ u, v = acc + u * 128 ^ k ∧ s = vb u ++ r ∧ u * 128 ^ k < 18446744073709551616 ∧ (0 < k → 0 < u)
  | [], k, acc, v, r, h => by cases h
  | b :: s, k, acc, v, r, h => by
    unfold rdN at h
    have hb256 := b.toNat_lt
    split at h
    · cases h
    · rename_i hk
      split at h
      · rename_i hbig
        obtain ⟨u, h1, h2, h3, h4⟩ := vb_rd s (k + 1) _ v r h
        have hu := h4 (by omega)
        have hmul : u * 128 ^ (k + 1) = u * 128 * 128 ^ k := by rw [Nat.pow_succ, Nat.mul_comm (128 ^ k), Nat.mul_assoc]
        have e1 : (u * 128 + (b.toNat - 128)) / 128 = u := by omega
        have e2 : (u * 128 + (b.toNat - 128)) % 128 = b.toNat - 128 := by omega
        refine ⟨u * 128 + (b.toNat - 128), ?_, ?_, ?_, fun _ => by omega⟩
        · rw [h1, Nat.add_mul, hmul]; omega
        · rw [vb_ge (by omega), e1, e2, h2]
          have : UInt8.ofNat (b.toNat - 128 + 128) = b := by rw [Nat.sub_add_cancel (by omega)]; simp
          rw [this]; rfl
        · rcases Nat.lt_or_ge k 9 with h9 | h9
          · have h5 : (u * 128 + (b.toNat - 128)) * 128 ^ k ≤ u * 128 * 128 ^ k + 127 * 128 ^ k := by
              rw [Nat.add_mul]; have := Nat.mul_le_mul_right (128 ^ k) (show b.toNat - 128 ≤ 127 by omega); omega
            have h6 : u * 128 ^ (k + 1) + 128 ^ (k + 1) ≤ 18446744073709551616 := by
              have hd : 18446744073709551616 = (2 * 128 ^ (8 - k)) * 128 ^ (k + 1) := by
                rw [Nat.mul_assoc, ← Nat.pow_add, show 8 - k + (k + 1) = 9 by omega]
              rw [hd] at h3 ⊢
              have hpos : 0 < 128 ^ (k + 1) := Nat.pow_pos (by decide)
              have h7 : u < 2 * 128 ^ (8 - k) := Nat.lt_of_mul_lt_mul_right h3
              have := Nat.mul_le_mul_right (128 ^ (k + 1)) (show u + 1 ≤ 2 * 128 ^ (8 - k) by omega)
              rw [Nat.add_mul, Nat.one_mul] at this
              exact this
            have h8 : 128 ^ (k + 1) = 128 * 128 ^ k := by rw [Nat.pow_succ, Nat.mul_comm]
            have hpos : 0 < 128 ^ k := Nat.pow_pos (by decide)
            omega
          · exfalso
            have : k = 9 := by omega
            subst this
            cases s with
            | nil => cases h
            | cons x s => rw [rdN, if_pos (by omega)] at h; cases h
      · rename_i hsm
        split at h
        · cases h
        · rename_i hc
          simp only [not_or, not_and, Nat.not_lt] at hc
          cases h
          refine ⟨b.toNat, rfl, ?_, ?_, fun hk0 => ?_⟩
          · rw [vb_lt (by omega)]; simp
          · rcases Nat.lt_or_ge k 9 with h9 | h9
            · have h1 := Nat.mul_le_mul_right (128 ^ k) (show b.toNat ≤ 127 by omega)
              have h2 := Nat.pow_le_pow_right (n := 128) (by decide) (show k + 1 ≤ 9 by omega)
              have h3 : 128 ^ (k + 1) = 128 * 128 ^ k := by rw [Nat.pow_succ, Nat.mul_comm]
              have := p9
              omega
            · have : k = 9 := by omega
              subst this
              have h1 := Nat.mul_le_mul_right (128 ^ 9) (hc.2 rfl)
              have e9 : 128 ^ 9 = 9223372036854775808 := by decide
              rw [e9] at h1 ⊢; omega
          · have := hc.1; omega
theorem unz_zz {n : Int} : unz (zz n) = n := by unfold unz zz; split <;> split <;> omega
theorem zz_unz {u : Nat} : zz (unz u) = u := by unfold unz zz; split <;> split <;> omega
theorem unz_isI {u : Nat} (h : u < 18446744073709551616) : isI (unz u) := by unfold unz isI; split <;> omega

structure Codec {α : Type} (f : RS → α × RS) (pr : α → Str) (ok : α → Prop) : Prop where
  enc : ∀ x r, ok x → f ⟨pr x ++ r, false⟩ = (x, ⟨r, false⟩)
  dec : ∀ q, (f q).2.bad = false → q.bad = false ∧ q.s = pr (f q).1 ++ (f q).2.s ∧ ok (f q).1
  pos : ∀ x, 1 ≤ (pr x).length
theorem cNum : Codec RS.num numS isI := by
  refine ⟨fun x r h => ?_, fun q h => ?_, numS_pos⟩
  · unfold RS.num
    have := rd_vb _ (zz x) (Nat.le_refl _) 0 0 r (by omega) (by simpa using zz_lt h) (.inl rfl)
    simp only [numS, this, Nat.pow_zero, Nat.mul_one, Nat.zero_add, unz_zz]
  · unfold RS.num at h ⊢
    cases hr : rdN 0 0 q.s with
    | none => rw [hr] at h; cases h
    | some p =>
      obtain ⟨v, r⟩ := p
      rw [hr] at h
      obtain ⟨u, h1, h2, h3, _⟩ := vb_rd _ _ _ _ _ hr
      simp only [Nat.pow_zero, Nat.mul_one, Nat.zero_add] at h1 h3
      subst h1
      exact ⟨h, by simp only [numS, zz_unz]; exact h2, unz_isI h3⟩
theorem cText : Codec RS.text txtS (fun s => isI (s.length : Int)) := by
  refine ⟨fun x r h => ?_, fun q h => ?_, fun x => by unfold txtS; rw [List.length_append]; have := numS_pos (x.length : Int); omega⟩
  · have := cNum.enc (x.length : Int) (x ++ r) h
    unfold RS.text txtS
    rw [List.append_assoc, this]
    simp only
    rw [if_neg (by rw [List.length_append]; omega)]
    simp
  · unfold RS.text at h ⊢
    split at h
    · cases h
    · rename_i hc
      rw [if_neg hc]
      obtain ⟨h1, h2, h3⟩ := cNum.dec q h
      have hl : ((q.num.2.s.take q.num.1.toNat).length : Int) = q.num.1 := by rw [List.length_take]; omega
      refine ⟨h1, ?_, by simp only [hl]; exact h3⟩
      simp only [txtS, hl]
      rw [List.append_assoc, List.take_append_drop]; exact h2
theorem cTruth : Codec RS.truth truS (fun _ => True) := by
  refine ⟨fun x r _ => ?_, fun q h => ?_, fun x => numS_pos _⟩
  · have := cNum.enc (if x then 1 else 0) r (by cases x <;> (constructor <;> decide))
    unfold RS.truth truS
    rw [this]
    cases x <;> simp
  · unfold RS.truth at h ⊢
    simp only [Bool.or_eq_false_iff] at h
    obtain ⟨h1, h2, h3⟩ := cNum.dec q h.1
    refine ⟨h1, ?_, trivial⟩
    have : q.num.1 = if decide (q.num.1 = 1) then 1 else 0 := by
      have := h.2
      simp only [ne_eq, Bool.and_eq_false_iff, decide_eq_false_iff_not, Decidable.not_not] at this
      rcases this with e | e <;> simp [e]
    unfold truS
    rw [← this]; exact h2
theorem cEachN {α : Type} {f : RS → α × RS} {pr : α → Str} {ok : α → Prop} (c : Codec f pr ok) : (∀ (l : List α) (r : Str), (∀ x ∈ l, ok x) → eachN f l.length ⟨l.flatMap pr ++ r, false⟩ = (l, ⟨r, false⟩)) ∧
    (∀ (n : Nat) (q : RS), (eachN f n q).2.bad = false → q.bad = false ∧ q.s = (eachN f n q).1.flatMap pr ++ (eachN f n q).2.s ∧ (eachN f n q).1.length = n ∧ ∀ x ∈ (eachN f n q).1, ok x) := by
  constructor
  · intro l
    induction l with
    | nil => intro r _; rfl
    | cons x l ih =>
      intro r h
      rw [List.length_cons, eachN, if_neg (by simp), List.flatMap_cons, List.append_assoc, c.enc x _ (h x (List.mem_cons_self ..))]
      simp only
      rw [ih r fun y hy => h y (List.mem_cons_of_mem _ hy)]
  · intro n
    induction n with
    | zero => intro q h; exact ⟨h, by simp [eachN], rfl, by simp [eachN]⟩
    | succ n ih =>
      intro q h
      rw [eachN] at h ⊢
      by_cases hb : q.bad = true
      · rw [if_pos hb] at h; rw [hb] at h; cases h
      · rw [if_neg hb] at h ⊢
        obtain ⟨h1, h2, h3, h4⟩ := ih _ h
        obtain ⟨h5, h6, h7⟩ := c.dec q h1
        refine ⟨h5, ?_, by simp only [List.length_cons, h3], fun x hx => ?_⟩
        · rw [h6, h2, List.flatMap_cons, List.append_assoc]
        · rcases List.mem_cons.1 hx with rfl | hx
          · exact h7
          · exact h4 x hx
def lstS {α : Type} (pr : α → Str) (l : List α) : Str := numS l.length ++ l.flatMap pr
theorem cEach {α : Type} {f : RS → α × RS} {pr : α → Str} {ok : α → Prop} (c : Codec f pr ok) : (∀ (l : List α) (r : Str), isI (l.length : Int) → (∀ x ∈ l, ok x) → RS.each f ⟨lstS pr l ++ r, false⟩ = (l, ⟨r, false⟩)) ∧
    (∀ q : RS, (q.each f).2.bad = false → q.bad = false ∧ q.s = lstS pr (q.each f).1 ++ (q.each f).2.s ∧ isI ((q.each f).1.length : Int) ∧ ∀ x ∈ (q.each f).1, ok x) := by
  have hfl : ∀ l : List α, l.length ≤ (l.flatMap pr).length := by
    intro l
    induction l with
    | nil => simp
    | cons x l ih => rw [List.flatMap_cons, List.length_append, List.length_cons]; have := c.pos x; omega
  constructor
  · intro l r hl h
    have h0 := cNum.enc (l.length : Int) (l.flatMap pr ++ r) hl
    unfold RS.each lstS
    rw [List.append_assoc, h0]
    simp only
    rw [if_neg (by rw [List.length_append]; have := hfl l; omega), Int.toNat_natCast]
    exact (cEachN c).1 l r h
  · intro q h
    unfold RS.each at h ⊢
    split at h
    · cases h
    · rename_i hc
      rw [if_neg hc]
      obtain ⟨h1, h2, h3, h4⟩ := (cEachN c).2 _ _ h
      obtain ⟨h5, h6, h7⟩ := cNum.dec q h1
      have hl : ((eachN f q.num.1.toNat q.num.2).1.length : Int) = q.num.1 := by rw [h3]; omega
      refine ⟨h5, ?_, by rw [hl]; exact h7, h4⟩
      rw [lstS, hl, List.append_assoc, ← h2]; exact h6
end Go.Proofs.YtihhngjoecgkpaaDoor
end

section
namespace Go.Proofs.YtihhngjoecgkpaaDoor
open Go
set_option linter.unusedSimpArgs false
set_option linter.unusedVariables false
set_option maxRecDepth 10000
set_option maxHeartbeats 4000000

theorem refS_eq (r : Int × Int) : refS r = numS r.1 ++ numS r.2 := by simp [refS, numsS]
theorem conS_eq (c : Con) : conS c = txtS c.name ++ (numS c.arity ++ (numS c.tag ++ numS c.family)) := by simp [conS, numsS]
theorem insS_eq (i : Ins) : insS i = numS i.op ++ (numS i.a ++ (numS i.b ++ (numS i.c ++ (numS i.n ++ lstS numS i.l)))) := by simp [insS, numsS, lstS]
theorem funS_eq (f : Fun) : funS f = txtS f.name ++ (truS f.thunk ++ (truS f.upd ++ (numS f.free ++ (numS f.params ++ (numS f.frame ++ lstS insS f.code))))) := by simp [funS, funH, numsS, lstS]
theorem glbS_eq (g : Glb) : glbS g = numS g.kind ++ (numS g.n ++ lstS refS g.args) := by simp [glbS, numsS, lstS]
theorem encB_eq (m : Img) : encB m = magicS ++ (lstS conS m.cons ++ (lstS funS m.funcs ++ (lstS glbS m.globals ++ numS m.main))) := by simp [encB, lstS]
theorem cRef : Codec RS.ref refS (fun r => isI r.1 ∧ isI r.2) := by
  refine ⟨fun x r h => ?_, fun q h => ?_, fun x => by rw [refS_eq, List.length_append]; have := numS_pos x.1; omega⟩
  · rw [refS_eq, List.append_assoc]
    simp only [RS.ref, cNum.enc _ _ h.1, cNum.enc _ _ h.2]
  · simp only [RS.ref] at h ⊢
    obtain ⟨b1, e1, o1⟩ := cNum.dec _ h
    obtain ⟨b0, e0, o0⟩ := cNum.dec _ b1
    exact ⟨b0, by rw [refS_eq, List.append_assoc, ← e1]; exact e0, o0, o1⟩
def conI (c : Con) : Prop := isI (c.name.length : Int) ∧ isI c.arity ∧ isI c.tag ∧ isI c.family
theorem cCon : Codec RS.con conS conI := by
  refine ⟨fun x r h => ?_, fun q h => ?_, fun x => by rw [conS_eq, List.length_append]; have := cText.pos x.name; omega⟩
  · obtain ⟨h1, h2, h3, h4⟩ := h
    rw [conS_eq]
    simp only [RS.con, List.append_assoc, cText.enc _ _ h1, cNum.enc _ _ h2, cNum.enc _ _ h3, cNum.enc _ _ h4]
  · simp only [RS.con] at h ⊢
    obtain ⟨b3, e3, o3⟩ := cNum.dec _ h
    obtain ⟨b2, e2, o2⟩ := cNum.dec _ b3
    obtain ⟨b1, e1, o1⟩ := cNum.dec _ b2
    obtain ⟨b0, e0, o0⟩ := cText.dec _ b1
    exact ⟨b0, by rw [conS_eq]; simp only [List.append_assoc]; rw [← e3, ← e2, ← e1]; exact e0, o0, o1, o2, o3⟩
def insJ (i : Ins) : Prop := isI i.op ∧ isI i.a ∧ isI i.b ∧ isI i.c ∧ isI i.n ∧ isI (i.l.length : Int) ∧ ∀ n ∈ i.l, isI n
theorem cIns : Codec RS.ins insS insJ := by
  refine ⟨fun x r h => ?_, fun q h => ?_, fun x => by rw [insS_eq, List.length_append]; have := numS_pos x.op; omega⟩
  · obtain ⟨h1, h2, h3, h4, h5, h6, h7⟩ := h
    rw [insS_eq]
    simp only [RS.ins, RS.five, List.append_assoc, cNum.enc _ _ h1, cNum.enc _ _ h2, cNum.enc _ _ h3, cNum.enc _ _ h4, cNum.enc _ _ h5, (cEach cNum).1 _ _ h6 h7]
  · simp only [RS.ins] at h ⊢
    obtain ⟨b5, e5, o5, o6⟩ := (cEach cNum).2 _ h
    obtain ⟨b4, e4, o4⟩ := cNum.dec _ b5
    obtain ⟨b3, e3, o3⟩ := cNum.dec _ b4
    obtain ⟨b2, e2, o2⟩ := cNum.dec _ b3
    obtain ⟨b1, e1, o1⟩ := cNum.dec _ b2
    obtain ⟨b0, e0, o0⟩ := cNum.dec _ b1
    refine ⟨b0, ?_, o0, o1, o2, o3, o4, o5, o6⟩
    rw [insS_eq]; simp only [List.append_assoc]
    rw [← e5, show q.five = q.num.2.num.2.num.2.num.2.num.2 from rfl, ← e4, ← e3, ← e2, ← e1]; exact e0
def funJ (f : Fun) : Prop := isI (f.name.length : Int) ∧ isI f.free ∧ isI f.params ∧ isI f.frame ∧ isI (f.code.length : Int) ∧ ∀ i ∈ f.code, insJ i
theorem cFun : Codec RS.fn funS funJ := by
  refine ⟨fun x r h => ?_, fun q h => ?_, fun x => by rw [funS_eq, List.length_append]; have := cText.pos x.name; omega⟩
  · obtain ⟨h1, h2, h3, h4, h5, h6⟩ := h
    rw [funS_eq]
    simp only [RS.fn, RS.head, List.append_assoc, cText.enc _ _ h1, cTruth.enc _ _ trivial, cNum.enc _ _ h2, cNum.enc _ _ h3, cNum.enc _ _ h4, (cEach cIns).1 _ _ h5 h6]
  · simp only [RS.fn] at h ⊢
    obtain ⟨b6, e6, o6, o7⟩ := (cEach cIns).2 _ h
    obtain ⟨b5, e5, o5⟩ := cNum.dec _ b6
    obtain ⟨b4, e4, o4⟩ := cNum.dec _ b5
    obtain ⟨b3, e3, o3⟩ := cNum.dec _ b4
    obtain ⟨b2, e2, o2⟩ := cTruth.dec _ b3
    obtain ⟨b1, e1, o1⟩ := cTruth.dec _ b2
    obtain ⟨b0, e0, o0⟩ := cText.dec _ b1
    refine ⟨b0, ?_, o0, o3, o4, o5, o6, o7⟩
    rw [funS_eq]; simp only [List.append_assoc]
    rw [← e6, show q.head = q.text.2.truth.2.truth.2.num.2.num.2.num.2 from rfl, ← e5, ← e4, ← e3, ← e2, ← e1]; exact e0
def glbJ (g : Glb) : Prop := isI g.kind ∧ isI g.n ∧ isI (g.args.length : Int) ∧ ∀ r ∈ g.args, isI r.1 ∧ isI r.2
theorem cGlb : Codec RS.glb glbS glbJ := by
  refine ⟨fun x r h => ?_, fun q h => ?_, fun x => by rw [glbS_eq, List.length_append]; have := numS_pos x.kind; omega⟩
  · obtain ⟨h1, h2, h3, h4⟩ := h
    rw [glbS_eq]
    simp only [RS.glb, List.append_assoc, cNum.enc _ _ h1, cNum.enc _ _ h2, (cEach cRef).1 _ _ h3 h4]
  · simp only [RS.glb] at h ⊢
    obtain ⟨b2, e2, o2, o3⟩ := (cEach cRef).2 _ h
    obtain ⟨b1, e1, o1⟩ := cNum.dec _ b2
    obtain ⟨b0, e0, o0⟩ := cNum.dec _ b1
    exact ⟨b0, by rw [glbS_eq]; simp only [List.append_assoc]; rw [← e2, ← e1]; exact e0, o0, o1, o2, o3⟩
structure ImgJ (m : Img) : Prop where
  cons : isI (m.cons.length : Int) ∧ ∀ c ∈ m.cons, conI c
  funcs : isI (m.funcs.length : Int) ∧ ∀ f ∈ m.funcs, funJ f
  globals : isI (m.globals.length : Int) ∧ ∀ g ∈ m.globals, glbJ g
  main : isI m.main
theorem ImgJ.I {m : Img} (h : ImgJ m) : ImgI m :=
  ⟨fun c hc => (h.cons.2 c hc).2, fun f hf => by
    obtain ⟨_, h1, h2, h3, _, h4⟩ := h.funcs.2 f hf
    exact ⟨h1, h2, h3, fun i hi => by
      obtain ⟨k1, k2, k3, k4, k5, _, k6⟩ := h4 i hi
      exact ⟨k1, k2, k3, k4, k5, k6⟩⟩, fun g hg => by
    obtain ⟨h1, h2, _, h3⟩ := h.globals.2 g hg
    exact ⟨h1, h2, h3⟩, h.main⟩
theorem img_enc {m : Img} (h : ImgJ m) : RS.img ⟨(encB m).drop 4, false⟩ = (m, ⟨[], false⟩) ∧ (encB m).take 4 = magic4 ∧ 4 ≤ (encB m).length := by
  rw [encB_eq]
  refine ⟨?_, rfl, by simp [magicS]⟩
  show RS.img ⟨lstS conS m.cons ++ (lstS funS m.funcs ++ (lstS glbS m.globals ++ numS m.main)), false⟩ = _
  have e4 := cNum.enc m.main [] h.main
  rw [List.append_nil] at e4
  simp only [RS.img, (cEach cCon).1 _ _ h.cons.1 h.cons.2, (cEach cFun).1 _ _ h.funcs.1 h.funcs.2, (cEach cGlb).1 _ _ h.globals.1 h.globals.2, e4]
theorem img_dec {q : RS} (hb : q.img.2.bad = false) (hs : q.img.2.s = []) : magicS ++ q.s = encB q.img.1 ∧ ImgJ q.img.1 := by
  simp only [RS.img] at hb hs ⊢
  obtain ⟨b3, e3, o3⟩ := cNum.dec _ hb
  obtain ⟨b2, e2, o2, p2⟩ := (cEach cGlb).2 _ b3
  obtain ⟨b1, e1, o1, p1⟩ := (cEach cFun).2 _ b2
  obtain ⟨b0, e0, o0, p0⟩ := (cEach cCon).2 _ b1
  refine ⟨?_, ⟨o0, p0⟩, ⟨o1, p1⟩, ⟨o2, p2⟩, o3⟩
  rw [encB_eq]
  simp only
  rw [hs, List.append_nil] at e3
  rw [← e3, ← e2, ← e1, ← e0]
/-- AN IMAGE IS READ AS IT WAS LAID -/
theorem dec_enc {m : Img} (h : ImgJ m) (hc : chkS m 65536 = 0) : decS (encB m) = (m, 0) := by
  obtain ⟨h1, h2, h3⟩ := img_enc h
  unfold decS
  rw [if_neg (by rw [h2]; simp; omega), h1, if_neg (by simp [hc])]
/-- WHAT IS READ IS LAID AGAIN -/
theorem enc_dec {s : Str} (h : (decS s).2 = 0) : encB (decS s).1 = s ∧ chkS (decS s).1 65536 = 0 ∧ ImgJ (decS s).1 := by
  unfold decS at h ⊢
  split at h
  · cases h
  · rename_i h1
    rw [if_neg h1]
    split at h
    · cases h
    · rename_i h2
      rw [if_neg h2]
      simp only [not_or, ne_eq, Decidable.not_not, Bool.not_eq_true] at h1 h2
      obtain ⟨h3, h4⟩ := img_dec h2.1 h2.2.1
      refine ⟨?_, h2.2.2, h4⟩
      rw [← h3, show magicS = magic4 from rfl, ← h1.2, List.take_append_drop]
theorem decS_err {s : Str} : (decS s).2 = 0 ∨ decS s = (img0, 171) := by
  unfold decS
  split
  · exact .inr rfl
  · split
    · exact .inr rfl
    · exact .inl rfl
/-! ### images alike -/
theorem intE_iff (x y : Int) : intE x y = true ↔ x = y := by simp [intE]
theorem refE_iff (x y : Int × Int) : refE x y = true ↔ x = y := by obtain ⟨a, b⟩ := x; obtain ⟨c, d⟩ := y; simp [refE]
theorem conE_iff (x y : Con) : conE x y = true ↔ x = y := by cases x; cases y; simp [conE]
theorem insE_iff (x y : Ins) : insE x y = true ↔ x = y := by cases x; cases y; simp [insE, eqL_eq intE_iff, and_assoc]
theorem funE_iff (x y : Fun) : funE x y = true ↔ x = y := by cases x; cases y; simp [funE, eqL_eq insE_iff, and_assoc]
theorem glbE_iff (x y : Glb) : glbE x y = true ↔ x = y := by cases x; cases y; simp [glbE, eqL_eq refE_iff, and_assoc]
theorem imgE_iff (x y : Img) : imgE x y = true ↔ x = y := by
  cases x; cases y
  simp only [imgE, Bool.and_eq_true, decide_eq_true_eq, eqL_eq conE_iff, eqL_eq funE_iff, eqL_eq glbE_iff, Img.mk.injEq]
  constructor
  · rintro ⟨⟨⟨h1, h2⟩, h3⟩, h4⟩; exact ⟨h2, h3, h4, h1⟩
  · rintro ⟨h2, h3, h4, h1⟩; exact ⟨⟨⟨h1, h2⟩, h3⟩, h4⟩
end Go.Proofs.YtihhngjoecgkpaaDoor
end

section
namespace Go.Proofs.YtihhngjoecgkpaaDoor
open Go
set_option linter.unusedSimpArgs false
set_option linter.unusedVariables false
set_option maxRecDepth 10000
set_option maxHeartbeats 4000000

def smallI1 : Ins := ⟨1, 1, 0, 0, -65, []⟩
def smallI2 : Ins := ⟨12, 1, 0, 0, 3, [1]⟩
def smallI3 : Ins := ⟨19, 0, 1, 0, 0, []⟩
def smallF : Fun := ⟨[109], false, false, 0, 1, 2, [smallI1, smallI2, smallI3]⟩
def smallM : Img := ⟨[want0, want1, want2, want3], [smallF], [⟨1, 0, []⟩], 0⟩
theorem kcons_ok (G : Gl) (hG : GClosed G) (H : List Blk) : ACall Tryd.prog G 73 [] H (fun r H' => H' = H ∧ r = .list 4 (consL smallM.cons)) := by
  refine ACall.of_go TB [] tabOK _ Tryd.func73 rfl (by decide) Tryd.ntmps73 (by simp) rfl (by simp only [initEnv, Nat.reduceAdd]; rfl) fun C R' hR hC hcl hB => ?_; have X := noX; have hC' := congrArg List.length hC
  (refine run ?_; repeat' (first | with_reducible exact trivial | ((with_reducible apply Fork.mk) <;> intro hb) | with_reducible apply Two.mk))
  exact Fin.out hR ⟨rfl, rfl⟩
theorem small_ok (G : Gl) (hG : GClosed G) (H : List Blk) : ACall Tryd.prog G 46 [] H (fun r H' => H' = H ∧ r = .agg smallM.cells) := by
  have c1 := fun H => kcons_ok G hG H
  refine ACall.of_go TB [] tabOK _ Tryd.func46 rfl (by decide) Tryd.ntmps46 (by simp) rfl (by simp only [initEnv, Nat.reduceAdd]; rfl) fun C R' hR hC hcl hB => ?_; have X := noX; have hC' := congrArg List.length hC
  (refine run ?_; repeat' (first | with_reducible exact trivial | ((with_reducible apply Fork.mk) <;> intro hb) | with_reducible apply Two.mk))
  refine finS hR hC' hcl (y := .agg smallM.cells) ?_ ⟨rfl, rfl⟩
  show Frz _ _ _ (.agg _) (.agg _)
  repeat' (first | exact FrzL.nil | exact Frz.nil _ | (refine Frz.same _ ?_; rfl) | refine FrzL.cons _ _ _ _ ?_ ?_ | refine Frz.agg _ _ ?_ | refine Frz.list _ _ _ ?_)

theorem ACall.args {P : Program} {G : Gl} {f : FuncId} {xs ys : List SV} {H : List Blk} {R : SV → List Blk → Prop} (h : ACall P G f ys H R) (hx : ∀ c vs, RepL c xs vs → RepL c ys vs) : ACall P G f xs H R := ⟨h.1, fun c vs h1 h2 h3 h4 => h.2 c vs h1 h2 h3 (hx c vs h4)⟩
theorem Rep.nil_list {c : Cx} {v : Value} (n : Nat) (h : Rep c .nil v) : Rep c (.list n []) v := by
  simp only [Rep] at h ⊢
  exact ⟨none, 0, h, Nat.le_refl _, Nat.zero_le _, .inl trivial⟩
theorem lt_eq : ∀ {a b : List Int}, a.Pairwise (fun x y => x < y) → b.Pairwise (fun x y => x < y) → (∀ s, s ∈ a ↔ s ∈ b) → a = b
  | [], [], _, _, _ => rfl
  | [], y :: b, _, _, h => by have := (h y).2 (by simp); cases this
  | x :: a, [], _, _, h => by have := (h x).1 (by simp); cases this
  | x :: a, y :: b, h1, h2, h => by
    rw [List.pairwise_cons] at h1 h2
    have hxy : x = y := by
      rcases List.mem_cons.1 ((h x).1 (by simp)) with e | e
      · exact e
      · rcases List.mem_cons.1 ((h y).2 (by simp)) with e2 | e2
        · exact e2.symm
        · have := h1.1 y e2; have := h2.1 x e; omega
    subst hxy
    rw [lt_eq h1.2 h2.2 fun s => ⟨fun hs => by
      rcases List.mem_cons.1 ((h s).1 (List.mem_cons_of_mem _ hs)) with e | e
      · subst e; exact absurd (h1.1 _ hs) (Int.lt_irrefl _)
      · exact e, fun hs => by
      rcases List.mem_cons.1 ((h s).2 (List.mem_cons_of_mem _ hs)) with e | e
      · subst e; exact absurd (h2.1 _ hs) (Int.lt_irrefl _)
      · exact e⟩]
theorem isI_small (n : Int) (h : -1000 ≤ n ∧ n ≤ 1000) : isI n := ⟨by omega, by omega⟩
theorem smallJ : ImgJ smallM := by
  refine ⟨⟨isI_small _ (by decide), fun c hc => ?_⟩, ⟨isI_small _ (by decide), fun f hf => ?_⟩, ⟨isI_small _ (by decide), fun g hg => ?_⟩, isI_small _ (by decide)⟩
  · have : c = want0 ∨ c = want1 ∨ c = want2 ∨ c = want3 := by simpa [smallM] using hc
    rcases this with rfl | rfl | rfl | rfl <;> exact ⟨isI_small _ (by decide), isI_small _ (by decide), isI_small _ (by decide), isI_small _ (by decide)⟩
  · obtain rfl : f = smallF := by simpa [smallM] using hf
    refine ⟨isI_small _ (by decide), isI_small _ (by decide), isI_small _ (by decide), isI_small _ (by decide), isI_small _ (by decide), fun i hi => ?_⟩
    have : i = smallI1 ∨ i = smallI2 ∨ i = smallI3 := by simpa [smallF] using hi
    rcases this with rfl | rfl | rfl <;> exact ⟨isI_small _ (by decide), isI_small _ (by decide), isI_small _ (by decide), isI_small _ (by decide), isI_small _ (by decide), isI_small _ (by decide), fun n hn => by
      first
        | (cases hn; done)
        | (obtain rfl : n = 1 := by simpa [smallI2] using hn
           exact isI_small _ (by decide))⟩
  · obtain rfl : g = ⟨1, 0, []⟩ := by simpa [smallM] using hg
    exact ⟨isI_small _ (by decide), isI_small _ (by decide), isI_small _ (by decide), fun r hr => by cases hr⟩
theorem smallB : ImgB smallM := by
  refine ⟨by decide, by decide, by decide, fun f hf => ?_, fun g hg => ?_⟩
  · obtain rfl : f = smallF := by simpa [smallM] using hf
    refine ⟨by decide, fun i hi => ?_⟩
    have : i = smallI1 ∨ i = smallI2 ∨ i = smallI3 := by simpa [smallF] using hi
    rcases this with rfl | rfl | rfl <;> decide
  · obtain rfl : g = ⟨1, 0, []⟩ := by simpa [smallM] using hg
    decide
theorem small_chk : chkS smallM 65536 = 0 ∧ chkS smallM 16 = 0 ∧ chkS smallM 0 = 1 ∧ chkS img0 16 = 170 := by decide +kernel
theorem dec_bad : decS [84, 83, 76, 49] = (img0, 171) := rfl
theorem next_ex : nxS ⟨21, 0, 3, 0, 9, [4, -1, 7]⟩ 2 = [4, 7, 9] := by
  refine lt_eq (nxS_lt _ _) (by decide) fun s => ?_
  rw [nxS_mem]
  show s ∈ [(9 : Int), 4, 7] ↔ s ∈ [(4 : Int), 7, 9]
  simp only [List.mem_cons, List.not_mem_nil, or_false]
  omega
theorem reads_ex : rdS ⟨16, 1, 2, 0, 0, [5, 2]⟩ = [2, 5, 2] := by decide +kernel
theorem writes_ex : wrS ⟨14, 1, 0, 0, 0, []⟩ = -1 := by decide +kernel
theorem img0B : ImgB img0 := ⟨by decide, by decide, by decide, fun f hf => (by cases hf), fun g hg => (by cases hg)⟩
end Go.Proofs.YtihhngjoecgkpaaDoor
end

section
namespace Go.Proofs.YtihhngjoecgkpaaDoor
open Go Go.ChangeShapes Go.WideShapes Go.RowKit
set_option linter.unusedVariables false
set_option linter.unusedSimpArgs false

/-- the laid table among what the walks may lean on -/
def Gf : Gl := ⟨[(0, fieldsV)], none⟩
theorem gclosedF : GClosed Gf := by
  intro p hp
  rcases List.mem_cons.1 hp with rfl | hp
  · exact ints_under _ _
  · cases hp
theorem gF : GF Gf := rfl
theorem own : ownKnob Tryd.prog.godebug = none := by kernel_rfl
theorem laid : laidOutB Tryd.prog = true := by kernel_rfl
theorem gTab : Tryd.prog.globalNamed "teasel/code.fields" = some 0 := by kernel_rfl
theorem gTabType : (Tryd.prog.globals[0]?).map (·.type) = some 112 := by kernel_rfl
theorem cellsT : Tryd.prog.cellsOf 112 = 27 := by kernel_rfl
theorem cells3 : Tryd.prog.cellsOf 3 = 1 := by kernel_rfl
theorem table {W : World} (h : laidMetH Tryd.prog [("teasel/code.fields", Rows.laid_teasel_code_fields)] W) : Lib.TabIs Tryd.prog W "teasel/code.fields" .i64 fieldsL :=
  Lib.tabIs_of_head (rest := []) gTab gTabType Tryd.underlying112 Tryd.underlying3 cells3 cellsT h
theorem ints_rep {c : Cx} : ∀ (l : List Int), (∀ n ∈ l, IntKind.i64.min ≤ n ∧ n ≤ IntKind.i64.max) → RepL c (l.map (.int .i64)) (l.map fun n => Value.int .i64 n)
  | [], _ => RepL.mk_nil
  | n :: l, h => RepL.mk_cons (by simp only [Rep]; exact ⟨trivial, h n (by simp)⟩) (ints_rep l fun m hm => h m (by simp [hm]))
theorem gok {W : World} (h : laidMetH Tryd.prog [("teasel/code.fields", Rows.laid_teasel_code_fields)] W) : GOK Gf (rdC W) := by
  refine ⟨fun p hp => ?_, fun C0 h0 => by cases h0⟩
  rcases List.mem_cons.1 hp with rfl | hp
  · have ht : ∀ i, i < 27 → W.cell? ⟨0, i, none⟩ = some (.int .i64 (fieldsL.getD i 0)) := fun i hi => (table h).cell gTab i hi
    have h0 := ht 0 (by omega)
    have hsz : 0 < W.heap.size := by
      have : W.heap[0]? ≠ none := fun e => by simp [World.cell?, e] at h0
      simp only [ne_eq, Array.getElem?_eq_none_iff] at this; omega
    simp only [Rep]
    refine ⟨0, 0, .agg (fieldsL.map fun n => Value.int .i64 n).toArray, rfl, ⟨_, ints_rep fieldsL (by decide), ?_, rfl⟩, ?_, ?_, rdC_imm hsz⟩
    · intro u hu; obtain ⟨n, _, rfl⟩ := List.mem_map.1 hu; rfl
    · intro v hv
      obtain ⟨n, _, rfl⟩ := List.mem_map.1 (show v ∈ fieldsL.map fun n => Value.int .i64 n by simpa [Value.cells] using hv)
      rfl
    · intro j v hv
      have hv2 : (fieldsL.map fun n => Value.int .i64 n)[j]? = some v := by simpa [Value.cells] using hv
      rw [List.getElem?_map, Option.map_eq_some_iff] at hv2
      obtain ⟨n, hn, rfl⟩ := hv2
      have hj := (List.getElem?_eq_some_iff.1 hn).1
      show W.cell? ⟨0, 0 + j, none⟩ = _
      rw [Nat.zero_add, ht j hj, List.getD_eq_getElem?_getD, hn]; rfl
  · cases hp

section
variable {H : Type} {enc : TypeId × Value → H} {W : World} {sp : Nat → Bool}
theorem law_callsG {P : Program} {G : Gl} {f : FuncId} {args : List SV} {vs : List Value} (h : ACall P G f args [] (fun r H' => H' = [] ∧ r = .bool true)) (hg : GOK G (rdC W)) (hv : RepL (rdC W) args vs) {R : World → Prop} (hR : ∀ W', Below W.heap.size W W' → R W') :
    Calls P f vs.toArray W fun e W' => ∃ v, e = .returned v ∧ v = .bool true ∧ R W' := by
  refine (callsIn_wide (n := 0)).1 ((h.2 (rdC W) vs rfl (rdC_ok W) hg hv).mono ?_)
  rintro e w' ⟨v, x, c', rfl, hw, ⟨_, rfl⟩, _, hx, hg⟩
  simp only [Rep] at hx
  exact ⟨v, rfl, hx, hR _ (Grow.below hg hw)⟩
theorem read_int (n : Nat) : Rd enc Tryd.prog W sp n 3 (fun i : Int => [.int .i64 i]) (fun _ => 1) := rd_int (by kernel_rfl) (by kernel_rfl)
theorem read_bool (n : Nat) : Rd enc Tryd.prog W sp n 4 (fun b : Bool => [.bool b]) (fun _ => 1) := rd_bool (by kernel_rfl) (by kernel_rfl)
theorem read_str (n : Nat) : Rd enc Tryd.prog W sp n 9 (fun s : Str => [.str s]) (fun s => s.length + 1) := rd_str (by kernel_rfl) (by kernel_rfl)
theorem sum_k {α : Type} (k : Nat) (a : List α) : (a.map fun _ => k).sum = k * a.length := by
  induction a with
  | nil => rfl
  | cons x l ih => simp only [List.map_cons, List.sum_cons, ih, List.length_cons, Nat.mul_add]; omega
theorem read_ints (n : Nat) : Rd enc Tryd.prog W sp n 41 (fun l : List Int => [.list 1 (l.map (.int .i64))]) (fun l => 1 + l.length) := by
  have h := rd_slice (enc := enc) (P := Tryd.prog) (W := W) (sp := sp) (t := 41) (e := 3) false (f := fun i : Int => [SV.int .i64 i]) (wt := fun _ => 1) (n := 1) (N := n) (by kernel_rfl) (by kernel_rfl) (by kernel_rfl) (by omega) (.inr rfl) (fun m _ => read_int m)
  intro cs x hx
  obtain ⟨a, h1, h2, h3⟩ := h cs x hx
  refine ⟨a, h1, h2, ?_⟩
  simp only [sum_k] at h3
  simp only; omega
def conW (c : Con) : Nat := c.name.length + 4
theorem read_con (n : Nat) : Rd enc Tryd.prog W sp n 54 Con.cells conW := by
  intro cs x hx
  obtain ⟨xs, m, rfl, rfl, hl, hlen, hf⟩ := DataW.trod_struct Tryd.underlying54 hx
  obtain ⟨z0, z1, z2, z3, rfl⟩ := len_four (show xs.length = 4 from hlen)
  have hsz : Tryd.prog.cellsOf 54 = 4 := by kernel_rfl
  obtain ⟨y0, a0, e0, g0, w0⟩ := field_of hf 0 0 1 (by kernel_rfl) (by kernel_rfl) (read_str m) (by simp)
  obtain ⟨y1, a1, e1, g1, w1⟩ := field_of hf 1 1 1 (by kernel_rfl) (by kernel_rfl) (read_int m) (by simp)
  obtain ⟨y2, a2, e2, g2, w2⟩ := field_of hf 2 2 1 (by kernel_rfl) (by kernel_rfl) (read_int m) (by simp)
  obtain ⟨y3, a3, e3, g3, w3⟩ := field_of hf 3 3 1 (by kernel_rfl) (by kernel_rfl) (read_int m) (by simp)
  rw [hsz] at hl
  refine ⟨⟨a0, a1, a2, a3⟩, ?_, by rw [hsz, hl], ?_⟩
  · have : (⟨a0, a1, a2, a3⟩ : Con).cells = [.str a0] ++ ([.int .i64 a1] ++ ([.int .i64 a2] ++ ([.int .i64 a3] ++ []))) := rfl
    rw [this, ← List.drop_zero (l := cs)]
    refine .cut g0 (.cut g1 (.cut g2 (.cut g3 ?_)))
    rw [List.drop_eq_nil_of_le (by omega)]
    exact .nil
  · cases e0; cases e1; cases e2; cases e3
    simp only [Rows.uptoBulk, Rows.uptoBulkAll, List.map_cons, List.map_nil, conW]
    omega
def insW (i : Ins) : Nat := 6 + i.l.length
theorem ins_cells (i : Ins) : i.cells = [.int .i64 i.op] ++ ([.int .i64 i.a] ++ ([.int .i64 i.b] ++ ([.int .i64 i.c] ++ ([.int .i64 i.n] ++ ([.list 1 (i.l.map (.int .i64))] ++ []))))) := rfl
theorem read_ins (n : Nat) : Rd enc Tryd.prog W sp n 44 Ins.cells insW := by
  intro cs x hx
  obtain ⟨xs, m, rfl, rfl, hl, hlen, hf⟩ := DataW.trod_struct Tryd.underlying44 hx
  obtain ⟨z0, z1, z2, z3, z4, z5, rfl⟩ := len_six (show xs.length = 6 from hlen)
  have hsz : Tryd.prog.cellsOf 44 = 6 := by kernel_rfl
  obtain ⟨y0, a0, e0, g0, w0⟩ := field_of hf 0 0 1 (by kernel_rfl) (by kernel_rfl) (read_int m) (by simp)
  obtain ⟨y1, a1, e1, g1, w1⟩ := field_of hf 1 1 1 (by kernel_rfl) (by kernel_rfl) (read_int m) (by simp)
  obtain ⟨y2, a2, e2, g2, w2⟩ := field_of hf 2 2 1 (by kernel_rfl) (by kernel_rfl) (read_int m) (by simp)
  obtain ⟨y3, a3, e3, g3, w3⟩ := field_of hf 3 3 1 (by kernel_rfl) (by kernel_rfl) (read_int m) (by simp)
  obtain ⟨y4, a4, e4, g4, w4⟩ := field_of hf 4 4 1 (by kernel_rfl) (by kernel_rfl) (read_int m) (by simp)
  obtain ⟨y5, a5, e5, g5, w5⟩ := field_of hf 5 5 1 (by kernel_rfl) (by kernel_rfl) (read_ints m) (by simp)
  rw [hsz] at hl
  refine ⟨⟨a0, a1, a2, a3, a4, a5⟩, ?_, by rw [hsz, hl], ?_⟩
  · rw [ins_cells, ← List.drop_zero (l := cs)]
    refine .cut g0 (.cut g1 (.cut g2 (.cut g3 (.cut g4 (.cut g5 ?_)))))
    rw [List.drop_eq_nil_of_le (by omega)]
    exact .nil
  · cases e0; cases e1; cases e2; cases e3; cases e4; cases e5
    simp only [Rows.uptoBulk, Rows.uptoBulkAll, List.map_cons, List.map_nil, insW]
    omega
theorem read_ref (n : Nat) : Rd enc Tryd.prog W sp n 61 (fun p : Int × Int => [.int .i64 p.1, .int .i64 p.2]) (fun _ => 2) := by
  intro cs x hx
  obtain ⟨xs, m, rfl, rfl, hl, hlen, hf⟩ := DataW.trod_struct Tryd.underlying61 hx
  obtain ⟨z0, z1, rfl⟩ := len_two (show xs.length = 2 from hlen)
  have hsz : Tryd.prog.cellsOf 61 = 2 := by kernel_rfl
  obtain ⟨y0, a, e0, g0, w0⟩ := field_of hf 0 0 1 (by kernel_rfl) (by kernel_rfl) (read_int m) (by simp)
  obtain ⟨y1, b, e1, g1, w1⟩ := field_of hf 1 1 1 (by kernel_rfl) (by kernel_rfl) (read_int m) (by simp)
  rw [hsz] at hl
  refine ⟨(a, b), ?_, by rw [hsz, hl], ?_⟩
  · have : [SV.int .i64 a, SV.int .i64 b] = [SV.int .i64 a] ++ ([SV.int .i64 b] ++ []) := rfl
    simp only
    rw [this, ← List.drop_zero (l := cs)]
    refine .cut g0 (.cut g1 ?_)
    rw [List.drop_eq_nil_of_le (by omega)]
    exact .nil
  · cases e0; cases e1
    simp only [Rows.uptoBulk, Rows.uptoBulkAll, List.map_cons, List.map_nil]
    omega
def glbW (g : Glb) : Nat := 3 + 2 * g.args.length
theorem read_glb (n : Nat) : Rd enc Tryd.prog W sp n 59 Glb.cells glbW := by
  intro cs x hx
  obtain ⟨xs, m, rfl, rfl, hl, hlen, hf⟩ := DataW.trod_struct Tryd.underlying59 hx
  obtain ⟨z0, z1, z2, rfl⟩ := len_three (show xs.length = 3 from hlen)
  have hsz : Tryd.prog.cellsOf 59 = 3 := by kernel_rfl
  obtain ⟨y0, a0, e0, g0, w0⟩ := field_of hf 0 0 1 (by kernel_rfl) (by kernel_rfl) (read_int m) (by simp)
  obtain ⟨y1, a1, e1, g1, w1⟩ := field_of hf 1 1 1 (by kernel_rfl) (by kernel_rfl) (read_int m) (by simp)
  obtain ⟨y2, a2, e2, g2, w2⟩ := field_of hf 2 2 1 (by kernel_rfl) (by kernel_rfl) (rd_slice (t := 57) (e := 61) (f := fun p : Int × Int => [SV.int .i64 p.1, SV.int .i64 p.2]) true (by kernel_rfl) (by kernel_rfl) (n := 2) (by kernel_rfl) (by omega) (.inl rfl) (fun m' _ => read_ref m')) (by simp)
  rw [hsz] at hl
  refine ⟨⟨a0, a1, a2⟩, ?_, by rw [hsz, hl], ?_⟩
  · have : (⟨a0, a1, a2⟩ : Glb).cells = [.int .i64 a0] ++ ([.int .i64 a1] ++ ([.list 2 (a2.map fun x => bx true [.int .i64 x.1, .int .i64 x.2])] ++ [])) := rfl
    rw [this, ← List.drop_zero (l := cs)]
    refine .cut g0 (.cut g1 (.cut g2 ?_))
    rw [List.drop_eq_nil_of_le (by omega)]
    exact .nil
  · cases e0; cases e1; cases e2
    rw [sum_k] at w2
    simp only [Rows.uptoBulk, Rows.uptoBulkAll, List.map_cons, List.map_nil, glbW]
    omega
def funW (f : Fun) : Nat := f.name.length + 7 + (f.code.map insW).sum
theorem fun_cells (f : Fun) : f.cells = [.str f.name] ++ ([.bool f.thunk] ++ ([.bool f.upd] ++ ([.int .i64 f.free] ++ ([.int .i64 f.params] ++ ([.int .i64 f.frame] ++ ([.list 6 (f.code.map fun x => bx true x.cells)] ++ [])))))) := rfl
theorem read_fun (n : Nat) : Rd enc Tryd.prog W sp n 40 Fun.cells funW := by
  intro cs x hx
  obtain ⟨xs, m, rfl, rfl, hl, hlen, hf⟩ := DataW.trod_struct Tryd.underlying40 hx
  obtain ⟨z0, z1, z2, z3, z4, z5, z6, rfl⟩ := len_seven (show xs.length = 7 from hlen)
  have hsz : Tryd.prog.cellsOf 40 = 7 := by kernel_rfl
  obtain ⟨y0, a0, e0, g0, w0⟩ := field_of hf 0 0 1 (by kernel_rfl) (by kernel_rfl) (read_str m) (by simp)
  obtain ⟨y1, a1, e1, g1, w1⟩ := field_of hf 1 1 1 (by kernel_rfl) (by kernel_rfl) (read_bool m) (by simp)
  obtain ⟨y2, a2, e2, g2, w2⟩ := field_of hf 2 2 1 (by kernel_rfl) (by kernel_rfl) (read_bool m) (by simp)
  obtain ⟨y3, a3, e3, g3, w3⟩ := field_of hf 3 3 1 (by kernel_rfl) (by kernel_rfl) (read_int m) (by simp)
  obtain ⟨y4, a4, e4, g4, w4⟩ := field_of hf 4 4 1 (by kernel_rfl) (by kernel_rfl) (read_int m) (by simp)
  obtain ⟨y5, a5, e5, g5, w5⟩ := field_of hf 5 5 1 (by kernel_rfl) (by kernel_rfl) (read_int m) (by simp)
  obtain ⟨y6, a6, e6, g6, w6⟩ := field_of hf 6 6 1 (by kernel_rfl) (by kernel_rfl) (rd_slice (t := 38) (e := 44) true (by kernel_rfl) (by kernel_rfl) (n := 6) (by kernel_rfl) (by omega) (.inl rfl) (fun m' _ => read_ins m')) (by simp)
  rw [hsz] at hl
  refine ⟨⟨a0, a1, a2, a3, a4, a5, a6⟩, ?_, by rw [hsz, hl], ?_⟩
  · rw [fun_cells, ← List.drop_zero (l := cs)]
    refine .cut g0 (.cut g1 (.cut g2 (.cut g3 (.cut g4 (.cut g5 (.cut g6 ?_))))))
    rw [List.drop_eq_nil_of_le (by omega)]
    exact .nil
  · cases e0; cases e1; cases e2; cases e3; cases e4; cases e5; cases e6
    simp only [Rows.uptoBulk, Rows.uptoBulkAll, List.map_cons, List.map_nil, funW]
    omega
def imgW (m : Img) : Nat := 4 + (m.cons.map conW).sum + (m.funcs.map funW).sum + (m.globals.map glbW).sum
theorem read_img (n : Nat) : Rd enc Tryd.prog W sp n 26 Img.cells imgW := by
  intro cs x hx
  obtain ⟨xs, m, rfl, rfl, hl, hlen, hf⟩ := DataW.trod_struct Tryd.underlying26 hx
  obtain ⟨z0, z1, z2, z3, rfl⟩ := len_four (show xs.length = 4 from hlen)
  have hsz : Tryd.prog.cellsOf 26 = 4 := by kernel_rfl
  obtain ⟨y0, a0, e0, g0, w0⟩ := field_of hf 0 0 1 (by kernel_rfl) (by kernel_rfl) (rd_slice (t := 22) (e := 54) true (by kernel_rfl) (by kernel_rfl) (n := 4) (by kernel_rfl) (by omega) (.inl rfl) (fun m' _ => read_con m')) (by simp)
  obtain ⟨y1, a1, e1, g1, w1⟩ := field_of hf 1 1 1 (by kernel_rfl) (by kernel_rfl) (rd_slice (t := 23) (e := 40) true (by kernel_rfl) (by kernel_rfl) (n := 7) (by kernel_rfl) (by omega) (.inl rfl) (fun m' _ => read_fun m')) (by simp)
  obtain ⟨y2, a2, e2, g2, w2⟩ := field_of hf 2 2 1 (by kernel_rfl) (by kernel_rfl) (rd_slice (t := 24) (e := 59) true (by kernel_rfl) (by kernel_rfl) (n := 3) (by kernel_rfl) (by omega) (.inl rfl) (fun m' _ => read_glb m')) (by simp)
  obtain ⟨y3, a3, e3, g3, w3⟩ := field_of hf 3 3 1 (by kernel_rfl) (by kernel_rfl) (read_int m) (by simp)
  rw [hsz] at hl
  refine ⟨⟨a0, a1, a2, a3⟩, ?_, by rw [hsz, hl], ?_⟩
  · have : (⟨a0, a1, a2, a3⟩ : Img).cells = [.list 4 (a0.map fun x => bx true x.cells)] ++ ([.list 7 (a1.map fun x => bx true x.cells)] ++ ([.list 3 (a2.map fun x => bx true x.cells)] ++ ([.int .i64 a3] ++ []))) := rfl
    rw [this, ← List.drop_zero (l := cs)]
    refine .cut g0 (.cut g1 (.cut g2 (.cut g3 ?_)))
    rw [List.drop_eq_nil_of_le (by omega)]
    exact .nil
  · cases e0; cases e1; cases e2; cases e3
    simp only [Rows.uptoBulk, Rows.uptoBulkAll, List.map_cons, List.map_nil, imgW]
    omega
end

/-! ### what the weight of an image says -/
theorem sum_mem {α : Type} (g : α → Nat) (x : α) : ∀ l : List α, x ∈ l → g x ≤ (l.map g).sum
  | [], h => by cases h
  | y :: r, h => by
    simp only [List.map_cons, List.sum_cons]
    rcases List.mem_cons.1 h with e | h
    · rw [e]; omega
    · have := sum_mem g x r h; omega
theorem sum_len {α : Type} (g : α → Nat) : ∀ l : List α, (∀ x ∈ l, 1 ≤ g x) → l.length ≤ (l.map g).sum
  | [], _ => by simp
  | y :: r, h => by
    have := sum_len g r fun x hx => h x (List.mem_cons_of_mem _ hx)
    have := h y (List.mem_cons_self ..)
    simp only [List.map_cons, List.sum_cons, List.length_cons]; omega
theorem imgOfW {m : Img} (h : imgW m < 1099511627776) : ImgB m := by
  unfold imgW at h
  have h0 := sum_len conW m.cons (fun x _ => by unfold conW; omega)
  have h1 := sum_len funW m.funcs (fun x _ => by unfold funW; omega)
  have h2 := sum_len glbW m.globals (fun x _ => by unfold glbW; omega)
  refine ⟨by omega, by omega, by omega, fun f hf => ?_, fun g hg => ?_⟩
  · have h3 := sum_mem funW f m.funcs hf
    have h6 : funW f = f.name.length + 7 + (f.code.map insW).sum := rfl
    have h4 := sum_len insW f.code (fun x _ => by unfold insW; omega)
    refine ⟨by omega, fun i hi => ?_⟩
    have h5 := sum_mem insW i f.code hi
    have h7 : insW i = 6 + i.l.length := rfl
    omega
  · have h3 := sum_mem glbW g m.globals hg
    have h7 : glbW g = 3 + 2 * g.args.length := rfl
    omega
theorem imgL30 {m : Img} (h : imgW m ≤ 1048576) : ∀ f ∈ m.funcs, ∀ i ∈ f.code, i.l.length ≤ 1073741824 := by
  intro f hf i hi
  have h1 : imgW m = 4 + (m.cons.map conW).sum + (m.funcs.map funW).sum + (m.globals.map glbW).sum := rfl
  have h3 := sum_mem funW f m.funcs hf
  have h6 : funW f = f.name.length + 7 + (f.code.map insW).sum := rfl
  have h5 := sum_mem insW i f.code hi
  have h7 : insW i = 6 + i.l.length := rfl
  omega
theorem flat_sum {α : Type} (pr : α → Str) (w : α → Nat) (k : Nat) : ∀ l : List α, (∀ x ∈ l, (pr x).length ≤ k * w x) → (l.flatMap pr).length ≤ k * (l.map w).sum
  | [], _ => by simp
  | x :: l, h => by
    have h1 := h x (List.mem_cons_self ..)
    have h2 := flat_sum pr w k l fun y hy => h y (List.mem_cons_of_mem _ hy)
    simp only [List.flatMap_cons, List.length_append, List.map_cons, List.sum_cons, Nat.mul_add]; omega
theorem tru_len (b : Bool) : (truS b).length ≤ 10 := by unfold truS; cases b <;> exact numS_len ⟨by decide, by decide⟩
theorem ints_len {l : List Int} (h : ∀ n ∈ l, isI n) : (l.flatMap numS).length ≤ 10 * l.length := numsS_len h
theorem encB_len {m : Img} (h : ImgJ m) : (encB m).length ≤ 10 * imgW m + 44 := by
  have hc := flat_sum conS conW 10 m.cons fun c hc => by
    obtain ⟨h1, h2, h3, h4⟩ := h.cons.2 c hc
    have a1 := numS_len h1; have a2 := numS_len h2; have a3 := numS_len h3; have a4 := numS_len h4
    rw [conS_eq]; simp only [txtS, List.length_append, conW]; omega
  have hf := flat_sum funS funW 10 m.funcs fun f hf => by
    obtain ⟨h1, h2, h3, h4, h5, h6⟩ := h.funcs.2 f hf
    have a1 := numS_len h1; have a2 := numS_len h2; have a3 := numS_len h3; have a4 := numS_len h4; have a5 := numS_len h5
    have b1 := tru_len f.thunk; have b2 := tru_len f.upd
    have hi := flat_sum insS insW 10 f.code fun i hi => by
      obtain ⟨k1, k2, k3, k4, k5, k6, k7⟩ := h6 i hi
      have a1 := numS_len k1; have a2 := numS_len k2; have a3 := numS_len k3; have a4 := numS_len k4; have a5 := numS_len k5; have a6 := numS_len k6
      have a7 := ints_len k7
      rw [insS_eq]; simp only [lstS, List.length_append, insW]; omega
    rw [funS_eq]; simp only [txtS, lstS, List.length_append, funW]; omega
  have hg := flat_sum glbS glbW 10 m.globals fun g hg => by
    obtain ⟨h1, h2, h3, h4⟩ := h.globals.2 g hg
    have a1 := numS_len h1; have a2 := numS_len h2; have a3 := numS_len h3
    have hr := flat_sum refS (fun _ => 2) 10 g.args fun r hr => by
      have a1 := numS_len (h4 r hr).1; have a2 := numS_len (h4 r hr).2
      rw [refS_eq, List.length_append]; omega
    rw [sum_k] at hr
    rw [glbS_eq]; simp only [lstS, List.length_append, glbW]; omega
  have a1 := numS_len h.cons.1; have a2 := numS_len h.funcs.1; have a3 := numS_len h.globals.1; have a4 := numS_len h.main
  have hm : magicS.length = 4 := rfl
  rw [encB_eq]; simp only [lstS, List.length_append, imgW, hm]; omega

/-! ### numbers that are told are in range -/
mutual
def SV.okI : SV → Bool
  | .int k n => decide (k.min ≤ n) && decide (n ≤ k.max)
  | .agg fs => SV.okL fs
  | .list _ xs => SV.okL xs
  | _ => true
def SV.okL : List SV → Bool
  | [] => true
  | x :: xs => x.okI && SV.okL xs
end
theorem Rep.okI_both (c : Cx) : (∀ x v, Rep c x v → x.okI = true) ∧ (∀ xs vs, RepL c xs vs → SV.okL xs = true) := by
  refine SV.both (p := fun x => ∀ v, Rep c x v → x.okI = true) (q := fun xs => ∀ vs, RepL c xs vs → SV.okL xs = true) ?_ ?_ ?_ ?_ ?_ ?_ ?_ ?_ ?_
  · intro x h1 h2 _ _ _ _ v hv
    cases x <;> first
      | rfl
      | (exact absurd rfl (h1 _))
      | (exact absurd rfl (h2 _ _))
      | (simp only [Rep] at hv; simp only [SV.okI, Bool.and_eq_true, decide_eq_true_eq]; exact hv.2)
  · intro fs ih v hv
    simp only [Rep] at hv
    obtain ⟨vs, h, _⟩ := hv
    simp only [SV.okI]; exact ih vs h
  · intro n xs ih v hv
    simp only [Rep] at hv
    obtain ⟨a, cap, _, _, _, h⟩ := hv
    simp only [SV.okI]
    rcases h with rfl | ⟨_, _, vs, _, h, _⟩
    · rfl
    · exact ih vs h
  · intro x _ v _; rfl
  · intro f a b _ _ v _; rfl
  · intro xs _ v _; rfl
  · intro b clk born kd ks vs _ _ v _; rfl
  · intro vs _; rfl
  · intro x xs h1 h2 vs hv
    simp only [RepL] at hv
    obtain ⟨u, us, h3, h4, _⟩ := hv
    simp only [SV.okL, h1 u h3, h2 us h4, Bool.and_self]
theorem okL_all : ∀ {xs : List SV}, SV.okL xs = true → ∀ x ∈ xs, x.okI = true
  | [], _, x, h => by cases h
  | y :: ys, h, x, hx => by
    simp only [SV.okL, Bool.and_eq_true] at h
    rcases List.mem_cons.1 hx with rfl | hx
    · exact h.1
    · exact okL_all h.2 x hx
theorem okI_int {n : Int} (h : (SV.int .i64 n).okI = true) : isI n := by
  simp only [SV.okI, Bool.and_eq_true, decide_eq_true_eq, show IntKind.i64.min = -9223372036854775808 from by decide, show IntKind.i64.max = 9223372036854775807 from by decide] at h
  exact ⟨h.1, by omega⟩
/-- AN IMAGE THAT IS READ: its numbers and lengths are in range. -/
theorem imgJ {W : World} {m : Img} {cs : List Value} (h : Good W m.cells cs) (hw : imgW m < 1099511627776) : ImgJ m := by
  have hk := (Rep.okI_both (rdC W)).2 _ _ h.1
  simp only [Img.cells, SV.okL, SV.okI, Bool.and_eq_true, Bool.and_true] at hk
  obtain ⟨k1, k2, k3, k4⟩ := hk
  have hB := imgOfW hw
  unfold imgW at hw
  have hl : ∀ {n : Nat}, n < 1099511627776 → isI (n : Int) := fun h => ⟨by omega, by omega⟩
  refine ⟨⟨hl hB.c, fun c hc => ?_⟩, ⟨hl hB.f, fun f hf => ?_⟩, ⟨hl hB.g, fun g hg => ?_⟩, okI_int (by simpa [SV.okI] using k4)⟩
  · have h1 := okL_all k1 _ (List.mem_map_of_mem (f := fun c : Con => SV.agg c.cells) hc)
    simp only [Con.cells, SV.okI, SV.okL] at h1
    have h2 := sum_mem conW c m.cons hc
    have h7 : conW c = c.name.length + 4 := rfl
    simp only [Bool.and_eq_true, Bool.and_true, Bool.true_and] at h1
    refine ⟨hl (by omega), okI_int ?_, okI_int ?_, okI_int ?_⟩ <;> simp only [SV.okI, Bool.and_eq_true] <;> simp only [h1, and_self]
  · have h1 := okL_all k2 _ (List.mem_map_of_mem (f := fun f : Fun => SV.agg f.cells) hf)
    simp only [Fun.cells, SV.okI, SV.okL] at h1
    have h2 := sum_mem funW f m.funcs hf
    have h7 : funW f = f.name.length + 7 + (f.code.map insW).sum := rfl
    simp only [Bool.and_eq_true, Bool.and_true, Bool.true_and] at h1
    obtain ⟨a1, a2, a3, a4⟩ := h1
    refine ⟨hl (by omega), okI_int ?_, okI_int ?_, okI_int ?_, hl (hB.code f hf).1, fun i hi => ?_⟩
    · simp only [SV.okI, Bool.and_eq_true]; exact a1
    · simp only [SV.okI, Bool.and_eq_true]; exact a2
    · simp only [SV.okI, Bool.and_eq_true]; exact a3
    · have h3 := okL_all a4 _ (List.mem_map_of_mem (f := fun i : Ins => SV.agg i.cells) hi)
      simp only [Ins.cells, SV.okI, SV.okL] at h3
      simp only [Bool.and_eq_true, Bool.and_true, Bool.true_and] at h3
      obtain ⟨b1, b2, b3, b4, b5, b6⟩ := h3
      refine ⟨okI_int ?_, okI_int ?_, okI_int ?_, okI_int ?_, okI_int ?_, hl ((hB.code f hf).2 i hi), fun n hn => okI_int (okL_all b6 _ (List.mem_map_of_mem hn))⟩ <;> simp only [SV.okI, Bool.and_eq_true] <;> assumption
  · have h1 := okL_all k3 _ (List.mem_map_of_mem (f := fun g : Glb => SV.agg g.cells) hg)
    simp only [Glb.cells, SV.okI, SV.okL] at h1
    simp only [Bool.and_eq_true, Bool.and_true, Bool.true_and] at h1
    obtain ⟨a1, a2, a3⟩ := h1
    refine ⟨okI_int ?_, okI_int ?_, hl (hB.args g hg), fun r hr => ?_⟩
    · simp only [SV.okI, Bool.and_eq_true]; exact a1
    · simp only [SV.okI, Bool.and_eq_true]; exact a2
    · have h3 := okL_all a3 _ (List.mem_map_of_mem (f := encR) hr)
      simp only [encR, SV.okI, SV.okL] at h3
      simp only [Bool.and_eq_true, Bool.and_true, Bool.true_and] at h3
      exact ⟨okI_int (by simp only [SV.okI, Bool.and_eq_true]; exact h3.1), okI_int (by simp only [SV.okI, Bool.and_eq_true]; exact h3.2)⟩
/-- A WORLD FOR THE WITNESS. -/
noncomputable def laidWorld (os : Os) : World :=
  { World.holding Tryd.prog os ⟨#[], #[], []⟩ with heap := (World.holding Tryd.prog os ⟨#[], #[], []⟩).heap.modify 0 fun
      | .cells _ t frozen => .cells (fieldsL.map fun n => Value.int .i64 n).toArray t frozen
      | o => o }
end Go.Proofs.YtihhngjoecgkpaaDoor
end

section
namespace Go.Proofs.YtihhngjoecgkpaaDoor
open Go
set_option linter.unusedSimpArgs false
set_option linter.unusedVariables false
set_option maxRecDepth 10000
set_option maxHeartbeats 4000000

theorem encS_ok {m : Img} (h : chkS m 65536 = 0) : encS m = encB m := by unfold encS; rw [if_pos h]
theorem awake_ok (G : Gl) (hG : GClosed G) (hF : GF G) (H : List Blk) : ACall Tryd.prog G 14 [] H (fun r H' => H' = H ∧ r = .bool true) := by
  obtain ⟨k1, k2, k3, k4⟩ := small_chk
  have hlen : (encB smallM).length < 4294967296 := by
    have := encB_len smallJ
    have h2 : imgW smallM ≤ 1000 := by decide
    omega
  have c1 := fun H => small_ok G hG H
  have e1 := fun H => encode_ok G hG hF smallM smallB smallJ.I (by omega) H
  have e2 := fun H => decode_ok G hG hF (encB smallM) hlen H
  have e3 := fun H => next_ok G hG hF ⟨21, 0, 3, 0, 9, [4, -1, 7]⟩ 2 (by decide) (by decide) H
  have e4 := fun H => reads_ok G hG hF ⟨16, 1, 2, 0, 0, [5, 2]⟩ (by decide) H
  have e5 := fun H => decode_ok G hG hF [84, 83, 76, 49] (by decide) H
  have c2 := fun H => same_ok G hG smallM smallM smallB smallB H
  have c3 := fun H => check_ok G hG hF smallM 16 smallB H
  have e6 := fun H => check_ok G hG hF img0 16 img0B H
  have c5 := fun H => check_ok G hG hF smallM 0 smallB H
  have e7 := fun H => writes_ok G hG hF ⟨14, 1, 0, 0, 0, []⟩ H
  rw [writes_ex] at e7
  have c4 := fun H => ACall.args (xs := [.agg [.nil, .nil, .nil, .int .i64 0], .int .i64 16]) (e6 H) (fun c vs h => by
    obtain ⟨u, us, h1, h2, rfl⟩ := RepL.cons_iff.1 h
    refine RepL.mk_cons ?_ h2
    simp only [Rep] at h1 ⊢
    obtain ⟨ws, w1, w2, w3⟩ := h1
    refine ⟨ws, ?_, w2, w3⟩
    obtain ⟨u0, us0, a1, a2, rfl⟩ := RepL.cons_iff.1 w1
    obtain ⟨u1, us1, b1, b2, rfl⟩ := RepL.cons_iff.1 a2
    obtain ⟨u2, us2, d1, d2, rfl⟩ := RepL.cons_iff.1 b2
    exact RepL.mk_cons (Rep.nil_list 4 a1) (RepL.mk_cons (Rep.nil_list 7 b1) (RepL.mk_cons (Rep.nil_list 3 d1) d2)))
  have c6 := fun H => ACall.args (xs := [.agg [.int .i64 14, .int .i64 1, .int .i64 0, .int .i64 0, .int .i64 0, .nil]]) (e7 H) (fun c vs h => by
    obtain ⟨u, us, h1, h2, rfl⟩ := RepL.cons_iff.1 h
    refine RepL.mk_cons ?_ h2
    simp only [Rep] at h1 ⊢
    obtain ⟨ws, w1, w2, w3⟩ := h1
    refine ⟨ws, ?_, w2, w3⟩
    obtain ⟨u0, us0, a0, x1, rfl⟩ := RepL.cons_iff.1 w1
    obtain ⟨u1, us1, a1, x2, rfl⟩ := RepL.cons_iff.1 x1
    obtain ⟨u2, us2, a2, x3, rfl⟩ := RepL.cons_iff.1 x2
    obtain ⟨u3, us3, a3, x4, rfl⟩ := RepL.cons_iff.1 x3
    obtain ⟨u4, us4, a4, x5, rfl⟩ := RepL.cons_iff.1 x4
    obtain ⟨u5, us5, a5, x6, rfl⟩ := RepL.cons_iff.1 x5
    exact RepL.mk_cons a0 (RepL.mk_cons a1 (RepL.mk_cons a2 (RepL.mk_cons a3 (RepL.mk_cons a4 (RepL.mk_cons (Rep.nil_list 1 a5) x6))))))
  clear e6 e7
  rw [encS_ok k1, k1] at e1
  rw [dec_enc smallJ k1] at e2
  rw [next_ex] at e3
  rw [reads_ex] at e4
  rw [dec_bad] at e5
  rw [(imgE_iff smallM smallM).2 rfl] at c2
  rw [k2] at c3
  rw [k4] at c4
  rw [k3] at c5
  have hml : smallM.cells.length = 4 := rfl
  have hmu := fun n => Img.cells_under n smallM
  have hm2 : img0.cells.length = 4 := rfl
  simp only at e2 e5
  generalize smallM.cells = mc at *
  generalize encB smallM = eb at *
  generalize hzc : img0.cells = zc at *
  clear hzc
  refine ACall.of_go TB [] tabOK _ Tryd.func14 rfl (by decide) Tryd.ntmps14 (by simp) rfl (by simp only [initEnv, Nat.reduceAdd]; rfl) fun C R' hR hC hcl hB => ?_; have X := noX; have hC' := congrArg List.length hC
  have X := And.intro X (And.intro hml hm2)
  (refine run ?_; repeat' (first | with_reducible exact trivial | ((with_reducible apply Fork.mk) <;> intro hb) | with_reducible apply Two.mk))
  refine callS (e1 _) ?_
  rintro r H' ⟨rfl, rfl⟩
  (refine run ?_; repeat' (first | with_reducible exact trivial | ((with_reducible apply Fork.mk) <;> intro hb) | with_reducible apply Two.mk))
  refine callS (e2 _) ?_
  rintro r H' ⟨rfl, rfl⟩
  (refine run ?_; repeat' (first | with_reducible exact trivial | ((with_reducible apply Fork.mk) <;> intro hb) | with_reducible apply Two.mk))
  refine callS (e3 _) ?_
  rintro r H' ⟨rfl, rfl⟩
  (refine run ?_; repeat' (first | with_reducible exact trivial | ((with_reducible apply Fork.mk) <;> intro hb) | with_reducible apply Two.mk))
  refine callS (e4 _) ?_
  rintro r H' ⟨rfl, rfl⟩
  (refine run ?_; repeat' (first | with_reducible exact trivial | ((with_reducible apply Fork.mk) <;> intro hb) | with_reducible apply Two.mk))
  refine callS (e5 _) ?_
  rintro r H' ⟨rfl, rfl⟩
  (refine run ?_; repeat' (first | with_reducible exact trivial | ((with_reducible apply Fork.mk) <;> intro hb) | with_reducible apply Two.mk))
  refine finS hR hC' hcl (.same _ rfl) ⟨rfl, rfl⟩
end Go.Proofs.YtihhngjoecgkpaaDoor
end
