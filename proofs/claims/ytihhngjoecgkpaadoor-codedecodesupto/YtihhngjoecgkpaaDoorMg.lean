/- A part of the proof: F4, F5, F6, F7, F8, F9. -/
import Derived.Test.YtihhngjoecgkpaaDoorMf

section
namespace Go.Proofs.YtihhngjoecgkpaaDoor
open Go
set_option linter.unusedSimpArgs false
set_option linter.unusedVariables false
set_option maxRecDepth 10000
set_option maxHeartbeats 4000000

theorem ins21_ok (G : Gl) (hG : GClosed G) (hF : GF G) (m : Img) (slots frame : Int) (fc : List SV) (code : List Ins) (hfcl : fc.length = 7) (hfc5 : fc[5]? = some (.int .i64 frame)) (hfc6 : fc[6]? = some (.list 6 (insL code))) (i : Ins) (hn : code.length < 1099511627776) (hl : i.l.length < 1099511627776)
    (hm1 : m.cons.length < 1099511627776) (hm2 : m.funcs.length < 1099511627776) (hm3 : m.globals.length < 1099511627776) (hs : 1 ≤ slots ∧ slots ≤ 65536) (hfr : 0 ≤ frame ∧ frame ≤ 65536) (hop : i.op = 21) (c : Nat) (H : List Blk) (hc : H[c]? = some (.cells 0 5 [.agg (chkC m slots)])) :
    ACall Tryd.prog G 68 [.ptr c 0 0 0, .agg fc, .agg i.cells] H (fun r H' => H' = H ∧ r = .bool (insOK m slots frame code.length i)) := by
  have hcl0 := (List.getElem?_eq_some_iff.1 hc).1
  have hmcl : (chkC m slots).length = 5 := rfl
  have hmc0 : (chkC m slots)[0]? = some (.list 4 (consL m.cons)) := rfl
  have hmc1 : (chkC m slots)[1]? = some (.list 7 (funsL m.funcs)) := rfl
  have hmc2 : (chkC m slots)[2]? = some (.list 3 (glbsL m.globals)) := rfl
  have hmc4 : (chkC m slots)[4]? = some (.int .i64 slots) := rfl
  have hgoal : insOK m slots frame code.length i = insOK m slots frame code.length i := rfl
  obtain ⟨op, a, b, c', n, l⟩ := i
  simp only at hop hl
  generalize htop : insTop op slots frame = top
  have htb : -1099511627776 < top ∧ top < 1099511627776 := by subst htop; unfold insTop; (repeat' split) <;> omega
  have hlm : (l.map (SV.int .i64)).length = l.length := by simp
  simp only [insOK, htop] at hgoal
  generalize hmc : chkC m slots = mc at hc hmcl hmc0 hmc1 hmc2 hmc4
  simp only [Ins.cells]
  have hicl : ([.int .i64 op, .int .i64 a, .int .i64 b, .int .i64 c', .int .i64 n, .list 1 (l.map (.int .i64))] : List SV).length = 6 := rfl
  generalize hic : ([.int .i64 op, .int .i64 a, .int .i64 b, .int .i64 c', .int .i64 n, .list 1 (l.map (.int .i64))] : List SV) = ic at hicl
  have i0 : ic[0]? = some (.int .i64 op) := by subst hic; rfl
  have i1 : ic[1]? = some (.int .i64 a) := by subst hic; rfl
  have i2 : ic[2]? = some (.int .i64 b) := by subst hic; rfl
  have i3 : ic[3]? = some (.int .i64 c') := by subst hic; rfl
  have i4 : ic[4]? = some (.int .i64 n) := by subst hic; rfl
  have i5 : ic[5]? = some (.list 1 (l.map (.int .i64))) := by subst hic; rfl
  clear hic hmc
  have c1 := fun n hi H => within_ok G hG n 0 hi H
  have c2 := fun H => of_ok G hG hF op H
  obtain ⟨a1, a2, a4, a8, a16, a32, _⟩ := and_bit op
  generalize hB1 : bitOf 1 op = B1 at a1
  generalize hB2 : bitOf 2 op = B2 at a2
  generalize hB4 : bitOf 4 op = B4 at a4
  generalize hB8 : bitOf 8 op = B8 at a8
  generalize hB16 : bitOf 16 op = B16 at a16
  generalize hB32 : bitOf 32 op = B32 at a32
  generalize hown : ofS op = own at a1 a2 a4 a8 a16 a32 c2
  have v1 : ∀ s, ACallV Tryd.prog G (.fn (.func 78) [] [.ptr (H.length + 2) 0 0 0, .ptr (H.length + 3) 0 0 0]) [.int .i64 1, .int .i64 s] (H ++ [.cells 0 7 [.agg fc], .cells 0 6 [.agg ic], .cells 0 1 [.int .i64 own], .cells 0 1 [.int .i64 top]]) (fun r H' => H' = (H ++ [.cells 0 7 [.agg fc], .cells 0 6 [.agg ic], .cells 0 1 [.int .i64 own], .cells 0 1 [.int .i64 top]]) ∧ r = .bool (slotB B1 top s)) := fun s => ACallV.of (slot_ok G hG own top 1 s B1 (H.length + 2) (H.length + 3) _ (by simp) (by simp) a1 (b2_zero B1).1 htb)
  have v2 : ∀ s, ACallV Tryd.prog G (.fn (.func 78) [] [.ptr (H.length + 2) 0 0 0, .ptr (H.length + 3) 0 0 0]) [.int .i64 2, .int .i64 s] (H ++ [.cells 0 7 [.agg fc], .cells 0 6 [.agg ic], .cells 0 1 [.int .i64 own], .cells 0 1 [.int .i64 top]]) (fun r H' => H' = (H ++ [.cells 0 7 [.agg fc], .cells 0 6 [.agg ic], .cells 0 1 [.int .i64 own], .cells 0 1 [.int .i64 top]]) ∧ r = .bool (slotB B2 top s)) := fun s => ACallV.of (slot_ok G hG own top 2 s B2 (H.length + 2) (H.length + 3) _ (by simp) (by simp) a2 (b2_zero B2).2.1 htb)
  have v3 : ∀ s, ACallV Tryd.prog G (.fn (.func 78) [] [.ptr (H.length + 2) 0 0 0, .ptr (H.length + 3) 0 0 0]) [.int .i64 4, .int .i64 s] (H ++ [.cells 0 7 [.agg fc], .cells 0 6 [.agg ic], .cells 0 1 [.int .i64 own], .cells 0 1 [.int .i64 top]]) (fun r H' => H' = (H ++ [.cells 0 7 [.agg fc], .cells 0 6 [.agg ic], .cells 0 1 [.int .i64 own], .cells 0 1 [.int .i64 top]]) ∧ r = .bool (slotB B4 top s)) := fun s => ACallV.of (slot_ok G hG own top 4 s B4 (H.length + 2) (H.length + 3) _ (by simp) (by simp) a4 (b2_zero B4).2.2.1 htb)
  refine ACall.of_go TB [] tabOK _ Tryd.func68 rfl (by decide) Tryd.ntmps68 (by simp) rfl (by simp only [initEnv, Nat.reduceAdd]; rfl) fun C R' hR hC hcl hB => ?_; have X := noX; have hC' := congrArg List.length hC
  have hr1 : IntKind.i64.min ≤ slots := by simp [IntKind.min, IntKind.signed, IntKind.bits]; omega
  have hr2 : slots ≤ IntKind.i64.max := by simp [IntKind.max, IntKind.signed, IntKind.bits]; omega
  have X0 := And.intro X (And.intro hlm (And.intro hfcl (And.intro hfc5 (And.intro hfc6 (And.intro (getX hc) (And.intro hmcl (And.intro hmc0 (And.intro hmc1 (And.intro hmc2 (And.intro hmc4 (And.intro hicl (And.intro i0 (And.intro i1 (And.intro i2 (And.intro i3 (And.intro i4 (And.intro i5 (And.intro a8 (And.intro a16 (And.intro a32 (And.intro (b2_zero B8) (And.intro (b2_zero B16) (And.intro (b2_zero B32) (And.intro hr1 hr2))))))))))))))))))))))))
  clear X

  subst hop
  have e16 : B16 = false := by rw [← hB16]; decide
  have e32 : B32 = true := by rw [← hB32]; decide
  subst e16
  subst e32
  have htop2 : (if slots < frame then slots else frame) = top := by rw [← htop]; rfl
  have c3 : ACall Tryd.prog G 80 [.list 1 (l.map (.int .i64)), .fn (.func 82) [] [.ptr (H.length + 4) 0 0 0, .ptr (H.length + 1) 0 0 0]] (H ++ [.cells 0 7 [.agg fc], .cells 0 6 [.agg ic], .cells 0 1 [.int .i64 own], .cells 0 1 [.int .i64 top], .cells 0 1 [.fn (.func 79) [] [.ptr H.length 0 0 0]]]) (fun r H' => H' = (H ++ [.cells 0 7 [.agg fc], .cells 0 6 [.agg ic], .cells 0 1 [.int .i64 own], .cells 0 1 [.int .i64 top], .cells 0 1 [.fn (.func 79) [] [.ptr H.length 0 0 0]]]) ∧ r = .bool (l.any (badP 21 code.length))) :=
    anyInt_ok G hG _ (badP 21 code.length) l _ (by omega) (by simp [SV.under, SV.underL]) (fun x hx => ACallV.of (badP_ok G hG x 21 code fc ic H.length (H.length + 4) (H.length + 1) _ (by simp) hfcl hfc6 (by omega) (by simp) (by simp) hicl i0))
  have X := And.intro X0 htop2
  (refine run ?_; repeat' (first | with_reducible exact trivial | ((with_reducible apply Fork.mk) <;> intro hb) | with_reducible apply Two.mk))
  all_goals try
    refine callV (ACallV.of (place_ok G hG n code fc H.length (H ++ [.cells 0 7 [.agg fc], .cells 0 6 [.agg ic], .cells 0 1 [.int .i64 own], .cells 0 1 [.int .i64 top], .cells 0 1 [.fn (.func 79) [] [.ptr H.length 0 0 0]]]) (by simp) hfcl hfc6 (by omega))) ?_
    rintro r H' ⟨rfl, rfl⟩
    (refine run ?_; repeat' (first | with_reducible exact trivial | ((with_reducible apply Fork.mk) <;> intro hb) | with_reducible apply Two.mk))
  all_goals
    refine finS hR hC' hcl (.same _ rfl) ⟨rfl, ?_⟩
    clear X X0 v1 v2 v3 c1 c2 c3 hR hC hC' hcl hB hc hG hF a1 a2 a4 a8 a16 a32 hgoal i0 i1 i2 i3 i4 i5 hmc0 hmc1 hmc2 hmc4 hmcl hcl0 hicl hfc5 hfc6 hfcl hr1 hr2 hlm htb hl hn hs hfr hm1 hm2 hm3
    simp only [insOK, lstOK, finOK, htop, hown, hB1, hB2, hB4, hB8, hB16, hB32]
    simp only [resSV]
    congr 1
    generalize slotB B4 top c' = S4 at *
    generalize l.any (badP 21 code.length) = S5 at *
    cases S5 <;> cases S4 <;> cases B8 <;> simp_all
theorem ins23_ok (G : Gl) (hG : GClosed G) (hF : GF G) (m : Img) (slots frame : Int) (fc : List SV) (code : List Ins) (hfcl : fc.length = 7) (hfc5 : fc[5]? = some (.int .i64 frame)) (hfc6 : fc[6]? = some (.list 6 (insL code))) (i : Ins) (hn : code.length < 1099511627776) (hl : i.l.length < 1099511627776)
    (hm1 : m.cons.length < 1099511627776) (hm2 : m.funcs.length < 1099511627776) (hm3 : m.globals.length < 1099511627776) (hs : 1 ≤ slots ∧ slots ≤ 65536) (hfr : 0 ≤ frame ∧ frame ≤ 65536) (hop : i.op = 23) (c : Nat) (H : List Blk) (hc : H[c]? = some (.cells 0 5 [.agg (chkC m slots)])) :
    ACall Tryd.prog G 68 [.ptr c 0 0 0, .agg fc, .agg i.cells] H (fun r H' => H' = H ∧ r = .bool (insOK m slots frame code.length i)) := by
  have hcl0 := (List.getElem?_eq_some_iff.1 hc).1
  have hmcl : (chkC m slots).length = 5 := rfl
  have hmc0 : (chkC m slots)[0]? = some (.list 4 (consL m.cons)) := rfl
  have hmc1 : (chkC m slots)[1]? = some (.list 7 (funsL m.funcs)) := rfl
  have hmc2 : (chkC m slots)[2]? = some (.list 3 (glbsL m.globals)) := rfl
  have hmc4 : (chkC m slots)[4]? = some (.int .i64 slots) := rfl
  have hgoal : insOK m slots frame code.length i = insOK m slots frame code.length i := rfl
  obtain ⟨op, a, b, c', n, l⟩ := i
  simp only at hop hl
  generalize htop : insTop op slots frame = top
  have htb : -1099511627776 < top ∧ top < 1099511627776 := by subst htop; unfold insTop; (repeat' split) <;> omega
  have hlm : (l.map (SV.int .i64)).length = l.length := by simp
  simp only [insOK, htop] at hgoal
  generalize hmc : chkC m slots = mc at hc hmcl hmc0 hmc1 hmc2 hmc4
  simp only [Ins.cells]
  have hicl : ([.int .i64 op, .int .i64 a, .int .i64 b, .int .i64 c', .int .i64 n, .list 1 (l.map (.int .i64))] : List SV).length = 6 := rfl
  generalize hic : ([.int .i64 op, .int .i64 a, .int .i64 b, .int .i64 c', .int .i64 n, .list 1 (l.map (.int .i64))] : List SV) = ic at hicl
  have i0 : ic[0]? = some (.int .i64 op) := by subst hic; rfl
  have i1 : ic[1]? = some (.int .i64 a) := by subst hic; rfl
  have i2 : ic[2]? = some (.int .i64 b) := by subst hic; rfl
  have i3 : ic[3]? = some (.int .i64 c') := by subst hic; rfl
  have i4 : ic[4]? = some (.int .i64 n) := by subst hic; rfl
  have i5 : ic[5]? = some (.list 1 (l.map (.int .i64))) := by subst hic; rfl
  clear hic hmc
  have c1 := fun n hi H => within_ok G hG n 0 hi H
  have c2 := fun H => of_ok G hG hF op H
  obtain ⟨a1, a2, a4, a8, a16, a32, _⟩ := and_bit op
  generalize hB1 : bitOf 1 op = B1 at a1
  generalize hB2 : bitOf 2 op = B2 at a2
  generalize hB4 : bitOf 4 op = B4 at a4
  generalize hB8 : bitOf 8 op = B8 at a8
  generalize hB16 : bitOf 16 op = B16 at a16
  generalize hB32 : bitOf 32 op = B32 at a32
  generalize hown : ofS op = own at a1 a2 a4 a8 a16 a32 c2
  have v1 : ∀ s, ACallV Tryd.prog G (.fn (.func 78) [] [.ptr (H.length + 2) 0 0 0, .ptr (H.length + 3) 0 0 0]) [.int .i64 1, .int .i64 s] (H ++ [.cells 0 7 [.agg fc], .cells 0 6 [.agg ic], .cells 0 1 [.int .i64 own], .cells 0 1 [.int .i64 top]]) (fun r H' => H' = (H ++ [.cells 0 7 [.agg fc], .cells 0 6 [.agg ic], .cells 0 1 [.int .i64 own], .cells 0 1 [.int .i64 top]]) ∧ r = .bool (slotB B1 top s)) := fun s => ACallV.of (slot_ok G hG own top 1 s B1 (H.length + 2) (H.length + 3) _ (by simp) (by simp) a1 (b2_zero B1).1 htb)
  have v2 : ∀ s, ACallV Tryd.prog G (.fn (.func 78) [] [.ptr (H.length + 2) 0 0 0, .ptr (H.length + 3) 0 0 0]) [.int .i64 2, .int .i64 s] (H ++ [.cells 0 7 [.agg fc], .cells 0 6 [.agg ic], .cells 0 1 [.int .i64 own], .cells 0 1 [.int .i64 top]]) (fun r H' => H' = (H ++ [.cells 0 7 [.agg fc], .cells 0 6 [.agg ic], .cells 0 1 [.int .i64 own], .cells 0 1 [.int .i64 top]]) ∧ r = .bool (slotB B2 top s)) := fun s => ACallV.of (slot_ok G hG own top 2 s B2 (H.length + 2) (H.length + 3) _ (by simp) (by simp) a2 (b2_zero B2).2.1 htb)
  have v3 : ∀ s, ACallV Tryd.prog G (.fn (.func 78) [] [.ptr (H.length + 2) 0 0 0, .ptr (H.length + 3) 0 0 0]) [.int .i64 4, .int .i64 s] (H ++ [.cells 0 7 [.agg fc], .cells 0 6 [.agg ic], .cells 0 1 [.int .i64 own], .cells 0 1 [.int .i64 top]]) (fun r H' => H' = (H ++ [.cells 0 7 [.agg fc], .cells 0 6 [.agg ic], .cells 0 1 [.int .i64 own], .cells 0 1 [.int .i64 top]]) ∧ r = .bool (slotB B4 top s)) := fun s => ACallV.of (slot_ok G hG own top 4 s B4 (H.length + 2) (H.length + 3) _ (by simp) (by simp) a4 (b2_zero B4).2.2.1 htb)
  refine ACall.of_go TB [] tabOK _ Tryd.func68 rfl (by decide) Tryd.ntmps68 (by simp) rfl (by simp only [initEnv, Nat.reduceAdd]; rfl) fun C R' hR hC hcl hB => ?_; have X := noX; have hC' := congrArg List.length hC
  have hr1 : IntKind.i64.min ≤ slots := by simp [IntKind.min, IntKind.signed, IntKind.bits]; omega
  have hr2 : slots ≤ IntKind.i64.max := by simp [IntKind.max, IntKind.signed, IntKind.bits]; omega
  have X0 := And.intro X (And.intro hlm (And.intro hfcl (And.intro hfc5 (And.intro hfc6 (And.intro (getX hc) (And.intro hmcl (And.intro hmc0 (And.intro hmc1 (And.intro hmc2 (And.intro hmc4 (And.intro hicl (And.intro i0 (And.intro i1 (And.intro i2 (And.intro i3 (And.intro i4 (And.intro i5 (And.intro a8 (And.intro a16 (And.intro a32 (And.intro (b2_zero B8) (And.intro (b2_zero B16) (And.intro (b2_zero B32) (And.intro hr1 hr2))))))))))))))))))))))))
  clear X

  subst hop
  have e16 : B16 = false := by rw [← hB16]; decide
  have e32 : B32 = false := by rw [← hB32]; decide
  subst e16
  subst e32
  have htop2 : (if slots < frame then slots else frame) = top := by rw [← htop]; rfl
  have c3 := True.intro
  have X := And.intro X0 htop2
  (refine run ?_; repeat' (first | with_reducible exact trivial | ((with_reducible apply Fork.mk) <;> intro hb) | with_reducible apply Two.mk))
  all_goals try
    refine callV (ACallV.of (place_ok G hG n code fc H.length (H ++ [.cells 0 7 [.agg fc], .cells 0 6 [.agg ic], .cells 0 1 [.int .i64 own], .cells 0 1 [.int .i64 top], .cells 0 1 [.fn (.func 79) [] [.ptr H.length 0 0 0]]]) (by simp) hfcl hfc6 (by omega))) ?_
    rintro r H' ⟨rfl, rfl⟩
    (refine run ?_; repeat' (first | with_reducible exact trivial | ((with_reducible apply Fork.mk) <;> intro hb) | with_reducible apply Two.mk))
  all_goals
    refine finS hR hC' hcl (.same _ rfl) ⟨rfl, ?_⟩
    clear X X0 v1 v2 v3 c1 c2 c3 hR hC hC' hcl hB hc hG hF a1 a2 a4 a8 a16 a32 hgoal i0 i1 i2 i3 i4 i5 hmc0 hmc1 hmc2 hmc4 hmcl hcl0 hicl hfc5 hfc6 hfcl hr1 hr2 hlm htb hl hn hs hfr hm1 hm2 hm3
    simp only [insOK, lstOK, finOK, htop, hown, hB1, hB2, hB4, hB8, hB16, hB32]
    simp only [resSV]
    congr 1
    generalize slotB B4 top c' = S4 at *
    cases S4 <;> cases B8 <;> simp_all
theorem ins12_ok (G : Gl) (hG : GClosed G) (hF : GF G) (m : Img) (slots frame : Int) (fc : List SV) (code : List Ins) (hfcl : fc.length = 7) (hfc5 : fc[5]? = some (.int .i64 frame)) (hfc6 : fc[6]? = some (.list 6 (insL code))) (i : Ins) (hn : code.length < 1099511627776) (hl : i.l.length < 1099511627776)
    (hm1 : m.cons.length < 1099511627776) (hm2 : m.funcs.length < 1099511627776) (hm3 : m.globals.length < 1099511627776) (hs : 1 ≤ slots ∧ slots ≤ 65536) (hfr : 0 ≤ frame ∧ frame ≤ 65536) (hop : i.op = 12) (c : Nat) (H : List Blk) (hc : H[c]? = some (.cells 0 5 [.agg (chkC m slots)])) :
    ACall Tryd.prog G 68 [.ptr c 0 0 0, .agg fc, .agg i.cells] H (fun r H' => H' = H ∧ r = .bool (insOK m slots frame code.length i)) := by
  have hcl0 := (List.getElem?_eq_some_iff.1 hc).1
  have hmcl : (chkC m slots).length = 5 := rfl
  have hmc0 : (chkC m slots)[0]? = some (.list 4 (consL m.cons)) := rfl
  have hmc1 : (chkC m slots)[1]? = some (.list 7 (funsL m.funcs)) := rfl
  have hmc2 : (chkC m slots)[2]? = some (.list 3 (glbsL m.globals)) := rfl
  have hmc4 : (chkC m slots)[4]? = some (.int .i64 slots) := rfl
  have hgoal : insOK m slots frame code.length i = insOK m slots frame code.length i := rfl
  obtain ⟨op, a, b, c', n, l⟩ := i
  simp only at hop hl
  generalize htop : insTop op slots frame = top
  have htb : -1099511627776 < top ∧ top < 1099511627776 := by subst htop; unfold insTop; (repeat' split) <;> omega
  have hlm : (l.map (SV.int .i64)).length = l.length := by simp
  simp only [insOK, htop] at hgoal
  generalize hmc : chkC m slots = mc at hc hmcl hmc0 hmc1 hmc2 hmc4
  simp only [Ins.cells]
  have hicl : ([.int .i64 op, .int .i64 a, .int .i64 b, .int .i64 c', .int .i64 n, .list 1 (l.map (.int .i64))] : List SV).length = 6 := rfl
  generalize hic : ([.int .i64 op, .int .i64 a, .int .i64 b, .int .i64 c', .int .i64 n, .list 1 (l.map (.int .i64))] : List SV) = ic at hicl
  have i0 : ic[0]? = some (.int .i64 op) := by subst hic; rfl
  have i1 : ic[1]? = some (.int .i64 a) := by subst hic; rfl
  have i2 : ic[2]? = some (.int .i64 b) := by subst hic; rfl
  have i3 : ic[3]? = some (.int .i64 c') := by subst hic; rfl
  have i4 : ic[4]? = some (.int .i64 n) := by subst hic; rfl
  have i5 : ic[5]? = some (.list 1 (l.map (.int .i64))) := by subst hic; rfl
  clear hic hmc
  have c1 := fun n hi H => within_ok G hG n 0 hi H
  have c2 := fun H => of_ok G hG hF op H
  obtain ⟨a1, a2, a4, a8, a16, a32, _⟩ := and_bit op
  generalize hB1 : bitOf 1 op = B1 at a1
  generalize hB2 : bitOf 2 op = B2 at a2
  generalize hB4 : bitOf 4 op = B4 at a4
  generalize hB8 : bitOf 8 op = B8 at a8
  generalize hB16 : bitOf 16 op = B16 at a16
  generalize hB32 : bitOf 32 op = B32 at a32
  generalize hown : ofS op = own at a1 a2 a4 a8 a16 a32 c2
  have v1 : ∀ s, ACallV Tryd.prog G (.fn (.func 78) [] [.ptr (H.length + 2) 0 0 0, .ptr (H.length + 3) 0 0 0]) [.int .i64 1, .int .i64 s] (H ++ [.cells 0 7 [.agg fc], .cells 0 6 [.agg ic], .cells 0 1 [.int .i64 own], .cells 0 1 [.int .i64 top]]) (fun r H' => H' = (H ++ [.cells 0 7 [.agg fc], .cells 0 6 [.agg ic], .cells 0 1 [.int .i64 own], .cells 0 1 [.int .i64 top]]) ∧ r = .bool (slotB B1 top s)) := fun s => ACallV.of (slot_ok G hG own top 1 s B1 (H.length + 2) (H.length + 3) _ (by simp) (by simp) a1 (b2_zero B1).1 htb)
  have v2 : ∀ s, ACallV Tryd.prog G (.fn (.func 78) [] [.ptr (H.length + 2) 0 0 0, .ptr (H.length + 3) 0 0 0]) [.int .i64 2, .int .i64 s] (H ++ [.cells 0 7 [.agg fc], .cells 0 6 [.agg ic], .cells 0 1 [.int .i64 own], .cells 0 1 [.int .i64 top]]) (fun r H' => H' = (H ++ [.cells 0 7 [.agg fc], .cells 0 6 [.agg ic], .cells 0 1 [.int .i64 own], .cells 0 1 [.int .i64 top]]) ∧ r = .bool (slotB B2 top s)) := fun s => ACallV.of (slot_ok G hG own top 2 s B2 (H.length + 2) (H.length + 3) _ (by simp) (by simp) a2 (b2_zero B2).2.1 htb)
  have v3 : ∀ s, ACallV Tryd.prog G (.fn (.func 78) [] [.ptr (H.length + 2) 0 0 0, .ptr (H.length + 3) 0 0 0]) [.int .i64 4, .int .i64 s] (H ++ [.cells 0 7 [.agg fc], .cells 0 6 [.agg ic], .cells 0 1 [.int .i64 own], .cells 0 1 [.int .i64 top]]) (fun r H' => H' = (H ++ [.cells 0 7 [.agg fc], .cells 0 6 [.agg ic], .cells 0 1 [.int .i64 own], .cells 0 1 [.int .i64 top]]) ∧ r = .bool (slotB B4 top s)) := fun s => ACallV.of (slot_ok G hG own top 4 s B4 (H.length + 2) (H.length + 3) _ (by simp) (by simp) a4 (b2_zero B4).2.2.1 htb)
  refine ACall.of_go TB [] tabOK _ Tryd.func68 rfl (by decide) Tryd.ntmps68 (by simp) rfl (by simp only [initEnv, Nat.reduceAdd]; rfl) fun C R' hR hC hcl hB => ?_; have X := noX; have hC' := congrArg List.length hC
  have hr1 : IntKind.i64.min ≤ slots := by simp [IntKind.min, IntKind.signed, IntKind.bits]; omega
  have hr2 : slots ≤ IntKind.i64.max := by simp [IntKind.max, IntKind.signed, IntKind.bits]; omega
  have X0 := And.intro X (And.intro hlm (And.intro hfcl (And.intro hfc5 (And.intro hfc6 (And.intro (getX hc) (And.intro hmcl (And.intro hmc0 (And.intro hmc1 (And.intro hmc2 (And.intro hmc4 (And.intro hicl (And.intro i0 (And.intro i1 (And.intro i2 (And.intro i3 (And.intro i4 (And.intro i5 (And.intro a8 (And.intro a16 (And.intro a32 (And.intro (b2_zero B8) (And.intro (b2_zero B16) (And.intro (b2_zero B32) (And.intro hr1 hr2))))))))))))))))))))))))
  clear X

  subst hop
  have e16 : B16 = true := by rw [← hB16]; decide
  have e32 : B32 = false := by rw [← hB32]; decide
  subst e16
  subst e32
  have htop2 : (if slots < frame then slots else frame) = top := by rw [← htop]; rfl
  have c3 : ACall Tryd.prog G 80 [.list 1 (l.map (.int .i64)), .fn (.func 81) [] [.ptr H.length 0 0 0]] (H ++ [.cells 0 7 [.agg fc], .cells 0 6 [.agg ic], .cells 0 1 [.int .i64 own], .cells 0 1 [.int .i64 top], .cells 0 1 [.fn (.func 79) [] [.ptr H.length 0 0 0]]]) (fun r H' => H' = (H ++ [.cells 0 7 [.agg fc], .cells 0 6 [.agg ic], .cells 0 1 [.int .i64 own], .cells 0 1 [.int .i64 top], .cells 0 1 [.fn (.func 79) [] [.ptr H.length 0 0 0]]]) ∧ r = .bool (l.any fun n => !inR n 0 (frame - 1))) :=
    anyInt_ok G hG _ (fun n => !inR n 0 (frame - 1)) l _ (by omega) (by simp [SV.under, SV.underL]) (fun x hx => ACallV.of (notIn_ok G hG x frame fc H.length _ (by simp) hfcl hfc5 hfr))
  by_cases hin : inR n 0 ((m.cons.length : Int) - 1) = true
  · have hin2 : 0 ≤ n ∧ n < m.cons.length := by simp [inR] at hin; omega
    obtain ⟨k, rfl⟩ := Int.eq_ofNat_of_zero_le hin2.1
    have hk : k < m.cons.length := by omega
    have hget : getA m.cons k = (m.cons[k]).arity := by unfold getA; rw [Int.toNat_natCast, List.getElem?_eq_getElem hk]
    have hx : (consL m.cons)[k]? = some (.agg (m.cons[k]).cells) := by simp [consL, hk]
    generalize m.cons[k] = x at hget hx
    have hx : (consL m.cons)[k]? = some (.agg [.str x.name, .int .i64 x.arity, .int .i64 x.tag, .int .i64 x.family]) := hx
    have X := And.intro X0 (And.intro htop2 (And.intro hin hx))
    (refine run ?_; repeat' (first | with_reducible exact trivial | ((with_reducible apply Fork.mk) <;> intro hb) | with_reducible apply Two.mk))
    all_goals
      refine finS hR hC' hcl (.same _ rfl) ⟨rfl, ?_⟩
      clear X X0 v1 v2 v3 c1 c2 c3 hR hC hC' hcl hB hc hG hF a1 a2 a4 a8 a16 a32 hgoal i0 i1 i2 i3 i4 i5 hmc0 hmc1 hmc2 hmc4 hmcl hcl0 hicl hfc5 hfc6 hfcl hr1 hr2 hlm htb hl hn hs hfr hm1 hm2 hm3
      simp only [hget, hin, insOK, lstOK, finOK, htop, hown, hB1, hB2, hB4, hB8, hB16, hB32]
      simp only [resSV]
      congr 1
      generalize slotB B4 top c' = S4 at *
      generalize (l.any fun n => !inR n 0 (frame - 1)) = S5 at *
      cases S5 <;> cases S4 <;> cases B8 <;> simp_all
  · have hin : inR n 0 ((m.cons.length : Int) - 1) = false := by simpa using hin
    have X := And.intro X0 (And.intro htop2 hin)
    (refine run ?_; repeat' (first | with_reducible exact trivial | ((with_reducible apply Fork.mk) <;> intro hb) | with_reducible apply Two.mk))
    all_goals
      refine finS hR hC' hcl (.same _ rfl) ⟨rfl, ?_⟩
      clear X X0 v1 v2 v3 c1 c2 c3 hR hC hC' hcl hB hc hG hF a1 a2 a4 a8 a16 a32 hgoal i0 i1 i2 i3 i4 i5 hmc0 hmc1 hmc2 hmc4 hmcl hcl0 hicl hfc5 hfc6 hfcl hr1 hr2 hlm htb hl hn hs hfr hm1 hm2 hm3
      simp only [hin, insOK, lstOK, finOK, htop, hown, hB1, hB2, hB4, hB8, hB16, hB32]
      simp only [resSV]
      congr 1
      generalize slotB B4 top c' = S4 at *
      generalize (l.any fun n => !inR n 0 (frame - 1)) = S5 at *
      cases S5 <;> cases S4 <;> cases B8 <;> simp_all
theorem ins13_ok (G : Gl) (hG : GClosed G) (hF : GF G) (m : Img) (slots frame : Int) (fc : List SV) (code : List Ins) (hfcl : fc.length = 7) (hfc5 : fc[5]? = some (.int .i64 frame)) (hfc6 : fc[6]? = some (.list 6 (insL code))) (i : Ins) (hn : code.length < 1099511627776) (hl : i.l.length < 1099511627776)
    (hm1 : m.cons.length < 1099511627776) (hm2 : m.funcs.length < 1099511627776) (hm3 : m.globals.length < 1099511627776) (hs : 1 ≤ slots ∧ slots ≤ 65536) (hfr : 0 ≤ frame ∧ frame ≤ 65536) (hop : i.op = 13) (c : Nat) (H : List Blk) (hc : H[c]? = some (.cells 0 5 [.agg (chkC m slots)])) :
    ACall Tryd.prog G 68 [.ptr c 0 0 0, .agg fc, .agg i.cells] H (fun r H' => H' = H ∧ r = .bool (insOK m slots frame code.length i)) := by
  have hcl0 := (List.getElem?_eq_some_iff.1 hc).1
  have hmcl : (chkC m slots).length = 5 := rfl
  have hmc0 : (chkC m slots)[0]? = some (.list 4 (consL m.cons)) := rfl
  have hmc1 : (chkC m slots)[1]? = some (.list 7 (funsL m.funcs)) := rfl
  have hmc2 : (chkC m slots)[2]? = some (.list 3 (glbsL m.globals)) := rfl
  have hmc4 : (chkC m slots)[4]? = some (.int .i64 slots) := rfl
  have hgoal : insOK m slots frame code.length i = insOK m slots frame code.length i := rfl
  obtain ⟨op, a, b, c', n, l⟩ := i
  simp only at hop hl
  generalize htop : insTop op slots frame = top
  have htb : -1099511627776 < top ∧ top < 1099511627776 := by subst htop; unfold insTop; (repeat' split) <;> omega
  have hlm : (l.map (SV.int .i64)).length = l.length := by simp
  simp only [insOK, htop] at hgoal
  generalize hmc : chkC m slots = mc at hc hmcl hmc0 hmc1 hmc2 hmc4
  simp only [Ins.cells]
  have hicl : ([.int .i64 op, .int .i64 a, .int .i64 b, .int .i64 c', .int .i64 n, .list 1 (l.map (.int .i64))] : List SV).length = 6 := rfl
  generalize hic : ([.int .i64 op, .int .i64 a, .int .i64 b, .int .i64 c', .int .i64 n, .list 1 (l.map (.int .i64))] : List SV) = ic at hicl
  have i0 : ic[0]? = some (.int .i64 op) := by subst hic; rfl
  have i1 : ic[1]? = some (.int .i64 a) := by subst hic; rfl
  have i2 : ic[2]? = some (.int .i64 b) := by subst hic; rfl
  have i3 : ic[3]? = some (.int .i64 c') := by subst hic; rfl
  have i4 : ic[4]? = some (.int .i64 n) := by subst hic; rfl
  have i5 : ic[5]? = some (.list 1 (l.map (.int .i64))) := by subst hic; rfl
  clear hic hmc
  have c1 := fun n hi H => within_ok G hG n 0 hi H
  have c2 := fun H => of_ok G hG hF op H
  obtain ⟨a1, a2, a4, a8, a16, a32, _⟩ := and_bit op
  generalize hB1 : bitOf 1 op = B1 at a1
  generalize hB2 : bitOf 2 op = B2 at a2
  generalize hB4 : bitOf 4 op = B4 at a4
  generalize hB8 : bitOf 8 op = B8 at a8
  generalize hB16 : bitOf 16 op = B16 at a16
  generalize hB32 : bitOf 32 op = B32 at a32
  generalize hown : ofS op = own at a1 a2 a4 a8 a16 a32 c2
  have v1 : ∀ s, ACallV Tryd.prog G (.fn (.func 78) [] [.ptr (H.length + 2) 0 0 0, .ptr (H.length + 3) 0 0 0]) [.int .i64 1, .int .i64 s] (H ++ [.cells 0 7 [.agg fc], .cells 0 6 [.agg ic], .cells 0 1 [.int .i64 own], .cells 0 1 [.int .i64 top]]) (fun r H' => H' = (H ++ [.cells 0 7 [.agg fc], .cells 0 6 [.agg ic], .cells 0 1 [.int .i64 own], .cells 0 1 [.int .i64 top]]) ∧ r = .bool (slotB B1 top s)) := fun s => ACallV.of (slot_ok G hG own top 1 s B1 (H.length + 2) (H.length + 3) _ (by simp) (by simp) a1 (b2_zero B1).1 htb)
  have v2 : ∀ s, ACallV Tryd.prog G (.fn (.func 78) [] [.ptr (H.length + 2) 0 0 0, .ptr (H.length + 3) 0 0 0]) [.int .i64 2, .int .i64 s] (H ++ [.cells 0 7 [.agg fc], .cells 0 6 [.agg ic], .cells 0 1 [.int .i64 own], .cells 0 1 [.int .i64 top]]) (fun r H' => H' = (H ++ [.cells 0 7 [.agg fc], .cells 0 6 [.agg ic], .cells 0 1 [.int .i64 own], .cells 0 1 [.int .i64 top]]) ∧ r = .bool (slotB B2 top s)) := fun s => ACallV.of (slot_ok G hG own top 2 s B2 (H.length + 2) (H.length + 3) _ (by simp) (by simp) a2 (b2_zero B2).2.1 htb)
  have v3 : ∀ s, ACallV Tryd.prog G (.fn (.func 78) [] [.ptr (H.length + 2) 0 0 0, .ptr (H.length + 3) 0 0 0]) [.int .i64 4, .int .i64 s] (H ++ [.cells 0 7 [.agg fc], .cells 0 6 [.agg ic], .cells 0 1 [.int .i64 own], .cells 0 1 [.int .i64 top]]) (fun r H' => H' = (H ++ [.cells 0 7 [.agg fc], .cells 0 6 [.agg ic], .cells 0 1 [.int .i64 own], .cells 0 1 [.int .i64 top]]) ∧ r = .bool (slotB B4 top s)) := fun s => ACallV.of (slot_ok G hG own top 4 s B4 (H.length + 2) (H.length + 3) _ (by simp) (by simp) a4 (b2_zero B4).2.2.1 htb)
  refine ACall.of_go TB [] tabOK _ Tryd.func68 rfl (by decide) Tryd.ntmps68 (by simp) rfl (by simp only [initEnv, Nat.reduceAdd]; rfl) fun C R' hR hC hcl hB => ?_; have X := noX; have hC' := congrArg List.length hC
  have hr1 : IntKind.i64.min ≤ slots := by simp [IntKind.min, IntKind.signed, IntKind.bits]; omega
  have hr2 : slots ≤ IntKind.i64.max := by simp [IntKind.max, IntKind.signed, IntKind.bits]; omega
  have X0 := And.intro X (And.intro hlm (And.intro hfcl (And.intro hfc5 (And.intro hfc6 (And.intro (getX hc) (And.intro hmcl (And.intro hmc0 (And.intro hmc1 (And.intro hmc2 (And.intro hmc4 (And.intro hicl (And.intro i0 (And.intro i1 (And.intro i2 (And.intro i3 (And.intro i4 (And.intro i5 (And.intro a8 (And.intro a16 (And.intro a32 (And.intro (b2_zero B8) (And.intro (b2_zero B16) (And.intro (b2_zero B32) (And.intro hr1 hr2))))))))))))))))))))))))
  clear X

  subst hop
  have e16 : B16 = true := by rw [← hB16]; decide
  have e32 : B32 = false := by rw [← hB32]; decide
  subst e16
  subst e32
  have htop2 : (if slots < frame then slots else frame) = top := by rw [← htop]; rfl
  have c3 : ACall Tryd.prog G 80 [.list 1 (l.map (.int .i64)), .fn (.func 81) [] [.ptr H.length 0 0 0]] (H ++ [.cells 0 7 [.agg fc], .cells 0 6 [.agg ic], .cells 0 1 [.int .i64 own], .cells 0 1 [.int .i64 top], .cells 0 1 [.fn (.func 79) [] [.ptr H.length 0 0 0]]]) (fun r H' => H' = (H ++ [.cells 0 7 [.agg fc], .cells 0 6 [.agg ic], .cells 0 1 [.int .i64 own], .cells 0 1 [.int .i64 top], .cells 0 1 [.fn (.func 79) [] [.ptr H.length 0 0 0]]]) ∧ r = .bool (l.any fun n => !inR n 0 (frame - 1))) :=
    anyInt_ok G hG _ (fun n => !inR n 0 (frame - 1)) l _ (by omega) (by simp [SV.under, SV.underL]) (fun x hx => ACallV.of (notIn_ok G hG x frame fc H.length _ (by simp) hfcl hfc5 hfr))
  by_cases hin : inR n 0 ((m.funcs.length : Int) - 1) = true
  · have hin2 : 0 ≤ n ∧ n < m.funcs.length := by simp [inR] at hin; omega
    obtain ⟨k, rfl⟩ := Int.eq_ofNat_of_zero_le hin2.1
    have hk : k < m.funcs.length := by omega
    have hget : getF m.funcs k = (m.funcs[k]).free := by unfold getF; rw [Int.toNat_natCast, List.getElem?_eq_getElem hk]
    have hx : (funsL m.funcs)[k]? = some (.agg (m.funcs[k]).cells) := by simp [funsL, hk]
    generalize m.funcs[k] = x at hget hx
    have hx : (funsL m.funcs)[k]? = some (.agg [.str x.name, .bool x.thunk, .bool x.upd, .int .i64 x.free, .int .i64 x.params, .int .i64 x.frame, .list 6 (insL x.code)]) := hx
    have X := And.intro X0 (And.intro htop2 (And.intro hin hx))
    (refine run ?_; repeat' (first | with_reducible exact trivial | ((with_reducible apply Fork.mk) <;> intro hb) | with_reducible apply Two.mk))
    all_goals
      refine finS hR hC' hcl (.same _ rfl) ⟨rfl, ?_⟩
      clear X X0 v1 v2 v3 c1 c2 c3 hR hC hC' hcl hB hc hG hF a1 a2 a4 a8 a16 a32 hgoal i0 i1 i2 i3 i4 i5 hmc0 hmc1 hmc2 hmc4 hmcl hcl0 hicl hfc5 hfc6 hfcl hr1 hr2 hlm htb hl hn hs hfr hm1 hm2 hm3
      simp only [hget, hin, insOK, lstOK, finOK, htop, hown, hB1, hB2, hB4, hB8, hB16, hB32]
      simp only [resSV]
      congr 1
      generalize slotB B4 top c' = S4 at *
      generalize (l.any fun n => !inR n 0 (frame - 1)) = S5 at *
      cases S5 <;> cases S4 <;> cases B8 <;> simp_all
  · have hin : inR n 0 ((m.funcs.length : Int) - 1) = false := by simpa using hin
    have X := And.intro X0 (And.intro htop2 hin)
    (refine run ?_; repeat' (first | with_reducible exact trivial | ((with_reducible apply Fork.mk) <;> intro hb) | with_reducible apply Two.mk))
    all_goals
      refine finS hR hC' hcl (.same _ rfl) ⟨rfl, ?_⟩
      clear X X0 v1 v2 v3 c1 c2 c3 hR hC hC' hcl hB hc hG hF a1 a2 a4 a8 a16 a32 hgoal i0 i1 i2 i3 i4 i5 hmc0 hmc1 hmc2 hmc4 hmcl hcl0 hicl hfc5 hfc6 hfcl hr1 hr2 hlm htb hl hn hs hfr hm1 hm2 hm3
      simp only [hin, insOK, lstOK, finOK, htop, hown, hB1, hB2, hB4, hB8, hB16, hB32]
      simp only [resSV]
      congr 1
      generalize slotB B4 top c' = S4 at *
      generalize (l.any fun n => !inR n 0 (frame - 1)) = S5 at *
      cases S5 <;> cases S4 <;> cases B8 <;> simp_all
end Go.Proofs.YtihhngjoecgkpaaDoor
end

section
namespace Go.Proofs.YtihhngjoecgkpaaDoor
open Go
set_option linter.unusedSimpArgs false
set_option linter.unusedVariables false
set_option maxRecDepth 10000
set_option maxHeartbeats 4000000

theorem ins_ok (G : Gl) (hG : GClosed G) (hF : GF G) (m : Img) (slots frame : Int) (fc : List SV) (code : List Ins) (hfcl : fc.length = 7) (hfc5 : fc[5]? = some (.int .i64 frame)) (hfc6 : fc[6]? = some (.list 6 (insL code))) (i : Ins) (hn : code.length < 1099511627776) (hl : i.l.length < 1099511627776)
    (hm1 : m.cons.length < 1099511627776) (hm2 : m.funcs.length < 1099511627776) (hm3 : m.globals.length < 1099511627776) (hs : 1 ≤ slots ∧ slots ≤ 65536) (hfr : 0 ≤ frame ∧ frame ≤ 65536) (c : Nat) (H : List Blk) (hc : H[c]? = some (.cells 0 5 [.agg (chkC m slots)])) :
    ACall Tryd.prog G 68 [.ptr c 0 0 0, .agg fc, .agg i.cells] H (fun r H' => H' = H ∧ r = .bool (insOK m slots frame code.length i)) := by
  by_cases h2 : i.op = 2
  · exact ins2_ok G hG hF m slots frame fc code hfcl hfc5 hfc6 i hn hl hm1 hm2 hm3 hs hfr h2 c H hc
  by_cases h11 : i.op = 11
  · exact ins11_ok G hG hF m slots frame fc code hfcl hfc5 hfc6 i hn hl hm1 hm2 hm3 hs hfr h11 c H hc
  by_cases h12 : i.op = 12
  · exact ins12_ok G hG hF m slots frame fc code hfcl hfc5 hfc6 i hn hl hm1 hm2 hm3 hs hfr h12 c H hc
  by_cases h13 : i.op = 13
  · exact ins13_ok G hG hF m slots frame fc code hfcl hfc5 hfc6 i hn hl hm1 hm2 hm3 hs hfr h13 c H hc
  by_cases h14 : i.op = 14
  · exact ins14_ok G hG hF m slots frame fc code hfcl hfc5 hfc6 i hn hl hm1 hm2 hm3 hs hfr h14 c H hc
  by_cases h16 : i.op = 16
  · exact ins16_ok G hG hF m slots frame fc code hfcl hfc5 hfc6 i hn hl hm1 hm2 hm3 hs hfr h16 c H hc
  by_cases h17 : i.op = 17
  · exact ins17_ok G hG hF m slots frame fc code hfcl hfc5 hfc6 i hn hl hm1 hm2 hm3 hs hfr h17 c H hc
  by_cases h20 : i.op = 20
  · exact ins20_ok G hG hF m slots frame fc code hfcl hfc5 hfc6 i hn hl hm1 hm2 hm3 hs hfr h20 c H hc
  by_cases h21 : i.op = 21
  · exact ins21_ok G hG hF m slots frame fc code hfcl hfc5 hfc6 i hn hl hm1 hm2 hm3 hs hfr h21 c H hc
  by_cases h22 : i.op = 22
  · exact ins22_ok G hG hF m slots frame fc code hfcl hfc5 hfc6 i hn hl hm1 hm2 hm3 hs hfr h22 c H hc
  by_cases h23 : i.op = 23
  · exact ins23_ok G hG hF m slots frame fc code hfcl hfc5 hfc6 i hn hl hm1 hm2 hm3 hs hfr h23 c H hc
  exact insElse_ok G hG hF m slots frame fc code hfcl hfc5 hfc6 i hn hl hm1 hm2 hm3 hs hfr ⟨h2, h11, h12, h13, h14, h16, h17, h20, h21, h22, h23⟩ c H hc

theorem notIns_ok (G : Gl) (hG : GClosed G) (hF : GF G) (m : Img) (slots frame : Int) (fc : List SV) (code : List Ins) (hfcl : fc.length = 7) (hfc5 : fc[5]? = some (.int .i64 frame)) (hfc6 : fc[6]? = some (.list 6 (insL code))) (i : Ins) (hn : code.length < 1099511627776) (hl : i.l.length < 1099511627776)
    (hm1 : m.cons.length < 1099511627776) (hm2 : m.funcs.length < 1099511627776) (hm3 : m.globals.length < 1099511627776) (hs : 1 ≤ slots ∧ slots ≤ 65536) (hfr : 0 ≤ frame ∧ frame ≤ 65536) (c bp bf : Nat) (H : List Blk) (hc : H[c]? = some (.cells 0 5 [.agg (chkC m slots)]))
    (hbp : H[bp]? = some (.cells 0 1 [.ptr c 0 0 0])) (hbf : H[bf]? = some (.cells 0 7 [.agg fc])) :
    ACall Tryd.prog G 67 [.agg i.cells, .ptr bp 0 0 0, .ptr bf 0 0 0] H (fun r H' => H' = H ∧ r = .bool (!insOK m slots frame code.length i)) := by
  have hl1 := (List.getElem?_eq_some_iff.1 hbp).1
  have hl2 := (List.getElem?_eq_some_iff.1 hbf).1
  refine ACall.of_go TB [] tabOK _ Tryd.func67 rfl (by decide) Tryd.ntmps67 (by simp) rfl (by simp only [initEnv, Nat.reduceAdd]; rfl) fun C R' hR hC hcl hB => ?_; have X := noX; have hC' := congrArg List.length hC
  have X := And.intro X (And.intro (getX hbp) (And.intro (getX hbf) hfcl))
  (refine run ?_; repeat' (first | with_reducible exact trivial | ((with_reducible apply Fork.mk) <;> intro hb) | with_reducible apply Two.mk))
  refine callS (ins_ok G hG hF m slots frame fc code hfcl hfc5 hfc6 i hn hl hm1 hm2 hm3 hs hfr c _ (get_app_left hc)) ?_
  rintro r H' ⟨rfl, rfl⟩
  (refine run ?_; repeat' (first | with_reducible exact trivial | ((with_reducible apply Fork.mk) <;> intro hb) | with_reducible apply Two.mk))
  exact finS hR hC' hcl (.same _ rfl) ⟨rfl, rfl⟩

def funBad (slots : Int) (f : Fun) : Bool :=
  decide (f.free < 0) || decide (f.params < 0) || !inR f.frame 0 (if slots ≤ 16 then 250 else 65536) || decide (f.frame < f.free) || decide (IntKind.i64.wrap (f.frame - f.free) < f.params) || (!(f.thunk == decide (f.params = 0))) || (f.upd && !f.thunk) || !inR f.code.length 1 65536
def lastOp (code : List Ins) : Int := match code[code.length - 1]? with | some i => i.op | none => 0
def funOK (m : Img) (slots : Int) (f : Fun) : Bool :=
  !funBad slots f && !(f.code.any fun i => !insOK m slots f.frame f.code.length i) && bitOf 64 (lastOp f.code)
theorem fun_ok (G : Gl) (hG : GClosed G) (hF : GF G) (m : Img) (slots : Int) (f : Fun) (hn : f.code.length < 1099511627776) (hl : ∀ i ∈ f.code, i.l.length < 1099511627776)
    (hm1 : m.cons.length < 1099511627776) (hm2 : m.funcs.length < 1099511627776) (hm3 : m.globals.length < 1099511627776) (hs : 1 ≤ slots ∧ slots ≤ 65536) (c : Nat) (H : List Blk) (hc : H[c]? = some (.cells 0 5 [.agg (chkC m slots)])) :
    ACall Tryd.prog G 31 [.ptr c 0 0 0, .agg f.cells] H (fun r H' => H' = H ∧ r = .bool (funOK m slots f)) := by
  have hcl0 := (List.getElem?_eq_some_iff.1 hc).1
  have hmcl : (chkC m slots).length = 5 := rfl
  have hmc4 : (chkC m slots)[4]? = some (.int .i64 slots) := rfl
  have c1 := fun n hi H => within_ok G hG n 0 hi H
  have c2 := fun n hi H => within_ok G hG n 1 hi H
  have c3 := fun n H => of_ok G hG hF n H
  have k1 := fun i hi hfr c bp bf H hc => notIns_ok G hG hF m slots f.frame f.cells f.code rfl rfl rfl i hn (hl i hi) hm1 hm2 hm3 hs hfr c bp bf H hc
  obtain ⟨name, thunk, upd, free, params, frame, code⟩ := f
  simp only [Fun.cells] at k1 ⊢
  simp only at hn hl k1
  generalize hmc : chkC m slots = mc at hc hmcl hmc4 k1
  refine ACall.of_go TB [] tabOK _ Tryd.func31 rfl (by decide) Tryd.ntmps31 (by simp) rfl (by simp only [initEnv, Nat.reduceAdd]; rfl) fun C R' hR hC hcl hB => ?_; have X := noX; have hC' := congrArg List.length hC
  have X := And.intro X (And.intro (getX hc) (And.intro hmcl hmc4))
  by_cases hmost : slots ≤ 16
  · have X := And.intro X hmost
    (refine run ?_; repeat' (first | with_reducible exact trivial | ((with_reducible apply Fork.mk) <;> intro hb) | with_reducible apply Two.mk))
    · refine finS hR hC' hcl (.same _ rfl) ⟨rfl, ?_⟩
      simp only [funOK, funBad, if_pos hmost, if_true, if_false, hb, Bool.true_or, Bool.not_true, Bool.false_and]; rfl
    · rename_i hb1
      refine finS hR hC' hcl (.same _ rfl) ⟨rfl, ?_⟩
      have : funBad slots ⟨name, thunk, upd, free, params, frame, code⟩ = true := by
        have e : funBad slots ⟨name, thunk, upd, free, params, frame, code⟩ = ((decide (free < 0) || decide (params < 0)) || (!inR frame 0 250 || decide (frame < free) || decide (IntKind.i64.wrap (frame - free) < params) || (!(thunk == decide (params = 0))) || (upd && !thunk)) || !inR code.length 1 65536) := by
          simp only [funBad, if_pos hmost, Bool.or_assoc]
        rw [e, hb]; simp
      simp only [funOK, this, Bool.not_true, Bool.false_and]; rfl
    · refine finS hR hC' hcl (.same _ rfl) ⟨rfl, ?_⟩
      have : funBad slots ⟨name, thunk, upd, free, params, frame, code⟩ = true := by
        simp only [funBad, if_pos hmost, if_true, if_false, hb, Bool.or_true]
      simp only [funOK, this, Bool.not_true, Bool.false_and]; rfl
    rename_i hb2 hb1
    have hbad : funBad slots ⟨name, thunk, upd, free, params, frame, code⟩ = false := by
      simp only [funBad, if_pos hmost, if_true, if_false, Bool.or_eq_false_iff] at hb hb1 hb2 ⊢
      simp only [hb, hb1, hb2, and_self]
    have hfr : 0 ≤ frame ∧ frame ≤ 65536 := by
      simp only [Bool.or_eq_false_iff, Bool.not_eq_false', inR, Bool.and_eq_true, decide_eq_true_eq] at hb1; omega
    have hlen : 1 ≤ code.length := by
      simp only [Bool.not_eq_false', inR, Bool.and_eq_true, decide_eq_true_eq] at hb; omega
    refine callS (anyIns_ok G hG (.fn (.func 67) [] [.ptr H.length 0 0 0, .ptr (H.length + 1) 0 0 0]) (fun i => !insOK m slots frame code.length i) code (H ++ [.cells 0 1 [.ptr c 0 0 0], .cells 0 7 [.agg [.str name, .bool thunk, .bool upd, .int .i64 free, .int .i64 params, .int .i64 frame, .list 6 (insL code)]]]) (by omega) (by simp [SV.under, SV.underL]) (fun i hi => ACallV.of (k1 i hi hfr c H.length (H.length + 1) _ (get_app_left hc) (by simp) (by simp)))) ?_
    rintro r H' ⟨rfl, rfl⟩
    have e1 : (insL code)[code.length - 1]? = some (.agg (code[code.length - 1]'(by omega)).cells) := by simp [insL, show code.length - 1 < code.length by omega]
    have e2 : ((code.length : Int) - 1).toNat = code.length - 1 := by omega
    have hlast : lastOp code = (code[code.length - 1]'(by omega)).op := by unfold lastOp; rw [List.getElem?_eq_getElem (by omega)]
    generalize (code[code.length - 1]'(by omega)) = x at e1 hlast
    obtain ⟨op, xa, xb, xc, xn, xl⟩ := x
    simp only [Ins.cells] at e1 hlast
    have X := And.intro X (And.intro e1 (And.intro e2 bitX))
    (refine run ?_; repeat' (first | with_reducible exact trivial | ((with_reducible apply Fork.mk) <;> intro hb) | with_reducible apply Two.mk))
    · rename_i hb3
      refine finS hR hC' hcl (.same _ rfl) ⟨rfl, ?_⟩
      simp only [funOK, hbad, hb, Bool.not_true, Bool.and_false, Bool.false_and]; rfl
    · refine finS hR hC' hcl (.same _ rfl) ⟨rfl, ?_⟩
      simp only [funOK, hbad, hb, Bool.not_false, Bool.true_and, hlast, resSV]
      cases bitOf 64 op <;> simp [b2]
  · have X := And.intro X hmost
    (refine run ?_; repeat' (first | with_reducible exact trivial | ((with_reducible apply Fork.mk) <;> intro hb) | with_reducible apply Two.mk))
    · refine finS hR hC' hcl (.same _ rfl) ⟨rfl, ?_⟩
      simp only [funOK, funBad, if_neg hmost, if_true, if_false, hb, Bool.true_or, Bool.not_true, Bool.false_and]; rfl
    · rename_i hb1
      refine finS hR hC' hcl (.same _ rfl) ⟨rfl, ?_⟩
      have : funBad slots ⟨name, thunk, upd, free, params, frame, code⟩ = true := by
        have e : funBad slots ⟨name, thunk, upd, free, params, frame, code⟩ = ((decide (free < 0) || decide (params < 0)) || (!inR frame 0 65536 || decide (frame < free) || decide (IntKind.i64.wrap (frame - free) < params) || (!(thunk == decide (params = 0))) || (upd && !thunk)) || !inR code.length 1 65536) := by
          simp only [funBad, if_neg hmost, Bool.or_assoc]
        rw [e, hb]; simp
      simp only [funOK, this, Bool.not_true, Bool.false_and]; rfl
    · refine finS hR hC' hcl (.same _ rfl) ⟨rfl, ?_⟩
      have : funBad slots ⟨name, thunk, upd, free, params, frame, code⟩ = true := by
        simp only [funBad, if_neg hmost, if_true, if_false, hb, Bool.or_true]
      simp only [funOK, this, Bool.not_true, Bool.false_and]; rfl
    rename_i hb2 hb1
    have hbad : funBad slots ⟨name, thunk, upd, free, params, frame, code⟩ = false := by
      simp only [funBad, if_neg hmost, if_true, if_false, Bool.or_eq_false_iff] at hb hb1 hb2 ⊢
      simp only [hb, hb1, hb2, and_self]
    have hfr : 0 ≤ frame ∧ frame ≤ 65536 := by
      simp only [Bool.or_eq_false_iff, Bool.not_eq_false', inR, Bool.and_eq_true, decide_eq_true_eq] at hb1; omega
    have hlen : 1 ≤ code.length := by
      simp only [Bool.not_eq_false', inR, Bool.and_eq_true, decide_eq_true_eq] at hb; omega
    refine callS (anyIns_ok G hG (.fn (.func 67) [] [.ptr H.length 0 0 0, .ptr (H.length + 1) 0 0 0]) (fun i => !insOK m slots frame code.length i) code (H ++ [.cells 0 1 [.ptr c 0 0 0], .cells 0 7 [.agg [.str name, .bool thunk, .bool upd, .int .i64 free, .int .i64 params, .int .i64 frame, .list 6 (insL code)]]]) (by omega) (by simp [SV.under, SV.underL]) (fun i hi => ACallV.of (k1 i hi hfr c H.length (H.length + 1) _ (get_app_left hc) (by simp) (by simp)))) ?_
    rintro r H' ⟨rfl, rfl⟩
    have e1 : (insL code)[code.length - 1]? = some (.agg (code[code.length - 1]'(by omega)).cells) := by simp [insL, show code.length - 1 < code.length by omega]
    have e2 : ((code.length : Int) - 1).toNat = code.length - 1 := by omega
    have hlast : lastOp code = (code[code.length - 1]'(by omega)).op := by unfold lastOp; rw [List.getElem?_eq_getElem (by omega)]
    generalize (code[code.length - 1]'(by omega)) = x at e1 hlast
    obtain ⟨op, xa, xb, xc, xn, xl⟩ := x
    simp only [Ins.cells] at e1 hlast
    have X := And.intro X (And.intro e1 (And.intro e2 bitX))
    (refine run ?_; repeat' (first | with_reducible exact trivial | ((with_reducible apply Fork.mk) <;> intro hb) | with_reducible apply Two.mk))
    · rename_i hb3
      refine finS hR hC' hcl (.same _ rfl) ⟨rfl, ?_⟩
      simp only [funOK, hbad, hb, Bool.not_true, Bool.and_false, Bool.false_and]; rfl
    · refine finS hR hC' hcl (.same _ rfl) ⟨rfl, ?_⟩
      simp only [funOK, hbad, hb, Bool.not_false, Bool.true_and, hlast, resSV]
      cases bitOf 64 op <;> simp [b2]
end Go.Proofs.YtihhngjoecgkpaaDoor
end

section
namespace Go.Proofs.YtihhngjoecgkpaaDoor
open Go
set_option linter.unusedSimpArgs false
set_option linter.unusedVariables false
set_option maxRecDepth 10000
set_option maxHeartbeats 4000000

def refBad (n : Nat) (r : Int × Int) : Bool := !inR r.1 (-1) ((n : Int) - 1) || (decide (0 ≤ r.1) && decide (¬ r.2 = 0))
theorem refBad_ok (G : Gl) (hG : GClosed G) (m : Img) (slots : Int) (r : Int × Int) (hm3 : m.globals.length < 1099511627776) (c bp : Nat) (H : List Blk) (hc : H[c]? = some (.cells 0 5 [.agg (chkC m slots)])) (hbp : H[bp]? = some (.cells 0 1 [.ptr c 0 0 0])) :
    ACall Tryd.prog G 71 [encR r, .ptr bp 0 0 0] H (fun r' H' => H' = H ∧ r' = .bool (refBad m.globals.length r)) := by
  have hl1 := (List.getElem?_eq_some_iff.1 hbp).1
  have hl2 := (List.getElem?_eq_some_iff.1 hc).1
  have hmcl : (chkC m slots).length = 5 := rfl
  have hmc2 : (chkC m slots)[2]? = some (.list 3 (glbsL m.globals)) := rfl
  have c1 := fun n hi H => within_ok G hG n (-1) hi H
  obtain ⟨g, n⟩ := r
  simp only [encR, refBad]
  generalize hmc : chkC m slots = mc at hc hmcl hmc2
  refine ACall.of_go TB [] tabOK _ Tryd.func71 rfl (by decide) Tryd.ntmps71 (by simp) rfl (by simp only [initEnv, Nat.reduceAdd]; rfl) fun C R' hR hC hcl hB => ?_; have X := noX; have hC' := congrArg List.length hC
  have X := And.intro X (And.intro (getX hc) (And.intro (getX hbp) (And.intro hmcl hmc2)))
  (refine run ?_; repeat' (first | with_reducible exact trivial | ((with_reducible apply Fork.mk) <;> intro hb) | with_reducible apply Two.mk))
  all_goals exact finS hR hC' hcl (.same _ rfl) ⟨rfl, by simp_all [resSV]⟩

def getT (l : List Fun) (n : Int) : Bool := match l[n.toNat]? with | some f => f.thunk | none => false
def glbOK (m : Img) (g : Glb) : Bool :=
  !(g.args.any (refBad m.globals.length)) &&
    (if g.kind = 1 ∨ g.kind = 2 then inR g.n 0 ((m.funcs.length : Int) - 1) && (getT m.funcs g.n == decide (g.kind = 2)) && decide (getF m.funcs g.n = 0) && decide ((g.args.length : Int) = 0)
     else if g.kind = 3 then inR g.n 0 ((m.cons.length : Int) - 1) && decide (getA m.cons g.n = (g.args.length : Int))
     else false)
theorem glb_ok (G : Gl) (hG : GClosed G) (m : Img) (slots : Int) (g : Glb) (hl : g.args.length < 1099511627776) (hm1 : m.cons.length < 1099511627776) (hm2 : m.funcs.length < 1099511627776) (hm3 : m.globals.length < 1099511627776) (c : Nat) (H : List Blk) (hc : H[c]? = some (.cells 0 5 [.agg (chkC m slots)])) :
    ACall Tryd.prog G 34 [.ptr c 0 0 0, .agg g.cells] H (fun r H' => H' = H ∧ r = .bool (glbOK m g)) := by
  have hl2 := (List.getElem?_eq_some_iff.1 hc).1
  have hmcl : (chkC m slots).length = 5 := rfl
  have hmc0 : (chkC m slots)[0]? = some (.list 4 (consL m.cons)) := rfl
  have hmc1 : (chkC m slots)[1]? = some (.list 7 (funsL m.funcs)) := rfl
  have c1 := fun n hi H => within_ok G hG n 0 hi H
  obtain ⟨kind, n, args⟩ := g
  simp only at hl
  simp only [Glb.cells]
  have k1 := fun r c bp H hc => refBad_ok G hG m slots r hm3 c bp H hc
  generalize hmc : chkC m slots = mc at hc hmcl hmc0 hmc1 k1
  have hla : (args.map encR).length = args.length := by simp
  have c2 : ACall Tryd.prog G 70 [.list 2 (args.map encR), .fn (.func 71) [] [.ptr H.length 0 0 0]] (H ++ [.cells 0 1 [.ptr c 0 0 0], .cells 0 3 [.agg [.int .i64 kind, .int .i64 n, .list 2 (args.map encR)]]]) (fun r H' => H' = (H ++ [.cells 0 1 [.ptr c 0 0 0], .cells 0 3 [.agg [.int .i64 kind, .int .i64 n, .list 2 (args.map encR)]]]) ∧ r = .bool (args.any (refBad m.globals.length))) :=
    anyRef_ok G hG _ (refBad m.globals.length) args _ (by omega) (by simp [SV.under, SV.underL]) (fun x hx => ACallV.of (k1 x c H.length _ (get_app_left hc) (by simp)))
  refine ACall.of_go TB [] tabOK _ Tryd.func34 rfl (by decide) Tryd.ntmps34 (by simp) rfl (by simp only [initEnv, Nat.reduceAdd]; rfl) fun C R' hR hC hcl hB => ?_; have X := noX; have hC' := congrArg List.length hC
  have X := And.intro X (And.intro (getX hc) (And.intro hmcl (And.intro hmc0 (And.intro hmc1 hla))))
  have hfin : ∀ b, b = glbOK m ⟨kind, n, args⟩ → Fin C (H ++ [.cells 0 1 [.ptr c 0 0 0], .cells 0 3 [.agg [.int .i64 kind, .int .i64 n, .list 2 (args.map encR)]]]) (resSV [SV.bool b]) R' := fun b e => finS hR hC' hcl (.same _ rfl) ⟨rfl, by rw [← e]; rfl⟩
  simp only [glbOK] at hfin
  generalize args.any (refBad m.globals.length) = A at c2 hfin
  by_cases h12 : kind = 1 ∨ kind = 2
  · by_cases hin : inR n 0 ((m.funcs.length : Int) - 1) = true
    · have hin2 : 0 ≤ n ∧ n < m.funcs.length := by simp [inR] at hin; omega
      obtain ⟨k, rfl⟩ := Int.eq_ofNat_of_zero_le hin2.1
      have hk : k < m.funcs.length := by omega
      have hget : getF m.funcs k = (m.funcs[k]).free := by unfold getF; rw [Int.toNat_natCast, List.getElem?_eq_getElem hk]
      have hget2 : getT m.funcs k = (m.funcs[k]).thunk := by unfold getT; rw [Int.toNat_natCast, List.getElem?_eq_getElem hk]
      have hx : (funsL m.funcs)[k]? = some (.agg (m.funcs[k]).cells) := by simp [funsL, hk]
      generalize m.funcs[k] = x at hget hget2 hx
      have hx : (funsL m.funcs)[k]? = some (.agg [.str x.name, .bool x.thunk, .bool x.upd, .int .i64 x.free, .int .i64 x.params, .int .i64 x.frame, .list 6 (insL x.code)]) := hx
      rw [hget, hget2, hin] at hfin
      have X := And.intro X (And.intro hin hx)
      rcases h12 with rfl | rfl <;>
      · (refine run ?_; repeat' (first | with_reducible exact trivial | ((with_reducible apply Fork.mk) <;> intro hb) | with_reducible apply Two.mk))
        all_goals
          clear X
          refine hfin _ ?_
          simp_all
    · have hin : inR n 0 ((m.funcs.length : Int) - 1) = false := by simpa using hin
      rw [hin] at hfin
      have X := And.intro X hin
      rcases h12 with rfl | rfl <;>
      · (refine run ?_; repeat' (first | with_reducible exact trivial | ((with_reducible apply Fork.mk) <;> intro hb) | with_reducible apply Two.mk))
        all_goals
          clear X
          refine hfin _ ?_
          simp_all
  have h1 : ¬ kind = 1 := fun e => h12 (.inl e)
  have h2 : ¬ kind = 2 := fun e => h12 (.inr e)
  by_cases h3 : kind = 3
  · subst h3
    by_cases hin : inR n 0 ((m.cons.length : Int) - 1) = true
    · have hin2 : 0 ≤ n ∧ n < m.cons.length := by simp [inR] at hin; omega
      obtain ⟨k, rfl⟩ := Int.eq_ofNat_of_zero_le hin2.1
      have hk : k < m.cons.length := by omega
      have hget : getA m.cons k = (m.cons[k]).arity := by unfold getA; rw [Int.toNat_natCast, List.getElem?_eq_getElem hk]
      have hx : (consL m.cons)[k]? = some (.agg (m.cons[k]).cells) := by simp [consL, hk]
      generalize m.cons[k] = x at hget hx
      have hx : (consL m.cons)[k]? = some (.agg [.str x.name, .int .i64 x.arity, .int .i64 x.tag, .int .i64 x.family]) := hx
      rw [hget, hin] at hfin
      have X := And.intro X (And.intro hin hx)
      (refine run ?_; repeat' (first | with_reducible exact trivial | ((with_reducible apply Fork.mk) <;> intro hb) | with_reducible apply Two.mk))
      all_goals
        clear X
        refine hfin _ ?_
        simp_all
    · have hin : inR n 0 ((m.cons.length : Int) - 1) = false := by simpa using hin
      rw [hin] at hfin
      have X := And.intro X hin
      (refine run ?_; repeat' (first | with_reducible exact trivial | ((with_reducible apply Fork.mk) <;> intro hb) | with_reducible apply Two.mk))
      all_goals
        clear X
        refine hfin _ ?_
        simp_all
  · have X := And.intro X (And.intro h1 (And.intro h2 h3))
    (refine run ?_; repeat' (first | with_reducible exact trivial | ((with_reducible apply Fork.mk) <;> intro hb) | with_reducible apply Two.mk))
    all_goals
      clear X
      refine hfin _ ?_
      simp_all
end Go.Proofs.YtihhngjoecgkpaaDoor
end

section
namespace Go.Proofs.YtihhngjoecgkpaaDoor
open Go
set_option linter.unusedSimpArgs false
set_option linter.unusedVariables false
set_option maxRecDepth 10000
set_option maxHeartbeats 4000000

def conV (c : Con) : SV := .agg [.str c.name, .int .i64 c.arity, .int .i64 c.tag, .int .i64 c.family]
def esC (l : List Con) : List (SV × SV) := l.map fun c => (.str c.name, conV c)
def lookC : List Con → Str → Con
  | [], _ => ⟨[], 0, 0, 0⟩
  | c :: r, s => if c.name = s then c else lookC r s
theorem findC_some : ∀ (l : List Con) (s : Str), (findSV (esC l) (.str s)).isSome = decide (s ∈ l.map (·.name))
  | [], s => rfl
  | c :: r, s => by
    simp only [esC, List.map_cons, findSV, SV.keyEq]
    by_cases h : s = c.name
    · subst h; simp
    · have h' : ¬ c.name = s := fun e => h e.symm
      have ih := findC_some r s
      simp only [esC] at ih
      simp only [beq_eq_false_iff_ne.2 h, beq_eq_false_iff_ne.2 h', if_false, Bool.false_eq_true, ih, List.mem_cons, h, false_or]
theorem findC_get : ∀ (l : List Con) (s : Str), (findSV (esC l) (.str s)).getD (.agg [.str [], .int .i64 0, .int .i64 0, .int .i64 0]) = conV (lookC l s)
  | [], s => rfl
  | c :: r, s => by
    simp only [esC, List.map_cons, findSV, SV.keyEq, lookC]
    by_cases h : s = c.name
    · subst h; simp
    · have h' : ¬ c.name = s := fun e => h e.symm
      have ih := findC_get r s
      simp only [esC] at ih
      simp only [beq_eq_false_iff_ne.2 h, beq_eq_false_iff_ne.2 h', if_false, Bool.false_eq_true, ih, h', if_false]
theorem setC : ∀ (l : List Con) (c : Con), c.name ∉ l.map (·.name) → setSV (esC l) (.str c.name) (conV c) = esC (l ++ [c])
  | [], c, _ => rfl
  | x :: r, c, h => by
    simp only [List.map_cons, List.mem_cons, not_or] at h
    have h' : ¬ x.name = c.name := fun e => h.1 e.symm
    have ih := setC r c h.2
    simp only [esC, List.map_cons, List.cons_append] at ih ⊢
    simp only [setSV, SV.keyEq, beq_eq_false_iff_ne.2 h.1, beq_eq_false_iff_ne.2 h', if_false, Bool.false_eq_true, ih]
theorem esC_under (n : Nat) : ∀ l : List Con, belowE n (esC l) = true
  | [] => rfl
  | c :: r => by
    have ih := esC_under n r
    simp only [esC, List.map_cons, belowE, conV, SV.under, SV.underL, Bool.and_self, Bool.true_and] at ih ⊢
    exact ih
def conBad (c : Con) : Bool := decide (c.name = []) || !inR c.arity 0 100 || !inR c.family 1 1000 || !inR c.tag 0 (IntKind.i64.wrap (c.family - 1))
def want0 : Con := ⟨[80, 114, 105, 109, 46, 70, 97, 108, 115, 101], 0, 0, 2⟩
def want1 : Con := ⟨[80, 114, 105, 109, 46, 84, 114, 117, 101], 0, 1, 2⟩
def want2 : Con := ⟨[80, 114, 105, 109, 46, 40, 41], 0, 0, 1⟩
def want3 : Con := ⟨[80, 114, 105, 109, 46, 66, 111, 120], 1, 0, 1⟩
def wants : List Con := [want0, want1, want2, want3]
def conEq (a b : Con) : Bool := decide (a.name = b.name) && decide (a.arity = b.arity) && decide (a.tag = b.tag) && decide (a.family = b.family)
def consOK (l : List Con) : Bool := l.all (fun c => !conBad c) && decide (l.map (·.name)).Nodup && wants.all fun w => conEq (lookC l w.name) w
theorem cons_ok (G : Gl) (hG : GClosed G) (m : Img) (slots : Int) (hm1 : m.cons.length < 1099511627776) (c : Nat) (H : List Blk) (hc : H[c]? = some (.cells 0 5 [.agg (chkC m slots)])) :
    ACall Tryd.prog G 28 [.ptr c 0 0 0] H (fun r H' => H' = H ∧ r = .bool (consOK m.cons)) := by
  have hcl0 := (List.getElem?_eq_some_iff.1 hc).1
  have hmcl : (chkC m slots).length = 5 := rfl
  have hmc0 : (chkC m slots)[0]? = some (.list 4 (consL m.cons)) := rfl
  generalize chkC m slots = mc at hc hmcl hmc0
  have c1 := fun n hi H => within_ok G hG n 0 hi H
  have c2 := fun n hi H => within_ok G hG n 1 hi H
  generalize m.cons = L at hmc0 hm1
  clear m
  refine ACall.of_go TB [] tabOK _ Tryd.func28 rfl (by decide) Tryd.ntmps28 (by simp) rfl (by simp only [initEnv, Nat.reduceAdd]; rfl) fun C R' hR hC hcl hB => ?_; have X := noX; have hC' := congrArg List.length hC
  have X := And.intro X (And.intro (getX hc) (And.intro hmcl hmc0))
  (refine run ?_; repeat' (first | with_reducible exact trivial | ((with_reducible apply Fork.mk) <;> intro hb) | with_reducible apply Two.mk))
  clear X
  refine go_loop (fun k : Nat => [(0, .ptr c 0 0 0), (3, .map H.length), (15, .list 4 (consL L)), (16, .int .i64 L.length), (17, .int .i64 k)]) (fun k => H ++ [.map none (esC (L.take k))]) (fun k => L.length - k) (fun k => k ≤ L.length ∧ (L.take k).all (fun c => !conBad c) = true ∧ ((L.take k).map (·.name)).Nodup) 0 ⟨Nat.zero_le _, rfl, List.nodup_nil⟩ (Wk.sub (by simp [subEnv, look])) ?_
  rintro K k ⟨hk, hall, hnd⟩ hK
  rcases Nat.lt_or_ge k L.length with hlt | hge
  · have e1 : (consL L)[k]? = some (conV L[k]) := by simp [consL, hlt, conV, Con.cells]
    have ht := List.take_succ_eq_append_getElem hlt
    have hdrop : L = L.take k ++ L[k] :: L.drop (k + 1) := by rw [← List.drop_eq_getElem_cons hlt, List.take_append_drop]
    have hfg := findC_get (L.take k) L[k].name
    have hfs := findC_some (L.take k) L[k].name
    have hset := setC (L.take k) L[k]
    generalize lookC (L.take k) L[k].name = w at hfg
    generalize L[k] = x at *
    simp only [conV] at e1 hfg hset
    by_cases hin : x.name ∈ (L.take k).map (·.name)
    · rw [decide_eq_true hin] at hfs
      have hbad : consOK L = false := by
        unfold consOK
        have : ¬ (L.map (·.name)).Nodup := fun h => by
          rw [hdrop, List.map_append, List.map_cons, List.nodup_append] at h
          exact h.2.2 _ hin _ (List.mem_cons_self ..) rfl
        rw [decide_eq_false this]; simp
      have X := And.intro noX (And.intro e1 (And.intro hfg hfs))
      (refine run ?_; repeat' (first | with_reducible exact trivial | ((with_reducible apply Fork.mk) <;> intro hb) | with_reducible apply Two.mk))
      exact finS hR hC' hcl (.same _ rfl) ⟨rfl, by rw [hbad]; rfl⟩
    · rw [decide_eq_false hin] at hfs
      have X := And.intro noX (And.intro e1 (And.intro hfg (And.intro hfs (hset hin))))
      have hb' : conBad x = true → consOK L = false := fun h => by
        unfold consOK
        have : L.all (fun c => !conBad c) = false := by
          rw [List.all_eq_false]
          exact ⟨x, by rw [hdrop]; simp, by simp [h]⟩
        rw [this]; simp
      (refine run ?_; repeat' (first | with_reducible exact trivial | ((with_reducible apply Fork.mk) <;> intro hb) | with_reducible apply Two.mk))
      · exact finS hR hC' hcl (.same _ rfl) ⟨rfl, by rw [hb' (by simp [conBad, hb])]; rfl⟩
      · exact finS hR hC' hcl (.same _ rfl) ⟨rfl, by rw [hb' (by simp only [conBad, hb, Bool.or_true, Bool.true_or])]; rfl⟩
      · exact finS hR hC' hcl (.same _ rfl) ⟨rfl, by rw [hb' (by simp only [conBad, hb, Bool.or_true, Bool.true_or])]; rfl⟩
      · exact finS hR hC' hcl (.same _ rfl) ⟨rfl, by rw [hb' (by simp only [conBad, hb, Bool.or_true, Bool.true_or])]; rfl⟩
      · rename_i g1 g2 g3
        refine hK _ _ (k + 1) (by omega) ⟨by omega, ?_, ?_⟩ ?_
        · rw [ht, List.all_append, hall]
          simp only [List.all_cons, List.all_nil, Bool.and_true, Bool.true_and, conBad, hb, g1, g2, g3, decide_false, Bool.or_false, Bool.not_false]
        · rw [ht, List.map_append, List.nodup_append]
          refine ⟨hnd, by simp, ?_⟩
          simp only [List.map_cons, List.map_nil, List.mem_singleton]
          intro a ha b hb e
          subst e; subst hb; exact hin ha
        · rw [ht]
          exact wkS (n0 := H.length) [(H.length, 0)] hG hB hC' hcl (hk := .m (kd := none) (es := esC (L.take k ++ [x])) (by simp) (Nat.le_refl _) (FrzE.same (esC_under _ _)) .nil)
  · have : k = L.length := by omega
    subst this
    clear hK
    rw [List.take_length] at hall hnd ⊢
    have X := And.intro noX (Int.lt_irrefl (L.length : Int))
    (refine run ?_; repeat' (first | with_reducible exact trivial | ((with_reducible apply Fork.mk) <;> intro hb) | with_reducible apply Two.mk))
    clear X
    refine go_loop (fun a : Nat => [(3, .map H.length), (64, .agg [.str want0.name, .int .i64 0, .int .i64 0, .int .i64 2, .str want1.name, .int .i64 0, .int .i64 1, .int .i64 2, .str want2.name, .int .i64 0, .int .i64 0, .int .i64 1, .str want3.name, .int .i64 1, .int .i64 0, .int .i64 1]), (65, .int .i64 a)]) (fun a => H ++ [.map none (esC L)]) (fun a => 4 - a) (fun a => a ≤ 4 ∧ (wants.take a).all (fun w => conEq (lookC L w.name) w) = true) 0 ⟨by omega, rfl⟩ (Wk.sub (by simp [subEnv, look, want0, want1, want2, want3])) ?_
    rintro K a ⟨ha, hw⟩ hK
    have hok : consOK L = (wants.all fun w => conEq (lookC L w.name) w) := by unfold consOK; rw [hall, decide_eq_true hnd]; rfl
    rcases (show a = 0 ∨ a = 1 ∨ a = 2 ∨ a = 3 ∨ a = 4 by omega) with rfl | rfl | rfl | rfl | rfl
    · have hfg := findC_get L want0.name
      have hL : lookC L want0.name = lookC L want0.name := rfl
      generalize hw0 : lookC L want0.name = w at hfg
      simp only [conV] at hfg
      have X := And.intro noX hfg
      rw [show ((0 : Nat) : Int) = 0 from rfl]
      (refine run ?_; repeat' (first | with_reducible exact trivial | ((with_reducible apply Fork.mk) <;> intro hb) | with_reducible apply Two.mk))
      · have hno : conEq (lookC L want0.name) want0 = false := by
          have e : conEq w want0 = (decide (w.name = want0.name) && (decide (w.arity = 0) && (decide (w.tag = 0) && decide (w.family = 2)))) := by
            simp only [conEq, Bool.and_assoc]; rfl
          rw [hw0, e]; rw [Bool.not_eq_true'] at hb; exact hb
        have : consOK L = false := by rw [hok, List.all_eq_false]; exact ⟨want0, by simp [wants], by simp [hno]⟩
        exact finS hR hC' hcl (.same _ rfl) ⟨rfl, by rw [this]; rfl⟩
      · have hyes : conEq (lookC L want0.name) want0 = true := by
          have e : conEq w want0 = (decide (w.name = want0.name) && (decide (w.arity = 0) && (decide (w.tag = 0) && decide (w.family = 2)))) := by
            simp only [conEq, Bool.and_assoc]; rfl
          rw [hw0, e]; rw [Bool.not_eq_false'] at hb; exact hb
        refine hK _ _ 1 (by omega) ⟨by omega, ?_⟩ ?_
        · show (wants.take 0 ++ [want0]).all _ = true
          rw [List.all_append, hw, List.all_cons, hyes]; rfl
        · rw [show ((1 : Nat) : Int) = 0 + 1 from rfl]
          exact wkS (n0 := H.length) [(H.length, 0)] hG hB hC' hcl (hk := .m (kd := none) (es := esC L) (by simp) (Nat.le_refl _) (FrzE.same (esC_under _ _)) .nil)
    · have hfg := findC_get L want1.name
      have hL : lookC L want1.name = lookC L want1.name := rfl
      generalize hw0 : lookC L want1.name = w at hfg
      simp only [conV] at hfg
      have X := And.intro noX hfg
      rw [show ((1 : Nat) : Int) = 1 from rfl]
      (refine run ?_; repeat' (first | with_reducible exact trivial | ((with_reducible apply Fork.mk) <;> intro hb) | with_reducible apply Two.mk))
      · have hno : conEq (lookC L want1.name) want1 = false := by
          have e : conEq w want1 = (decide (w.name = want1.name) && (decide (w.arity = 0) && (decide (w.tag = 1) && decide (w.family = 2)))) := by
            simp only [conEq, Bool.and_assoc]; rfl
          rw [hw0, e]; rw [Bool.not_eq_true'] at hb; exact hb
        have : consOK L = false := by rw [hok, List.all_eq_false]; exact ⟨want1, by simp [wants], by simp [hno]⟩
        exact finS hR hC' hcl (.same _ rfl) ⟨rfl, by rw [this]; rfl⟩
      · have hyes : conEq (lookC L want1.name) want1 = true := by
          have e : conEq w want1 = (decide (w.name = want1.name) && (decide (w.arity = 0) && (decide (w.tag = 1) && decide (w.family = 2)))) := by
            simp only [conEq, Bool.and_assoc]; rfl
          rw [hw0, e]; rw [Bool.not_eq_false'] at hb; exact hb
        refine hK _ _ 2 (by omega) ⟨by omega, ?_⟩ ?_
        · show (wants.take 1 ++ [want1]).all _ = true
          rw [List.all_append, hw, List.all_cons, hyes]; rfl
        · rw [show ((2 : Nat) : Int) = 1 + 1 from rfl]
          exact wkS (n0 := H.length) [(H.length, 0)] hG hB hC' hcl (hk := .m (kd := none) (es := esC L) (by simp) (Nat.le_refl _) (FrzE.same (esC_under _ _)) .nil)
    · have hfg := findC_get L want2.name
      have hL : lookC L want2.name = lookC L want2.name := rfl
      generalize hw0 : lookC L want2.name = w at hfg
      simp only [conV] at hfg
      have X := And.intro noX hfg
      rw [show ((2 : Nat) : Int) = 2 from rfl]
      (refine run ?_; repeat' (first | with_reducible exact trivial | ((with_reducible apply Fork.mk) <;> intro hb) | with_reducible apply Two.mk))
      · have hno : conEq (lookC L want2.name) want2 = false := by
          have e : conEq w want2 = (decide (w.name = want2.name) && (decide (w.arity = 0) && (decide (w.tag = 0) && decide (w.family = 1)))) := by
            simp only [conEq, Bool.and_assoc]; rfl
          rw [hw0, e]; rw [Bool.not_eq_true'] at hb; exact hb
        have : consOK L = false := by rw [hok, List.all_eq_false]; exact ⟨want2, by simp [wants], by simp [hno]⟩
        exact finS hR hC' hcl (.same _ rfl) ⟨rfl, by rw [this]; rfl⟩
      · have hyes : conEq (lookC L want2.name) want2 = true := by
          have e : conEq w want2 = (decide (w.name = want2.name) && (decide (w.arity = 0) && (decide (w.tag = 0) && decide (w.family = 1)))) := by
            simp only [conEq, Bool.and_assoc]; rfl
          rw [hw0, e]; rw [Bool.not_eq_false'] at hb; exact hb
        refine hK _ _ 3 (by omega) ⟨by omega, ?_⟩ ?_
        · show (wants.take 2 ++ [want2]).all _ = true
          rw [List.all_append, hw, List.all_cons, hyes]; rfl
        · rw [show ((3 : Nat) : Int) = 2 + 1 from rfl]
          exact wkS (n0 := H.length) [(H.length, 0)] hG hB hC' hcl (hk := .m (kd := none) (es := esC L) (by simp) (Nat.le_refl _) (FrzE.same (esC_under _ _)) .nil)
    · have hfg := findC_get L want3.name
      have hL : lookC L want3.name = lookC L want3.name := rfl
      generalize hw0 : lookC L want3.name = w at hfg
      simp only [conV] at hfg
      have X := And.intro noX hfg
      rw [show ((3 : Nat) : Int) = 3 from rfl]
      (refine run ?_; repeat' (first | with_reducible exact trivial | ((with_reducible apply Fork.mk) <;> intro hb) | with_reducible apply Two.mk))
      · have hno : conEq (lookC L want3.name) want3 = false := by
          have e : conEq w want3 = (decide (w.name = want3.name) && (decide (w.arity = 1) && (decide (w.tag = 0) && decide (w.family = 1)))) := by
            simp only [conEq, Bool.and_assoc]; rfl
          rw [hw0, e]; rw [Bool.not_eq_true'] at hb; exact hb
        have : consOK L = false := by rw [hok, List.all_eq_false]; exact ⟨want3, by simp [wants], by simp [hno]⟩
        exact finS hR hC' hcl (.same _ rfl) ⟨rfl, by rw [this]; rfl⟩
      · have hyes : conEq (lookC L want3.name) want3 = true := by
          have e : conEq w want3 = (decide (w.name = want3.name) && (decide (w.arity = 1) && (decide (w.tag = 0) && decide (w.family = 1)))) := by
            simp only [conEq, Bool.and_assoc]; rfl
          rw [hw0, e]; rw [Bool.not_eq_false'] at hb; exact hb
        refine hK _ _ 4 (by omega) ⟨by omega, ?_⟩ ?_
        · show (wants.take 3 ++ [want3]).all _ = true
          rw [List.all_append, hw, List.all_cons, hyes]; rfl
        · rw [show ((4 : Nat) : Int) = 3 + 1 from rfl]
          exact wkS (n0 := H.length) [(H.length, 0)] hG hB hC' hcl (hk := .m (kd := none) (es := esC L) (by simp) (Nat.le_refl _) (FrzE.same (esC_under _ _)) .nil)
    · clear hK
      rw [show ((4 : Nat) : Int) = 4 from rfl]
      have X := noX
      (refine run ?_; repeat' (first | with_reducible exact trivial | ((with_reducible apply Fork.mk) <;> intro hb) | with_reducible apply Two.mk))
      exact finS hR hC' hcl (.same _ rfl) ⟨rfl, by rw [hok]; exact congrArg SV.bool hw.symm⟩
end Go.Proofs.YtihhngjoecgkpaaDoor
end

section
namespace Go.Proofs.YtihhngjoecgkpaaDoor
open Go
set_option linter.unusedSimpArgs false
set_option linter.unusedVariables false
set_option maxRecDepth 10000
set_option maxHeartbeats 4000000

structure ImgB (m : Img) : Prop where
  c : m.cons.length < 1099511627776
  f : m.funcs.length < 1099511627776
  g : m.globals.length < 1099511627776
  code : ∀ f ∈ m.funcs, f.code.length < 1099511627776 ∧ ∀ i ∈ f.code, i.l.length < 1099511627776
  args : ∀ g ∈ m.globals, g.args.length < 1099511627776
theorem notFun_ok (G : Gl) (hG : GClosed G) (hF : GF G) (m : Img) (slots : Int) (hb : ImgB m) (hs : 1 ≤ slots ∧ slots ≤ 65536) (f : Fun) (hf : f ∈ m.funcs) (c bp : Nat) (H : List Blk) (hc : H[c]? = some (.cells 0 5 [.agg (chkC m slots)])) (hbp : H[bp]? = some (.cells 0 1 [.ptr c 0 0 0])) :
    ACall Tryd.prog G 30 [.agg f.cells, .ptr bp 0 0 0] H (fun r H' => H' = H ∧ r = .bool (!funOK m slots f)) := by
  have hl1 := (List.getElem?_eq_some_iff.1 hbp).1
  have hfl : f.cells.length = 7 := rfl
  refine ACall.of_go TB [] tabOK _ Tryd.func30 rfl (by decide) Tryd.ntmps30 (by simp) rfl (by simp only [initEnv, Nat.reduceAdd]; rfl) fun C R' hR hC hcl hB => ?_; have X := noX; have hC' := congrArg List.length hC
  have X := And.intro X (And.intro (getX hbp) hfl)
  (refine run ?_; repeat' (first | with_reducible exact trivial | ((with_reducible apply Fork.mk) <;> intro hb) | with_reducible apply Two.mk))
  refine callS (fun_ok G hG hF m slots f (hb.code f hf).1 (hb.code f hf).2 hb.c hb.f hb.g hs c _ (get_app_left hc)) ?_
  rintro r H' ⟨rfl, rfl⟩
  (refine run ?_; repeat' (first | with_reducible exact trivial | ((with_reducible apply Fork.mk) <;> intro hb) | with_reducible apply Two.mk))
  exact finS hR hC' hcl (.same _ rfl) ⟨rfl, rfl⟩
theorem notGlb_ok (G : Gl) (hG : GClosed G) (hF : GF G) (m : Img) (slots : Int) (hb : ImgB m) (g : Glb) (hg : g ∈ m.globals) (c bp : Nat) (H : List Blk) (hc : H[c]? = some (.cells 0 5 [.agg (chkC m slots)])) (hbp : H[bp]? = some (.cells 0 1 [.ptr c 0 0 0])) :
    ACall Tryd.prog G 33 [.agg g.cells, .ptr bp 0 0 0] H (fun r H' => H' = H ∧ r = .bool (!glbOK m g)) := by
  have hl1 := (List.getElem?_eq_some_iff.1 hbp).1
  have hgl : g.cells.length = 3 := rfl
  refine ACall.of_go TB [] tabOK _ Tryd.func33 rfl (by decide) Tryd.ntmps33 (by simp) rfl (by simp only [initEnv, Nat.reduceAdd]; rfl) fun C R' hR hC hcl hB => ?_; have X := noX; have hC' := congrArg List.length hC
  have X := And.intro X (And.intro (getX hbp) hgl)
  (refine run ?_; repeat' (first | with_reducible exact trivial | ((with_reducible apply Fork.mk) <;> intro hb) | with_reducible apply Two.mk))
  refine callS (glb_ok G hG m slots g (hb.args g hg) hb.c hb.f hb.g c _ (get_app_left hc)) ?_
  rintro r H' ⟨rfl, rfl⟩
  (refine run ?_; repeat' (first | with_reducible exact trivial | ((with_reducible apply Fork.mk) <;> intro hb) | with_reducible apply Two.mk))
  exact finS hR hC' hcl (.same _ rfl) ⟨rfl, rfl⟩

def chkS (m : Img) (slots : Int) : Int :=
  if inR slots 1 65536 = false then 1
  else if !consOK m.cons || decide ((10000 : Int) < m.funcs.length) || decide ((10000 : Int) < m.globals.length) || !inR m.main 0 ((m.globals.length : Int) - 1) then 170
  else if m.funcs.any (fun f => !funOK m slots f) || m.globals.any (fun g => !glbOK m g) then 170 else 0
theorem check_ok (G : Gl) (hG : GClosed G) (hF : GF G) (m : Img) (slots : Int) (hb : ImgB m) (H : List Blk) : ACall Tryd.prog G 11 [.agg m.cells, .int .i64 slots] H (fun r H' => H' = H ∧ r = .int .i64 (chkS m slots)) := by
  have c2 := fun n hi H => within_ok G hG n 0 hi H
  by_cases hs : inR slots 1 65536 = true
  · have hs2 : 1 ≤ slots ∧ slots ≤ 65536 := by simp [inR] at hs; exact hs
    have k1 := fun c H hc => cons_ok G hG m slots hb.c c H hc
    have k2 := fun f hf c bp H hc => notFun_ok G hG hF m slots hb hs2 f hf c bp H hc
    have k3 := fun g hg c bp H hc => notGlb_ok G hG hF m slots hb g hg c bp H hc
    have hg := hb.g
    have hf := hb.f
    have c1 := fun n hi H => within_ok G hG n 1 hi H
    have hS : chkS m slots = if !consOK m.cons || decide ((10000 : Int) < m.funcs.length) || decide ((10000 : Int) < m.globals.length) || !inR m.main 0 ((m.globals.length : Int) - 1) then 170 else if m.funcs.any (fun f => !funOK m slots f) || m.globals.any (fun g => !glbOK m g) then 170 else 0 := by
      unfold chkS; rw [if_neg (by simp [hs])]
    rw [hS]
    obtain ⟨cons, funcs, globals, main⟩ := m
    simp only [Img.cells]
    simp only at hg hf
    have hq : (H ++ [.cells 0 4 [.agg [.list 4 (consL cons), .list 7 (funsL funcs), .list 3 (glbsL globals), .int .i64 main]], .cells 0 5 [.agg [.list 4 (consL cons), .list 7 (funsL funcs), .list 3 (glbsL globals), .int .i64 main, .int .i64 slots]], .cells 0 1 [.ptr (H.length + 1) 0 0 0]])[H.length + 1]? = some (.cells 0 5 [.agg (chkC ⟨cons, funcs, globals, main⟩ slots)]) := by simp [chkC, Img.cells]
    have hq2 : (H ++ [.cells 0 4 [.agg [.list 4 (consL cons), .list 7 (funsL funcs), .list 3 (glbsL globals), .int .i64 main]], .cells 0 5 [.agg [.list 4 (consL cons), .list 7 (funsL funcs), .list 3 (glbsL globals), .int .i64 main, .int .i64 slots]], .cells 0 1 [.ptr (H.length + 1) 0 0 0]])[H.length + 2]? = some (.cells 0 1 [.ptr (H.length + 1) 0 0 0]) := by simp
    have c3 : ACall Tryd.prog G 28 [.ptr (H.length + 1) 0 0 0] (H ++ [.cells 0 4 [.agg [.list 4 (consL cons), .list 7 (funsL funcs), .list 3 (glbsL globals), .int .i64 main]], .cells 0 5 [.agg [.list 4 (consL cons), .list 7 (funsL funcs), .list 3 (glbsL globals), .int .i64 main, .int .i64 slots]], .cells 0 1 [.ptr (H.length + 1) 0 0 0]]) (fun r H' => H' = (H ++ [.cells 0 4 [.agg [.list 4 (consL cons), .list 7 (funsL funcs), .list 3 (glbsL globals), .int .i64 main]], .cells 0 5 [.agg [.list 4 (consL cons), .list 7 (funsL funcs), .list 3 (glbsL globals), .int .i64 main, .int .i64 slots]], .cells 0 1 [.ptr (H.length + 1) 0 0 0]]) ∧ r = .bool (consOK cons)) := k1 _ _ hq
    have c4 : ACall Tryd.prog G 29 [.list 7 (funsL funcs), .fn (.func 30) [] [.ptr (H.length + 2) 0 0 0]] (H ++ [.cells 0 4 [.agg [.list 4 (consL cons), .list 7 (funsL funcs), .list 3 (glbsL globals), .int .i64 main]], .cells 0 5 [.agg [.list 4 (consL cons), .list 7 (funsL funcs), .list 3 (glbsL globals), .int .i64 main, .int .i64 slots]], .cells 0 1 [.ptr (H.length + 1) 0 0 0]]) (fun r H' => H' = (H ++ [.cells 0 4 [.agg [.list 4 (consL cons), .list 7 (funsL funcs), .list 3 (glbsL globals), .int .i64 main]], .cells 0 5 [.agg [.list 4 (consL cons), .list 7 (funsL funcs), .list 3 (glbsL globals), .int .i64 main, .int .i64 slots]], .cells 0 1 [.ptr (H.length + 1) 0 0 0]]) ∧ r = .bool (funcs.any fun f => !funOK ⟨cons, funcs, globals, main⟩ slots f)) :=
      anyFun_ok G hG _ (fun f => !funOK ⟨cons, funcs, globals, main⟩ slots f) funcs _ (by omega) (by simp [SV.under, SV.underL]) (fun x hx => ACallV.of (k2 x hx _ _ _ hq hq2))
    have c5 : ACall Tryd.prog G 32 [.list 3 (glbsL globals), .fn (.func 33) [] [.ptr (H.length + 2) 0 0 0]] (H ++ [.cells 0 4 [.agg [.list 4 (consL cons), .list 7 (funsL funcs), .list 3 (glbsL globals), .int .i64 main]], .cells 0 5 [.agg [.list 4 (consL cons), .list 7 (funsL funcs), .list 3 (glbsL globals), .int .i64 main, .int .i64 slots]], .cells 0 1 [.ptr (H.length + 1) 0 0 0]]) (fun r H' => H' = (H ++ [.cells 0 4 [.agg [.list 4 (consL cons), .list 7 (funsL funcs), .list 3 (glbsL globals), .int .i64 main]], .cells 0 5 [.agg [.list 4 (consL cons), .list 7 (funsL funcs), .list 3 (glbsL globals), .int .i64 main, .int .i64 slots]], .cells 0 1 [.ptr (H.length + 1) 0 0 0]]) ∧ r = .bool (globals.any fun g => !glbOK ⟨cons, funcs, globals, main⟩ g)) :=
      anyGlb_ok G hG _ (fun g => !glbOK ⟨cons, funcs, globals, main⟩ g) globals _ (by omega) (by simp [SV.under, SV.underL]) (fun x hx => ACallV.of (k3 x hx _ _ _ hq hq2))
    clear hq hq2 k1 k2 k3 hS
    generalize (funcs.any fun f => !funOK ⟨cons, funcs, globals, main⟩ slots f) = A1 at *
    generalize (globals.any fun g => !glbOK ⟨cons, funcs, globals, main⟩ g) = A2 at *
    generalize consOK cons = A3 at *
    refine ACall.of_go TB [] tabOK _ Tryd.func11 rfl (by decide) Tryd.ntmps11 (by simp) rfl (by simp only [initEnv, Nat.reduceAdd]; rfl) fun C R' hR hC hcl hB => ?_; have X := noX; have hC' := congrArg List.length hC
    have X := And.intro X hs
    have hfin : ∀ n, n = (if !A3 || decide ((10000 : Int) < funcs.length) || decide ((10000 : Int) < globals.length) || !inR main 0 ((globals.length : Int) - 1) then (170 : Int) else if A1 || A2 then 170 else 0) → Fin C (H ++ [.cells 0 4 [.agg [.list 4 (consL cons), .list 7 (funsL funcs), .list 3 (glbsL globals), .int .i64 main]], .cells 0 5 [.agg [.list 4 (consL cons), .list 7 (funsL funcs), .list 3 (glbsL globals), .int .i64 main, .int .i64 slots]], .cells 0 1 [.ptr (H.length + 1) 0 0 0]]) (resSV [SV.int .i64 n]) R' := fun n e => finS hR hC' hcl (.same _ rfl) ⟨rfl, by rw [← e]; rfl⟩
    (refine run ?_; repeat' (first | with_reducible exact trivial | ((with_reducible apply Fork.mk) <;> intro hb) | with_reducible apply Two.mk))
    · exact hfin _ (by rw [hb]; rfl)
    · exact hfin _ (by rw [hb, Bool.or_true]; rfl)
    · rename_i g1 g2
      exact hfin _ (by rw [g1, g2, hb]; rfl)
    · rename_i g1 g2 g3
      exact hfin _ (by rw [g1, g2, g3, hb]; rfl)
    · rename_i g1 g2 g3
      exact hfin _ (by rw [g1, g2, g3, hb]; rfl)
  · have hs : inR slots 1 65536 = false := by simpa using hs
    have hS : chkS m slots = 1 := by unfold chkS; rw [if_pos hs]
    rw [hS]
    have c1 := fun n hi H => within_ok G hG n 1 hi H
    have hml : m.cells.length = 4 := rfl
    refine ACall.of_go TB [] tabOK _ Tryd.func11 rfl (by decide) Tryd.ntmps11 (by simp) rfl (by simp only [initEnv, Nat.reduceAdd]; rfl) fun C R' hR hC hcl hB => ?_; have X := noX; have hC' := congrArg List.length hC
    have X := And.intro X (And.intro hs hml)
    (refine run ?_; repeat' (first | with_reducible exact trivial | ((with_reducible apply Fork.mk) <;> intro hb) | with_reducible apply Two.mk))
    exact finS hR hC' hcl (.same _ rfl) ⟨rfl, rfl⟩
end Go.Proofs.YtihhngjoecgkpaaDoor
end

section
namespace Go.Proofs.YtihhngjoecgkpaaDoor
open Go
set_option linter.unusedSimpArgs false
set_option linter.unusedVariables false
set_option maxRecDepth 10000
set_option maxHeartbeats 4000000

/-! ### what a function that may be is like -/
theorem inR_iff {n lo hi : Int} : inR n lo hi = true ↔ lo ≤ n ∧ n ≤ hi := by simp [inR]
structure FunG (f : Fun) : Prop where
  frame : 0 ≤ f.frame ∧ f.frame ≤ 65536
  len : 1 ≤ f.code.length
  next : ∀ k (h : k < f.code.length), ∀ n ∈ nxS f.code[k] k, 0 ≤ n ∧ n < f.code.length
  reads : ∀ k (h : k < f.code.length), ∀ s ∈ rdS f.code[k], 0 ≤ s ∧ s < f.frame
  writes : ∀ k (h : k < f.code.length), wrS f.code[k] = -1 ∨ (0 ≤ wrS f.code[k] ∧ wrS f.code[k] < f.frame)
theorem insTop_le {op slots frame : Int} (hs : 1 ≤ slots) : insTop op slots frame ≤ frame := by unfold insTop; (repeat' split) <;> omega
theorem ins_reads {m : Img} {slots frame : Int} {len : Nat} {i : Ins} (hs : 1 ≤ slots) (h : insOK m slots frame len i = true) : (∀ s ∈ rdS i, 0 ≤ s ∧ s < frame) ∧ (wrS i = -1 ∨ (0 ≤ wrS i ∧ wrS i < frame)) := by
  have ht := insTop_le (op := i.op) (frame := frame) hs
  simp only [insOK, Bool.and_eq_true] at h
  obtain ⟨⟨⟨⟨⟨⟨_, ha⟩, hb⟩, hc⟩, _⟩, hl⟩, _⟩ := h
  have key : ∀ {has : Bool} {n : Int}, slotB has (insTop i.op slots frame) n = true → has = true → 0 ≤ n ∧ n < frame := fun {has n} h e => by
    subst e
    simp only [slotB, if_true, inR_iff] at h
    omega
  refine ⟨fun s hs' => ?_, ?_⟩
  · unfold rdS at hs'
    simp only [List.mem_append] at hs'
    rcases hs' with ((hs' | hs') | hs') | hs'
    · split at hs'
      · rename_i e
        rw [List.mem_singleton] at hs'
        subst hs'
        exact key ha (by rw [e]; decide)
      · cases hs'
    · split at hs'
      · rename_i e
        rw [List.mem_singleton] at hs'; subst hs'
        exact key hb e
      · cases hs'
    · split at hs'
      · rename_i e
        rw [List.mem_singleton] at hs'; subst hs'
        exact key hc e
      · cases hs'
    · split at hs'
      · rename_i e
        simp only [lstOK, e, if_true, Bool.not_eq_true', List.any_eq_false, Bool.not_eq_true, Bool.not_eq_false'] at hl
        have := hl s hs'
        have := inR_iff.1 (by simpa using this)
        omega
      · cases hs'
  · unfold wrS
    split
    · exact .inl rfl
    · rename_i h
      simp only [not_or, Bool.not_eq_false] at h
      exact .inr (key ha h.1)
theorem ins_next {m : Img} {slots frame : Int} {len : Nat} {i : Ins} (h : insOK m slots frame len i = true) (at_ : Int) (hlast : bitOf 64 i.op = false → 0 ≤ at_ + 1 ∧ at_ + 1 < len) : ∀ n ∈ nxS i at_, 0 ≤ n ∧ n < len := by
  simp only [insOK, Bool.and_eq_true] at h
  obtain ⟨⟨_, hl⟩, hf⟩ := h
  intro n hn
  rw [nxS_mem] at hn
  unfold nxL at hn
  simp only [List.mem_append] at hn
  rcases hn with (hn | hn) | hn
  · split at hn
    · cases hn
    · rename_i e
      rw [List.mem_singleton] at hn; subst hn
      exact hlast (by simpa using e)
  · split at hn
    · rename_i e
      rw [List.mem_singleton] at hn; subst hn
      rcases e with e | e
      · simp only [finOK, e] at hf
        have := inR_iff.1 (by simpa using hf); omega
      · simp only [finOK, e] at hf
        have hf : inR i.n 0 ((len : Int) - 1) = true := by simp at hf; exact hf.1
        have := inR_iff.1 hf; omega
    · cases hn
  · split at hn
    · rename_i e
      rw [List.mem_filter] at hn
      have h16 : bitOf 16 i.op = false := by
        rw [bit32] at e
        rw [bit16]
        simp only [Bool.or_eq_true, decide_eq_true_eq] at e
        rcases e with e | e <;> simp [e]
      simp only [lstOK, h16, e, if_true, Bool.false_eq_true, if_false, Bool.not_eq_true', List.any_eq_false] at hl
      have := hl n hn.1
      have h0 : 0 ≤ n := by simpa using hn.2
      simp only [badP, Bool.and_eq_true, Bool.not_eq_true', decide_eq_true_eq, not_and, Bool.and_eq_false_iff, decide_eq_false_iff_not] at this
      cases hi : inR n 0 ((len : Int) - 1) with
      | true => have := inR_iff.1 hi; omega
      | false => exact absurd (.inr (by omega)) (this hi)
    · cases hn
theorem fun_good {m : Img} {slots : Int} {f : Fun} (hs : 1 ≤ slots) (h : funOK m slots f = true) : FunG f := by
  simp only [funOK, Bool.and_eq_true, Bool.not_eq_true'] at h
  obtain ⟨⟨hb, hi⟩, hl⟩ := h
  have hi : ∀ x ∈ f.code, insOK m slots f.frame f.code.length x = true := fun x hx => by
    rw [List.any_eq_false] at hi
    have := hi x hx
    simpa using this
  simp only [funBad, Bool.or_eq_false_iff, Bool.not_eq_false'] at hb
  have hfr := inR_iff.1 hb.1.1.1.1.1.2
  have hlen := inR_iff.1 hb.2
  have hfr2 : (if slots ≤ 16 then (250 : Int) else 65536) ≤ 65536 := by split <;> omega
  refine ⟨⟨hfr.1, by omega⟩, by omega, fun k hk => ?_, fun k hk => (ins_reads hs (hi _ (List.getElem_mem hk))).1, fun k hk => (ins_reads hs (hi _ (List.getElem_mem hk))).2⟩
  refine ins_next (hi _ (List.getElem_mem hk)) k fun h64 => ⟨by omega, ?_⟩
  rcases Nat.lt_or_ge (k + 1) f.code.length with h | h
  · omega
  · exfalso
    have : k = f.code.length - 1 := by omega
    subst this
    unfold lastOp at hl
    rw [List.getElem?_eq_getElem hk] at hl
    simp only at hl
    rw [hl] at h64; cases h64
theorem chk_parts {m : Img} {slots : Int} (h : chkS m slots = 0) : (1 ≤ slots ∧ slots ≤ 65536) ∧ consOK m.cons = true ∧ m.funcs.length ≤ 10000 ∧ m.globals.length ≤ 10000 ∧ (0 ≤ m.main ∧ m.main < m.globals.length) ∧ (∀ f ∈ m.funcs, funOK m slots f = true) ∧ (∀ g ∈ m.globals, glbOK m g = true) := by
  unfold chkS at h
  split at h
  · cases h
  rename_i h1
  split at h
  · cases h
  rename_i h2
  split at h
  · cases h
  rename_i h3
  have h1 : inR slots 1 65536 = true := by simpa using h1
  simp only [Bool.or_eq_true, not_or, Bool.not_eq_true', Bool.not_eq_false, decide_eq_true_eq] at h2
  simp only [Bool.or_eq_true, List.any_eq_true, not_or, not_exists, not_and, Bool.not_eq_true', Bool.not_eq_false] at h3
  have hm := inR_iff.1 h2.2
  exact ⟨inR_iff.1 h1, h2.1.1.1, by omega, by omega, by omega, h3.1, h3.2⟩
theorem chk_of {m : Img} {slots : Int} (h1 : 1 ≤ slots ∧ slots ≤ 65536) (h2 : consOK m.cons = true) (h3 : m.funcs.length ≤ 10000) (h4 : m.globals.length ≤ 10000) (h5 : 0 ≤ m.main ∧ m.main < m.globals.length) (h6 : ∀ f ∈ m.funcs, funOK m slots f = true) (h7 : ∀ g ∈ m.globals, glbOK m g = true) : chkS m slots = 0 := by
  unfold chkS
  rw [if_neg (by rw [inR_iff.2 h1]; decide), if_neg, if_neg]
  · simp only [Bool.or_eq_true, List.any_eq_true, not_or, not_exists, not_and, Bool.not_eq_true', Bool.not_eq_false]
    exact ⟨h6, h7⟩
  · simp only [Bool.or_eq_true, not_or, Bool.not_eq_true', Bool.not_eq_false, decide_eq_true_eq]
    exact ⟨⟨⟨h2, by omega⟩, by omega⟩, inR_iff.2 (by omega)⟩
theorem chk_vals (m : Img) : chkS m 65536 = 0 ∨ chkS m 65536 = 170 := by
  unfold chkS
  rw [if_neg (by decide)]
  split
  · exact .inr rfl
  · split
    · exact .inr rfl
    · exact .inl rfl
theorem ins_wide {m : Img} {few more frame : Int} {len : Nat} {i : Ins} (hfm : few ≤ more) (h : insOK m few frame len i = true) : insOK m more frame len i = true := by
  have hs : ∀ {has : Bool} {n : Int}, slotB has (insTop i.op few frame) n = true → slotB has (insTop i.op more frame) n = true := fun {has n} h => by
    have ht : insTop i.op few frame ≤ insTop i.op more frame := by unfold insTop; (repeat' split) <;> omega
    unfold slotB at h ⊢
    split
    · rename_i e
      rw [if_pos e, inR_iff] at h
      rw [inR_iff]; omega
    · rename_i e
      rwa [if_neg e] at h
  simp only [insOK, Bool.and_eq_true] at h ⊢
  obtain ⟨⟨⟨⟨⟨⟨h0, ha⟩, hb⟩, hc⟩, h1⟩, h2⟩, h3⟩ := h
  exact ⟨⟨⟨⟨⟨⟨h0, hs ha⟩, hs hb⟩, hs hc⟩, h1⟩, h2⟩, h3⟩
theorem fun_wide {m : Img} {few more : Int} {f : Fun} (hfm : few ≤ more) (h : funOK m few f = true) : funOK m more f = true := by
  simp only [funOK, Bool.and_eq_true, Bool.not_eq_true'] at h ⊢
  obtain ⟨⟨hb, hi⟩, hl⟩ := h
  refine ⟨⟨?_, ?_⟩, hl⟩
  · simp only [funBad, Bool.or_eq_false_iff, Bool.not_eq_false'] at hb ⊢
    have hfr := inR_iff.1 hb.1.1.1.1.1.2
    refine ⟨⟨⟨⟨⟨⟨hb.1.1.1.1.1.1, inR_iff.2 ⟨hfr.1, ?_⟩⟩, hb.1.1.1.1.2⟩, hb.1.1.1.2⟩, hb.1.1.2⟩, hb.1.2⟩, hb.2⟩
    have := hfr.2
    split at this <;> split <;> omega
  · rw [List.any_eq_false] at hi ⊢
    intro x hx
    have h1 := hi x hx
    simp only [Bool.not_eq_true', Bool.not_eq_false] at h1 ⊢
    exact ins_wide hfm h1
theorem chk_wide {m : Img} {few more : Int} (hfm : few ≤ more) (hm : more ≤ 65536) (h : chkS m few = 0) : chkS m more = 0 := by
  obtain ⟨h1, h2, h3, h4, h5, h6, h7⟩ := chk_parts h
  exact chk_of ⟨by omega, hm⟩ h2 h3 h4 h5 (fun f hf => fun_wide hfm (h6 f hf)) h7
theorem chk_goodS {m : Img} {slots : Int} (h : chkS m slots = 0) {f : Fun} (hf : f ∈ m.funcs) : FunG f := by
  obtain ⟨h1, _, _, _, _, h6, _⟩ := chk_parts h
  exact fun_good h1.1 (h6 f hf)
theorem chk_good {m : Img} (h : chkS m 65536 = 0) {f : Fun} (hf : f ∈ m.funcs) : FunG f := by
  unfold chkS at h
  split at h
  · cases h
  split at h
  · cases h
  split at h
  · cases h
  rename_i h3
  simp only [Bool.or_eq_true, List.any_eq_true, not_or, not_exists, not_and, Bool.not_eq_true', Bool.not_eq_false] at h3
  exact fun_good (slots := 65536) (by omega) (h3.1 f hf)

end Go.Proofs.YtihhngjoecgkpaaDoor
end
