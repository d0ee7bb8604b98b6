/- A part of the proof: F5, F6, F7, F8, P2, P3, C4, C5, P4, P5, C6, C7, C8, P6, C3. -/
import Derived.Test.YthgdcjenoiojeaaGreatDoorMf

section
namespace Go.Proofs.YthgdcjenoiojeaaGreatDoor
open Go
set_option linter.unusedSimpArgs false
set_option linter.unusedVariables false
set_option maxRecDepth 10000
set_option maxHeartbeats 4000000

theorem ins_ok (G : Gl) (hG : GClosed G) (hF : GF G) (m : Img) (slots frame : Int) (fc : List SV) (code : List Ins) (hfcl : fc.length = 7) (hfc5 : fc[5]? = some (.int .i64 frame)) (hfc6 : fc[6]? = some (.list 6 (insL code))) (i : Ins) (hn : code.length < 1099511627776) (hl : i.l.length < 1099511627776)
    (hm1 : m.cons.length < 1099511627776) (hm2 : m.funcs.length < 1099511627776) (hm3 : m.globals.length < 1099511627776) (hs : 1 ≤ slots ∧ slots ≤ 65536) (hfr : 0 ≤ frame ∧ frame ≤ 65536) (c : Nat) (H : List Blk) (hc : H[c]? = some (.cells 0 5 [.agg (chkC m slots)])) :
    ACall Tryz.prog G 73 [.ptr c 0 0 0, .agg fc, .agg i.cells] H (fun r H' => H' = H ∧ r = .bool (insOK m slots frame code.length i)) := by
  by_cases h2 : i.op = 2
  · exact ins2_ok G hG hF m slots frame fc code hfcl hfc5 hfc6 i hn hl hm1 hm2 hm3 hs hfr h2 c H hc
  by_cases h11 : i.op = 11
  · exact ins11_ok G hG hF m slots frame fc code hfcl hfc5 hfc6 i hn hl hm1 hm2 hm3 hs hfr h11 c H hc
  by_cases h12 : i.op = 12
  · exact ins12_ok G hG hF m slots frame fc code hfcl hfc5 hfc6 i hn hl hm1 hm2 hm3 hs hfr h12 c H hc
  by_cases h13 : i.op = 13
  · exact ins13_ok G hG hF m slots frame fc code hfcl hfc5 hfc6 i hn hl hm1 hm2 hm3 hs hfr h13 c H hc
  by_cases h14 : i.op = 14
  · exact ins14_ok G hG hF m slots frame fc code hfcl hfc5 hfc6 i hn hl hm1 hm2 hm3 hs hfr h14 c H hc
  by_cases h16 : i.op = 16
  · exact ins16_ok G hG hF m slots frame fc code hfcl hfc5 hfc6 i hn hl hm1 hm2 hm3 hs hfr h16 c H hc
  by_cases h17 : i.op = 17
  · exact ins17_ok G hG hF m slots frame fc code hfcl hfc5 hfc6 i hn hl hm1 hm2 hm3 hs hfr h17 c H hc
  by_cases h20 : i.op = 20
  · exact ins20_ok G hG hF m slots frame fc code hfcl hfc5 hfc6 i hn hl hm1 hm2 hm3 hs hfr h20 c H hc
  by_cases h21 : i.op = 21
  · exact ins21_ok G hG hF m slots frame fc code hfcl hfc5 hfc6 i hn hl hm1 hm2 hm3 hs hfr h21 c H hc
  by_cases h22 : i.op = 22
  · exact ins22_ok G hG hF m slots frame fc code hfcl hfc5 hfc6 i hn hl hm1 hm2 hm3 hs hfr h22 c H hc
  by_cases h23 : i.op = 23
  · exact ins23_ok G hG hF m slots frame fc code hfcl hfc5 hfc6 i hn hl hm1 hm2 hm3 hs hfr h23 c H hc
  exact insElse_ok G hG hF m slots frame fc code hfcl hfc5 hfc6 i hn hl hm1 hm2 hm3 hs hfr ⟨h2, h11, h12, h13, h14, h16, h17, h20, h21, h22, h23⟩ c H hc

theorem notIns_ok (G : Gl) (hG : GClosed G) (hF : GF G) (m : Img) (slots frame : Int) (fc : List SV) (code : List Ins) (hfcl : fc.length = 7) (hfc5 : fc[5]? = some (.int .i64 frame)) (hfc6 : fc[6]? = some (.list 6 (insL code))) (i : Ins) (hn : code.length < 1099511627776) (hl : i.l.length < 1099511627776)
    (hm1 : m.cons.length < 1099511627776) (hm2 : m.funcs.length < 1099511627776) (hm3 : m.globals.length < 1099511627776) (hs : 1 ≤ slots ∧ slots ≤ 65536) (hfr : 0 ≤ frame ∧ frame ≤ 65536) (c bp bf : Nat) (H : List Blk) (hc : H[c]? = some (.cells 0 5 [.agg (chkC m slots)]))
    (hbp : H[bp]? = some (.cells 0 1 [.ptr c 0 0 0])) (hbf : H[bf]? = some (.cells 0 7 [.agg fc])) :
    ACall Tryz.prog G 72 [.agg i.cells, .ptr bp 0 0 0, .ptr bf 0 0 0] H (fun r H' => H' = H ∧ r = .bool (!insOK m slots frame code.length i)) := by
  have hl1 := (List.getElem?_eq_some_iff.1 hbp).1
  have hl2 := (List.getElem?_eq_some_iff.1 hbf).1
  refine ACall.of_go TB [] tabOK _ Tryz.func72 rfl (by decide) Tryz.ntmps72 (by simp) rfl (by simp only [initEnv, Nat.reduceAdd]; rfl) fun C R' hR hC hcl hB => ?_; have X := noX; have hC' := congrArg List.length hC
  have X := And.intro X (And.intro (getX hbp) (And.intro (getX hbf) hfcl))
  (refine run ?_; repeat' (first | with_reducible exact trivial | ((with_reducible apply Fork.mk) <;> intro hb) | with_reducible apply Two.mk))
  refine callS (ins_ok G hG hF m slots frame fc code hfcl hfc5 hfc6 i hn hl hm1 hm2 hm3 hs hfr c _ (get_app_left hc)) ?_
  rintro r H' ⟨rfl, rfl⟩
  (refine run ?_; repeat' (first | with_reducible exact trivial | ((with_reducible apply Fork.mk) <;> intro hb) | with_reducible apply Two.mk))
  exact finS hR hC' hcl (.same _ rfl) ⟨rfl, rfl⟩

def funBad (slots : Int) (f : Fun) : Bool :=
  decide (f.free < 0) || decide (f.params < 0) || !inR f.frame 0 (if slots ≤ 16 then 250 else 65536) || decide (f.frame < f.free) || decide (IntKind.i64.wrap (f.frame - f.free) < f.params) || (!(f.thunk == decide (f.params = 0))) || (f.upd && !f.thunk) || !inR f.code.length 1 65536
def lastOp (code : List Ins) : Int := match code[code.length - 1]? with | some i => i.op | none => 0
def funOK (m : Img) (slots : Int) (f : Fun) : Bool :=
  !funBad slots f && !(f.code.any fun i => !insOK m slots f.frame f.code.length i) && bitOf 64 (lastOp f.code)
theorem fun_ok (G : Gl) (hG : GClosed G) (hF : GF G) (m : Img) (slots : Int) (f : Fun) (hn : f.code.length < 1099511627776) (hl : ∀ i ∈ f.code, i.l.length < 1099511627776)
    (hm1 : m.cons.length < 1099511627776) (hm2 : m.funcs.length < 1099511627776) (hm3 : m.globals.length < 1099511627776) (hs : 1 ≤ slots ∧ slots ≤ 65536) (c : Nat) (H : List Blk) (hc : H[c]? = some (.cells 0 5 [.agg (chkC m slots)])) :
    ACall Tryz.prog G 56 [.ptr c 0 0 0, .agg f.cells] H (fun r H' => H' = H ∧ r = .bool (funOK m slots f)) := by
  have hcl0 := (List.getElem?_eq_some_iff.1 hc).1
  have hmcl : (chkC m slots).length = 5 := rfl
  have hmc4 : (chkC m slots)[4]? = some (.int .i64 slots) := rfl
  have c1 := fun n hi H => within_ok G hG n 0 hi H
  have c2 := fun n hi H => within_ok G hG n 1 hi H
  have c3 := fun n H => of_ok G hG hF n H
  have k1 := fun i hi hfr c bp bf H hc => notIns_ok G hG hF m slots f.frame f.cells f.code rfl rfl rfl i hn (hl i hi) hm1 hm2 hm3 hs hfr c bp bf H hc
  obtain ⟨name, thunk, upd, free, params, frame, code⟩ := f
  simp only [Fun.cells] at k1 ⊢
  simp only at hn hl k1
  generalize hmc : chkC m slots = mc at hc hmcl hmc4 k1
  refine ACall.of_go TB [] tabOK _ Tryz.func56 rfl (by decide) Tryz.ntmps56 (by simp) rfl (by simp only [initEnv, Nat.reduceAdd]; rfl) fun C R' hR hC hcl hB => ?_; have X := noX; have hC' := congrArg List.length hC
  have X := And.intro X (And.intro (getX hc) (And.intro hmcl hmc4))
  by_cases hmost : slots ≤ 16
  · have X := And.intro X hmost
    (refine run ?_; repeat' (first | with_reducible exact trivial | ((with_reducible apply Fork.mk) <;> intro hb) | with_reducible apply Two.mk))
    · refine finS hR hC' hcl (.same _ rfl) ⟨rfl, ?_⟩
      simp only [funOK, funBad, if_pos hmost, if_true, if_false, hb, Bool.true_or, Bool.not_true, Bool.false_and]; rfl
    · rename_i hb1
      refine finS hR hC' hcl (.same _ rfl) ⟨rfl, ?_⟩
      have : funBad slots ⟨name, thunk, upd, free, params, frame, code⟩ = true := by
        have e : funBad slots ⟨name, thunk, upd, free, params, frame, code⟩ = ((decide (free < 0) || decide (params < 0)) || (!inR frame 0 250 || decide (frame < free) || decide (IntKind.i64.wrap (frame - free) < params) || (!(thunk == decide (params = 0))) || (upd && !thunk)) || !inR code.length 1 65536) := by
          simp only [funBad, if_pos hmost, Bool.or_assoc]
        rw [e, hb]; simp
      simp only [funOK, this, Bool.not_true, Bool.false_and]; rfl
    · refine finS hR hC' hcl (.same _ rfl) ⟨rfl, ?_⟩
      have : funBad slots ⟨name, thunk, upd, free, params, frame, code⟩ = true := by
        simp only [funBad, if_pos hmost, if_true, if_false, hb, Bool.or_true]
      simp only [funOK, this, Bool.not_true, Bool.false_and]; rfl
    rename_i hb2 hb1
    have hbad : funBad slots ⟨name, thunk, upd, free, params, frame, code⟩ = false := by
      simp only [funBad, if_pos hmost, if_true, if_false, Bool.or_eq_false_iff] at hb hb1 hb2 ⊢
      simp only [hb, hb1, hb2, and_self]
    have hfr : 0 ≤ frame ∧ frame ≤ 65536 := by
      simp only [Bool.or_eq_false_iff, Bool.not_eq_false', inR, Bool.and_eq_true, decide_eq_true_eq] at hb1; omega
    have hlen : 1 ≤ code.length := by
      simp only [Bool.not_eq_false', inR, Bool.and_eq_true, decide_eq_true_eq] at hb; omega
    refine callS (anyIns_ok G hG (.fn (.func 72) [] [.ptr H.length 0 0 0, .ptr (H.length + 1) 0 0 0]) (fun i => !insOK m slots frame code.length i) code (H ++ [.cells 0 1 [.ptr c 0 0 0], .cells 0 7 [.agg [.str name, .bool thunk, .bool upd, .int .i64 free, .int .i64 params, .int .i64 frame, .list 6 (insL code)]]]) (by omega) (by simp [SV.under, SV.underL]) (fun i hi => ACallV.of (k1 i hi hfr c H.length (H.length + 1) _ (get_app_left hc) (by simp) (by simp)))) ?_
    rintro r H' ⟨rfl, rfl⟩
    have e1 : (insL code)[code.length - 1]? = some (.agg (code[code.length - 1]'(by omega)).cells) := by simp [insL, show code.length - 1 < code.length by omega]
    have e2 : ((code.length : Int) - 1).toNat = code.length - 1 := by omega
    have hlast : lastOp code = (code[code.length - 1]'(by omega)).op := by unfold lastOp; rw [List.getElem?_eq_getElem (by omega)]
    generalize (code[code.length - 1]'(by omega)) = x at e1 hlast
    obtain ⟨op, xa, xb, xc, xn, xl⟩ := x
    simp only [Ins.cells] at e1 hlast
    have X := And.intro X (And.intro e1 (And.intro e2 bitX))
    (refine run ?_; repeat' (first | with_reducible exact trivial | ((with_reducible apply Fork.mk) <;> intro hb) | with_reducible apply Two.mk))
    · rename_i hb3
      refine finS hR hC' hcl (.same _ rfl) ⟨rfl, ?_⟩
      simp only [funOK, hbad, hb, Bool.not_true, Bool.and_false, Bool.false_and]; rfl
    · refine finS hR hC' hcl (.same _ rfl) ⟨rfl, ?_⟩
      simp only [funOK, hbad, hb, Bool.not_false, Bool.true_and, hlast, resSV]
      cases bitOf 64 op <;> simp [b2]
  · have X := And.intro X hmost
    (refine run ?_; repeat' (first | with_reducible exact trivial | ((with_reducible apply Fork.mk) <;> intro hb) | with_reducible apply Two.mk))
    · refine finS hR hC' hcl (.same _ rfl) ⟨rfl, ?_⟩
      simp only [funOK, funBad, if_neg hmost, if_true, if_false, hb, Bool.true_or, Bool.not_true, Bool.false_and]; rfl
    · rename_i hb1
      refine finS hR hC' hcl (.same _ rfl) ⟨rfl, ?_⟩
      have : funBad slots ⟨name, thunk, upd, free, params, frame, code⟩ = true := by
        have e : funBad slots ⟨name, thunk, upd, free, params, frame, code⟩ = ((decide (free < 0) || decide (params < 0)) || (!inR frame 0 65536 || decide (frame < free) || decide (IntKind.i64.wrap (frame - free) < params) || (!(thunk == decide (params = 0))) || (upd && !thunk)) || !inR code.length 1 65536) := by
          simp only [funBad, if_neg hmost, Bool.or_assoc]
        rw [e, hb]; simp
      simp only [funOK, this, Bool.not_true, Bool.false_and]; rfl
    · refine finS hR hC' hcl (.same _ rfl) ⟨rfl, ?_⟩
      have : funBad slots ⟨name, thunk, upd, free, params, frame, code⟩ = true := by
        simp only [funBad, if_neg hmost, if_true, if_false, hb, Bool.or_true]
      simp only [funOK, this, Bool.not_true, Bool.false_and]; rfl
    rename_i hb2 hb1
    have hbad : funBad slots ⟨name, thunk, upd, free, params, frame, code⟩ = false := by
      simp only [funBad, if_neg hmost, if_true, if_false, Bool.or_eq_false_iff] at hb hb1 hb2 ⊢
      simp only [hb, hb1, hb2, and_self]
    have hfr : 0 ≤ frame ∧ frame ≤ 65536 := by
      simp only [Bool.or_eq_false_iff, Bool.not_eq_false', inR, Bool.and_eq_true, decide_eq_true_eq] at hb1; omega
    have hlen : 1 ≤ code.length := by
      simp only [Bool.not_eq_false', inR, Bool.and_eq_true, decide_eq_true_eq] at hb; omega
    refine callS (anyIns_ok G hG (.fn (.func 72) [] [.ptr H.length 0 0 0, .ptr (H.length + 1) 0 0 0]) (fun i => !insOK m slots frame code.length i) code (H ++ [.cells 0 1 [.ptr c 0 0 0], .cells 0 7 [.agg [.str name, .bool thunk, .bool upd, .int .i64 free, .int .i64 params, .int .i64 frame, .list 6 (insL code)]]]) (by omega) (by simp [SV.under, SV.underL]) (fun i hi => ACallV.of (k1 i hi hfr c H.length (H.length + 1) _ (get_app_left hc) (by simp) (by simp)))) ?_
    rintro r H' ⟨rfl, rfl⟩
    have e1 : (insL code)[code.length - 1]? = some (.agg (code[code.length - 1]'(by omega)).cells) := by simp [insL, show code.length - 1 < code.length by omega]
    have e2 : ((code.length : Int) - 1).toNat = code.length - 1 := by omega
    have hlast : lastOp code = (code[code.length - 1]'(by omega)).op := by unfold lastOp; rw [List.getElem?_eq_getElem (by omega)]
    generalize (code[code.length - 1]'(by omega)) = x at e1 hlast
    obtain ⟨op, xa, xb, xc, xn, xl⟩ := x
    simp only [Ins.cells] at e1 hlast
    have X := And.intro X (And.intro e1 (And.intro e2 bitX))
    (refine run ?_; repeat' (first | with_reducible exact trivial | ((with_reducible apply Fork.mk) <;> intro hb) | with_reducible apply Two.mk))
    · rename_i hb3
      refine finS hR hC' hcl (.same _ rfl) ⟨rfl, ?_⟩
      simp only [funOK, hbad, hb, Bool.not_true, Bool.and_false, Bool.false_and]; rfl
    · refine finS hR hC' hcl (.same _ rfl) ⟨rfl, ?_⟩
      simp only [funOK, hbad, hb, Bool.not_false, Bool.true_and, hlast, resSV]
      cases bitOf 64 op <;> simp [b2]
end Go.Proofs.YthgdcjenoiojeaaGreatDoor
end

section
namespace Go.Proofs.YthgdcjenoiojeaaGreatDoor
open Go
set_option linter.unusedSimpArgs false
set_option linter.unusedVariables false
set_option maxRecDepth 10000
set_option maxHeartbeats 4000000

def refBad (n : Nat) (r : Int × Int) : Bool := !inR r.1 (-1) ((n : Int) - 1) || (decide (0 ≤ r.1) && decide (¬ r.2 = 0))
theorem refBad_ok (G : Gl) (hG : GClosed G) (m : Img) (slots : Int) (r : Int × Int) (hm3 : m.globals.length < 1099511627776) (c bp : Nat) (H : List Blk) (hc : H[c]? = some (.cells 0 5 [.agg (chkC m slots)])) (hbp : H[bp]? = some (.cells 0 1 [.ptr c 0 0 0])) :
    ACall Tryz.prog G 77 [encR r, .ptr bp 0 0 0] H (fun r' H' => H' = H ∧ r' = .bool (refBad m.globals.length r)) := by
  have hl1 := (List.getElem?_eq_some_iff.1 hbp).1
  have hl2 := (List.getElem?_eq_some_iff.1 hc).1
  have hmcl : (chkC m slots).length = 5 := rfl
  have hmc2 : (chkC m slots)[2]? = some (.list 3 (glbsL m.globals)) := rfl
  have c1 := fun n hi H => within_ok G hG n (-1) hi H
  obtain ⟨g, n⟩ := r
  simp only [encR, refBad]
  generalize hmc : chkC m slots = mc at hc hmcl hmc2
  refine ACall.of_go TB [] tabOK _ Tryz.func77 rfl (by decide) Tryz.ntmps77 (by simp) rfl (by simp only [initEnv, Nat.reduceAdd]; rfl) fun C R' hR hC hcl hB => ?_; have X := noX; have hC' := congrArg List.length hC
  have X := And.intro X (And.intro (getX hc) (And.intro (getX hbp) (And.intro hmcl hmc2)))
  (refine run ?_; repeat' (first | with_reducible exact trivial | ((with_reducible apply Fork.mk) <;> intro hb) | with_reducible apply Two.mk))
  all_goals exact finS hR hC' hcl (.same _ rfl) ⟨rfl, by simp_all [resSV]⟩

def getT (l : List Fun) (n : Int) : Bool := match l[n.toNat]? with | some f => f.thunk | none => false
def glbOK (m : Img) (g : Glb) : Bool :=
  !(g.args.any (refBad m.globals.length)) &&
    (if g.kind = 1 ∨ g.kind = 2 then inR g.n 0 ((m.funcs.length : Int) - 1) && (getT m.funcs g.n == decide (g.kind = 2)) && decide (getF m.funcs g.n = 0) && decide ((g.args.length : Int) = 0)
     else if g.kind = 3 then inR g.n 0 ((m.cons.length : Int) - 1) && decide (getA m.cons g.n = (g.args.length : Int))
     else false)
theorem glb_ok (G : Gl) (hG : GClosed G) (m : Img) (slots : Int) (g : Glb) (hl : g.args.length < 1099511627776) (hm1 : m.cons.length < 1099511627776) (hm2 : m.funcs.length < 1099511627776) (hm3 : m.globals.length < 1099511627776) (c : Nat) (H : List Blk) (hc : H[c]? = some (.cells 0 5 [.agg (chkC m slots)])) :
    ACall Tryz.prog G 59 [.ptr c 0 0 0, .agg g.cells] H (fun r H' => H' = H ∧ r = .bool (glbOK m g)) := by
  have hl2 := (List.getElem?_eq_some_iff.1 hc).1
  have hmcl : (chkC m slots).length = 5 := rfl
  have hmc0 : (chkC m slots)[0]? = some (.list 4 (consL m.cons)) := rfl
  have hmc1 : (chkC m slots)[1]? = some (.list 7 (funsL m.funcs)) := rfl
  have c1 := fun n hi H => within_ok G hG n 0 hi H
  obtain ⟨kind, n, args⟩ := g
  simp only at hl
  simp only [Glb.cells]
  have k1 := fun r c bp H hc => refBad_ok G hG m slots r hm3 c bp H hc
  generalize hmc : chkC m slots = mc at hc hmcl hmc0 hmc1 k1
  have hla : (args.map encR).length = args.length := by simp
  have c2 : ACall Tryz.prog G 76 [.list 2 (args.map encR), .fn (.func 77) [] [.ptr H.length 0 0 0]] (H ++ [.cells 0 1 [.ptr c 0 0 0], .cells 0 3 [.agg [.int .i64 kind, .int .i64 n, .list 2 (args.map encR)]]]) (fun r H' => H' = (H ++ [.cells 0 1 [.ptr c 0 0 0], .cells 0 3 [.agg [.int .i64 kind, .int .i64 n, .list 2 (args.map encR)]]]) ∧ r = .bool (args.any (refBad m.globals.length))) :=
    anyRef_ok G hG _ (refBad m.globals.length) args _ (by omega) (by simp [SV.under, SV.underL]) (fun x hx => ACallV.of (k1 x c H.length _ (get_app_left hc) (by simp)))
  refine ACall.of_go TB [] tabOK _ Tryz.func59 rfl (by decide) Tryz.ntmps59 (by simp) rfl (by simp only [initEnv, Nat.reduceAdd]; rfl) fun C R' hR hC hcl hB => ?_; have X := noX; have hC' := congrArg List.length hC
  have X := And.intro X (And.intro (getX hc) (And.intro hmcl (And.intro hmc0 (And.intro hmc1 hla))))
  have hfin : ∀ b, b = glbOK m ⟨kind, n, args⟩ → Fin C (H ++ [.cells 0 1 [.ptr c 0 0 0], .cells 0 3 [.agg [.int .i64 kind, .int .i64 n, .list 2 (args.map encR)]]]) (resSV [SV.bool b]) R' := fun b e => finS hR hC' hcl (.same _ rfl) ⟨rfl, by rw [← e]; rfl⟩
  simp only [glbOK] at hfin
  generalize args.any (refBad m.globals.length) = A at c2 hfin
  by_cases h12 : kind = 1 ∨ kind = 2
  · by_cases hin : inR n 0 ((m.funcs.length : Int) - 1) = true
    · have hin2 : 0 ≤ n ∧ n < m.funcs.length := by simp [inR] at hin; omega
      obtain ⟨k, rfl⟩ := Int.eq_ofNat_of_zero_le hin2.1
      have hk : k < m.funcs.length := by omega
      have hget : getF m.funcs k = (m.funcs[k]).free := by unfold getF; rw [Int.toNat_natCast, List.getElem?_eq_getElem hk]
      have hget2 : getT m.funcs k = (m.funcs[k]).thunk := by unfold getT; rw [Int.toNat_natCast, List.getElem?_eq_getElem hk]
      have hx : (funsL m.funcs)[k]? = some (.agg (m.funcs[k]).cells) := by simp [funsL, hk]
      generalize m.funcs[k] = x at hget hget2 hx
      have hx : (funsL m.funcs)[k]? = some (.agg [.str x.name, .bool x.thunk, .bool x.upd, .int .i64 x.free, .int .i64 x.params, .int .i64 x.frame, .list 6 (insL x.code)]) := hx
      rw [hget, hget2, hin] at hfin
      have X := And.intro X (And.intro hin hx)
      rcases h12 with rfl | rfl <;>
      · (refine run ?_; repeat' (first | with_reducible exact trivial | ((with_reducible apply Fork.mk) <;> intro hb) | with_reducible apply Two.mk))
        all_goals
          clear X
          refine hfin _ ?_
          simp_all
    · have hin : inR n 0 ((m.funcs.length : Int) - 1) = false := by simpa using hin
      rw [hin] at hfin
      have X := And.intro X hin
      rcases h12 with rfl | rfl <;>
      · (refine run ?_; repeat' (first | with_reducible exact trivial | ((with_reducible apply Fork.mk) <;> intro hb) | with_reducible apply Two.mk))
        all_goals
          clear X
          refine hfin _ ?_
          simp_all
  have h1 : ¬ kind = 1 := fun e => h12 (.inl e)
  have h2 : ¬ kind = 2 := fun e => h12 (.inr e)
  by_cases h3 : kind = 3
  · subst h3
    by_cases hin : inR n 0 ((m.cons.length : Int) - 1) = true
    · have hin2 : 0 ≤ n ∧ n < m.cons.length := by simp [inR] at hin; omega
      obtain ⟨k, rfl⟩ := Int.eq_ofNat_of_zero_le hin2.1
      have hk : k < m.cons.length := by omega
      have hget : getA m.cons k = (m.cons[k]).arity := by unfold getA; rw [Int.toNat_natCast, List.getElem?_eq_getElem hk]
      have hx : (consL m.cons)[k]? = some (.agg (m.cons[k]).cells) := by simp [consL, hk]
      generalize m.cons[k] = x at hget hx
      have hx : (consL m.cons)[k]? = some (.agg [.str x.name, .int .i64 x.arity, .int .i64 x.tag, .int .i64 x.family]) := hx
      rw [hget, hin] at hfin
      have X := And.intro X (And.intro hin hx)
      (refine run ?_; repeat' (first | with_reducible exact trivial | ((with_reducible apply Fork.mk) <;> intro hb) | with_reducible apply Two.mk))
      all_goals
        clear X
        refine hfin _ ?_
        simp_all
    · have hin : inR n 0 ((m.cons.length : Int) - 1) = false := by simpa using hin
      rw [hin] at hfin
      have X := And.intro X hin
      (refine run ?_; repeat' (first | with_reducible exact trivial | ((with_reducible apply Fork.mk) <;> intro hb) | with_reducible apply Two.mk))
      all_goals
        clear X
        refine hfin _ ?_
        simp_all
  · have X := And.intro X (And.intro h1 (And.intro h2 h3))
    (refine run ?_; repeat' (first | with_reducible exact trivial | ((with_reducible apply Fork.mk) <;> intro hb) | with_reducible apply Two.mk))
    all_goals
      clear X
      refine hfin _ ?_
      simp_all
end Go.Proofs.YthgdcjenoiojeaaGreatDoor
end

section
namespace Go.Proofs.YthgdcjenoiojeaaGreatDoor
open Go
set_option linter.unusedSimpArgs false
set_option linter.unusedVariables false
set_option maxRecDepth 10000
set_option maxHeartbeats 4000000

def conV (c : Con) : SV := .agg [.str c.name, .int .i64 c.arity, .int .i64 c.tag, .int .i64 c.family]
def esC (l : List Con) : List (SV × SV) := l.map fun c => (.str c.name, conV c)
def lookC : List Con → Str → Con
  | [], _ => ⟨[], 0, 0, 0⟩
  | c :: r, s => if c.name = s then c else lookC r s
theorem findC_some : ∀ (l : List Con) (s : Str), (findSV (esC l) (.str s)).isSome = decide (s ∈ l.map (·.name))
  | [], s => rfl
  | c :: r, s => by
    simp only [esC, List.map_cons, findSV, SV.keyEq]
    by_cases h : s = c.name
    · subst h; simp
    · have h' : ¬ c.name = s := fun e => h e.symm
      have ih := findC_some r s
      simp only [esC] at ih
      simp only [beq_eq_false_iff_ne.2 h, beq_eq_false_iff_ne.2 h', if_false, Bool.false_eq_true, ih, List.mem_cons, h, false_or]
theorem findC_get : ∀ (l : List Con) (s : Str), (findSV (esC l) (.str s)).getD (.agg [.str [], .int .i64 0, .int .i64 0, .int .i64 0]) = conV (lookC l s)
  | [], s => rfl
  | c :: r, s => by
    simp only [esC, List.map_cons, findSV, SV.keyEq, lookC]
    by_cases h : s = c.name
    · subst h; simp
    · have h' : ¬ c.name = s := fun e => h e.symm
      have ih := findC_get r s
      simp only [esC] at ih
      simp only [beq_eq_false_iff_ne.2 h, beq_eq_false_iff_ne.2 h', if_false, Bool.false_eq_true, ih, h', if_false]
theorem setC : ∀ (l : List Con) (c : Con), c.name ∉ l.map (·.name) → setSV (esC l) (.str c.name) (conV c) = esC (l ++ [c])
  | [], c, _ => rfl
  | x :: r, c, h => by
    simp only [List.map_cons, List.mem_cons, not_or] at h
    have h' : ¬ x.name = c.name := fun e => h.1 e.symm
    have ih := setC r c h.2
    simp only [esC, List.map_cons, List.cons_append] at ih ⊢
    simp only [setSV, SV.keyEq, beq_eq_false_iff_ne.2 h.1, beq_eq_false_iff_ne.2 h', if_false, Bool.false_eq_true, ih]
theorem esC_under (n : Nat) : ∀ l : List Con, belowE n (esC l) = true
  | [] => rfl
  | c :: r => by
    have ih := esC_under n r
    simp only [esC, List.map_cons, belowE, conV, SV.under, SV.underL, Bool.and_self, Bool.true_and] at ih ⊢
    exact ih
def conBad (c : Con) : Bool := decide (c.name = []) || !inR c.arity 0 100 || !inR c.family 1 1000 || !inR c.tag 0 (IntKind.i64.wrap (c.family - 1))
def want0 : Con := ⟨[80, 114, 105, 109, 46, 70, 97, 108, 115, 101], 0, 0, 2⟩
def want1 : Con := ⟨[80, 114, 105, 109, 46, 84, 114, 117, 101], 0, 1, 2⟩
def want2 : Con := ⟨[80, 114, 105, 109, 46, 40, 41], 0, 0, 1⟩
def want3 : Con := ⟨[80, 114, 105, 109, 46, 66, 111, 120], 1, 0, 1⟩
def wants : List Con := [want0, want1, want2, want3]
def conEq (a b : Con) : Bool := decide (a.name = b.name) && decide (a.arity = b.arity) && decide (a.tag = b.tag) && decide (a.family = b.family)
def consOK (l : List Con) : Bool := l.all (fun c => !conBad c) && decide (l.map (·.name)).Nodup && wants.all fun w => conEq (lookC l w.name) w
theorem cons_ok (G : Gl) (hG : GClosed G) (m : Img) (slots : Int) (hm1 : m.cons.length < 1099511627776) (c : Nat) (H : List Blk) (hc : H[c]? = some (.cells 0 5 [.agg (chkC m slots)])) :
    ACall Tryz.prog G 53 [.ptr c 0 0 0] H (fun r H' => H' = H ∧ r = .bool (consOK m.cons)) := by
  have hcl0 := (List.getElem?_eq_some_iff.1 hc).1
  have hmcl : (chkC m slots).length = 5 := rfl
  have hmc0 : (chkC m slots)[0]? = some (.list 4 (consL m.cons)) := rfl
  generalize chkC m slots = mc at hc hmcl hmc0
  have c1 := fun n hi H => within_ok G hG n 0 hi H
  have c2 := fun n hi H => within_ok G hG n 1 hi H
  generalize m.cons = L at hmc0 hm1
  clear m
  refine ACall.of_go TB [] tabOK _ Tryz.func53 rfl (by decide) Tryz.ntmps53 (by simp) rfl (by simp only [initEnv, Nat.reduceAdd]; rfl) fun C R' hR hC hcl hB => ?_; have X := noX; have hC' := congrArg List.length hC
  have X := And.intro X (And.intro (getX hc) (And.intro hmcl hmc0))
  (refine run ?_; repeat' (first | with_reducible exact trivial | ((with_reducible apply Fork.mk) <;> intro hb) | with_reducible apply Two.mk))
  clear X
  refine go_loop (fun k : Nat => [(0, .ptr c 0 0 0), (3, .map H.length), (15, .list 4 (consL L)), (16, .int .i64 L.length), (17, .int .i64 k)]) (fun k => H ++ [.map none (esC (L.take k))]) (fun k => L.length - k) (fun k => k ≤ L.length ∧ (L.take k).all (fun c => !conBad c) = true ∧ ((L.take k).map (·.name)).Nodup) 0 ⟨Nat.zero_le _, rfl, List.nodup_nil⟩ (Wk.sub (by simp [subEnv, look])) ?_
  rintro K k ⟨hk, hall, hnd⟩ hK
  rcases Nat.lt_or_ge k L.length with hlt | hge
  · have e1 : (consL L)[k]? = some (conV L[k]) := by simp [consL, hlt, conV, Con.cells]
    have ht := List.take_succ_eq_append_getElem hlt
    have hdrop : L = L.take k ++ L[k] :: L.drop (k + 1) := by rw [← List.drop_eq_getElem_cons hlt, List.take_append_drop]
    have hfg := findC_get (L.take k) L[k].name
    have hfs := findC_some (L.take k) L[k].name
    have hset := setC (L.take k) L[k]
    generalize lookC (L.take k) L[k].name = w at hfg
    generalize L[k] = x at *
    simp only [conV] at e1 hfg hset
    by_cases hin : x.name ∈ (L.take k).map (·.name)
    · rw [decide_eq_true hin] at hfs
      have hbad : consOK L = false := by
        unfold consOK
        have : ¬ (L.map (·.name)).Nodup := fun h => by
          rw [hdrop, List.map_append, List.map_cons, List.nodup_append] at h
          exact h.2.2 _ hin _ (List.mem_cons_self ..) rfl
        rw [decide_eq_false this]; simp
      have X := And.intro noX (And.intro e1 (And.intro hfg hfs))
      (refine run ?_; repeat' (first | with_reducible exact trivial | ((with_reducible apply Fork.mk) <;> intro hb) | with_reducible apply Two.mk))
      exact finS hR hC' hcl (.same _ rfl) ⟨rfl, by rw [hbad]; rfl⟩
    · rw [decide_eq_false hin] at hfs
      have X := And.intro noX (And.intro e1 (And.intro hfg (And.intro hfs (hset hin))))
      have hb' : conBad x = true → consOK L = false := fun h => by
        unfold consOK
        have : L.all (fun c => !conBad c) = false := by
          rw [List.all_eq_false]
          exact ⟨x, by rw [hdrop]; simp, by simp [h]⟩
        rw [this]; simp
      (refine run ?_; repeat' (first | with_reducible exact trivial | ((with_reducible apply Fork.mk) <;> intro hb) | with_reducible apply Two.mk))
      · exact finS hR hC' hcl (.same _ rfl) ⟨rfl, by rw [hb' (by simp [conBad, hb])]; rfl⟩
      · exact finS hR hC' hcl (.same _ rfl) ⟨rfl, by rw [hb' (by simp only [conBad, hb, Bool.or_true, Bool.true_or])]; rfl⟩
      · exact finS hR hC' hcl (.same _ rfl) ⟨rfl, by rw [hb' (by simp only [conBad, hb, Bool.or_true, Bool.true_or])]; rfl⟩
      · exact finS hR hC' hcl (.same _ rfl) ⟨rfl, by rw [hb' (by simp only [conBad, hb, Bool.or_true, Bool.true_or])]; rfl⟩
      · rename_i g1 g2 g3
        refine hK _ _ (k + 1) (by omega) ⟨by omega, ?_, ?_⟩ ?_
        · rw [ht, List.all_append, hall]
          simp only [List.all_cons, List.all_nil, Bool.and_true, Bool.true_and, conBad, hb, g1, g2, g3, decide_false, Bool.or_false, Bool.not_false]
        · rw [ht, List.map_append, List.nodup_append]
          refine ⟨hnd, by simp, ?_⟩
          simp only [List.map_cons, List.map_nil, List.mem_singleton]
          intro a ha b hb e
          subst e; subst hb; exact hin ha
        · rw [ht]
          exact wkS (n0 := H.length) [(H.length, 0)] hG hB hC' hcl (hk := .m (kd := none) (es := esC (L.take k ++ [x])) (by simp) (Nat.le_refl _) (FrzE.same (esC_under _ _)) .nil)
  · have : k = L.length := by omega
    subst this
    clear hK
    rw [List.take_length] at hall hnd ⊢
    have X := And.intro noX (Int.lt_irrefl (L.length : Int))
    (refine run ?_; repeat' (first | with_reducible exact trivial | ((with_reducible apply Fork.mk) <;> intro hb) | with_reducible apply Two.mk))
    clear X
    refine go_loop (fun a : Nat => [(3, .map H.length), (64, .agg [.str want0.name, .int .i64 0, .int .i64 0, .int .i64 2, .str want1.name, .int .i64 0, .int .i64 1, .int .i64 2, .str want2.name, .int .i64 0, .int .i64 0, .int .i64 1, .str want3.name, .int .i64 1, .int .i64 0, .int .i64 1]), (65, .int .i64 a)]) (fun a => H ++ [.map none (esC L)]) (fun a => 4 - a) (fun a => a ≤ 4 ∧ (wants.take a).all (fun w => conEq (lookC L w.name) w) = true) 0 ⟨by omega, rfl⟩ (Wk.sub (by simp [subEnv, look, want0, want1, want2, want3])) ?_
    rintro K a ⟨ha, hw⟩ hK
    have hok : consOK L = (wants.all fun w => conEq (lookC L w.name) w) := by unfold consOK; rw [hall, decide_eq_true hnd]; rfl
    rcases (show a = 0 ∨ a = 1 ∨ a = 2 ∨ a = 3 ∨ a = 4 by omega) with rfl | rfl | rfl | rfl | rfl
    · have hfg := findC_get L want0.name
      have hL : lookC L want0.name = lookC L want0.name := rfl
      generalize hw0 : lookC L want0.name = w at hfg
      simp only [conV] at hfg
      have X := And.intro noX hfg
      rw [show ((0 : Nat) : Int) = 0 from rfl]
      (refine run ?_; repeat' (first | with_reducible exact trivial | ((with_reducible apply Fork.mk) <;> intro hb) | with_reducible apply Two.mk))
      · have hno : conEq (lookC L want0.name) want0 = false := by
          have e : conEq w want0 = (decide (w.name = want0.name) && (decide (w.arity = 0) && (decide (w.tag = 0) && decide (w.family = 2)))) := by
            simp only [conEq, Bool.and_assoc]; rfl
          rw [hw0, e]; rw [Bool.not_eq_true'] at hb; exact hb
        have : consOK L = false := by rw [hok, List.all_eq_false]; exact ⟨want0, by simp [wants], by simp [hno]⟩
        exact finS hR hC' hcl (.same _ rfl) ⟨rfl, by rw [this]; rfl⟩
      · have hyes : conEq (lookC L want0.name) want0 = true := by
          have e : conEq w want0 = (decide (w.name = want0.name) && (decide (w.arity = 0) && (decide (w.tag = 0) && decide (w.family = 2)))) := by
            simp only [conEq, Bool.and_assoc]; rfl
          rw [hw0, e]; rw [Bool.not_eq_false'] at hb; exact hb
        refine hK _ _ 1 (by omega) ⟨by omega, ?_⟩ ?_
        · show (wants.take 0 ++ [want0]).all _ = true
          rw [List.all_append, hw, List.all_cons, hyes]; rfl
        · rw [show ((1 : Nat) : Int) = 0 + 1 from rfl]
          exact wkS (n0 := H.length) [(H.length, 0)] hG hB hC' hcl (hk := .m (kd := none) (es := esC L) (by simp) (Nat.le_refl _) (FrzE.same (esC_under _ _)) .nil)
    · have hfg := findC_get L want1.name
      have hL : lookC L want1.name = lookC L want1.name := rfl
      generalize hw0 : lookC L want1.name = w at hfg
      simp only [conV] at hfg
      have X := And.intro noX hfg
      rw [show ((1 : Nat) : Int) = 1 from rfl]
      (refine run ?_; repeat' (first | with_reducible exact trivial | ((with_reducible apply Fork.mk) <;> intro hb) | with_reducible apply Two.mk))
      · have hno : conEq (lookC L want1.name) want1 = false := by
          have e : conEq w want1 = (decide (w.name = want1.name) && (decide (w.arity = 0) && (decide (w.tag = 1) && decide (w.family = 2)))) := by
            simp only [conEq, Bool.and_assoc]; rfl
          rw [hw0, e]; rw [Bool.not_eq_true'] at hb; exact hb
        have : consOK L = false := by rw [hok, List.all_eq_false]; exact ⟨want1, by simp [wants], by simp [hno]⟩
        exact finS hR hC' hcl (.same _ rfl) ⟨rfl, by rw [this]; rfl⟩
      · have hyes : conEq (lookC L want1.name) want1 = true := by
          have e : conEq w want1 = (decide (w.name = want1.name) && (decide (w.arity = 0) && (decide (w.tag = 1) && decide (w.family = 2)))) := by
            simp only [conEq, Bool.and_assoc]; rfl
          rw [hw0, e]; rw [Bool.not_eq_false'] at hb; exact hb
        refine hK _ _ 2 (by omega) ⟨by omega, ?_⟩ ?_
        · show (wants.take 1 ++ [want1]).all _ = true
          rw [List.all_append, hw, List.all_cons, hyes]; rfl
        · rw [show ((2 : Nat) : Int) = 1 + 1 from rfl]
          exact wkS (n0 := H.length) [(H.length, 0)] hG hB hC' hcl (hk := .m (kd := none) (es := esC L) (by simp) (Nat.le_refl _) (FrzE.same (esC_under _ _)) .nil)
    · have hfg := findC_get L want2.name
      have hL : lookC L want2.name = lookC L want2.name := rfl
      generalize hw0 : lookC L want2.name = w at hfg
      simp only [conV] at hfg
      have X := And.intro noX hfg
      rw [show ((2 : Nat) : Int) = 2 from rfl]
      (refine run ?_; repeat' (first | with_reducible exact trivial | ((with_reducible apply Fork.mk) <;> intro hb) | with_reducible apply Two.mk))
      · have hno : conEq (lookC L want2.name) want2 = false := by
          have e : conEq w want2 = (decide (w.name = want2.name) && (decide (w.arity = 0) && (decide (w.tag = 0) && decide (w.family = 1)))) := by
            simp only [conEq, Bool.and_assoc]; rfl
          rw [hw0, e]; rw [Bool.not_eq_true'] at hb; exact hb
        have : consOK L = false := by rw [hok, List.all_eq_false]; exact ⟨want2, by simp [wants], by simp [hno]⟩
        exact finS hR hC' hcl (.same _ rfl) ⟨rfl, by rw [this]; rfl⟩
      · have hyes : conEq (lookC L want2.name) want2 = true := by
          have e : conEq w want2 = (decide (w.name = want2.name) && (decide (w.arity = 0) && (decide (w.tag = 0) && decide (w.family = 1)))) := by
            simp only [conEq, Bool.and_assoc]; rfl
          rw [hw0, e]; rw [Bool.not_eq_false'] at hb; exact hb
        refine hK _ _ 3 (by omega) ⟨by omega, ?_⟩ ?_
        · show (wants.take 2 ++ [want2]).all _ = true
          rw [List.all_append, hw, List.all_cons, hyes]; rfl
        · rw [show ((3 : Nat) : Int) = 2 + 1 from rfl]
          exact wkS (n0 := H.length) [(H.length, 0)] hG hB hC' hcl (hk := .m (kd := none) (es := esC L) (by simp) (Nat.le_refl _) (FrzE.same (esC_under _ _)) .nil)
    · have hfg := findC_get L want3.name
      have hL : lookC L want3.name = lookC L want3.name := rfl
      generalize hw0 : lookC L want3.name = w at hfg
      simp only [conV] at hfg
      have X := And.intro noX hfg
      rw [show ((3 : Nat) : Int) = 3 from rfl]
      (refine run ?_; repeat' (first | with_reducible exact trivial | ((with_reducible apply Fork.mk) <;> intro hb) | with_reducible apply Two.mk))
      · have hno : conEq (lookC L want3.name) want3 = false := by
          have e : conEq w want3 = (decide (w.name = want3.name) && (decide (w.arity = 1) && (decide (w.tag = 0) && decide (w.family = 1)))) := by
            simp only [conEq, Bool.and_assoc]; rfl
          rw [hw0, e]; rw [Bool.not_eq_true'] at hb; exact hb
        have : consOK L = false := by rw [hok, List.all_eq_false]; exact ⟨want3, by simp [wants], by simp [hno]⟩
        exact finS hR hC' hcl (.same _ rfl) ⟨rfl, by rw [this]; rfl⟩
      · have hyes : conEq (lookC L want3.name) want3 = true := by
          have e : conEq w want3 = (decide (w.name = want3.name) && (decide (w.arity = 1) && (decide (w.tag = 0) && decide (w.family = 1)))) := by
            simp only [conEq, Bool.and_assoc]; rfl
          rw [hw0, e]; rw [Bool.not_eq_false'] at hb; exact hb
        refine hK _ _ 4 (by omega) ⟨by omega, ?_⟩ ?_
        · show (wants.take 3 ++ [want3]).all _ = true
          rw [List.all_append, hw, List.all_cons, hyes]; rfl
        · rw [show ((4 : Nat) : Int) = 3 + 1 from rfl]
          exact wkS (n0 := H.length) [(H.length, 0)] hG hB hC' hcl (hk := .m (kd := none) (es := esC L) (by simp) (Nat.le_refl _) (FrzE.same (esC_under _ _)) .nil)
    · clear hK
      rw [show ((4 : Nat) : Int) = 4 from rfl]
      have X := noX
      (refine run ?_; repeat' (first | with_reducible exact trivial | ((with_reducible apply Fork.mk) <;> intro hb) | with_reducible apply Two.mk))
      exact finS hR hC' hcl (.same _ rfl) ⟨rfl, by rw [hok]; exact congrArg SV.bool hw.symm⟩
end Go.Proofs.YthgdcjenoiojeaaGreatDoor
end

section
namespace Go.Proofs.YthgdcjenoiojeaaGreatDoor
open Go
set_option linter.unusedSimpArgs false
set_option linter.unusedVariables false
set_option maxRecDepth 10000
set_option maxHeartbeats 4000000

structure ImgB (m : Img) : Prop where
  c : m.cons.length < 1099511627776
  f : m.funcs.length < 1099511627776
  g : m.globals.length < 1099511627776
  code : ∀ f ∈ m.funcs, f.code.length < 1099511627776 ∧ ∀ i ∈ f.code, i.l.length < 1099511627776
  args : ∀ g ∈ m.globals, g.args.length < 1099511627776
theorem notFun_ok (G : Gl) (hG : GClosed G) (hF : GF G) (m : Img) (slots : Int) (hb : ImgB m) (hs : 1 ≤ slots ∧ slots ≤ 65536) (f : Fun) (hf : f ∈ m.funcs) (c bp : Nat) (H : List Blk) (hc : H[c]? = some (.cells 0 5 [.agg (chkC m slots)])) (hbp : H[bp]? = some (.cells 0 1 [.ptr c 0 0 0])) :
    ACall Tryz.prog G 55 [.agg f.cells, .ptr bp 0 0 0] H (fun r H' => H' = H ∧ r = .bool (!funOK m slots f)) := by
  have hl1 := (List.getElem?_eq_some_iff.1 hbp).1
  have hfl : f.cells.length = 7 := rfl
  refine ACall.of_go TB [] tabOK _ Tryz.func55 rfl (by decide) Tryz.ntmps55 (by simp) rfl (by simp only [initEnv, Nat.reduceAdd]; rfl) fun C R' hR hC hcl hB => ?_; have X := noX; have hC' := congrArg List.length hC
  have X := And.intro X (And.intro (getX hbp) hfl)
  (refine run ?_; repeat' (first | with_reducible exact trivial | ((with_reducible apply Fork.mk) <;> intro hb) | with_reducible apply Two.mk))
  refine callS (fun_ok G hG hF m slots f (hb.code f hf).1 (hb.code f hf).2 hb.c hb.f hb.g hs c _ (get_app_left hc)) ?_
  rintro r H' ⟨rfl, rfl⟩
  (refine run ?_; repeat' (first | with_reducible exact trivial | ((with_reducible apply Fork.mk) <;> intro hb) | with_reducible apply Two.mk))
  exact finS hR hC' hcl (.same _ rfl) ⟨rfl, rfl⟩
theorem notGlb_ok (G : Gl) (hG : GClosed G) (hF : GF G) (m : Img) (slots : Int) (hb : ImgB m) (g : Glb) (hg : g ∈ m.globals) (c bp : Nat) (H : List Blk) (hc : H[c]? = some (.cells 0 5 [.agg (chkC m slots)])) (hbp : H[bp]? = some (.cells 0 1 [.ptr c 0 0 0])) :
    ACall Tryz.prog G 58 [.agg g.cells, .ptr bp 0 0 0] H (fun r H' => H' = H ∧ r = .bool (!glbOK m g)) := by
  have hl1 := (List.getElem?_eq_some_iff.1 hbp).1
  have hgl : g.cells.length = 3 := rfl
  refine ACall.of_go TB [] tabOK _ Tryz.func58 rfl (by decide) Tryz.ntmps58 (by simp) rfl (by simp only [initEnv, Nat.reduceAdd]; rfl) fun C R' hR hC hcl hB => ?_; have X := noX; have hC' := congrArg List.length hC
  have X := And.intro X (And.intro (getX hbp) hgl)
  (refine run ?_; repeat' (first | with_reducible exact trivial | ((with_reducible apply Fork.mk) <;> intro hb) | with_reducible apply Two.mk))
  refine callS (glb_ok G hG m slots g (hb.args g hg) hb.c hb.f hb.g c _ (get_app_left hc)) ?_
  rintro r H' ⟨rfl, rfl⟩
  (refine run ?_; repeat' (first | with_reducible exact trivial | ((with_reducible apply Fork.mk) <;> intro hb) | with_reducible apply Two.mk))
  exact finS hR hC' hcl (.same _ rfl) ⟨rfl, rfl⟩

def chkS (m : Img) (slots : Int) : Int :=
  if inR slots 1 65536 = false then 1
  else if !consOK m.cons || decide ((10000 : Int) < m.funcs.length) || decide ((10000 : Int) < m.globals.length) || !inR m.main 0 ((m.globals.length : Int) - 1) then 170
  else if m.funcs.any (fun f => !funOK m slots f) || m.globals.any (fun g => !glbOK m g) then 170 else 0
theorem check_ok (G : Gl) (hG : GClosed G) (hF : GF G) (m : Img) (slots : Int) (hb : ImgB m) (H : List Blk) : ACall Tryz.prog G 35 [.agg m.cells, .int .i64 slots] H (fun r H' => H' = H ∧ r = .int .i64 (chkS m slots)) := by
  have c2 := fun n hi H => within_ok G hG n 0 hi H
  by_cases hs : inR slots 1 65536 = true
  · have hs2 : 1 ≤ slots ∧ slots ≤ 65536 := by simp [inR] at hs; exact hs
    have k1 := fun c H hc => cons_ok G hG m slots hb.c c H hc
    have k2 := fun f hf c bp H hc => notFun_ok G hG hF m slots hb hs2 f hf c bp H hc
    have k3 := fun g hg c bp H hc => notGlb_ok G hG hF m slots hb g hg c bp H hc
    have hg := hb.g
    have hf := hb.f
    have c1 := fun n hi H => within_ok G hG n 1 hi H
    have hS : chkS m slots = if !consOK m.cons || decide ((10000 : Int) < m.funcs.length) || decide ((10000 : Int) < m.globals.length) || !inR m.main 0 ((m.globals.length : Int) - 1) then 170 else if m.funcs.any (fun f => !funOK m slots f) || m.globals.any (fun g => !glbOK m g) then 170 else 0 := by
      unfold chkS; rw [if_neg (by simp [hs])]
    rw [hS]
    obtain ⟨cons, funcs, globals, main⟩ := m
    simp only [Img.cells]
    simp only at hg hf
    have hq : (H ++ [.cells 0 4 [.agg [.list 4 (consL cons), .list 7 (funsL funcs), .list 3 (glbsL globals), .int .i64 main]], .cells 0 5 [.agg [.list 4 (consL cons), .list 7 (funsL funcs), .list 3 (glbsL globals), .int .i64 main, .int .i64 slots]], .cells 0 1 [.ptr (H.length + 1) 0 0 0]])[H.length + 1]? = some (.cells 0 5 [.agg (chkC ⟨cons, funcs, globals, main⟩ slots)]) := by simp [chkC, Img.cells]
    have hq2 : (H ++ [.cells 0 4 [.agg [.list 4 (consL cons), .list 7 (funsL funcs), .list 3 (glbsL globals), .int .i64 main]], .cells 0 5 [.agg [.list 4 (consL cons), .list 7 (funsL funcs), .list 3 (glbsL globals), .int .i64 main, .int .i64 slots]], .cells 0 1 [.ptr (H.length + 1) 0 0 0]])[H.length + 2]? = some (.cells 0 1 [.ptr (H.length + 1) 0 0 0]) := by simp
    have c3 : ACall Tryz.prog G 53 [.ptr (H.length + 1) 0 0 0] (H ++ [.cells 0 4 [.agg [.list 4 (consL cons), .list 7 (funsL funcs), .list 3 (glbsL globals), .int .i64 main]], .cells 0 5 [.agg [.list 4 (consL cons), .list 7 (funsL funcs), .list 3 (glbsL globals), .int .i64 main, .int .i64 slots]], .cells 0 1 [.ptr (H.length + 1) 0 0 0]]) (fun r H' => H' = (H ++ [.cells 0 4 [.agg [.list 4 (consL cons), .list 7 (funsL funcs), .list 3 (glbsL globals), .int .i64 main]], .cells 0 5 [.agg [.list 4 (consL cons), .list 7 (funsL funcs), .list 3 (glbsL globals), .int .i64 main, .int .i64 slots]], .cells 0 1 [.ptr (H.length + 1) 0 0 0]]) ∧ r = .bool (consOK cons)) := k1 _ _ hq
    have c4 : ACall Tryz.prog G 54 [.list 7 (funsL funcs), .fn (.func 55) [] [.ptr (H.length + 2) 0 0 0]] (H ++ [.cells 0 4 [.agg [.list 4 (consL cons), .list 7 (funsL funcs), .list 3 (glbsL globals), .int .i64 main]], .cells 0 5 [.agg [.list 4 (consL cons), .list 7 (funsL funcs), .list 3 (glbsL globals), .int .i64 main, .int .i64 slots]], .cells 0 1 [.ptr (H.length + 1) 0 0 0]]) (fun r H' => H' = (H ++ [.cells 0 4 [.agg [.list 4 (consL cons), .list 7 (funsL funcs), .list 3 (glbsL globals), .int .i64 main]], .cells 0 5 [.agg [.list 4 (consL cons), .list 7 (funsL funcs), .list 3 (glbsL globals), .int .i64 main, .int .i64 slots]], .cells 0 1 [.ptr (H.length + 1) 0 0 0]]) ∧ r = .bool (funcs.any fun f => !funOK ⟨cons, funcs, globals, main⟩ slots f)) :=
      anyFun_ok G hG _ (fun f => !funOK ⟨cons, funcs, globals, main⟩ slots f) funcs _ (by omega) (by simp [SV.under, SV.underL]) (fun x hx => ACallV.of (k2 x hx _ _ _ hq hq2))
    have c5 : ACall Tryz.prog G 57 [.list 3 (glbsL globals), .fn (.func 58) [] [.ptr (H.length + 2) 0 0 0]] (H ++ [.cells 0 4 [.agg [.list 4 (consL cons), .list 7 (funsL funcs), .list 3 (glbsL globals), .int .i64 main]], .cells 0 5 [.agg [.list 4 (consL cons), .list 7 (funsL funcs), .list 3 (glbsL globals), .int .i64 main, .int .i64 slots]], .cells 0 1 [.ptr (H.length + 1) 0 0 0]]) (fun r H' => H' = (H ++ [.cells 0 4 [.agg [.list 4 (consL cons), .list 7 (funsL funcs), .list 3 (glbsL globals), .int .i64 main]], .cells 0 5 [.agg [.list 4 (consL cons), .list 7 (funsL funcs), .list 3 (glbsL globals), .int .i64 main, .int .i64 slots]], .cells 0 1 [.ptr (H.length + 1) 0 0 0]]) ∧ r = .bool (globals.any fun g => !glbOK ⟨cons, funcs, globals, main⟩ g)) :=
      anyGlb_ok G hG _ (fun g => !glbOK ⟨cons, funcs, globals, main⟩ g) globals _ (by omega) (by simp [SV.under, SV.underL]) (fun x hx => ACallV.of (k3 x hx _ _ _ hq hq2))
    clear hq hq2 k1 k2 k3 hS
    generalize (funcs.any fun f => !funOK ⟨cons, funcs, globals, main⟩ slots f) = A1 at *
    generalize (globals.any fun g => !glbOK ⟨cons, funcs, globals, main⟩ g) = A2 at *
    generalize consOK cons = A3 at *
    refine ACall.of_go TB [] tabOK _ Tryz.func35 rfl (by decide) Tryz.ntmps35 (by simp) rfl (by simp only [initEnv, Nat.reduceAdd]; rfl) fun C R' hR hC hcl hB => ?_; have X := noX; have hC' := congrArg List.length hC
    have X := And.intro X hs
    have hfin : ∀ n, n = (if !A3 || decide ((10000 : Int) < funcs.length) || decide ((10000 : Int) < globals.length) || !inR main 0 ((globals.length : Int) - 1) then (170 : Int) else if A1 || A2 then 170 else 0) → Fin C (H ++ [.cells 0 4 [.agg [.list 4 (consL cons), .list 7 (funsL funcs), .list 3 (glbsL globals), .int .i64 main]], .cells 0 5 [.agg [.list 4 (consL cons), .list 7 (funsL funcs), .list 3 (glbsL globals), .int .i64 main, .int .i64 slots]], .cells 0 1 [.ptr (H.length + 1) 0 0 0]]) (resSV [SV.int .i64 n]) R' := fun n e => finS hR hC' hcl (.same _ rfl) ⟨rfl, by rw [← e]; rfl⟩
    (refine run ?_; repeat' (first | with_reducible exact trivial | ((with_reducible apply Fork.mk) <;> intro hb) | with_reducible apply Two.mk))
    · exact hfin _ (by rw [hb]; rfl)
    · exact hfin _ (by rw [hb, Bool.or_true]; rfl)
    · rename_i g1 g2
      exact hfin _ (by rw [g1, g2, hb]; rfl)
    · rename_i g1 g2 g3
      exact hfin _ (by rw [g1, g2, g3, hb]; rfl)
    · rename_i g1 g2 g3
      exact hfin _ (by rw [g1, g2, g3, hb]; rfl)
  · have hs : inR slots 1 65536 = false := by simpa using hs
    have hS : chkS m slots = 1 := by unfold chkS; rw [if_pos hs]
    rw [hS]
    have c1 := fun n hi H => within_ok G hG n 1 hi H
    have hml : m.cells.length = 4 := rfl
    refine ACall.of_go TB [] tabOK _ Tryz.func35 rfl (by decide) Tryz.ntmps35 (by simp) rfl (by simp only [initEnv, Nat.reduceAdd]; rfl) fun C R' hR hC hcl hB => ?_; have X := noX; have hC' := congrArg List.length hC
    have X := And.intro X (And.intro hs hml)
    (refine run ?_; repeat' (first | with_reducible exact trivial | ((with_reducible apply Fork.mk) <;> intro hb) | with_reducible apply Two.mk))
    exact finS hR hC' hcl (.same _ rfl) ⟨rfl, rfl⟩
end Go.Proofs.YthgdcjenoiojeaaGreatDoor
end

section
namespace Go.Proofs.YthgdcjenoiojeaaGreatDoor
open Go
set_option linter.unusedSimpArgs false
set_option linter.unusedVariables false
set_option maxRecDepth 10000
set_option maxHeartbeats 4000000

/-! ### an image's bytes, in plain words -/
def conS (c : Con) : Str := txtS c.name ++ numsS [c.arity, c.tag, c.family]
def insS (i : Ins) : Str := numsS [i.op, i.a, i.b, i.c, i.n, (i.l.length : Int)] ++ numsS i.l
def funH (f : Fun) : Str := txtS f.name ++ truS f.thunk ++ truS f.upd ++ numsS [f.free, f.params, f.frame, (f.code.length : Int)]
def funS (f : Fun) : Str := funH f ++ f.code.flatMap insS
def refS (r : Int × Int) : Str := numsS [r.1, r.2]
def glbS (g : Glb) : Str := numsS [g.kind, g.n, (g.args.length : Int)] ++ g.args.flatMap refS
def magicS : Str := [84, 83, 76, 49]
def encB (m : Img) : Str := magicS ++ numS m.cons.length ++ m.cons.flatMap conS ++ numS m.funcs.length ++ m.funcs.flatMap funS ++ numS m.globals.length ++ m.globals.flatMap glbS ++ numS m.main
def encS (m : Img) : Str := if chkS m 65536 = 0 then encB m else []

/-! ### numbers that are in range -/
def insI (i : Ins) : Prop := isI i.op ∧ isI i.a ∧ isI i.b ∧ isI i.c ∧ isI i.n ∧ ∀ n ∈ i.l, isI n
structure ImgI (m : Img) : Prop where
  cons : ∀ c ∈ m.cons, isI c.arity ∧ isI c.tag ∧ isI c.family
  funcs : ∀ f ∈ m.funcs, isI f.free ∧ isI f.params ∧ isI f.frame ∧ ∀ i ∈ f.code, insI i
  globals : ∀ g ∈ m.globals, isI g.kind ∧ isI g.n ∧ ∀ r ∈ g.args, isI r.1 ∧ isI r.2
  main : isI m.main

/-! ### the writer's blocks behind another block -/
theorem wset3 (H L : List Blk) (I x y : Blk) (g : Nat) (bs : Str) : wset (H ++ I :: x :: y :: L) (H.length + 2) (H.length + 1) g bs = H ++ I :: .cells g 1 (strBytes bs) :: .cells 0 1 [.agg [.sl (H.length + 1) g 0 bs.length]] :: L := by
  simp [wset]
theorem wr3 (H L : List Blk) (I : Blk) (g : Nat) (bs : Str) : WrOK (H ++ I :: .cells g 1 (strBytes bs) :: .cells 0 1 [.agg [.sl (H.length + 1) g 0 bs.length]] :: L) (H.length + 2) (H.length + 1) g bs :=
  ⟨by simp, by simp⟩
theorem wnum3 (G : Gl) (hG : GClosed G) (ns : List Int) (g : Nat) (bs : Str) (H L : List Blk) (I : Blk) (hi : ∀ n ∈ ns, isI n) (hl : bs.length + (numsS ns).length < 1099511627776) (hn : ns.length < 1099511627776) :
    ACall Tryz.prog G 78 [.ptr (H.length + 2) 0 0 0, .list 1 (ns.map (.int .i64))] (H ++ I :: .cells g 1 (strBytes bs) :: .cells 0 1 [.agg [.sl (H.length + 1) g 0 bs.length]] :: L) (fun r H' => (∃ g', H' = H ++ I :: .cells g' 1 (strBytes (bs ++ numsS ns)) :: .cells 0 1 [.agg [.sl (H.length + 1) g' 0 (bs ++ numsS ns).length]] :: L) ∧ r = .tuple []) :=
  (wnum_ok G hG ns _ _ g bs _ (wr3 H L I g bs) hi hl hn).mono fun r H' h => ⟨⟨_, h.1.trans (wset3 ..)⟩, h.2⟩
theorem wtext3 (G : Gl) (hG : GClosed G) (s : Str) (g : Nat) (bs : Str) (H L : List Blk) (I : Blk) (hl : bs.length + (txtS s).length < 1099511627776) :
    ACall Tryz.prog G 79 [.ptr (H.length + 2) 0 0 0, .str s] (H ++ I :: .cells g 1 (strBytes bs) :: .cells 0 1 [.agg [.sl (H.length + 1) g 0 bs.length]] :: L) (fun r H' => (∃ g', H' = H ++ I :: .cells g' 1 (strBytes (bs ++ txtS s)) :: .cells 0 1 [.agg [.sl (H.length + 1) g' 0 (bs ++ txtS s).length]] :: L) ∧ r = .tuple []) :=
  (wtext_ok G hG s _ _ g bs _ (wr3 H L I g bs) hl).mono fun r H' h => ⟨⟨_, h.1.trans (wset3 ..)⟩, h.2⟩
theorem wtruth3 (G : Gl) (hG : GClosed G) (t : Bool) (g : Nat) (bs : Str) (H L : List Blk) (I : Blk) (hl : bs.length + 1 < 1099511627776) :
    ACall Tryz.prog G 80 [.ptr (H.length + 2) 0 0 0, .bool t] (H ++ I :: .cells g 1 (strBytes bs) :: .cells 0 1 [.agg [.sl (H.length + 1) g 0 bs.length]] :: L) (fun r H' => (∃ g', H' = H ++ I :: .cells g' 1 (strBytes (bs ++ truS t)) :: .cells 0 1 [.agg [.sl (H.length + 1) g' 0 (bs ++ truS t).length]] :: L) ∧ r = .tuple []) :=
  (wtruth_ok G hG t _ _ g bs _ (wr3 H L I g bs) hl).mono fun r H' h => ⟨⟨_, h.1.trans (wset3 ..)⟩, h.2⟩
theorem flat_take {α : Type} (l : List α) (f : α → Str) {k : Nat} (h : k < l.length) : (l.take (k + 1)).flatMap f = (l.take k).flatMap f ++ f l[k] := by
  rw [List.take_succ_eq_append_getElem h, List.flatMap_append, List.flatMap_cons, List.flatMap_nil, List.append_nil]
theorem flat_le {α : Type} (l : List α) (f : α → Str) (k : Nat) : ((l.take k).flatMap f).length ≤ (l.flatMap f).length := by
  conv => rhs; rw [← List.take_append_drop k l, List.flatMap_append, List.length_append]
  omega
theorem flat_leS {α : Type} (l : List α) (f : α → Str) {k : Nat} (h : k < l.length) : ((l.take k).flatMap f).length + (f l[k]).length ≤ (l.flatMap f).length := by
  have := flat_le l f (k + 1)
  rw [flat_take l f h, List.length_append] at this
  exact this
theorem keepW {H L : List Blk} {mc : List SV} (hmu : ∀ n, SV.underL n mc = true) {g : Nat} {bs : Str} {r ks : Keep} {BS : List Blk} (hks : ks = (H.length, 0) :: (H.length + 1, 0) :: (H.length + 2, 0) :: r)
    (ht : KeepB (H ++ .cells 0 4 [.agg mc] :: .cells g 1 (strBytes bs) :: .cells 0 1 [.agg [.sl (H.length + 1) g 0 bs.length]] :: L) H.length ks r BS) :
    KeepB (H ++ .cells 0 4 [.agg mc] :: .cells g 1 (strBytes bs) :: .cells 0 1 [.agg [.sl (H.length + 1) g 0 bs.length]] :: L) H.length ks ks (.cells 0 4 [.agg mc] :: .cells 0 1 (strBytes bs) :: .cells 0 1 [.agg [.sl (H.length + 1) 0 0 bs.length]] :: BS) := by
  subst hks
  refine KeepB.cells H.length 0 0 4 [.agg mc] _ _ _ (by simp) (Nat.le_refl _) (Nat.zero_le _) (FrzL.same (by simp only [List.drop_zero, SV.underL, SV.under, hmu, Bool.and_self])) ?_
  refine KeepB.cells (H.length + 1) 0 g 1 (strBytes bs) _ _ _ (by simp) (by omega) (Nat.zero_le _) (FrzL.same (strBytes_under ..)) ?_
  refine KeepB.cells (H.length + 2) 0 0 1 _ _ _ _ (by simp; rfl) (by omega) (Nat.zero_le _) ?_ ht
  exact FrzL.cons _ _ _ _ (Frz.agg _ _ (FrzL.cons _ _ _ _ (Frz.keepSl 1 (H.length + 1) 0 g 0 bs.length 1 (strBytes bs) (by simp) (by simp) (Nat.le_refl _)) .nil)) .nil
theorem keepC {H : List Blk} {n : Nat} {ks r : Keep} {BS : List Blk} (id : Nat) {g sz : Nat} {vals : List SV} (hb : H[id]? = some (.cells g sz vals)) (hn : n ≤ id) (hv : SV.underL n vals = true) (ht : KeepB H n ks r BS) : KeepB H n ks ((id, 0) :: r) (.cells 0 sz vals :: BS) :=
  KeepB.cells id 0 g sz vals _ _ _ hb hn (Nat.zero_le _) (FrzL.same hv) ht
end Go.Proofs.YthgdcjenoiojeaaGreatDoor
end

section
namespace Go.Proofs.YthgdcjenoiojeaaGreatDoor
open Go
set_option linter.unusedSimpArgs false
set_option linter.unusedVariables false
set_option maxRecDepth 10000
set_option maxHeartbeats 4000000

/-! ### reading numbers and texts, in plain words -/
structure RS where
  s : Str
  bad : Bool
def rdN (k u : Nat) : Str → Option (Nat × Str)
  | [] => none
  | b :: r => if 10 ≤ k then none else if 127 < b.toNat then rdN (k + 1) (u + (b.toNat - 128) * 128 ^ k) r
    else if (b.toNat = 0 ∧ 0 < k) ∨ (k = 9 ∧ 1 < b.toNat) then none else some (u + b.toNat * 128 ^ k, r)
def unz (u : Nat) : Int := if u % 2 = 0 then ((u / 2 : Nat) : Int) else -((u / 2 : Nat) : Int) - 1
def RS.num (q : RS) : Int × RS := match rdN 0 0 q.s with
  | some (u, r) => (unz u, ⟨r, q.bad⟩)
  | none => (0, ⟨[], true⟩)
def RS.text (q : RS) : Str × RS := if q.num.1 < 0 ∨ (q.num.2.s.length : Int) < q.num.1 then ([], ⟨q.num.2.s, true⟩) else (q.num.2.s.take q.num.1.toNat, ⟨q.num.2.s.drop q.num.1.toNat, q.num.2.bad⟩)
def RS.truth (q : RS) : Bool × RS := (decide (q.num.1 = 1), ⟨q.num.2.s, q.num.2.bad || (decide (q.num.1 ≠ 0) && decide (q.num.1 ≠ 1))⟩)
def eachN {α : Type} (f : RS → α × RS) : Nat → RS → List α × RS
  | 0, q => ([], q)
  | n + 1, q => if q.bad then ([], q) else ((f q).1 :: (eachN f n (f q).2).1, (eachN f n (f q).2).2)
def RS.each {α : Type} (f : RS → α × RS) (q : RS) : List α × RS := if q.num.1 < 0 ∨ (q.num.2.s.length : Int) < q.num.1 then ([], ⟨q.num.2.s, true⟩) else eachN f q.num.1.toNat q.num.2
theorem rdN_len : ∀ (s : Str) (k u : Nat) {v : Nat} {r : Str}, rdN k u s = some (v, r) → r.length < s.length
  | [], k, u, v, r, h => by cases h
  | b :: l, k, u, v, r, h => by
    unfold rdN at h
    split at h
    · cases h
    · split at h
      · have := rdN_len l _ _ h; simp only [List.length_cons]; omega
      · split at h
        · cases h
        · cases h; simp
theorem RS.num_len (q : RS) : q.num.2.s.length ≤ q.s.length := by
  unfold RS.num
  cases h : rdN 0 0 q.s with
  | none => simp
  | some p => obtain ⟨u, r⟩ := p; have := rdN_len _ _ _ h; simp only; omega
theorem RS.text_len (q : RS) : q.text.2.s.length ≤ q.s.length := by
  have := q.num_len
  unfold RS.text
  split
  · exact this
  · simp only [List.length_drop]; omega
theorem RS.truth_len (q : RS) : q.truth.2.s.length ≤ q.s.length := q.num_len
theorem eachN_len {α : Type} {f : RS → α × RS} (hf : ∀ q, (f q).2.s.length ≤ q.s.length) : ∀ (n : Nat) (q : RS), (eachN f n q).2.s.length ≤ q.s.length
  | 0, q => Nat.le_refl _
  | n + 1, q => by
    unfold eachN
    split
    · exact Nat.le_refl _
    · exact Nat.le_trans (eachN_len hf n _) (hf q)
theorem RS.each_len {α : Type} {f : RS → α × RS} (hf : ∀ q, (f q).2.s.length ≤ q.s.length) (q : RS) : (q.each f).2.s.length ≤ q.s.length := by
  have := q.num_len
  unfold RS.each
  split
  · exact this
  · exact Nat.le_trans (eachN_len hf _ _) this
theorem eachN_size {α : Type} {f : RS → α × RS} : ∀ (n : Nat) (q : RS), (eachN f n q).1.length ≤ n
  | 0, q => Nat.le_refl _
  | n + 1, q => by
    unfold eachN
    split
    · simp
    · have := eachN_size (f := f) n (f q).2; simp only [List.length_cons]; omega
theorem RS.each_size {α : Type} {f : RS → α × RS} (q : RS) : (q.each f).1.length ≤ q.s.length := by
  have := q.num_len
  unfold RS.each
  split
  · simp
  · rename_i h
    have := eachN_size (f := f) q.num.1.toNat q.num.2
    omega

/-! ### how the program reckons them -/
theorem and127 (b : UInt8) : bitsI .and .u8 (b.toNat : Int) 127 = some ((b.toNat % 128 : Nat) : Int) := by
  have h : ∀ v : _root_.Fin 256, bitsI .and .u8 (v.val : Int) 127 = some ((v.val % 128 : Nat) : Int) := by decide +kernel
  exact h ⟨b.toNat, b.toNat_lt⟩
theorem ofNat64 {x : Nat} (h : x < 18446744073709551616) : (BitVec.ofInt 64 (x : Int)).toNat = x := by
  rw [BitVec.toNat_ofInt]; omega
theorem and1 {u : Nat} (h : u < 18446744073709551616) : bitsI .and .u64 (u : Int) 1 = some ((u % 2 : Nat) : Int) := by
  show some (IntKind.u64.wrap ((BitVec.ofInt 64 (u : Int) &&& BitVec.ofInt 64 1).toNat : Int)) = _
  rw [BitVec.toNat_and, ofNat64 h, show (BitVec.ofInt 64 1).toNat = 1 from rfl, Nat.and_one_is_mod, wrapU64]
  congr 1; omega
theorem borU {x y : Nat} (hx : x < 18446744073709551616) (hy : y < 18446744073709551616) : borI .u64 (x : Int) (y : Int) = ((x ||| y : Nat) : Int) := by
  show IntKind.u64.wrap ((BitVec.ofInt 64 (x : Int) ||| BitVec.ofInt 64 (y : Int)).toNat : Int) = _
  have : (x ||| y) < 2 ^ 64 := Nat.or_lt_two_pow (n := 64) hx hy
  rw [BitVec.toNat_or, ofNat64 hx, ofNat64 hy, wrapU64]
  omega
/-- what u is once the byte b has been taken up -/
def nextU (k u : Nat) (b : Nat) : Nat := u ||| (b % 128 * 2 ^ (7 * k) % 18446744073709551616)
theorem nextU_lt {k u b : Nat} (h : u < 18446744073709551616) : nextU k u b < 18446744073709551616 := Nat.or_lt_two_pow (n := 64) h (Nat.mod_lt _ (by decide))
theorem nextU_eq {k u b : Nat} (h : u < 128 ^ k) (hk : k ≤ 8 ∨ (k = 9 ∧ b ≤ 1)) (hb : b < 256) : nextU k u b = u + (b % 128) * 128 ^ k ∧ u + (b % 128) * 128 ^ k < 128 ^ (k + 1) := by
  have e : 2 ^ (7 * k) = 128 ^ k := by rw [Nat.pow_mul]
  have hm : b % 128 < 128 := Nat.mod_lt _ (by decide)
  have h1 : u + (b % 128) * 128 ^ k < 128 ^ (k + 1) := by
    have := Nat.mul_le_mul_right (128 ^ k) (show b % 128 ≤ 127 by omega)
    rw [Nat.pow_succ]; omega
  have h2 : (b % 128) * 128 ^ k < 18446744073709551616 := by
    rcases hk with hk | ⟨rfl, hb1⟩
    · have := Nat.pow_le_pow_right (n := 128) (by decide) (show k + 1 ≤ 9 by omega)
      have e9 : 128 ^ 9 = 9223372036854775808 := by decide
      omega
    · have : b % 128 ≤ 1 := by omega
      have e9 : 128 ^ 9 = 9223372036854775808 := by decide
      rw [e9]; omega
  refine ⟨?_, h1⟩
  unfold nextU
  rw [e, Nat.mod_eq_of_lt h2, Nat.or_comm]
  have := Nat.two_pow_add_eq_or_of_lt (i := 7 * k) (b := u) (by rw [e]; exact h) (b % 128)
  rw [e, Nat.mul_comm] at this
  omega
theorem shl7 {k b : Nat} (hk : k ≤ 9) : IntKind.u64.wrap (((b % 128 : Nat) : Int) * 2 ^ min (7 * (k : Int)).toNat 64) = ((b % 128 * 2 ^ (7 * k) % 18446744073709551616 : Nat) : Int) := by
  have : min (7 * (k : Int)).toNat 64 = 7 * k := by omega
  rw [this, wrapU64]
  simp only [Int.natCast_emod, Int.natCast_mul, Int.natCast_pow, Int.cast_ofNat_Int]
theorem unz_xor {u : Nat} (h : u < 18446744073709551616) : bxorI .i64 (IntKind.i64.wrap ((u : Int).fdiv (2 ^ min 1 64))) (IntKind.i64.wrap (0 - IntKind.i64.wrap ((u % 2 : Nat) : Int))) = unz u := by
  have h1 : (u : Int).fdiv (2 ^ min 1 64) = ((u / 2 : Nat) : Int) := by
    rw [show min 1 64 = 1 from rfl, Int.fdiv_eq_ediv_of_nonneg _ (by decide)]; omega
  have h2 : IntKind.i64.wrap ((u / 2 : Nat) : Int) = ((u / 2 : Nat) : Int) := by rw [wrap64]; omega
  rw [h1, h2]
  show IntKind.i64.wrap ((BitVec.ofInt 64 ((u / 2 : Nat) : Int) ^^^ BitVec.ofInt 64 _).toNat : Int) = _
  unfold unz
  rcases Nat.mod_two_eq_zero_or_one u with e | e
  · rw [e, if_pos rfl, show BitVec.ofInt 64 (IntKind.i64.wrap (0 - IntKind.i64.wrap ((0 : Nat) : Int))) = 0#64 from by decide, BitVec.xor_zero, ofNat64 (by omega), wrap64]; omega
  · rw [e, if_neg (by decide), show BitVec.ofInt 64 (IntKind.i64.wrap (0 - IntKind.i64.wrap ((1 : Nat) : Int))) = BitVec.allOnes 64 from by decide, BitVec.xor_allOnes, BitVec.toNat_not, ofNat64 (by omega), wrap64]; omega
theorem get_set_self' {H : List Blk} {id : Nat} (h : id < H.length) : ∀ x, (H.set id x)[id]? = some x := fun x => List.getElem?_set_self h
def rsC (q : RS) : Blk := .cells 0 2 [.agg [.str q.s, .bool q.bad]]
end Go.Proofs.YthgdcjenoiojeaaGreatDoor
end

section
namespace Go.Proofs.YthgdcjenoiojeaaGreatDoor
open Go
set_option linter.unusedSimpArgs false
set_option linter.unusedVariables false
set_option maxRecDepth 10000
set_option maxHeartbeats 4000000

theorem rnum_ok (G : Gl) (hG : GClosed G) (q : RS) (rb : Nat) (H : List Blk) (hr : H[rb]? = some (rsC q)) :
    ACall Tryz.prog G 84 [.ptr rb 0 0 0] H (fun r H' => H' = H.set rb (rsC q.num.2) ∧ r = .int .i64 q.num.1) := by
  have hrl := (List.getElem?_eq_some_iff.1 hr).1
  obtain ⟨s, bad⟩ := q
  simp only [rsC] at hr
  have hn : ∀ u r, rdN 0 0 s = some (u, r) → H.set rb (.cells 0 2 [.agg [.str r, .bool bad]]) = H.set rb (rsC (RS.num ⟨s, bad⟩).2) ∧ unz u = (RS.num ⟨s, bad⟩).1 := fun u r h => by
    simp only [RS.num, h, rsC]; exact ⟨trivial, trivial⟩
  have hno : rdN 0 0 s = none → H.set rb (.cells 0 2 [.agg [.str [], .bool true]]) = H.set rb (rsC (RS.num ⟨s, bad⟩).2) ∧ 0 = (RS.num ⟨s, bad⟩).1 := fun h => by
    simp only [RS.num, h, rsC]; exact ⟨trivial, trivial⟩
  refine ACall.of_go TB [] tabOK _ Tryz.func84 rfl (by decide) Tryz.ntmps84 (by simp) rfl (by simp only [initEnv, Nat.reduceAdd]; rfl) fun C R' hR hC hcl hB => ?_; have X := noX; have hC' := congrArg List.length hC
  (refine run ?_; repeat' (first | with_reducible exact trivial | ((with_reducible apply Fork.mk) <;> intro hb) | with_reducible apply Two.mk))
  refine go_loop (fun a : Nat × Nat => [(0, .ptr rb 0 0 0), (3, .int .u64 a.2), (6, .int .i64 a.1)]) (fun _ => H) (fun a => 10 - a.1) (fun a => a.1 ≤ 10 ∧ a.2 < 18446744073709551616 ∧ (a.1 ≤ 9 → a.2 < 128 ^ a.1 ∧ rdN 0 0 s = rdN a.1 a.2 (s.drop a.1)) ∧ (a.1 = 10 → rdN 0 0 s = none)) (0, 0) ⟨by decide, by decide, fun _ => ⟨by decide, rfl⟩, fun h => by simp at h⟩ (Wk.sub (by simp [subEnv, look])) ?_
  rintro K ⟨k, u⟩ ⟨hk, hu, h9, h10⟩ hK
  simp only at hk hu h9 h10
  dsimp only
  have hgs := get_set_self' hrl
  have X := And.intro X (And.intro hr hgs)
  rcases Nat.lt_or_ge k 10 with hk10 | hk10
  · obtain ⟨hu9, hrd⟩ := h9 (by omega)
    rcases Nat.lt_or_ge k s.length with hlt | hge
    · have e1 : s[k]? = some s[k] := by simp [hlt]
      rw [List.drop_eq_getElem_cons hlt] at hrd
      generalize s[k] = b at *
      have hbl := b.toNat_lt
      have a0 : IntKind.u64.wrap ((b.toNat % 128 : Nat) : Int) = ((b.toNat % 128 : Nat) : Int) := by rw [wrapU64]; omega
      have a1 := and127 b
      have a2 := shl7 (k := k) (b := b.toNat) (by omega)
      have a3 := borU (x := u) (y := b.toNat % 128 * 2 ^ (7 * k) % 18446744073709551616) hu (Nat.mod_lt _ (by decide))
      have hvl := nextU_lt (k := k) (b := b.toNat) hu
      have hve := nextU_eq (k := k) (b := b.toNat) hu9
      rw [show (u ||| (b.toNat % 128 * 2 ^ (7 * k) % 18446744073709551616)) = nextU k u b.toNat from rfl] at a3
      generalize nextU k u b.toNat = v at *
      have a4 := and1 hvl
      have a6 : ((k : Int) + 1).toNat = k + 1 := by omega
      have a7 : (s.drop (k + 1)).take (s.length - (k + 1)) = s.drop (k + 1) := List.take_of_length_le (by simp)
      have X := And.intro X (And.intro e1 (And.intro a0 (And.intro a1 (And.intro a2 (And.intro a3 (And.intro a4 (And.intro a6 a7)))))))
      (refine run ?_; repeat' (first | with_reducible exact trivial | ((with_reducible apply Fork.mk) <;> intro hb) | with_reducible apply Two.mk))
      · refine hK _ _ (k + 1, v) (show 10 - (k + 1) < 10 - k by omega) ⟨show k + 1 ≤ 10 by omega, hvl, fun h => ?_, fun h => ?_⟩ (Wk.sub (by simp [subEnv, look]))
        · simp only at h ⊢
          obtain ⟨g1, g2⟩ := hve (by omega) hbl
          refine ⟨by rw [g1]; exact g2, ?_⟩
          rw [hrd, rdN, if_neg (by omega), if_pos (by omega), g1]
          congr 2
          have : b.toNat % 128 = b.toNat - 128 := by omega
          rw [this]
        · simp only at h
          rw [hrd, rdN, if_neg (by omega), if_pos (by omega)]
          have : k + 1 = 10 := h
          rw [this]
          cases s.drop 10 with
          | nil => rfl
          | cons x l => rw [rdN, if_pos (by omega)]
      · have hfail : rdN 0 0 s = none := by
          simp only [Bool.or_eq_true, Bool.and_eq_true, decide_eq_true_eq] at hb
          rw [hrd, rdN, if_neg (by omega), if_neg (by omega), if_pos (by omega)]
        obtain ⟨g1, g2⟩ := hno hfail
        refine Fin.out hR ⟨g1, ?_⟩
        rw [← g2]; rfl
      · have hlow : ¬ 127 < b.toNat := by omega
        simp only [Bool.or_eq_false_iff, Bool.and_eq_false_iff, decide_eq_false_iff_not] at hb
        obtain ⟨g1, g2⟩ := hve (by omega) hbl
        have hsome : rdN 0 0 s = some (v, s.drop (k + 1)) := by
          rw [hrd, rdN, if_neg (by omega), if_neg hlow, if_neg (by omega), g1, Nat.mod_eq_of_lt (show b.toNat < 128 by omega)]
        obtain ⟨g3, g4⟩ := hn _ _ hsome
        refine Fin.out hR ⟨g3, ?_⟩
        rw [← g4, ← unz_xor hvl, ← Option.some.inj a4]; rfl
    · (refine run ?_; repeat' (first | with_reducible exact trivial | ((with_reducible apply Fork.mk) <;> intro hb) | with_reducible apply Two.mk))
      have hfail : rdN 0 0 s = none := by rw [hrd, List.drop_eq_nil_of_le hge]; rfl
      obtain ⟨g1, g2⟩ := hno hfail
      refine Fin.out hR ⟨g1, ?_⟩
      rw [← g2]; rfl
  · have : k = 10 := by omega
    subst this
    (refine run ?_; repeat' (first | with_reducible exact trivial | ((with_reducible apply Fork.mk) <;> intro hb) | with_reducible apply Two.mk))
    obtain ⟨g1, g2⟩ := hno (h10 rfl)
    refine Fin.out hR ⟨g1, ?_⟩
    rw [← g2]; rfl

theorem rtext_ok (G : Gl) (hG : GClosed G) (q : RS) (rb : Nat) (H : List Blk) (hr : H[rb]? = some (rsC q)) :
    ACall Tryz.prog G 83 [.ptr rb 0 0 0] H (fun r H' => H' = H.set rb (rsC q.text.2) ∧ r = .str q.text.1) := by
  have hrl := (List.getElem?_eq_some_iff.1 hr).1
  have c1 := rnum_ok G hG q rb H hr
  have hgs := get_set_self' hrl
  have e1 : q.text = if q.num.1 < 0 ∨ (q.num.2.s.length : Int) < q.num.1 then ([], ⟨q.num.2.s, true⟩) else (q.num.2.s.take q.num.1.toNat, ⟨q.num.2.s.drop q.num.1.toNat, q.num.2.bad⟩) := rfl
  generalize q.text = R at *
  generalize q.num = p at *
  obtain ⟨n, ⟨s, bad⟩⟩ := p
  simp only [rsC] at c1 e1
  refine ACall.of_go TB [] tabOK _ Tryz.func83 rfl (by decide) Tryz.ntmps83 (by simp) rfl (by simp only [initEnv, Nat.reduceAdd]; rfl) fun C R' hR hC hcl hB => ?_; have X := noX; have hC' := congrArg List.length hC
  by_cases hn : n < 0 ∨ (s.length : Int) < n
  · rw [if_pos hn] at e1
    subst e1
    have hb0 : (decide (n < 0) || decide ((s.length : Int) < n)) = true := by simpa using hn
    have X := And.intro X (And.intro hgs hb0)
    (refine run ?_; repeat' (first | with_reducible exact trivial | ((with_reducible apply Fork.mk) <;> intro hb) | with_reducible apply Two.mk))
    · exact Fin.out hR ⟨rfl, rfl⟩
    all_goals simp_all
  · rw [if_neg hn] at e1
    subst e1
    have hb0 : (decide (n < 0) || decide ((s.length : Int) < n)) = false := by simpa using hn
    have hle : n.toNat ≤ s.length := by omega
    have hn0 : 0 ≤ n := by omega
    have hn1 : n ≤ s.length := by omega
    have a7 : (s.drop n.toNat).take (s.length - n.toNat) = s.drop n.toNat := List.take_of_length_le (by simp)
    have X := And.intro X (And.intro hgs (And.intro hb0 (And.intro a7 (And.intro (Nat.sub_zero n.toNat) hle))))
    (refine run ?_; repeat' (first | with_reducible exact trivial | ((with_reducible apply Fork.mk) <;> intro hb) | with_reducible apply Two.mk))
    all_goals first | exact Fin.out hR ⟨rfl, rfl⟩ | skip
theorem rtruth_ok (G : Gl) (hG : GClosed G) (q : RS) (rb : Nat) (H : List Blk) (hr : H[rb]? = some (rsC q)) :
    ACall Tryz.prog G 86 [.ptr rb 0 0 0] H (fun r H' => H' = H.set rb (rsC q.truth.2) ∧ r = .bool q.truth.1) := by
  have hrl := (List.getElem?_eq_some_iff.1 hr).1
  have c1 := rnum_ok G hG q rb H hr
  have hgs := get_set_self' hrl
  have e1 : q.truth = (decide (q.num.1 = 1), ⟨q.num.2.s, q.num.2.bad || (decide (q.num.1 ≠ 0) && decide (q.num.1 ≠ 1))⟩) := rfl
  generalize q.truth = R at *
  generalize q.num = p at *
  obtain ⟨n, ⟨s, bad⟩⟩ := p
  simp only [rsC] at c1 e1
  refine ACall.of_go TB [] tabOK _ Tryz.func86 rfl (by decide) Tryz.ntmps86 (by simp) rfl (by simp only [initEnv, Nat.reduceAdd]; rfl) fun C R' hR hC hcl hB => ?_; have X := noX; have hC' := congrArg List.length hC
  have X := And.intro X hgs
  (refine run ?_; repeat' (first | with_reducible exact trivial | ((with_reducible apply Fork.mk) <;> intro hb) | with_reducible apply Two.mk))
  · refine Fin.out hR ⟨?_, ?_⟩
    · rw [e1]; simp only [ne_eq, rsC, hb, Bool.or_true]
    · rw [e1]; rfl
  · refine Fin.out hR ⟨?_, ?_⟩
    · rw [e1]; simp only [ne_eq, rsC, hb, Bool.or_false]
    · rw [e1]; rfl
end Go.Proofs.YthgdcjenoiojeaaGreatDoor
end

section
namespace Go.Proofs.YthgdcjenoiojeaaGreatDoor
open Go
set_option linter.unusedSimpArgs false
set_option linter.unusedVariables false
set_option maxRecDepth 10000
set_option maxHeartbeats 4000000

/-- one of a list after the other, by a function value that takes one up -/
theorem each_ok {α : Type} (G : Gl) (hG : GClosed G) (f : RS → α × RS) (hmono : ∀ q, (f q).2.s.length ≤ q.s.length) (rb : Nat) (fn : SV) (M : RS → List α → List Blk) (hM : ∀ q l, (M q l)[rb]? = some (rsC q)) (hS : ∀ q q' l, (M q l).set rb (rsC q') = M q' l)
    (hf : ∀ q l, q.s.length < 4294967296 → l.length < 4294967296 → ACallV Tryz.prog G fn [] (M q l) (fun r H' => H' = M (f q).2 (l ++ [(f q).1]) ∧ r = .tuple [])) (q : RS) (hq : q.s.length < 4294967296) :
    ACall Tryz.prog G 81 [.ptr rb 0 0 0, fn] (M q []) (fun r H' => H' = M (q.each f).2 (q.each f).1 ∧ r = .tuple []) := by
  have c1 := rnum_ok G hG q rb (M q []) (hM q [])
  rw [hS] at c1
  have hlen := q.num_len
  have e1 : q.each f = if q.num.1 < 0 ∨ (q.num.2.s.length : Int) < q.num.1 then ([], ⟨q.num.2.s, true⟩) else eachN f q.num.1.toNat q.num.2 := rfl
  generalize q.each f = R at *
  generalize q.num = p at *
  obtain ⟨n, q1⟩ := p
  simp only at c1 e1 hlen
  have hr1 := hM q1 []
  have hst : ∀ x, (M q1 []).set rb x = (M q1 []).set rb x := fun _ => rfl
  refine ACall.of_go TB [] tabOK _ Tryz.func81 rfl (by decide) Tryz.ntmps81 (by simp) rfl (by simp only [initEnv, Nat.reduceAdd]; rfl) fun C R' hR hC hcl hB => ?_; have X := noX; have hC' := congrArg List.length hC
  by_cases hn : n < 0 ∨ (q1.s.length : Int) < n
  · rw [if_pos hn] at e1
    subst e1
    have hb0 : (decide (n < 0) || decide ((q1.s.length : Int) < n)) = true := by simpa using hn
    have hs1 := hS q1 ⟨q1.s, true⟩ []
    simp only [rsC] at hr1 hs1
    have X := And.intro X (And.intro hr1 hb0)
    (refine run ?_; repeat' (first | with_reducible exact trivial | ((with_reducible apply Fork.mk) <;> intro hb) | with_reducible apply Two.mk))
    · exact Fin.out hR ⟨hs1, rfl⟩
    all_goals simp_all
  · rw [if_neg hn] at e1
    have hb0 : (decide (n < 0) || decide ((q1.s.length : Int) < n)) = false := by simpa using hn
    have hr1' := hr1
    simp only [rsC] at hr1'
    have X := And.intro X (And.intro hr1' hb0)
    (refine run ?_; repeat' (first | with_reducible exact trivial | ((with_reducible apply Fork.mk) <;> intro hb) | with_reducible apply Two.mk))
    clear X
    obtain ⟨N, hN⟩ : ∃ N : Nat, n = N := ⟨n.toNat, by omega⟩
    subst hN
    rw [Int.toNat_natCast] at e1
    refine go_loop (fun a : Nat × RS × List α => [(0, .ptr rb 0 0 0), (1, fn), (21, .int .i64 N), (22, .int .i64 a.1)]) (fun a => M a.2.1 a.2.2) (fun a => N - a.1) (fun a => a.1 ≤ N ∧ a.2.1.s.length < 4294967296 ∧ a.2.2.length = a.1 ∧ R = (a.2.2 ++ (eachN f (N - a.1) a.2.1).1, (eachN f (N - a.1) a.2.1).2)) (0, q1, []) ⟨Nat.zero_le _, by show q1.s.length < _; omega, rfl, by rw [e1]; rfl⟩ (Wk.sub (by simp [subEnv, look])) ?_
    rintro K ⟨k, q2, l⟩ ⟨hk, hq2, hl, hR2⟩ hK
    simp only at hk hq2 hl hR2
    dsimp only
    rcases Nat.lt_or_ge k N with hlt | hge
    · obtain ⟨m, hm⟩ : ∃ m, N - k = m + 1 := ⟨N - k - 1, by omega⟩
      rw [hm] at hR2
      have hr2 := hM q2 l
      simp only [rsC] at hr2
      by_cases hbad : q2.bad = true
      · have X := And.intro noX (And.intro hr2 hbad)
        (refine run ?_; repeat' (first | with_reducible exact trivial | ((with_reducible apply Fork.mk) <;> intro hb) | with_reducible apply Two.mk))
        rw [eachN, if_pos hbad, List.append_nil] at hR2
        exact Fin.out hR ⟨by rw [hR2], rfl⟩
      · rw [eachN, if_neg hbad] at hR2
        have hbad : q2.bad = false := by simpa using hbad
        have X := And.intro noX (And.intro hr2 hbad)
        (refine run ?_; repeat' (first | with_reducible exact trivial | ((with_reducible apply Fork.mk) <;> intro hb) | with_reducible apply Two.mk))
        refine callV (hf q2 l hq2 (by omega)) ?_
        rintro r H' ⟨rfl, rfl⟩
        (refine run ?_; repeat' (first | with_reducible exact trivial | ((with_reducible apply Fork.mk) <;> intro hb) | with_reducible apply Two.mk))
        have := hmono q2
        refine hK _ _ (k + 1, (f q2).2, l ++ [(f q2).1]) (show N - (k + 1) < N - k by omega) ⟨show k + 1 ≤ N by omega, show (f q2).2.s.length < _ by omega, by simp [hl], ?_⟩ (Wk.sub (by simp [subEnv, look]))
        simp only
        rw [hR2, show N - (k + 1) = m by omega, List.append_assoc]
        rfl
    · have : k = N := by omega
      subst this
      have X := And.intro noX (Int.lt_irrefl (k : Int))
      (refine run ?_; repeat' (first | with_reducible exact trivial | ((with_reducible apply Fork.mk) <;> intro hb) | with_reducible apply Two.mk))
      rw [Nat.sub_self] at hR2
      simp only [eachN, List.append_nil] at hR2
      exact Fin.out hR ⟨by rw [hR2], rfl⟩
end Go.Proofs.YthgdcjenoiojeaaGreatDoor
end

section
namespace Go.Proofs.YthgdcjenoiojeaaGreatDoor
open Go
set_option linter.unusedSimpArgs false
set_option linter.unusedVariables false
set_option maxRecDepth 10000
set_option maxHeartbeats 4000000

/-! ### what the bytes of an image are read as -/
def RS.ref (q : RS) : (Int × Int) × RS := ((q.num.1, q.num.2.num.1), q.num.2.num.2)
def RS.con (q : RS) : Con × RS :=
  (⟨q.text.1, q.text.2.num.1, q.text.2.num.2.num.1, q.text.2.num.2.num.2.num.1⟩, q.text.2.num.2.num.2.num.2)
def RS.five (q : RS) : RS := q.num.2.num.2.num.2.num.2.num.2
def RS.ins (q : RS) : Ins × RS :=
  (⟨q.num.1, q.num.2.num.1, q.num.2.num.2.num.1, q.num.2.num.2.num.2.num.1, q.num.2.num.2.num.2.num.2.num.1, (q.five.each RS.num).1⟩, (q.five.each RS.num).2)
def RS.head (q : RS) : RS := q.text.2.truth.2.truth.2.num.2.num.2.num.2
def RS.fn (q : RS) : Fun × RS :=
  (⟨q.text.1, q.text.2.truth.1, q.text.2.truth.2.truth.1, q.text.2.truth.2.truth.2.num.1, q.text.2.truth.2.truth.2.num.2.num.1, q.text.2.truth.2.truth.2.num.2.num.2.num.1, (q.head.each RS.ins).1⟩, (q.head.each RS.ins).2)
def RS.glb (q : RS) : Glb × RS := (⟨q.num.1, q.num.2.num.1, (q.num.2.num.2.each RS.ref).1⟩, (q.num.2.num.2.each RS.ref).2)
theorem RS.ref_len (q : RS) : q.ref.2.s.length ≤ q.s.length := Nat.le_trans (RS.num_len _) q.num_len
theorem RS.con_len (q : RS) : q.con.2.s.length ≤ q.s.length := Nat.le_trans (RS.num_len _) (Nat.le_trans (RS.num_len _) (Nat.le_trans (RS.num_len _) q.text_len))
theorem RS.five_len (q : RS) : q.five.s.length ≤ q.s.length := Nat.le_trans (RS.num_len _) (Nat.le_trans (RS.num_len _) (Nat.le_trans (RS.num_len _) (Nat.le_trans (RS.num_len _) q.num_len)))
theorem RS.ins_len (q : RS) : q.ins.2.s.length ≤ q.s.length := Nat.le_trans (RS.each_len RS.num_len _) q.five_len
theorem RS.head_len (q : RS) : q.head.s.length ≤ q.s.length := Nat.le_trans (RS.num_len _) (Nat.le_trans (RS.num_len _) (Nat.le_trans (RS.num_len _) (Nat.le_trans (RS.truth_len _) (Nat.le_trans (RS.truth_len _) q.text_len))))
theorem RS.fn_len (q : RS) : q.fn.2.s.length ≤ q.s.length := Nat.le_trans (RS.each_len RS.ins_len _) q.head_len
theorem RS.glb_len (q : RS) : q.glb.2.s.length ≤ q.s.length := Nat.le_trans (RS.each_len RS.ref_len _) (Nat.le_trans (RS.num_len _) q.num_len)

theorem eachN_mem {α : Type} {f : RS → α × RS} (hf : ∀ q, (f q).2.s.length ≤ q.s.length) : ∀ (n : Nat) (q : RS) (x : α), x ∈ (eachN f n q).1 → ∃ q', q'.s.length ≤ q.s.length ∧ x = (f q').1
  | 0, q, x, h => by cases h
  | n + 1, q, x, h => by
    unfold eachN at h
    split at h
    · cases h
    · rcases List.mem_cons.1 h with rfl | h
      · exact ⟨q, Nat.le_refl _, rfl⟩
      · obtain ⟨q', h1, h2⟩ := eachN_mem hf n _ x h
        exact ⟨q', Nat.le_trans h1 (hf q), h2⟩
theorem RS.each_mem {α : Type} {f : RS → α × RS} (hf : ∀ q, (f q).2.s.length ≤ q.s.length) (q : RS) (x : α) (h : x ∈ (q.each f).1) : ∃ q', q'.s.length ≤ q.s.length ∧ x = (f q').1 := by
  unfold RS.each at h
  split at h
  · cases h
  · obtain ⟨q', h1, h2⟩ := eachN_mem hf _ _ x h
    exact ⟨q', Nat.le_trans h1 q.num_len, h2⟩
theorem RS.ins_l (q : RS) : q.ins.1.l.length ≤ q.s.length := Nat.le_trans (RS.each_size _) q.five_len
theorem RS.fn_code (q : RS) : q.fn.1.code.length ≤ q.s.length ∧ ∀ i ∈ q.fn.1.code, i.l.length ≤ q.s.length :=
  ⟨Nat.le_trans (RS.each_size _) q.head_len, fun i hi => by
    obtain ⟨q', h1, h2⟩ := RS.each_mem RS.ins_len q.head i hi
    rw [h2]
    exact Nat.le_trans q'.ins_l (Nat.le_trans h1 q.head_len)⟩
theorem RS.glb_args (q : RS) : q.glb.1.args.length ≤ q.s.length := Nat.le_trans (RS.each_size _) (Nat.le_trans (RS.num_len _) q.num_len)
/-! ### blocks -/
theorem rsC_under (n : Nat) (q : RS) : (rsC q).under n = true := rfl
theorem closed_swap {H L L' : List Blk} (h : closed (H ++ L)) (hl : L'.length = L.length) (hu : ∀ b ∈ L', b.under (H.length + L.length) = true) : closed (H ++ L') := by
  intro B hB
  rw [List.length_append, hl]
  rcases List.mem_append.1 hB with h1 | h1
  · have := h B (List.mem_append_left _ h1)
    rwa [List.length_append] at this
  · exact hu B h1
theorem closed_mod {Q L L' : List Blk} {rb : Nat} {x : Blk} (q : RS) (hr : rb < Q.length) (h : closed (Q.set rb x ++ L)) (hl : L'.length = L.length) (hu : ∀ b ∈ L', b.under (Q.length + L.length) = true) : closed (Q.set rb (rsC q) ++ L') := by
  have h2 : closed (Q.set rb (rsC q) ++ L) := by
    have := closed.set h (id := rb) (b := rsC q) (rsC_under _ q)
    rw [List.set_append_left _ _ (by simpa using hr), List.set_set] at this
    exact this
  exact closed_swap h2 hl (by rw [List.length_set]; exact hu)
structure RdQ (Q : List Blk) (rb rv : Nat) : Prop where
  hr : rb < Q.length
  hv : Q[rv]? = some (.cells 0 1 [.ptr rb 0 0 0])
  ne : rb ≠ rv
theorem RdQ.app {Q : List Blk} {rb rv : Nat} (h : RdQ Q rb rv) (L : List Blk) : RdQ (Q ++ L) rb rv := ⟨by rw [List.length_append]; have := h.hr; omega, get_app_left h.hv, h.ne⟩
/-- what a walk reads in it -/
theorem RdQ.x {Q : List Blk} {rb rv : Nat} (h : RdQ Q rb rv) : (∀ y L, (Q.set rb y ++ L)[rv]? = some (.cells 0 1 [.ptr rb 0 0 0])) ∧ (∀ y L, (Q.set rb y ++ L)[rb]? = some y) ∧ (∀ y, (Q.set rb y).length = Q.length) :=
  ⟨fun y L => get_app_left (get_set_ne h.hv h.ne), fun y L => get_app_left (List.getElem?_set_self h.hr), fun y => List.length_set ..⟩
theorem RdQ.num {Q : List Blk} {rb rv : Nat} (h : RdQ Q rb rv) (G : Gl) (hG : GClosed G) (q : RS) (L : List Blk) : ACall Tryz.prog G 84 [.ptr rb 0 0 0] (Q.set rb (rsC q) ++ L) (fun r H' => H' = Q.set rb (rsC q.num.2) ++ L ∧ r = .int .i64 q.num.1) :=
  (rnum_ok G hG q rb _ (h.x.2.1 _ L)).mono fun r H' k => ⟨by rw [k.1, List.set_append_left _ _ (by rw [List.length_set]; exact h.hr), List.set_set], k.2⟩
theorem RdQ.text {Q : List Blk} {rb rv : Nat} (h : RdQ Q rb rv) (G : Gl) (hG : GClosed G) (q : RS) (L : List Blk) : ACall Tryz.prog G 83 [.ptr rb 0 0 0] (Q.set rb (rsC q) ++ L) (fun r H' => H' = Q.set rb (rsC q.text.2) ++ L ∧ r = .str q.text.1) :=
  (rtext_ok G hG q rb _ (h.x.2.1 _ L)).mono fun r H' k => ⟨by rw [k.1, List.set_append_left _ _ (by rw [List.length_set]; exact h.hr), List.set_set], k.2⟩
theorem RdQ.truth {Q : List Blk} {rb rv : Nat} (h : RdQ Q rb rv) (G : Gl) (hG : GClosed G) (q : RS) (L : List Blk) : ACall Tryz.prog G 86 [.ptr rb 0 0 0] (Q.set rb (rsC q) ++ L) (fun r H' => H' = Q.set rb (rsC q.truth.2) ++ L ∧ r = .bool q.truth.1) :=
  (rtruth_ok G hG q rb _ (h.x.2.1 _ L)).mono fun r H' k => ⟨by rw [k.1, List.set_append_left _ _ (by rw [List.length_set]; exact h.hr), List.set_set], k.2⟩
theorem get_at (Q L : List Blk) (rb : Nat) (x : Blk) (k : Nat) : (Q.set rb x ++ L)[Q.length + k]? = L[k]? := by
  rw [List.getElem?_append_right (by rw [List.length_set]; omega), List.length_set, Nat.add_sub_cancel_left]
theorem set_at (Q L : List Blk) (rb : Nat) (x y : Blk) (k : Nat) : (Q.set rb x ++ L).set (Q.length + k) y = Q.set rb x ++ L.set k y := by
  rw [List.set_append_right _ _ (by rw [List.length_set]; omega), List.length_set, Nat.add_sub_cancel_left]
theorem app22 {α : Type} (A : List α) (a b c d : α) : A ++ [a, b, c, d] = (A ++ [a, b]) ++ [c, d] := by simp
theorem app21 {α : Type} (A : List α) (a b c : α) : A ++ [a, b, c] = (A ++ [a, b]) ++ [c] := by simp
theorem app42 {α : Type} (A : List α) (a b c d e f : α) : A ++ [a, b, c, d, e, f] = (A ++ [a, b, c, d]) ++ [e, f] := by simp
theorem app41 {α : Type} (A : List α) (a b c d e : α) : A ++ [a, b, c, d, e] = (A ++ [a, b, c, d]) ++ [e] := by simp
theorem frzTail {H : List Blk} {n : Nat} {ks : Keep} {id g sz : Nat} {vals : List SV} (hb : H[id]? = some (.cells g sz vals)) (hn : n ≤ id) (hk : ∀ p ∈ ks, p.1 ≠ id) (hv : SV.underL n vals = true) :
    ∀ {pre : List SV}, SV.underL n pre = true → FrzL H n ks (pre ++ [.sl id g 0 vals.length]) (pre ++ [.list sz vals])
  | [], _ => .cons _ _ _ _ (.sl id g 0 vals.length sz vals vals hb hn hk (by rw [List.drop_zero, List.take_length]; exact FrzL.same hv)) .nil
  | x :: pre, h => by
    simp only [SV.underL, Bool.and_eq_true] at h
    exact .cons _ _ _ _ (.same _ h.1) (frzTail hb hn hk hv h.2)
theorem keepF {A : List Blk} {n : Nat} (hA : A.length = n) (sz s2 : Nat) (pre : List SV) {g len : Nat} {vals : List SV} (hlen : len = vals.length) (hv : SV.underL n vals = true) (hp : SV.underL n pre = true) :
    KeepB (A ++ [.cells 0 sz [.agg (pre ++ [.sl (n + 1) g 0 len])], .cells g s2 vals]) n [(n, 0)] [(n, 0)] [.cells 0 sz [.agg (pre ++ [.list s2 vals])]] := by
  subst hA hlen
  have hk : ∀ p ∈ [(A.length, 0)], p.1 ≠ A.length + 1 := fun p hp => by rw [List.mem_singleton.1 hp]; show A.length ≠ A.length + 1; omega
  have h1 := frzTail (H := A ++ [.cells 0 sz [.agg (pre ++ [.sl (A.length + 1) g 0 vals.length])], .cells g s2 vals]) (n := A.length) (ks := [(A.length, 0)]) (id := A.length + 1) (g := g) (sz := s2) (vals := vals) (by simp) (by omega) hk hv hp
  exact KeepB.cells A.length 0 0 sz [.agg (pre ++ [.sl (A.length + 1) g 0 vals.length])] _ _ _ (by simp) (Nat.le_refl _) (Nat.zero_le _) (.cons _ _ _ _ (.agg _ _ h1) .nil) .nil
def insB (o : Nat) (op a b c n : Int) (l : List Int) : List Blk := [.cells 0 6 [.agg [.int .i64 op, .int .i64 a, .int .i64 b, .int .i64 c, .int .i64 n, .sl (o + 1) l.length 0 l.length]], .cells l.length 1 (l.map (.int .i64))]
def glbB (o : Nat) (k n : Int) (l : List (Int × Int)) : List Blk := [.cells 0 3 [.agg [.int .i64 k, .int .i64 n, .sl (o + 1) l.length 0 l.length]], .cells l.length 2 (l.map encR)]
def funB (o : Nat) (name : Str) (t u : Bool) (a b c : Int) (l : List Ins) : List Blk := [.cells 0 7 [.agg [.str name, .bool t, .bool u, .int .i64 a, .int .i64 b, .int .i64 c, .sl (o + 1) l.length 0 l.length]], .cells l.length 6 (insL l)]
def imgB (o : Nat) (c : List Con) (f : List Fun) (g : List Glb) : List Blk := [.cells 0 4 [.agg [.sl (o + 1) c.length 0 c.length, .sl (o + 2) f.length 0 f.length, .sl (o + 3) g.length 0 g.length, .int .i64 0]], .cells c.length 4 (consL c), .cells f.length 7 (funsL f), .cells g.length 3 (glbsL g)]
end Go.Proofs.YthgdcjenoiojeaaGreatDoor
end

section
namespace Go.Proofs.YthgdcjenoiojeaaGreatDoor
open Go
set_option linter.unusedSimpArgs false
set_option linter.unusedVariables false
set_option maxRecDepth 10000
set_option maxHeartbeats 4000000

/-! ### what is laid is read, what is read is laid again -/
theorem p9 : (128 : Nat) ^ 9 * 2 = 18446744073709551616 := by decide
theorem rd_vb : ∀ (n u : Nat), u ≤ n → ∀ (k acc : Nat) (r : Str), k ≤ 9 → u * 128 ^ k < 18446744073709551616 → (k = 0 ∨ 0 < u) → rdN k acc (vb u ++ r) = some (acc + u * 128 ^ k, r) := by
  intro n
  induction n with
  | zero =>
    intro u hu k acc r hk hlt hp
    have : u = 0 := by omega
    subst this
    rw [vb_lt (by omega)]
    have : k = 0 := by omega
    subst this
    rfl
  | succ n ih =>
    intro u hu k acc r hk hlt hp
    by_cases h : u < 128
    · rw [vb_lt h]
      have hb : (UInt8.ofNat u).toNat = u := by simp; omega
      show rdN k acc (UInt8.ofNat u :: r) = _
      rw [rdN, hb, if_neg (by omega), if_neg (by omega), if_neg]
      rintro (⟨h1, h2⟩ | ⟨h1, h2⟩)
      · omega
      · subst h1
        have := p9
        have h3 := Nat.mul_le_mul_right (128 ^ 9) h2
        omega
    · rw [vb_ge h]
      have hm : u % 128 < 128 := Nat.mod_lt _ (by decide)
      have hb : (UInt8.ofNat (u % 128 + 128)).toNat = u % 128 + 128 := by simp; omega
      show rdN k acc (UInt8.ofNat (u % 128 + 128) :: (vb (u / 128) ++ r)) = _
      have hk8 : k ≤ 8 := by
        rcases Nat.lt_or_ge k 9 with h9 | h9
        · omega
        · have : k = 9 := by omega
          subst this
          have := p9
          have h3 := Nat.mul_le_mul_right (128 ^ 9) (show 128 ≤ u by omega)
          omega
      have hmul : u / 128 * 128 ^ (k + 1) = u / 128 * 128 * 128 ^ k := by rw [Nat.pow_succ, Nat.mul_comm (128 ^ k), Nat.mul_assoc]
      have hdm : u / 128 * 128 + u % 128 = u := by omega
      have hsum : u % 128 * 128 ^ k + u / 128 * 128 ^ (k + 1) = u * 128 ^ k := by
        rw [hmul, ← Nat.add_mul]; congr 1; omega
      rw [rdN, hb, if_neg (by omega), if_pos (by omega), Nat.add_sub_cancel, ih (u / 128) (by omega) (k + 1) _ r (by omega) (by omega) (.inr (by omega))]
      congr 2
      omega
theorem vb_rd : ∀ (s : Str) (k acc v : Nat) (r : Str), rdN k acc s = some (v, r) → ∃ u, v = acc + u * 128 ^ k ∧ s = vb u ++ r ∧ u * 128 ^ k < 18446744073709551616 ∧ (0 < k → 0 < u)
  | [], k, acc, v, r, h => by cases h
  | b :: s, k, acc, v, r, h => by
    unfold rdN at h
    have hb256 := b.toNat_lt
    split at h
    · cases h
    · rename_i hk
      split at h
      · rename_i hbig
        obtain ⟨u, h1, h2, h3, h4⟩ := vb_rd s (k + 1) _ v r h
        have hu := h4 (by omega)
        have hmul : u * 128 ^ (k + 1) = u * 128 * 128 ^ k := by rw [Nat.pow_succ, Nat.mul_comm (128 ^ k), Nat.mul_assoc]
        have e1 : (u * 128 + (b.toNat - 128)) / 128 = u := by omega
        have e2 : (u * 128 + (b.toNat - 128)) % 128 = b.toNat - 128 := by omega
        refine ⟨u * 128 + (b.toNat - 128), ?_, ?_, ?_, fun _ => by omega⟩
        · rw [h1, Nat.add_mul, hmul]; omega
        · rw [vb_ge (by omega), e1, e2, h2]
          have : UInt8.ofNat (b.toNat - 128 + 128) = b := by rw [Nat.sub_add_cancel (by omega)]; simp
          rw [this]; rfl
        · rcases Nat.lt_or_ge k 9 with h9 | h9
          · have h5 : (u * 128 + (b.toNat - 128)) * 128 ^ k ≤ u * 128 * 128 ^ k + 127 * 128 ^ k := by
              rw [Nat.add_mul]; have := Nat.mul_le_mul_right (128 ^ k) (show b.toNat - 128 ≤ 127 by omega); omega
            have h6 : u * 128 ^ (k + 1) + 128 ^ (k + 1) ≤ 18446744073709551616 := by
              have hd : 18446744073709551616 = (2 * 128 ^ (8 - k)) * 128 ^ (k + 1) := by
                rw [Nat.mul_assoc, ← Nat.pow_add, show 8 - k + (k + 1) = 9 by omega]
              rw [hd] at h3 ⊢
              have hpos : 0 < 128 ^ (k + 1) := Nat.pow_pos (by decide)
              have h7 : u < 2 * 128 ^ (8 - k) := Nat.lt_of_mul_lt_mul_right h3
              have := Nat.mul_le_mul_right (128 ^ (k + 1)) (show u + 1 ≤ 2 * 128 ^ (8 - k) by omega)
              rw [Nat.add_mul, Nat.one_mul] at this
              exact this
            have h8 : 128 ^ (k + 1) = 128 * 128 ^ k := by rw [Nat.pow_succ, Nat.mul_comm]
            have hpos : 0 < 128 ^ k := Nat.pow_pos (by decide)
            omega
          · exfalso
            have : k = 9 := by omega
            subst this
            cases s with
            | nil => cases h
            | cons x s => rw [rdN, if_pos (by omega)] at h; cases h
      · rename_i hsm
        split at h
        · cases h
        · rename_i hc
          simp only [not_or, not_and, Nat.not_lt] at hc
          cases h
          refine ⟨b.toNat, rfl, ?_, ?_, fun hk0 => ?_⟩
          · rw [vb_lt (by omega)]; simp
          · rcases Nat.lt_or_ge k 9 with h9 | h9
            · have h1 := Nat.mul_le_mul_right (128 ^ k) (show b.toNat ≤ 127 by omega)
              have h2 := Nat.pow_le_pow_right (n := 128) (by decide) (show k + 1 ≤ 9 by omega)
              have h3 : 128 ^ (k + 1) = 128 * 128 ^ k := by rw [Nat.pow_succ, Nat.mul_comm]
              have := p9
              omega
            · have : k = 9 := by omega
              subst this
              have h1 := Nat.mul_le_mul_right (128 ^ 9) (hc.2 rfl)
              have e9 : 128 ^ 9 = 9223372036854775808 := by decide
              rw [e9] at h1 ⊢; omega
          · have := hc.1; omega
theorem unz_zz {n : Int} : unz (zz n) = n := by unfold unz zz; split <;> split <;> omega
theorem zz_unz {u : Nat} : zz (unz u) = u := by unfold unz zz; split <;> split <;> omega
theorem unz_isI {u : Nat} (h : u < 18446744073709551616) : isI (unz u) := by unfold unz isI; split <;> omega

structure Codec {α : Type} (f : RS → α × RS) (pr : α → Str) (ok : α → Prop) : Prop where
  enc : ∀ x r, ok x → f ⟨pr x ++ r, false⟩ = (x, ⟨r, false⟩)
  dec : ∀ q, (f q).2.bad = false → q.bad = false ∧ q.s = pr (f q).1 ++ (f q).2.s ∧ ok (f q).1
  pos : ∀ x, 1 ≤ (pr x).length
theorem cNum : Codec RS.num numS isI := by
  refine ⟨fun x r h => ?_, fun q h => ?_, numS_pos⟩
  · unfold RS.num
    have := rd_vb _ (zz x) (Nat.le_refl _) 0 0 r (by omega) (by simpa using zz_lt h) (.inl rfl)
    simp only [numS, this, Nat.pow_zero, Nat.mul_one, Nat.zero_add, unz_zz]
  · unfold RS.num at h ⊢
    cases hr : rdN 0 0 q.s with
    | none => rw [hr] at h; cases h
    | some p =>
      obtain ⟨v, r⟩ := p
      rw [hr] at h
      obtain ⟨u, h1, h2, h3, _⟩ := vb_rd _ _ _ _ _ hr
      simp only [Nat.pow_zero, Nat.mul_one, Nat.zero_add] at h1 h3
      subst h1
      exact ⟨h, by simp only [numS, zz_unz]; exact h2, unz_isI h3⟩
theorem cText : Codec RS.text txtS (fun s => isI (s.length : Int)) := by
  refine ⟨fun x r h => ?_, fun q h => ?_, fun x => by unfold txtS; rw [List.length_append]; have := numS_pos (x.length : Int); omega⟩
  · have := cNum.enc (x.length : Int) (x ++ r) h
    unfold RS.text txtS
    rw [List.append_assoc, this]
    simp only
    rw [if_neg (by rw [List.length_append]; omega)]
    simp
  · unfold RS.text at h ⊢
    split at h
    · cases h
    · rename_i hc
      rw [if_neg hc]
      obtain ⟨h1, h2, h3⟩ := cNum.dec q h
      have hl : ((q.num.2.s.take q.num.1.toNat).length : Int) = q.num.1 := by rw [List.length_take]; omega
      refine ⟨h1, ?_, by simp only [hl]; exact h3⟩
      simp only [txtS, hl]
      rw [List.append_assoc, List.take_append_drop]; exact h2
theorem cTruth : Codec RS.truth truS (fun _ => True) := by
  refine ⟨fun x r _ => ?_, fun q h => ?_, fun x => numS_pos _⟩
  · have := cNum.enc (if x then 1 else 0) r (by cases x <;> (constructor <;> decide))
    unfold RS.truth truS
    rw [this]
    cases x <;> simp
  · unfold RS.truth at h ⊢
    simp only [Bool.or_eq_false_iff] at h
    obtain ⟨h1, h2, h3⟩ := cNum.dec q h.1
    refine ⟨h1, ?_, trivial⟩
    have : q.num.1 = if decide (q.num.1 = 1) then 1 else 0 := by
      have := h.2
      simp only [ne_eq, Bool.and_eq_false_iff, decide_eq_false_iff_not, Decidable.not_not] at this
      rcases this with e | e <;> simp [e]
    unfold truS
    rw [← this]; exact h2
theorem cEachN {α : Type} {f : RS → α × RS} {pr : α → Str} {ok : α → Prop} (c : Codec f pr ok) : (∀ (l : List α) (r : Str), (∀ x ∈ l, ok x) → eachN f l.length ⟨l.flatMap pr ++ r, false⟩ = (l, ⟨r, false⟩)) ∧
    (∀ (n : Nat) (q : RS), (eachN f n q).2.bad = false → q.bad = false ∧ q.s = (eachN f n q).1.flatMap pr ++ (eachN f n q).2.s ∧ (eachN f n q).1.length = n ∧ ∀ x ∈ (eachN f n q).1, ok x) := by
  constructor
  · intro l
    induction l with
    | nil => intro r _; rfl
    | cons x l ih =>
      intro r h
      rw [List.length_cons, eachN, if_neg (by simp), List.flatMap_cons, List.append_assoc, c.enc x _ (h x (List.mem_cons_self ..))]
      simp only
      rw [ih r fun y hy => h y (List.mem_cons_of_mem _ hy)]
  · intro n
    induction n with
    | zero => intro q h; exact ⟨h, by simp [eachN], rfl, by simp [eachN]⟩
    | succ n ih =>
      intro q h
      rw [eachN] at h ⊢
      by_cases hb : q.bad = true
      · rw [if_pos hb] at h; rw [hb] at h; cases h
      · rw [if_neg hb] at h ⊢
        obtain ⟨h1, h2, h3, h4⟩ := ih _ h
        obtain ⟨h5, h6, h7⟩ := c.dec q h1
        refine ⟨h5, ?_, by simp only [List.length_cons, h3], fun x hx => ?_⟩
        · rw [h6, h2, List.flatMap_cons, List.append_assoc]
        · rcases List.mem_cons.1 hx with rfl | hx
          · exact h7
          · exact h4 x hx
def lstS {α : Type} (pr : α → Str) (l : List α) : Str := numS l.length ++ l.flatMap pr
theorem cEach {α : Type} {f : RS → α × RS} {pr : α → Str} {ok : α → Prop} (c : Codec f pr ok) : (∀ (l : List α) (r : Str), isI (l.length : Int) → (∀ x ∈ l, ok x) → RS.each f ⟨lstS pr l ++ r, false⟩ = (l, ⟨r, false⟩)) ∧
    (∀ q : RS, (q.each f).2.bad = false → q.bad = false ∧ q.s = lstS pr (q.each f).1 ++ (q.each f).2.s ∧ isI ((q.each f).1.length : Int) ∧ ∀ x ∈ (q.each f).1, ok x) := by
  have hfl : ∀ l : List α, l.length ≤ (l.flatMap pr).length := by
    intro l
    induction l with
    | nil => simp
    | cons x l ih => rw [List.flatMap_cons, List.length_append, List.length_cons]; have := c.pos x; omega
  constructor
  · intro l r hl h
    have h0 := cNum.enc (l.length : Int) (l.flatMap pr ++ r) hl
    unfold RS.each lstS
    rw [List.append_assoc, h0]
    simp only
    rw [if_neg (by rw [List.length_append]; have := hfl l; omega), Int.toNat_natCast]
    exact (cEachN c).1 l r h
  · intro q h
    unfold RS.each at h ⊢
    split at h
    · cases h
    · rename_i hc
      rw [if_neg hc]
      obtain ⟨h1, h2, h3, h4⟩ := (cEachN c).2 _ _ h
      obtain ⟨h5, h6, h7⟩ := cNum.dec q h1
      have hl : ((eachN f q.num.1.toNat q.num.2).1.length : Int) = q.num.1 := by rw [h3]; omega
      refine ⟨h5, ?_, by rw [hl]; exact h7, h4⟩
      rw [lstS, hl, List.append_assoc, ← h2]; exact h6
end Go.Proofs.YthgdcjenoiojeaaGreatDoor
end

section
namespace Go.Proofs.YthgdcjenoiojeaaGreatDoor
open Go
set_option linter.unusedSimpArgs false
set_option linter.unusedVariables false
set_option maxRecDepth 10000
set_option maxHeartbeats 4000000

theorem clInt_ok (G : Gl) (hG : GClosed G) (Q : List Blk) (rb rv : Nat) (hQ : RdQ Q rb rv) (op a b c n : Int) (q : RS) (l : List Int) (hl : l.length < 4294967296) :
    ACall Tryz.prog G 88 [.ptr Q.length 0 0 0, .ptr rv 0 0 0] (Q.set rb (rsC q) ++ insB Q.length op a b c n l) (fun r H' => H' = Q.set rb (rsC q.num.2) ++ insB Q.length op a b c n (l ++ [q.num.1]) ∧ r = .tuple []) := by
  obtain ⟨x1, x2, x3⟩ := hQ.x
  have c1 := fun q L => hQ.num G hG q L
  have hr := hQ.hr
  have hml : (l.map (SV.int .i64)).length = l.length := by simp
  simp only [insB]
  refine ACall.of_go TB [] tabOK _ Tryz.func88 rfl (by decide) Tryz.ntmps88 (by simp) rfl (by simp only [initEnv, Nat.reduceAdd]; rfl) fun C R' hR hC hcl hB => ?_; have X := noX; have hC' := congrArg List.length hC
  have X := And.intro X (And.intro x1 (And.intro x2 (And.intro x3 hml)))
  (refine run ?_; repeat' (first | with_reducible exact trivial | ((with_reducible apply Fork.mk) <;> intro hb) | with_reducible apply Two.mk))
  exact Fin.out hR ⟨by simp [insB], rfl⟩
theorem clRef_ok (G : Gl) (hG : GClosed G) (Q : List Blk) (rb rv : Nat) (hQ : RdQ Q rb rv) (k n : Int) (q : RS) (l : List (Int × Int)) (hl : l.length < 4294967296) :
    ACall Tryz.prog G 90 [.ptr Q.length 0 0 0, .ptr rv 0 0 0] (Q.set rb (rsC q) ++ glbB Q.length k n l) (fun r H' => H' = Q.set rb (rsC q.ref.2) ++ glbB Q.length k n (l ++ [q.ref.1]) ∧ r = .tuple []) := by
  obtain ⟨x1, x2, x3⟩ := hQ.x
  have c1 := fun q L => hQ.num G hG q L
  have hr := hQ.hr
  have hml : (l.map encR).length = l.length := by simp
  simp only [glbB]
  refine ACall.of_go TB [] tabOK _ Tryz.func90 rfl (by decide) Tryz.ntmps90 (by simp) rfl (by simp only [initEnv, Nat.reduceAdd]; rfl) fun C R' hR hC hcl hB => ?_; have X := noX; have hC' := congrArg List.length hC
  have X := And.intro X (And.intro x1 (And.intro x2 (And.intro x3 hml)))
  (refine run ?_; repeat' (first | with_reducible exact trivial | ((with_reducible apply Fork.mk) <;> intro hb) | with_reducible apply Two.mk))
  exact Fin.out hR ⟨by simp [RS.ref, encR], rfl⟩
theorem clCon_ok (G : Gl) (hG : GClosed G) (Q : List Blk) (rb rv : Nat) (hQ : RdQ Q rb rv) (f : List Fun) (g : List Glb) (q : RS) (l : List Con) (hl : l.length < 4294967296) :
    ACall Tryz.prog G 82 [.ptr Q.length 0 0 0, .ptr rv 0 0 0] (Q.set rb (rsC q) ++ imgB Q.length l f g) (fun r H' => H' = Q.set rb (rsC q.con.2) ++ imgB Q.length (l ++ [q.con.1]) f g ∧ r = .tuple []) := by
  obtain ⟨x1, x2, x3⟩ := hQ.x
  have c1 := fun q L => hQ.num G hG q L
  have c2 := fun q L => hQ.text G hG q L
  have hr := hQ.hr
  have hml := consL_len l
  simp only [imgB]
  refine ACall.of_go TB [] tabOK _ Tryz.func82 rfl (by decide) Tryz.ntmps82 (by simp) rfl (by simp only [initEnv, Nat.reduceAdd]; rfl) fun C R' hR hC hcl hB => ?_; have X := noX; have hC' := congrArg List.length hC
  have X := And.intro X (And.intro x1 (And.intro x2 (And.intro x3 hml)))
  (refine run ?_; repeat' (first | with_reducible exact trivial | ((with_reducible apply Fork.mk) <;> intro hb) | with_reducible apply Two.mk))
  exact Fin.out hR ⟨by simp [RS.con, consL, Con.cells], rfl⟩
end Go.Proofs.YthgdcjenoiojeaaGreatDoor
end

section
namespace Go.Proofs.YthgdcjenoiojeaaGreatDoor
open Go
set_option linter.unusedSimpArgs false
set_option linter.unusedVariables false
set_option maxRecDepth 10000
set_option maxHeartbeats 4000000

theorem clIns_ok (G : Gl) (hG : GClosed G) (Q : List Blk) (rb rv : Nat) (hQ : RdQ Q rb rv) (name : Str) (t u : Bool) (a b c : Int) (q : RS) (hq : q.s.length < 4294967296) (l : List Ins) (hl : l.length < 4294967296) :
    ACall Tryz.prog G 87 [.ptr rv 0 0 0, .ptr Q.length 0 0 0] (Q.set rb (rsC q) ++ funB Q.length name t u a b c l) (fun r H' => H' = Q.set rb (rsC q.ins.2) ++ funB Q.length name t u a b c (l ++ [q.ins.1]) ∧ r = .tuple []) := by
  obtain ⟨x1, x2, x3⟩ := hQ.x
  have c1 := fun q L => hQ.num G hG q L
  have hr := hQ.hr
  have hml := insL_len l
  have hrv := (List.getElem?_eq_some_iff.1 hQ.hv).1
  have hQ2 := hQ.app (funB Q.length name t u a b c l)
  have hl5 := q.five_len
  have hins : q.ins = (⟨q.num.1, q.num.2.num.1, q.num.2.num.2.num.1, q.num.2.num.2.num.2.num.1, q.num.2.num.2.num.2.num.2.num.1, (q.five.each RS.num).1⟩, (q.five.each RS.num).2) := rfl
  have h5 : q.num.2.num.2.num.2.num.2.num.2 = q.five := rfl
  have he := each_ok G hG RS.num RS.num_len rb (.fn (.func 88) [] [.ptr (Q.length + 2) 0 0 0, .ptr rv 0 0 0]) (fun q' l' => Q.set rb (rsC q') ++ (funB Q.length name t u a b c l ++ insB (Q.length + 2) q.num.1 q.num.2.num.1 q.num.2.num.2.num.1 q.num.2.num.2.num.2.num.1 q.num.2.num.2.num.2.num.2.num.1 l'))
    (fun q' l' => x2 _ _) (fun q' q'' l' => by rw [List.set_append_left _ _ (by rw [x3]; exact hr), List.set_set]) (fun q' l' _ hl' => ACallV.of (by
      have := clInt_ok G hG _ rb rv hQ2 q.num.1 q.num.2.num.1 q.num.2.num.2.num.1 q.num.2.num.2.num.2.num.1 q.num.2.num.2.num.2.num.2.num.1 q' l' hl'
      have e : (Q ++ funB Q.length name t u a b c l).length = Q.length + 2 := by simp [funB]
      rw [e] at this
      simp only [List.set_append_left _ _ hr, List.append_assoc] at this
      exact this)) q.five (by omega)
  simp only [funB, insB, List.length_nil, List.map_nil, List.cons_append, List.nil_append] at he ⊢
  refine ACall.of_go TB [] tabOK _ Tryz.func87 rfl (by decide) Tryz.ntmps87 (by simp) rfl (by simp only [initEnv, Nat.reduceAdd]; rfl) fun C R' hR hC hcl hB => ?_; have X := noX; have hC' := congrArg List.length hC
  have X := And.intro X (And.intro x1 (And.intro x2 (And.intro x3 hml)))
  refine go_seq ?_
  refine go_cut (fun _ : Unit => [(0, .ptr rv 0 0 0), (1, .ptr Q.length 0 0 0), (2, .ptr (Q.length + 2) 0 0 0)]) (fun _ => Q.set rb (rsC q.five) ++ [.cells 0 7 [.agg [.str name, .bool t, .bool u, .int .i64 a, .int .i64 b, .int .i64 c, .sl (Q.length + 1) l.length 0 l.length]], .cells l.length 6 (insL l), .cells 0 6 [.agg [.int .i64 q.num.1, .int .i64 q.num.2.num.1, .int .i64 q.num.2.num.2.num.1, .int .i64 q.num.2.num.2.num.2.num.1, .int .i64 q.num.2.num.2.num.2.num.2.num.1, .sl (Q.length + 2 + 1) 0 0 0]], .cells 0 1 []]) (fun _ => True) (fun K hK => ?_) (fun _ _ => ?_)
  · (refine run ?_; repeat' (first | with_reducible exact trivial | ((with_reducible apply Fork.mk) <;> intro hb) | with_reducible apply Two.mk))
    all_goals
      rw [h5]
      refine hK _ _ () trivial ?_
      exact wk_ghostE (id := Q.length + 2) (i := 0) (j := 5) 1 ((get_at ..).trans rfl) rfl rfl (by rw [set_at]; simp [x3]) (by simp [subEnv, look])
  · have hC2 : C.H.length = Q.length + 2 := by rw [hC']; simp
    have hcl2 : ∀ (q' : RS) (l' : List SV) (g n : Nat), SV.underL (Q.length + 2) l' = true → closed (Q.set rb (rsC q') ++ [.cells 0 7 [.agg [.str name, .bool t, .bool u, .int .i64 a, .int .i64 b, .int .i64 c, .sl (Q.length + 1) g 0 n]], .cells g 6 l']) := fun q' l' g n h =>
      closed_mod q' hr hcl rfl (by simp [Blk.under, SV.under, SV.underL, h])
    have hl2 : ∀ y : Blk, (Q.set rb y).length + 1 + 1 = Q.length + 2 := fun y => by rw [x3]
    refine go_seq ?_
    refine go_cut (fun _ : Unit => [(0, .ptr rv 0 0 0), (1, .ptr Q.length 0 0 0), (2, .ptr (Q.length + 2) 0 0 0)]) (fun _ => Q.set rb (rsC q.ins.2) ++ [.cells 0 7 [.agg [.str name, .bool t, .bool u, .int .i64 a, .int .i64 b, .int .i64 c, .sl (Q.length + 1) l.length 0 l.length]], .cells l.length 6 (insL l), .cells 0 6 [.agg q.ins.1.cells]]) (fun _ => True) (fun K hK => ?_) (fun _ _ => ?_)
    · (refine run ?_; repeat' (first | with_reducible exact trivial | ((with_reducible apply Fork.mk) <;> intro hb) | with_reducible apply Two.mk))
      refine callS he ?_
      rintro r H' ⟨rfl, rfl⟩
      (refine run ?_; repeat' (first | with_reducible exact trivial | ((with_reducible apply Fork.mk) <;> intro hb) | with_reducible apply Two.mk))
      refine hK _ _ () trivial ?_
      rw [hins]
      simp only [Ins.cells]
      rw [app22, app21]
      exact wkS (n0 := Q.length + 2) [(Q.length + 2, 0)] hG hB hC2 (hcl2 _ _ _ _ (insL_under _ _)) (hn := by simp [x3]) (hk := keepF (by simp [x3]) 6 1 [.int .i64 q.num.1, .int .i64 q.num.2.num.1, .int .i64 q.num.2.num.2.num.1, .int .i64 q.num.2.num.2.num.2.num.1, .int .i64 q.num.2.num.2.num.2.num.2.num.1] (by simp) (ints_under _ _) rfl)
    · rw [hins]
      simp only [Ins.cells]
      (refine run ?_; repeat' (first | with_reducible exact trivial | ((with_reducible apply Fork.mk) <;> intro hb) | with_reducible apply Two.mk))
      rw [app21]
      refine finS (n0 := Q.length + 2) hR hC2 (hcl2 _ _ _ _ ?_) (.same _ rfl) ⟨?_, rfl⟩ (hn := by simp [x3])
      · simp only [SV.underL_append, insL_under, SV.underL, SV.under, ints_under, Bool.and_self]
      · rw [hins]; simp [insL, Ins.cells]

theorem clGlb_ok (G : Gl) (hG : GClosed G) (Q : List Blk) (rb rv : Nat) (hQ : RdQ Q rb rv) (cs : List Con) (fs : List Fun) (q : RS) (hq : q.s.length < 4294967296) (gs : List Glb) (hl : gs.length < 4294967296) :
    ACall Tryz.prog G 89 [.ptr rv 0 0 0, .ptr Q.length 0 0 0] (Q.set rb (rsC q) ++ imgB Q.length cs fs gs) (fun r H' => H' = Q.set rb (rsC q.glb.2) ++ imgB Q.length cs fs (gs ++ [q.glb.1]) ∧ r = .tuple []) := by
  obtain ⟨x1, x2, x3⟩ := hQ.x
  have c1 := fun q L => hQ.num G hG q L
  have hr := hQ.hr
  have hml := glbsL_len gs
  have hrv := (List.getElem?_eq_some_iff.1 hQ.hv).1
  have hQ2 := hQ.app (imgB Q.length cs fs gs)
  have hl5 : q.num.2.num.2.s.length ≤ q.s.length := Nat.le_trans (RS.num_len _) q.num_len
  have hglb : q.glb = (⟨q.num.1, q.num.2.num.1, (q.num.2.num.2.each RS.ref).1⟩, (q.num.2.num.2.each RS.ref).2) := rfl
  have he := each_ok G hG RS.ref RS.ref_len rb (.fn (.func 90) [] [.ptr (Q.length + 4) 0 0 0, .ptr rv 0 0 0]) (fun q' l' => Q.set rb (rsC q') ++ (imgB Q.length cs fs gs ++ glbB (Q.length + 4) q.num.1 q.num.2.num.1 l'))
    (fun q' l' => x2 _ _) (fun q' q'' l' => by rw [List.set_append_left _ _ (by rw [x3]; exact hr), List.set_set]) (fun q' l' _ hl' => ACallV.of (by
      have := clRef_ok G hG _ rb rv hQ2 q.num.1 q.num.2.num.1 q' l' hl'
      have e : (Q ++ imgB Q.length cs fs gs).length = Q.length + 4 := by simp [imgB]
      rw [e] at this
      simp only [List.set_append_left _ _ hr, List.append_assoc] at this
      exact this)) q.num.2.num.2 (by omega)
  simp only [imgB, glbB, List.length_nil, List.map_nil, List.cons_append, List.nil_append] at he ⊢
  refine ACall.of_go TB [] tabOK _ Tryz.func89 rfl (by decide) Tryz.ntmps89 (by simp) rfl (by simp only [initEnv, Nat.reduceAdd]; rfl) fun C R' hR hC hcl hB => ?_; have X := noX; have hC' := congrArg List.length hC
  have X := And.intro X (And.intro x1 (And.intro x2 (And.intro x3 hml)))
  refine go_seq ?_
  refine go_cut (fun _ : Unit => [(0, .ptr rv 0 0 0), (1, .ptr Q.length 0 0 0), (2, .ptr (Q.length + 4) 0 0 0)]) (fun _ => Q.set rb (rsC q.num.2.num.2) ++ [.cells 0 4 [.agg [.sl (Q.length + 1) cs.length 0 cs.length, .sl (Q.length + 2) fs.length 0 fs.length, .sl (Q.length + 3) gs.length 0 gs.length, .int .i64 0]], .cells cs.length 4 (consL cs), .cells fs.length 7 (funsL fs), .cells gs.length 3 (glbsL gs), .cells 0 3 [.agg [.int .i64 q.num.1, .int .i64 q.num.2.num.1, .sl (Q.length + 4 + 1) 0 0 0]], .cells 0 2 []]) (fun _ => True) (fun K hK => ?_) (fun _ _ => ?_)
  · (refine run ?_; repeat' (first | with_reducible exact trivial | ((with_reducible apply Fork.mk) <;> intro hb) | with_reducible apply Two.mk))
    all_goals
      refine hK _ _ () trivial ?_
      exact wk_ghostE (id := Q.length + 4) (i := 0) (j := 2) 2 ((get_at ..).trans rfl) rfl rfl (by rw [set_at]; simp [x3]) (by simp [subEnv, look])
  · have hC2 : C.H.length = Q.length + 4 := by rw [hC']; simp
    have hcl2 : ∀ (q' : RS) (l' : List SV) (g n : Nat), SV.underL (Q.length + 4) l' = true → closed (Q.set rb (rsC q') ++ [.cells 0 4 [.agg [.sl (Q.length + 1) cs.length 0 cs.length, .sl (Q.length + 2) fs.length 0 fs.length, .sl (Q.length + 3) g 0 n, .int .i64 0]], .cells cs.length 4 (consL cs), .cells fs.length 7 (funsL fs), .cells g 3 l']) := fun q' l' g n h =>
      closed_mod q' hr hcl rfl (by simp [Blk.under, SV.under, SV.underL, h, consL_under, funsL_under])
    refine go_seq ?_
    refine go_cut (fun _ : Unit => [(0, .ptr rv 0 0 0), (1, .ptr Q.length 0 0 0), (2, .ptr (Q.length + 4) 0 0 0)]) (fun _ => Q.set rb (rsC q.glb.2) ++ [.cells 0 4 [.agg [.sl (Q.length + 1) cs.length 0 cs.length, .sl (Q.length + 2) fs.length 0 fs.length, .sl (Q.length + 3) gs.length 0 gs.length, .int .i64 0]], .cells cs.length 4 (consL cs), .cells fs.length 7 (funsL fs), .cells gs.length 3 (glbsL gs), .cells 0 3 [.agg q.glb.1.cells]]) (fun _ => True) (fun K hK => ?_) (fun _ _ => ?_)
    · (refine run ?_; repeat' (first | with_reducible exact trivial | ((with_reducible apply Fork.mk) <;> intro hb) | with_reducible apply Two.mk))
      refine callS he ?_
      rintro r H' ⟨rfl, rfl⟩
      (refine run ?_; repeat' (first | with_reducible exact trivial | ((with_reducible apply Fork.mk) <;> intro hb) | with_reducible apply Two.mk))
      refine hK _ _ () trivial ?_
      rw [hglb]
      simp only [Glb.cells]
      rw [app42, app41]
      exact wkS (n0 := Q.length + 4) [(Q.length + 4, 0)] hG hB hC2 (hcl2 _ _ _ _ (glbsL_under _ _)) (hn := by simp [x3]) (hk := keepF (by simp [x3]) 3 2 [.int .i64 q.num.1, .int .i64 q.num.2.num.1] (by simp) (SV.underL_map fun _ _ => rfl) rfl)
    · rw [hglb]
      simp only [Glb.cells]
      (refine run ?_; repeat' (first | with_reducible exact trivial | ((with_reducible apply Fork.mk) <;> intro hb) | with_reducible apply Two.mk))
      rw [app41]
      refine finS (n0 := Q.length + 4) hR hC2 (hcl2 _ _ _ _ ?_) (.same _ rfl) ⟨?_, rfl⟩ (hn := by simp [x3])
      · have : ∀ l : List (Int × Int), SV.underL (Q.length + 4) (l.map encR) = true := fun l => SV.underL_map fun _ _ => rfl
        simp only [SV.underL_append, glbsL_under, SV.underL, SV.under, this, Bool.and_self]
      · rw [hglb]; simp [glbsL, Glb.cells]
theorem clFun_ok (G : Gl) (hG : GClosed G) (Q : List Blk) (rb rv : Nat) (hQ : RdQ Q rb rv) (cs : List Con) (gs : List Glb) (q : RS) (hq : q.s.length < 4294967296) (fs : List Fun) (hl : fs.length < 4294967296) :
    ACall Tryz.prog G 85 [.ptr rv 0 0 0, .ptr Q.length 0 0 0] (Q.set rb (rsC q) ++ imgB Q.length cs fs gs) (fun r H' => H' = Q.set rb (rsC q.fn.2) ++ imgB Q.length cs (fs ++ [q.fn.1]) gs ∧ r = .tuple []) := by
  obtain ⟨x1, x2, x3⟩ := hQ.x
  have c1 := fun q L => hQ.num G hG q L
  have c2 := fun q L => hQ.text G hG q L
  have c3 := fun q L => hQ.truth G hG q L
  have hr := hQ.hr
  have hml := funsL_len fs
  have hrv := (List.getElem?_eq_some_iff.1 hQ.hv).1
  have hQ2 := hQ.app (imgB Q.length cs fs gs)
  have hl5 := q.head_len
  have hfn : q.fn = (⟨q.text.1, q.text.2.truth.1, q.text.2.truth.2.truth.1, q.text.2.truth.2.truth.2.num.1, q.text.2.truth.2.truth.2.num.2.num.1, q.text.2.truth.2.truth.2.num.2.num.2.num.1, (q.head.each RS.ins).1⟩, (q.head.each RS.ins).2) := rfl
  have h5 : q.text.2.truth.2.truth.2.num.2.num.2.num.2 = q.head := rfl
  have he := each_ok G hG RS.ins RS.ins_len rb (.fn (.func 87) [] [.ptr rv 0 0 0, .ptr (Q.length + 4) 0 0 0]) (fun q' l' => Q.set rb (rsC q') ++ (imgB Q.length cs fs gs ++ funB (Q.length + 4) q.text.1 q.text.2.truth.1 q.text.2.truth.2.truth.1 q.text.2.truth.2.truth.2.num.1 q.text.2.truth.2.truth.2.num.2.num.1 q.text.2.truth.2.truth.2.num.2.num.2.num.1 l'))
    (fun q' l' => x2 _ _) (fun q' q'' l' => by rw [List.set_append_left _ _ (by rw [x3]; exact hr), List.set_set]) (fun q' l' hq' hl' => ACallV.of (by
      have := clIns_ok G hG _ rb rv hQ2 q.text.1 q.text.2.truth.1 q.text.2.truth.2.truth.1 q.text.2.truth.2.truth.2.num.1 q.text.2.truth.2.truth.2.num.2.num.1 q.text.2.truth.2.truth.2.num.2.num.2.num.1 q' hq' l' hl'
      have e : (Q ++ imgB Q.length cs fs gs).length = Q.length + 4 := by simp [imgB]
      rw [e] at this
      simp only [List.set_append_left _ _ hr, List.append_assoc] at this
      exact this)) q.head (by omega)
  simp only [imgB, funB, List.length_nil, show insL [] = [] from rfl, List.cons_append, List.nil_append] at he ⊢
  refine ACall.of_go TB [] tabOK _ Tryz.func85 rfl (by decide) Tryz.ntmps85 (by simp) rfl (by simp only [initEnv, Nat.reduceAdd]; rfl) fun C R' hR hC hcl hB => ?_; have X := noX; have hC' := congrArg List.length hC
  have X := And.intro X (And.intro x1 (And.intro x2 (And.intro x3 hml)))
  refine go_seq ?_
  refine go_cut (fun _ : Unit => [(0, .ptr rv 0 0 0), (1, .ptr Q.length 0 0 0), (2, .ptr (Q.length + 4) 0 0 0)]) (fun _ => Q.set rb (rsC q.head) ++ [.cells 0 4 [.agg [.sl (Q.length + 1) cs.length 0 cs.length, .sl (Q.length + 2) fs.length 0 fs.length, .sl (Q.length + 3) gs.length 0 gs.length, .int .i64 0]], .cells cs.length 4 (consL cs), .cells fs.length 7 (funsL fs), .cells gs.length 3 (glbsL gs), .cells 0 7 [.agg [.str q.text.1, .bool q.text.2.truth.1, .bool q.text.2.truth.2.truth.1, .int .i64 q.text.2.truth.2.truth.2.num.1, .int .i64 q.text.2.truth.2.truth.2.num.2.num.1, .int .i64 q.text.2.truth.2.truth.2.num.2.num.2.num.1, .sl (Q.length + 4 + 1) 0 0 0]], .cells 0 6 []]) (fun _ => True) (fun K hK => ?_) (fun _ _ => ?_)
  · (refine run ?_; repeat' (first | with_reducible exact trivial | ((with_reducible apply Fork.mk) <;> intro hb) | with_reducible apply Two.mk))
    all_goals
      rw [h5]
      refine hK _ _ () trivial ?_
      exact wk_ghostE (id := Q.length + 4) (i := 0) (j := 6) 6 ((get_at ..).trans rfl) rfl rfl (by rw [set_at]; simp [x3]) (by simp [subEnv, look])
  · have hC2 : C.H.length = Q.length + 4 := by rw [hC']; simp
    have hcl2 : ∀ (q' : RS) (l' : List SV) (g n : Nat), SV.underL (Q.length + 4) l' = true → closed (Q.set rb (rsC q') ++ [.cells 0 4 [.agg [.sl (Q.length + 1) cs.length 0 cs.length, .sl (Q.length + 2) g 0 n, .sl (Q.length + 3) gs.length 0 gs.length, .int .i64 0]], .cells cs.length 4 (consL cs), .cells g 7 l', .cells gs.length 3 (glbsL gs)]) := fun q' l' g n h =>
      closed_mod q' hr hcl rfl (by simp [Blk.under, SV.under, SV.underL, h, consL_under, glbsL_under])
    refine go_seq ?_
    refine go_cut (fun _ : Unit => [(0, .ptr rv 0 0 0), (1, .ptr Q.length 0 0 0), (2, .ptr (Q.length + 4) 0 0 0)]) (fun _ => Q.set rb (rsC q.fn.2) ++ [.cells 0 4 [.agg [.sl (Q.length + 1) cs.length 0 cs.length, .sl (Q.length + 2) fs.length 0 fs.length, .sl (Q.length + 3) gs.length 0 gs.length, .int .i64 0]], .cells cs.length 4 (consL cs), .cells fs.length 7 (funsL fs), .cells gs.length 3 (glbsL gs), .cells 0 7 [.agg q.fn.1.cells]]) (fun _ => True) (fun K hK => ?_) (fun _ _ => ?_)
    · (refine run ?_; repeat' (first | with_reducible exact trivial | ((with_reducible apply Fork.mk) <;> intro hb) | with_reducible apply Two.mk))
      refine callS he ?_
      rintro r H' ⟨rfl, rfl⟩
      (refine run ?_; repeat' (first | with_reducible exact trivial | ((with_reducible apply Fork.mk) <;> intro hb) | with_reducible apply Two.mk))
      refine hK _ _ () trivial ?_
      rw [hfn]
      simp only [Fun.cells]
      rw [app42, app41]
      exact wkS (n0 := Q.length + 4) [(Q.length + 4, 0)] hG hB hC2 (hcl2 _ _ _ _ (funsL_under _ _)) (hn := by simp [x3]) (hk := keepF (by simp [x3]) 7 6 [.str q.text.1, .bool q.text.2.truth.1, .bool q.text.2.truth.2.truth.1, .int .i64 q.text.2.truth.2.truth.2.num.1, .int .i64 q.text.2.truth.2.truth.2.num.2.num.1, .int .i64 q.text.2.truth.2.truth.2.num.2.num.2.num.1] (by simp [insL]) (insL_under _ _) rfl)
    · rw [hfn]
      simp only [Fun.cells]
      (refine run ?_; repeat' (first | with_reducible exact trivial | ((with_reducible apply Fork.mk) <;> intro hb) | with_reducible apply Two.mk))
      rw [app41]
      refine finS (n0 := Q.length + 4) hR hC2 (hcl2 _ _ _ _ ?_) (.same _ rfl) ⟨?_, rfl⟩ (hn := by simp [x3])
      · simp only [SV.underL_append, funsL_under, SV.underL, SV.under, insL_under, Bool.and_self]
      · rw [hfn]; simp [funsL, Fun.cells]
end Go.Proofs.YthgdcjenoiojeaaGreatDoor
end

section
namespace Go.Proofs.YthgdcjenoiojeaaGreatDoor
open Go
set_option linter.unusedSimpArgs false
set_option linter.unusedVariables false
set_option maxRecDepth 10000
set_option maxHeartbeats 4000000

def magic4 : Str := [84, 83, 76, 49]
def img0 : Img := ⟨[], [], [], 0⟩
def RS.img (q : RS) : Img × RS :=
  (⟨(q.each RS.con).1, ((q.each RS.con).2.each RS.fn).1, (((q.each RS.con).2.each RS.fn).2.each RS.glb).1, (((q.each RS.con).2.each RS.fn).2.each RS.glb).2.num.1⟩, (((q.each RS.con).2.each RS.fn).2.each RS.glb).2.num.2)
def decS (data : Str) : Img × Int :=
  if data.length < 4 ∨ data.take 4 ≠ magic4 then (img0, 171)
  else if (RS.img ⟨data.drop 4, false⟩).2.bad = true ∨ (RS.img ⟨data.drop 4, false⟩).2.s ≠ [] ∨ chkS (RS.img ⟨data.drop 4, false⟩).1 65536 ≠ 0 then (img0, 171) else ((RS.img ⟨data.drop 4, false⟩).1, 0)
theorem RS.img_B (q0 : RS) (h : q0.s.length < 4294967296) : ImgB q0.img.1 := by
  have l1 := RS.each_len RS.con_len q0
  have l2 := RS.each_len RS.fn_len (q0.each RS.con).2
  have hz1 := RS.each_size (f := RS.con) q0
  have hz2 := RS.each_size (f := RS.fn) (q0.each RS.con).2
  have hz3 := RS.each_size (f := RS.glb) ((q0.each RS.con).2.each RS.fn).2
  refine ⟨?_, ?_, ?_, fun f hf => ?_, fun g hg => ?_⟩
  · show (q0.each RS.con).1.length < _; omega
  · show ((q0.each RS.con).2.each RS.fn).1.length < _; omega
  · show (((q0.each RS.con).2.each RS.fn).2.each RS.glb).1.length < _; omega
  · obtain ⟨q', h1, rfl⟩ := RS.each_mem RS.fn_len _ f hf
    obtain ⟨h2, h3⟩ := q'.fn_code
    exact ⟨by omega, fun i hi => by have := h3 i hi; omega⟩
  · obtain ⟨q', h1, rfl⟩ := RS.each_mem RS.glb_len _ g hg
    have := q'.glb_args
    omega
theorem decS_B (data : Str) (h : data.length < 4294967296) : ImgB (decS data).1 := by
  have h0 : ImgB img0 := ⟨by decide, by decide, by decide, fun f hf => (by cases hf), fun g hg => (by cases hg)⟩
  unfold decS
  split
  · exact h0
  · split
    · exact h0
    · exact RS.img_B _ (by simp; omega)
theorem frzImg0 (H : List Blk) (n : Nat) (ks : Keep) : Frz H n ks (resSV [SV.agg [SV.nil, SV.nil, SV.nil, SV.int IntKind.i64 0], SV.int IntKind.i64 171]) (.tuple [.agg [.list 4 [], .list 7 [], .list 3 [], .int .i64 0], .int .i64 171]) :=
  .tuple _ _ (.cons _ _ _ _ (.agg _ _ (.cons _ _ _ _ (.nil 4) (.cons _ _ _ _ (.nil 7) (.cons _ _ _ _ (.nil 3) (.cons _ _ _ _ (.same _ rfl) .nil))))) (.cons _ _ _ _ (.same _ rfl) .nil))
theorem frzSl {H : List Blk} {n : Nat} {ks : Keep} {id g sz len : Nat} {vals : List SV} (hb : H[id]? = some (.cells g sz vals)) (hn : n ≤ id) (hk : ∀ p ∈ ks, p.1 ≠ id) (hv : SV.underL n vals = true) (hl : len = vals.length) : Frz H n ks (.sl id g 0 len) (.list sz vals) :=
  .sl id g 0 len sz vals vals hb hn hk (by rw [List.drop_zero, hl, List.take_length]; exact FrzL.same hv)
theorem keepD (H : List Blk) (q : RS) (cs : List Con) (fs : List Fun) (gs : List Glb) :
    KeepB (H ++ [.cells 0 4 [.agg [.nil, .nil, .nil, .int .i64 0]], rsC q, .cells 0 1 [.ptr (H.length + 1) 0 0 0], .cells 0 4 [.agg [.sl (H.length + 3 + 1) cs.length 0 cs.length, .sl (H.length + 3 + 2) fs.length 0 fs.length, .sl (H.length + 3 + 3) gs.length 0 gs.length, .int .i64 0]], .cells cs.length 4 (consL cs), .cells fs.length 7 (funsL fs), .cells gs.length 3 (glbsL gs)]) H.length
      [(H.length, 0), (H.length + 1, 0), (H.length + 2, 0), (H.length + 3, 0)] [(H.length, 0), (H.length + 1, 0), (H.length + 2, 0), (H.length + 3, 0)]
      [.cells 0 4 [.agg [.nil, .nil, .nil, .int .i64 0]], .cells 0 2 [.agg [.str q.s, .bool q.bad]], .cells 0 1 [.ptr (H.length + 1) 0 0 0], .cells 0 4 [.agg [.list 4 (consL cs), .list 7 (funsL fs), .list 3 (glbsL gs), .int .i64 0]]] := by
  have hk : ∀ i, 4 ≤ i → ∀ p ∈ [(H.length, 0), (H.length + 1, 0), (H.length + 2, 0), (H.length + 3, 0)], p.1 ≠ H.length + i := fun i hi p hp => by
    simp only [List.mem_cons, List.not_mem_nil, or_false] at hp
    rcases hp with rfl | rfl | rfl | rfl <;> simp only <;> omega
  refine KeepB.cells H.length 0 0 4 _ _ _ _ ((get_app _ _ 0).trans rfl) (Nat.le_refl _) (Nat.zero_le _) (FrzL.same rfl) ?_
  refine KeepB.cells (H.length + 1) 0 0 2 _ _ _ _ ((get_app _ _ 1).trans rfl) (by omega) (Nat.zero_le _) (FrzL.same rfl) ?_
  refine KeepB.cells (H.length + 2) 0 0 1 _ _ _ _ ((get_app _ _ 2).trans rfl) (by omega) (Nat.zero_le _) (.cons _ _ _ _ (.keepPtr 1 (H.length + 1) 0 0 0 0 2 _ rfl ((get_app _ _ 1).trans rfl) (Nat.le_refl _)) .nil) ?_
  refine KeepB.cells (H.length + 3) 0 0 4 _ _ _ _ ((get_app _ _ 3).trans rfl) (by omega) (Nat.zero_le _) (.cons _ _ _ _ (.agg _ _ ?_) .nil) .nil
  exact .cons _ _ _ _ (frzSl (sz := 4) ((get_app _ _ 4).trans rfl) (by omega) (hk 4 (by omega)) (consL_under _ _) (consL_len _).symm)
    (.cons _ _ _ _ (frzSl (sz := 7) ((get_app _ _ 5).trans rfl) (by omega) (hk 5 (by omega)) (funsL_under _ _) (funsL_len _).symm)
    (.cons _ _ _ _ (frzSl (sz := 3) ((get_app _ _ 6).trans rfl) (by omega) (hk 6 (by omega)) (glbsL_under _ _) (glbsL_len _).symm) (.cons _ _ _ _ (.same _ rfl) .nil)))
theorem decode_ok (G : Gl) (hG : GClosed G) (hF : GF G) (data : Str) (hl : data.length < 4294967296) (H : List Blk) :
    ACall Tryz.prog G 61 [.str data] H (fun r H' => H' = H ∧ r = .tuple [.agg (decS data).1.cells, .int .i64 (decS data).2]) := by
  have hz : img0.cells = [.list 4 [], .list 7 [], .list 3 [], .int .i64 0] := rfl
  by_cases hm : data.length < 4 ∨ data.take 4 ≠ magic4
  · have e1 : decS data = (img0, 171) := by unfold decS; rw [if_pos hm]
    rw [e1]
    simp only [hz]
    have hb0 : (decide ((data.length : Int) < 4) || decide ¬data.take 4 = [84, 83, 76, 49]) = true := by
      simp only [Bool.or_eq_true, decide_eq_true_eq]
      rcases hm with h | h
      · exact .inl (by omega)
      · exact .inr h
    refine ACall.of_go TB [] tabOK _ Tryz.func61 rfl (by decide) Tryz.ntmps61 (by simp) rfl (by simp only [initEnv, Nat.reduceAdd]; rfl) fun C R' hR hC hcl hB => ?_; have X := noX; have hC' := congrArg List.length hC
    have X := And.intro X hb0
    (refine run ?_; repeat' (first | with_reducible exact trivial | ((with_reducible apply Fork.mk) <;> intro hb) | with_reducible apply Two.mk))
    · refine finS hR hC' hcl (y := .tuple [.agg [.list 4 [], .list 7 [], .list 3 [], .int .i64 0], .int .i64 171]) (frzImg0 _ _ _) ⟨rfl, rfl⟩
    all_goals (rw [hb0] at hb; cases hb)
  · have hm1 : 4 ≤ data.length ∧ data.take 4 = magic4 := by simp only [not_or, Nat.not_lt, ne_eq, Decidable.not_not] at hm; exact hm
    have hb0 : (decide ((data.length : Int) < 4) || decide ¬data.take 4 = [84, 83, 76, 49]) = false := by
      rw [Bool.or_eq_false_iff]
      exact ⟨decide_eq_false (by omega), decide_eq_false (fun h => h hm1.2)⟩
    have hdl : (data.drop 4).length < 4294967296 := by rw [List.length_drop]; omega
    have htk : (data.drop 4).take (data.length - 4) = data.drop 4 := List.take_of_length_le (by simp)
    have e1 : decS data = if (RS.img ⟨data.drop 4, false⟩).2.bad = true ∨ (RS.img ⟨data.drop 4, false⟩).2.s ≠ [] ∨ chkS (RS.img ⟨data.drop 4, false⟩).1 65536 ≠ 0 then (img0, 171) else ((RS.img ⟨data.drop 4, false⟩).1, 0) := by unfold decS; rw [if_neg hm]
    rw [e1]
    have himg : ∀ q : RS, q.img = (⟨(q.each RS.con).1, ((q.each RS.con).2.each RS.fn).1, (((q.each RS.con).2.each RS.fn).2.each RS.glb).1, (((q.each RS.con).2.each RS.fn).2.each RS.glb).2.num.1⟩, (((q.each RS.con).2.each RS.fn).2.each RS.glb).2.num.2) := fun q => rfl
    generalize hq0 : (⟨data.drop 4, false⟩ : RS) = q0 at *
    have hQ : RdQ (H ++ [.cells 0 4 [.agg [.nil, .nil, .nil, .int .i64 0]], rsC q0, .cells 0 1 [.ptr (H.length + 1) 0 0 0]]) (H.length + 1) (H.length + 2) := ⟨by simp, by simp, by omega⟩
    have hset : ∀ y, (H ++ [.cells 0 4 [.agg [.nil, .nil, .nil, .int .i64 0]], rsC q0, .cells 0 1 [.ptr (H.length + 1) 0 0 0]]).set (H.length + 1) y = H ++ [.cells 0 4 [.agg [.nil, .nil, .nil, .int .i64 0]], y, .cells 0 1 [.ptr (H.length + 1) 0 0 0]] := fun y => by simp
    have hlen : (H ++ [.cells 0 4 [.agg [.nil, .nil, .nil, .int .i64 0]], rsC q0, .cells 0 1 [.ptr (H.length + 1) 0 0 0]]).length = H.length + 3 := by simp
    have hss : ∀ (q : RS) (L : List Blk) (q' : RS), (H ++ [.cells 0 4 [.agg [.nil, .nil, .nil, .int .i64 0]], rsC q, .cells 0 1 [.ptr (H.length + 1) 0 0 0]] ++ L).set (H.length + 1) (rsC q') = H ++ [.cells 0 4 [.agg [.nil, .nil, .nil, .int .i64 0]], rsC q', .cells 0 1 [.ptr (H.length + 1) 0 0 0]] ++ L := fun q L q' => by simp
    have hgg : ∀ (q : RS) (L : List Blk), (H ++ [.cells 0 4 [.agg [.nil, .nil, .nil, .int .i64 0]], rsC q, .cells 0 1 [.ptr (H.length + 1) 0 0 0]] ++ L)[H.length + 1]? = some (rsC q) := fun q L => by simp
    have l1 := RS.each_len RS.con_len q0
    have l2 := RS.each_len RS.fn_len (q0.each RS.con).2
    have hq0l : q0.s.length < 4294967296 := by rw [← hq0]; exact hdl
    have he1 := each_ok G hG RS.con RS.con_len (H.length + 1) (.fn (.func 82) [] [.ptr (H.length + 3) 0 0 0, .ptr (H.length + 2) 0 0 0]) (fun q l => H ++ [.cells 0 4 [.agg [.nil, .nil, .nil, .int .i64 0]], rsC q, .cells 0 1 [.ptr (H.length + 1) 0 0 0]] ++ imgB (H.length + 3) l [] []) (fun q l => hgg _ _) (fun q q' l => hss _ _ _) (fun q l _ hl => ACallV.of (by
      have := clCon_ok G hG _ _ _ hQ [] [] q l hl
      simp only [hset, hlen] at this
      exact this)) q0 hq0l
    have he2 := each_ok G hG RS.fn RS.fn_len (H.length + 1) (.fn (.func 85) [] [.ptr (H.length + 2) 0 0 0, .ptr (H.length + 3) 0 0 0]) (fun q l => H ++ [.cells 0 4 [.agg [.nil, .nil, .nil, .int .i64 0]], rsC q, .cells 0 1 [.ptr (H.length + 1) 0 0 0]] ++ imgB (H.length + 3) (q0.each RS.con).1 l []) (fun q l => hgg _ _) (fun q q' l => hss _ _ _) (fun q l hq hl => ACallV.of (by
      have := clFun_ok G hG _ _ _ hQ (q0.each RS.con).1 [] q hq l hl
      simp only [hset, hlen] at this
      exact this)) (q0.each RS.con).2 (by omega)
    have he3 := each_ok G hG RS.glb RS.glb_len (H.length + 1) (.fn (.func 89) [] [.ptr (H.length + 2) 0 0 0, .ptr (H.length + 3) 0 0 0]) (fun q l => H ++ [.cells 0 4 [.agg [.nil, .nil, .nil, .int .i64 0]], rsC q, .cells 0 1 [.ptr (H.length + 1) 0 0 0]] ++ imgB (H.length + 3) (q0.each RS.con).1 ((q0.each RS.con).2.each RS.fn).1 l) (fun q l => hgg _ _) (fun q q' l => hss _ _ _) (fun q l hq hl => ACallV.of (by
      have := clGlb_ok G hG _ _ _ hQ (q0.each RS.con).1 ((q0.each RS.con).2.each RS.fn).1 q hq l hl
      simp only [hset, hlen] at this
      exact this)) ((q0.each RS.con).2.each RS.fn).2 (by omega)
    have hz1 := RS.each_size (f := RS.con) q0
    have hz2 := RS.each_size (f := RS.fn) (q0.each RS.con).2
    have hz3 := RS.each_size (f := RS.glb) ((q0.each RS.con).2.each RS.fn).2
    have himg0 := himg q0
    clear himg
    have hk1 : ∀ f ∈ ((q0.each RS.con).2.each RS.fn).1, f.code.length < 1099511627776 ∧ ∀ i ∈ f.code, i.l.length < 1099511627776 := fun f hf => by
      obtain ⟨q', h1, rfl⟩ := RS.each_mem RS.fn_len _ f hf
      obtain ⟨h2, h3⟩ := q'.fn_code
      exact ⟨by omega, fun i hi => by have := h3 i hi; omega⟩
    have hk2 : ∀ g ∈ (((q0.each RS.con).2.each RS.fn).2.each RS.glb).1, g.args.length < 1099511627776 := fun g hg => by
      obtain ⟨q', h1, rfl⟩ := RS.each_mem RS.glb_len _ g hg
      have := q'.glb_args
      omega
    simp only [imgB, List.append_assoc, List.cons_append, List.nil_append, List.length_nil, show consL [] = [] from rfl, show funsL [] = [] from rfl, show glbsL [] = [] from rfl] at he1 he2 he3
    clear hset hlen hss hgg hQ
    generalize q0.img = R at *
    generalize ((q0.each RS.con).2.each RS.fn).2.each RS.glb = T3 at *
    generalize (q0.each RS.con).2.each RS.fn = T2 at *
    generalize q0.each RS.con = T1 at *
    obtain ⟨cs, q1⟩ := T1
    obtain ⟨fs, q2⟩ := T2
    obtain ⟨gs, q3⟩ := T3
    simp only at he1 he2 he3 himg0 l1 l2 hz1 hz2 hz3
    refine ACall.of_go TB [] tabOK _ Tryz.func61 rfl (by decide) Tryz.ntmps61 (by simp) rfl (by simp only [initEnv, Nat.reduceAdd]; rfl) fun C R' hR hC hcl hB => ?_; have X := noX; have hC' := congrArg List.length hC
    have X := And.intro X (And.intro hb0 htk)
    (refine run ?_; repeat' (first | with_reducible exact trivial | ((with_reducible apply Fork.mk) <;> intro hb) | with_reducible apply Two.mk))
    refine go_wkO [(2, .ptr H.length 0 0 0), (4, .ptr (H.length + 2) 0 0 0), (5, .ptr (H.length + 3) 0 0 0), (19, .ptr (H.length + 1) 0 0 0), (20, .fn (.func 82) [] [.ptr (H.length + 3) 0 0 0, .ptr (H.length + 2) 0 0 0])] (H ++ [.cells 0 4 [.agg [.nil, .nil, .nil, .int .i64 0]], rsC q0, .cells 0 1 [.ptr (H.length + 1) 0 0 0], .cells 0 4 [.agg [.sl (H.length + 3 + 1) 0 0 0, .sl (H.length + 3 + 2) 0 0 0, .sl (H.length + 3 + 3) 0 0 0, .int .i64 0]], .cells 0 4 [], .cells 0 7 [], .cells 0 3 []]) ?_ ?_
    · rw [← hq0]
      simp only [rsC]
      refine Wk.trans (wk_ghost (id := H.length + 3) (i := 0) (j := 0) 4 ((get_app ..).trans rfl) rfl rfl) ?_
      rw [set_app, List.append_assoc]
      refine Wk.trans (wk_ghost (id := H.length + 3) (i := 0) (j := 1) 7 ((get_app ..).trans rfl) rfl rfl) ?_
      rw [set_app, List.append_assoc]
      refine wk_ghostE (id := H.length + 3) (i := 0) (j := 2) 3 ((get_app ..).trans rfl) rfl rfl ?_ (by simp [subEnv, look])
      rw [set_app, List.append_assoc]
      simp
    refine callS he1 ?_
    rintro r H' ⟨rfl, rfl⟩
    (refine run ?_; repeat' (first | with_reducible exact trivial | ((with_reducible apply Fork.mk) <;> intro hb) | with_reducible apply Two.mk))
    refine callS he2 ?_
    rintro r H' ⟨rfl, rfl⟩
    (refine run ?_; repeat' (first | with_reducible exact trivial | ((with_reducible apply Fork.mk) <;> intro hb) | with_reducible apply Two.mk))
    refine callS he3 ?_
    rintro r H' ⟨rfl, rfl⟩
    (refine run ?_; repeat' (first | with_reducible exact trivial | ((with_reducible apply Fork.mk) <;> intro hb) | with_reducible apply Two.mk))
    refine go_wkO [(2, .ptr H.length 0 0 0), (4, .ptr (H.length + 2) 0 0 0), (5, .ptr (H.length + 3) 0 0 0), (28, .ptr (H.length + 1) 0 0 0)] (H ++ [.cells 0 4 [.agg [.nil, .nil, .nil, .int .i64 0]], .cells 0 2 [.agg [.str q3.s, .bool q3.bad]], .cells 0 1 [.ptr (H.length + 1) 0 0 0], .cells 0 4 [.agg [.list 4 (consL cs), .list 7 (funsL fs), .list 3 (glbsL gs), .int .i64 0]]]) (wkS (n0 := H.length) [(H.length, 0), (H.length + 1, 0), (H.length + 2, 0), (H.length + 3, 0)] hG hB hC' hcl (hk := keepD H q3 cs fs gs)) ?_
    have hnum := rnum_ok G hG q3 (H.length + 1) (H ++ [.cells 0 4 [.agg [.nil, .nil, .nil, .int .i64 0]], rsC q3, .cells 0 1 [.ptr (H.length + 1) 0 0 0], .cells 0 4 [.agg [.list 4 (consL cs), .list 7 (funsL fs), .list 3 (glbsL gs), .int .i64 0]]]) (by simp)
    refine callS hnum ?_
    rintro r H' ⟨rfl, rfl⟩
    have hcall := check_ok G hG hF ⟨cs, fs, gs, q3.num.1⟩ 65536 ⟨by show cs.length < _; omega, by show fs.length < _; omega, by show gs.length < _; omega, hk1, hk2⟩
    generalize q3.num = T at *
    obtain ⟨mn, ⟨sf, bf⟩⟩ := T
    rw [set_app]
    simp only [List.set_cons_succ, List.set_cons_zero, rsC]
    subst himg0
    have c1 : ∀ H, ACall Tryz.prog G 35 [.agg [.list 4 (consL cs), .list 7 (funsL fs), .list 3 (glbsL gs), .int .i64 mn], .int .i64 65536] H _ := hcall
    (refine run ?_; repeat' (first | with_reducible exact trivial | ((with_reducible apply Fork.mk) <;> intro hb) | with_reducible apply Two.mk))
    · have : bf = true ∨ sf ≠ [] := by simpa using hb
      refine finS hR hC' hcl (y := .tuple [.agg [.list 4 [], .list 7 [], .list 3 [], .int .i64 0], .int .i64 171]) (frzImg0 _ _ _) ⟨rfl, ?_⟩
      rw [if_pos (by rcases this with h | h; exact Or.inl h; exact Or.inr (Or.inl h))]; rfl
    · refine finS hR hC' hcl (y := .tuple [.agg [.list 4 [], .list 7 [], .list 3 [], .int .i64 0], .int .i64 171]) (frzImg0 _ _ _) ⟨rfl, ?_⟩
      rw [if_pos (Or.inr (Or.inr hb))]; rfl
    · rename_i hb2
      have hb2 : bf = false ∧ sf = [] := by simpa using hb2
      refine finS hR hC' hcl (.same _ ?_) ⟨rfl, ?_⟩
      · simp only [resSV, SV.under, SV.underL, consL_under, funsL_under, glbsL_under, Bool.and_self]
      · rw [if_neg (by rw [hb2.1, hb2.2]; simp only [Bool.false_eq_true, false_or, ne_eq, not_true_eq_false]; exact hb)]; rfl
end Go.Proofs.YthgdcjenoiojeaaGreatDoor
end

section
namespace Go.Proofs.YthgdcjenoiojeaaGreatDoor
open Go
set_option linter.unusedSimpArgs false
set_option linter.unusedVariables false
set_option maxRecDepth 10000
set_option maxHeartbeats 4000000

theorem refS_eq (r : Int × Int) : refS r = numS r.1 ++ numS r.2 := by simp [refS, numsS]
theorem conS_eq (c : Con) : conS c = txtS c.name ++ (numS c.arity ++ (numS c.tag ++ numS c.family)) := by simp [conS, numsS]
theorem insS_eq (i : Ins) : insS i = numS i.op ++ (numS i.a ++ (numS i.b ++ (numS i.c ++ (numS i.n ++ lstS numS i.l)))) := by simp [insS, numsS, lstS]
theorem funS_eq (f : Fun) : funS f = txtS f.name ++ (truS f.thunk ++ (truS f.upd ++ (numS f.free ++ (numS f.params ++ (numS f.frame ++ lstS insS f.code))))) := by simp [funS, funH, numsS, lstS]
theorem glbS_eq (g : Glb) : glbS g = numS g.kind ++ (numS g.n ++ lstS refS g.args) := by simp [glbS, numsS, lstS]
theorem encB_eq (m : Img) : encB m = magicS ++ (lstS conS m.cons ++ (lstS funS m.funcs ++ (lstS glbS m.globals ++ numS m.main))) := by simp [encB, lstS]
theorem cRef : Codec RS.ref refS (fun r => isI r.1 ∧ isI r.2) := by
  refine ⟨fun x r h => ?_, fun q h => ?_, fun x => by rw [refS_eq, List.length_append]; have := numS_pos x.1; omega⟩
  · rw [refS_eq, List.append_assoc]
    simp only [RS.ref, cNum.enc _ _ h.1, cNum.enc _ _ h.2]
  · simp only [RS.ref] at h ⊢
    obtain ⟨b1, e1, o1⟩ := cNum.dec _ h
    obtain ⟨b0, e0, o0⟩ := cNum.dec _ b1
    exact ⟨b0, by rw [refS_eq, List.append_assoc, ← e1]; exact e0, o0, o1⟩
def conI (c : Con) : Prop := isI (c.name.length : Int) ∧ isI c.arity ∧ isI c.tag ∧ isI c.family
theorem cCon : Codec RS.con conS conI := by
  refine ⟨fun x r h => ?_, fun q h => ?_, fun x => by rw [conS_eq, List.length_append]; have := cText.pos x.name; omega⟩
  · obtain ⟨h1, h2, h3, h4⟩ := h
    rw [conS_eq]
    simp only [RS.con, List.append_assoc, cText.enc _ _ h1, cNum.enc _ _ h2, cNum.enc _ _ h3, cNum.enc _ _ h4]
  · simp only [RS.con] at h ⊢
    obtain ⟨b3, e3, o3⟩ := cNum.dec _ h
    obtain ⟨b2, e2, o2⟩ := cNum.dec _ b3
    obtain ⟨b1, e1, o1⟩ := cNum.dec _ b2
    obtain ⟨b0, e0, o0⟩ := cText.dec _ b1
    exact ⟨b0, by rw [conS_eq]; simp only [List.append_assoc]; rw [← e3, ← e2, ← e1]; exact e0, o0, o1, o2, o3⟩
def insJ (i : Ins) : Prop := isI i.op ∧ isI i.a ∧ isI i.b ∧ isI i.c ∧ isI i.n ∧ isI (i.l.length : Int) ∧ ∀ n ∈ i.l, isI n
theorem cIns : Codec RS.ins insS insJ := by
  refine ⟨fun x r h => ?_, fun q h => ?_, fun x => by rw [insS_eq, List.length_append]; have := numS_pos x.op; omega⟩
  · obtain ⟨h1, h2, h3, h4, h5, h6, h7⟩ := h
    rw [insS_eq]
    simp only [RS.ins, RS.five, List.append_assoc, cNum.enc _ _ h1, cNum.enc _ _ h2, cNum.enc _ _ h3, cNum.enc _ _ h4, cNum.enc _ _ h5, (cEach cNum).1 _ _ h6 h7]
  · simp only [RS.ins] at h ⊢
    obtain ⟨b5, e5, o5, o6⟩ := (cEach cNum).2 _ h
    obtain ⟨b4, e4, o4⟩ := cNum.dec _ b5
    obtain ⟨b3, e3, o3⟩ := cNum.dec _ b4
    obtain ⟨b2, e2, o2⟩ := cNum.dec _ b3
    obtain ⟨b1, e1, o1⟩ := cNum.dec _ b2
    obtain ⟨b0, e0, o0⟩ := cNum.dec _ b1
    refine ⟨b0, ?_, o0, o1, o2, o3, o4, o5, o6⟩
    rw [insS_eq]; simp only [List.append_assoc]
    rw [← e5, show q.five = q.num.2.num.2.num.2.num.2.num.2 from rfl, ← e4, ← e3, ← e2, ← e1]; exact e0
def funJ (f : Fun) : Prop := isI (f.name.length : Int) ∧ isI f.free ∧ isI f.params ∧ isI f.frame ∧ isI (f.code.length : Int) ∧ ∀ i ∈ f.code, insJ i
theorem cFun : Codec RS.fn funS funJ := by
  refine ⟨fun x r h => ?_, fun q h => ?_, fun x => by rw [funS_eq, List.length_append]; have := cText.pos x.name; omega⟩
  · obtain ⟨h1, h2, h3, h4, h5, h6⟩ := h
    rw [funS_eq]
    simp only [RS.fn, RS.head, List.append_assoc, cText.enc _ _ h1, cTruth.enc _ _ trivial, cNum.enc _ _ h2, cNum.enc _ _ h3, cNum.enc _ _ h4, (cEach cIns).1 _ _ h5 h6]
  · simp only [RS.fn] at h ⊢
    obtain ⟨b6, e6, o6, o7⟩ := (cEach cIns).2 _ h
    obtain ⟨b5, e5, o5⟩ := cNum.dec _ b6
    obtain ⟨b4, e4, o4⟩ := cNum.dec _ b5
    obtain ⟨b3, e3, o3⟩ := cNum.dec _ b4
    obtain ⟨b2, e2, o2⟩ := cTruth.dec _ b3
    obtain ⟨b1, e1, o1⟩ := cTruth.dec _ b2
    obtain ⟨b0, e0, o0⟩ := cText.dec _ b1
    refine ⟨b0, ?_, o0, o3, o4, o5, o6, o7⟩
    rw [funS_eq]; simp only [List.append_assoc]
    rw [← e6, show q.head = q.text.2.truth.2.truth.2.num.2.num.2.num.2 from rfl, ← e5, ← e4, ← e3, ← e2, ← e1]; exact e0
def glbJ (g : Glb) : Prop := isI g.kind ∧ isI g.n ∧ isI (g.args.length : Int) ∧ ∀ r ∈ g.args, isI r.1 ∧ isI r.2
theorem cGlb : Codec RS.glb glbS glbJ := by
  refine ⟨fun x r h => ?_, fun q h => ?_, fun x => by rw [glbS_eq, List.length_append]; have := numS_pos x.kind; omega⟩
  · obtain ⟨h1, h2, h3, h4⟩ := h
    rw [glbS_eq]
    simp only [RS.glb, List.append_assoc, cNum.enc _ _ h1, cNum.enc _ _ h2, (cEach cRef).1 _ _ h3 h4]
  · simp only [RS.glb] at h ⊢
    obtain ⟨b2, e2, o2, o3⟩ := (cEach cRef).2 _ h
    obtain ⟨b1, e1, o1⟩ := cNum.dec _ b2
    obtain ⟨b0, e0, o0⟩ := cNum.dec _ b1
    exact ⟨b0, by rw [glbS_eq]; simp only [List.append_assoc]; rw [← e2, ← e1]; exact e0, o0, o1, o2, o3⟩
structure ImgJ (m : Img) : Prop where
  cons : isI (m.cons.length : Int) ∧ ∀ c ∈ m.cons, conI c
  funcs : isI (m.funcs.length : Int) ∧ ∀ f ∈ m.funcs, funJ f
  globals : isI (m.globals.length : Int) ∧ ∀ g ∈ m.globals, glbJ g
  main : isI m.main
theorem ImgJ.I {m : Img} (h : ImgJ m) : ImgI m :=
  ⟨fun c hc => (h.cons.2 c hc).2, fun f hf => by
    obtain ⟨_, h1, h2, h3, _, h4⟩ := h.funcs.2 f hf
    exact ⟨h1, h2, h3, fun i hi => by
      obtain ⟨k1, k2, k3, k4, k5, _, k6⟩ := h4 i hi
      exact ⟨k1, k2, k3, k4, k5, k6⟩⟩, fun g hg => by
    obtain ⟨h1, h2, _, h3⟩ := h.globals.2 g hg
    exact ⟨h1, h2, h3⟩, h.main⟩
theorem img_enc {m : Img} (h : ImgJ m) : RS.img ⟨(encB m).drop 4, false⟩ = (m, ⟨[], false⟩) ∧ (encB m).take 4 = magic4 ∧ 4 ≤ (encB m).length := by
  rw [encB_eq]
  refine ⟨?_, rfl, by simp [magicS]⟩
  show RS.img ⟨lstS conS m.cons ++ (lstS funS m.funcs ++ (lstS glbS m.globals ++ numS m.main)), false⟩ = _
  have e4 := cNum.enc m.main [] h.main
  rw [List.append_nil] at e4
  simp only [RS.img, (cEach cCon).1 _ _ h.cons.1 h.cons.2, (cEach cFun).1 _ _ h.funcs.1 h.funcs.2, (cEach cGlb).1 _ _ h.globals.1 h.globals.2, e4]
theorem img_dec {q : RS} (hb : q.img.2.bad = false) (hs : q.img.2.s = []) : magicS ++ q.s = encB q.img.1 ∧ ImgJ q.img.1 := by
  simp only [RS.img] at hb hs ⊢
  obtain ⟨b3, e3, o3⟩ := cNum.dec _ hb
  obtain ⟨b2, e2, o2, p2⟩ := (cEach cGlb).2 _ b3
  obtain ⟨b1, e1, o1, p1⟩ := (cEach cFun).2 _ b2
  obtain ⟨b0, e0, o0, p0⟩ := (cEach cCon).2 _ b1
  refine ⟨?_, ⟨o0, p0⟩, ⟨o1, p1⟩, ⟨o2, p2⟩, o3⟩
  rw [encB_eq]
  simp only
  rw [hs, List.append_nil] at e3
  rw [← e3, ← e2, ← e1, ← e0]
/-- AN IMAGE IS READ AS IT WAS LAID -/
theorem dec_enc {m : Img} (h : ImgJ m) (hc : chkS m 65536 = 0) : decS (encB m) = (m, 0) := by
  obtain ⟨h1, h2, h3⟩ := img_enc h
  unfold decS
  rw [if_neg (by rw [h2]; simp; omega), h1, if_neg (by simp [hc])]
/-- WHAT IS READ IS LAID AGAIN -/
theorem enc_dec {s : Str} (h : (decS s).2 = 0) : encB (decS s).1 = s ∧ chkS (decS s).1 65536 = 0 ∧ ImgJ (decS s).1 := by
  unfold decS at h ⊢
  split at h
  · cases h
  · rename_i h1
    rw [if_neg h1]
    split at h
    · cases h
    · rename_i h2
      rw [if_neg h2]
      simp only [not_or, ne_eq, Decidable.not_not, Bool.not_eq_true] at h1 h2
      obtain ⟨h3, h4⟩ := img_dec h2.1 h2.2.1
      refine ⟨?_, h2.2.2, h4⟩
      rw [← h3, show magicS = magic4 from rfl, ← h1.2, List.take_append_drop]
theorem decS_err {s : Str} : (decS s).2 = 0 ∨ decS s = (img0, 171) := by
  unfold decS
  split
  · exact .inr rfl
  · split
    · exact .inr rfl
    · exact .inl rfl
end Go.Proofs.YthgdcjenoiojeaaGreatDoor
end

section
namespace Go.Proofs.YthgdcjenoiojeaaGreatDoor
open Go
set_option linter.unusedSimpArgs false
set_option linter.unusedVariables false
set_option maxRecDepth 10000
set_option maxHeartbeats 4000000

theorem encode_ok (G : Gl) (hG : GClosed G) (hF : GF G) (m : Img) (hmb : ImgB m) (hi : ImgI m) (hl : (encB m).length < 1099511627776) (H : List Blk) :
    ACall Tryz.prog G 60 [.agg m.cells] H (fun r H' => H' = H ∧ r = .tuple [.str (encS m), .int .i64 (chkS m 65536)]) := by
  have hml : m.cells.length = 4 := rfl
  have c1 := fun H => check_ok G hG hF m 65536 hmb H
  refine ACall.of_go TB [21] tabOK _ Tryz.func60 rfl (by decide) Tryz.ntmps60 (by simp) rfl (by simp only [initEnv, Nat.reduceAdd]; rfl) fun C R' hR hC hcl hB => ?_; have X := noX; have hC' := congrArg List.length hC
  have X := And.intro X hml
  have hm0 : m.cells[0]? = some (.list 4 (consL m.cons)) := rfl
  have hm1 : m.cells[1]? = some (.list 7 (funsL m.funcs)) := rfl
  have hm2 : m.cells[2]? = some (.list 3 (glbsL m.globals)) := rfl
  have hm3 : m.cells[3]? = some (.int .i64 m.main) := rfl
  have hmu := fun n => Img.cells_under n m
  have hlc := hmb.c
  have hlf := hmb.f
  have hlg := hmb.g
  have hu1 := funsL_under H.length m.funcs
  have hu2 := glbsL_under H.length m.globals
  generalize hmc : m.cells = mc at *
  have X := And.intro X (And.intro hm0 (And.intro hm1 (And.intro hm2 hm3)))
  (refine run ?_; repeat' (first | with_reducible exact trivial | ((with_reducible apply Fork.mk) <;> intro hb) | with_reducible apply Two.mk))
  · refine finS hR hC' hcl (.same _ rfl) ⟨rfl, ?_⟩
    unfold encS; rw [if_neg hb]; rfl
  have hchk : chkS m 65536 = 0 := by simpa using hb
  have l0 : magicS.length = 4 := rfl
  obtain ⟨B1, hB1⟩ : ∃ B1, B1 = magicS ++ numS m.cons.length := ⟨_, rfl⟩
  obtain ⟨B2, hB2⟩ : ∃ B2, B2 = B1 ++ m.cons.flatMap conS ++ numS m.funcs.length := ⟨_, rfl⟩
  obtain ⟨B3, hB3⟩ : ∃ B3, B3 = B2 ++ m.funcs.flatMap funS ++ numS m.globals.length := ⟨_, rfl⟩
  have hen : encB m = B3 ++ m.globals.flatMap glbS ++ numS m.main := by rw [hB3, hB2, hB1]; rfl
  rw [hen] at hl
  have l3 : B3.length + (m.globals.flatMap glbS).length + (numS m.main).length < 1099511627776 := by simpa only [List.length_append] using hl
  have l2 : B2.length + (m.funcs.flatMap funS).length + (numS m.globals.length).length ≤ B3.length := by rw [hB3]; simp only [List.length_append]; omega
  have l1 : B1.length + (m.cons.flatMap conS).length + (numS m.funcs.length).length ≤ B2.length := by rw [hB2]; simp only [List.length_append]; omega
  have l0' : magicS.length + (numS m.cons.length).length ≤ B1.length := by rw [hB1]; simp only [List.length_append]; omega
  refine callS (wnum3 G hG [(m.cons.length : Int)] 0 magicS H [] (.cells 0 4 [.agg mc]) (fun n hn => by rw [List.mem_singleton.1 hn]; exact isI_len hlc) (by rw [numsS_one]; omega) (by simp)) ?_
  rintro _ _ ⟨⟨g1, rfl⟩, rfl⟩
  (refine run ?_; repeat' (first | with_reducible exact trivial | ((with_reducible apply Fork.mk) <;> intro hb) | with_reducible apply Two.mk))
  clear X
  rw [numsS_one, ← hB1]
  refine go_loop (fun k : Nat => [(1, .ptr H.length 0 0 0), (5, .ptr (H.length + 2) 0 0 0), (32, .list 4 (consL m.cons)), (33, .int .i64 m.cons.length), (34, .int .i64 k)]) (fun k => H ++ [.cells 0 4 [.agg mc], .cells 0 1 (strBytes (B1 ++ (m.cons.take k).flatMap conS)), .cells 0 1 [.agg [.sl (H.length + 1) 0 0 (B1 ++ (m.cons.take k).flatMap conS).length]]]) (fun k => m.cons.length - k) (fun k => k ≤ m.cons.length) 0 (Nat.zero_le _) (by
    rw [show (m.cons.take 0).flatMap conS = [] from rfl, List.append_nil]
    exact wkS (n0 := H.length) [(H.length, 0), (H.length + 1, 0), (H.length + 2, 0)] hG hB hC' hcl (hk := keepW hmu rfl .nil)) ?_
  rintro K k hk hK
  rcases Nat.lt_or_ge k m.cons.length with hlt | hge
  · have e1 : (consL m.cons)[k]? = some (.agg m.cons[k].cells) := by simp [consL, hlt]
    have hfs := flat_take m.cons conS hlt
    have hfl := flat_leS m.cons conS hlt
    obtain ⟨i1, i2, i3⟩ := hi.cons _ (List.getElem_mem hlt)
    generalize hx : m.cons[k] = x at *
    obtain ⟨name, arity, tag, family⟩ := x
    simp only [Con.cells] at e1
    simp only at i1 i2 i3
    have hcs : conS ⟨name, arity, tag, family⟩ = txtS name ++ numsS [arity, tag, family] := rfl
    rw [hcs, List.length_append] at hfl
    have e3 : B1 ++ (m.cons.take (k + 1)).flatMap conS = B1 ++ (m.cons.take k).flatMap conS ++ txtS name ++ numsS [arity, tag, family] := by rw [hfs, hcs]; simp only [List.append_assoc]
    obtain ⟨P, hP⟩ : ∃ P, P = B1 ++ (m.cons.take k).flatMap conS := ⟨_, rfl⟩
    have hPl : P.length = B1.length + ((m.cons.take k).flatMap conS).length := by rw [hP, List.length_append]
    rw [← hP] at e3 ⊢
    have X := And.intro noX (And.intro hml (And.intro hm0 (And.intro hm1 (And.intro hm2 (And.intro hm3 e1)))))
    (refine run ?_; repeat' (first | with_reducible exact trivial | ((with_reducible apply Fork.mk) <;> intro hb) | with_reducible apply Two.mk))
    refine callS (wtext3 G hG name 0 P H [.cells 0 4 [.agg [.str name, .int .i64 arity, .int .i64 tag, .int .i64 family]]] (.cells 0 4 [.agg mc]) (by omega)) ?_
    rintro _ _ ⟨⟨g1, rfl⟩, rfl⟩
    obtain ⟨P2, hP2⟩ : ∃ P2, P2 = P ++ txtS name := ⟨_, rfl⟩
    have hPl2 : P2.length = P.length + (txtS name).length := by rw [hP2, List.length_append]
    rw [← hP2] at e3 ⊢
    (refine run ?_; repeat' (first | with_reducible exact trivial | ((with_reducible apply Fork.mk) <;> intro hb) | with_reducible apply Two.mk))
    refine callS (wnum3 G hG [arity, tag, family] g1 P2 H [.cells 0 4 [.agg [.str name, .int .i64 arity, .int .i64 tag, .int .i64 family]]] (.cells 0 4 [.agg mc]) (by simpa using ⟨i1, i2, i3⟩) (by omega) (by simp)) ?_
    rintro _ _ ⟨⟨g2, rfl⟩, rfl⟩
    (refine run ?_; repeat' (first | with_reducible exact trivial | ((with_reducible apply Fork.mk) <;> intro hb) | with_reducible apply Two.mk))
    refine hK _ _ (k + 1) (by omega) (by omega) ?_
    rw [e3]
    exact wkS (n0 := H.length) [(H.length, 0), (H.length + 1, 0), (H.length + 2, 0)] hG hB hC' hcl (hk := keepW hmu rfl .nil)
  have : k = m.cons.length := by omega
  subst this
  clear hK
  rw [List.take_length]
  have X := And.intro noX (And.intro hml (And.intro hm0 (And.intro hm1 (And.intro hm2 (And.intro hm3 (Int.lt_irrefl (m.cons.length : Int)))))))
  obtain ⟨P, hP⟩ : ∃ P, P = B1 ++ m.cons.flatMap conS := ⟨_, rfl⟩
  have hPl : P.length = B1.length + (m.cons.flatMap conS).length := by rw [hP, List.length_append]
  rw [← hP] at hB2 ⊢
  (refine run ?_; repeat' (first | with_reducible exact trivial | ((with_reducible apply Fork.mk) <;> intro hb) | with_reducible apply Two.mk))
  refine callS (wnum3 G hG [(m.funcs.length : Int)] 0 P H [] (.cells 0 4 [.agg mc]) (fun n hn => by rw [List.mem_singleton.1 hn]; exact isI_len hlf) (by rw [numsS_one]; omega) (by simp)) ?_
  rintro _ _ ⟨⟨g1, rfl⟩, rfl⟩
  (refine run ?_; repeat' (first | with_reducible exact trivial | ((with_reducible apply Fork.mk) <;> intro hb) | with_reducible apply Two.mk))
  clear X
  rw [numsS_one, ← hB2]
  refine go_loop (fun k : Nat => [(1, .ptr H.length 0 0 0), (5, .ptr (H.length + 2) 0 0 0), (59, .list 7 (funsL m.funcs)), (60, .int .i64 m.funcs.length), (61, .int .i64 k)]) (fun k => H ++ [.cells 0 4 [.agg mc], .cells 0 1 (strBytes (B2 ++ (m.funcs.take k).flatMap funS)), .cells 0 1 [.agg [.sl (H.length + 1) 0 0 (B2 ++ (m.funcs.take k).flatMap funS).length]]]) (fun k => m.funcs.length - k) (fun k => k ≤ m.funcs.length) 0 (Nat.zero_le _) (by
    rw [show (m.funcs.take 0).flatMap funS = [] from rfl, List.append_nil]
    exact wkS (n0 := H.length) [(H.length, 0), (H.length + 1, 0), (H.length + 2, 0)] hG hB hC' hcl (hk := keepW hmu rfl .nil)) ?_
  clear g1
  rintro K k hk hK
  rcases Nat.lt_or_ge k m.funcs.length with hlt | hge
  · have e1 : (funsL m.funcs)[k]? = some (.agg m.funcs[k].cells) := by simp [funsL, hlt]
    have hfs := flat_take m.funcs funS hlt
    have hfl := flat_leS m.funcs funS hlt
    obtain ⟨i1, i2, i3, i4⟩ := hi.funcs _ (List.getElem_mem hlt)
    obtain ⟨j1, j2⟩ := hmb.code _ (List.getElem_mem hlt)
    generalize hx : m.funcs[k] = x at *
    obtain ⟨name, thunk, upd, free, params, frame, code⟩ := x
    simp only [Fun.cells] at e1
    simp only at i1 i2 i3 i4 j1 j2
    have hcs : funS ⟨name, thunk, upd, free, params, frame, code⟩ = txtS name ++ truS thunk ++ truS upd ++ numsS [free, params, frame, (code.length : Int)] ++ code.flatMap insS := rfl
    have hux := insL_under H.length code
    have ht1 : ∀ t, (truS t).length = 1 := fun t => by cases t <;> exact congrArg List.length (vb_lt (by decide))
    rw [hcs] at hfl
    simp only [List.length_append, ht1] at hfl
    obtain ⟨P, hP⟩ : ∃ P, P = B2 ++ (m.funcs.take k).flatMap funS := ⟨_, rfl⟩
    have hPl : P.length = B2.length + ((m.funcs.take k).flatMap funS).length := by rw [hP, List.length_append]
    have e3 : B2 ++ (m.funcs.take (k + 1)).flatMap funS = P ++ txtS name ++ truS thunk ++ truS upd ++ numsS [free, params, frame, (code.length : Int)] ++ code.flatMap insS := by rw [hfs, hcs, hP]; simp only [List.append_assoc]
    rw [← hP]
    have X := And.intro noX (And.intro hml (And.intro hm0 (And.intro hm1 (And.intro hm2 (And.intro hm3 e1)))))
    (refine run ?_; repeat' (first | with_reducible exact trivial | ((with_reducible apply Fork.mk) <;> intro hb) | with_reducible apply Two.mk))
    refine callS (wtext3 G hG name 0 P H [.cells 0 7 [.agg [.str name, .bool thunk, .bool upd, .int .i64 free, .int .i64 params, .int .i64 frame, .list 6 (insL code)]]] (.cells 0 4 [.agg mc]) (by omega)) ?_
    rintro _ _ ⟨⟨g1, rfl⟩, rfl⟩
    obtain ⟨P2, hP2⟩ : ∃ P2, P2 = P ++ txtS name := ⟨_, rfl⟩
    have hPl2 : P2.length = P.length + (txtS name).length := by rw [hP2, List.length_append]
    rw [← hP2] at e3 ⊢
    (refine run ?_; repeat' (first | with_reducible exact trivial | ((with_reducible apply Fork.mk) <;> intro hb) | with_reducible apply Two.mk))
    refine callS (wtruth3 G hG thunk g1 P2 H [.cells 0 7 [.agg [.str name, .bool thunk, .bool upd, .int .i64 free, .int .i64 params, .int .i64 frame, .list 6 (insL code)]]] (.cells 0 4 [.agg mc]) (by omega)) ?_
    rintro _ _ ⟨⟨g2, rfl⟩, rfl⟩
    obtain ⟨P3, hP3⟩ : ∃ P3, P3 = P2 ++ truS thunk := ⟨_, rfl⟩
    have hPl3 : P3.length = P2.length + 1 := by rw [hP3, List.length_append, ht1]
    rw [← hP3] at e3 ⊢
    (refine run ?_; repeat' (first | with_reducible exact trivial | ((with_reducible apply Fork.mk) <;> intro hb) | with_reducible apply Two.mk))
    refine callS (wtruth3 G hG upd g2 P3 H [.cells 0 7 [.agg [.str name, .bool thunk, .bool upd, .int .i64 free, .int .i64 params, .int .i64 frame, .list 6 (insL code)]]] (.cells 0 4 [.agg mc]) (by omega)) ?_
    rintro _ _ ⟨⟨g3, rfl⟩, rfl⟩
    obtain ⟨P4, hP4⟩ : ∃ P4, P4 = P3 ++ truS upd := ⟨_, rfl⟩
    have hPl4 : P4.length = P3.length + 1 := by rw [hP4, List.length_append, ht1]
    rw [← hP4] at e3 ⊢
    (refine run ?_; repeat' (first | with_reducible exact trivial | ((with_reducible apply Fork.mk) <;> intro hb) | with_reducible apply Two.mk))
    refine callS (wnum3 G hG [free, params, frame, (code.length : Int)] g3 P4 H [.cells 0 7 [.agg [.str name, .bool thunk, .bool upd, .int .i64 free, .int .i64 params, .int .i64 frame, .list 6 (insL code)]]] (.cells 0 4 [.agg mc]) (by simpa using ⟨i1, i2, i3, isI_len j1⟩) (by omega) (by simp)) ?_
    rintro _ _ ⟨⟨g4, rfl⟩, rfl⟩
    obtain ⟨Q, hQ⟩ : ∃ Q, Q = P4 ++ numsS [free, params, frame, (code.length : Int)] := ⟨_, rfl⟩
    have hQl : Q.length = P4.length + (numsS [free, params, frame, (code.length : Int)]).length := by rw [hQ, List.length_append]
    rw [← hQ] at e3 ⊢
    (refine run ?_; repeat' (first | with_reducible exact trivial | ((with_reducible apply Fork.mk) <;> intro hb) | with_reducible apply Two.mk))
    clear X
    refine go_loop (fun j : Nat => [(1, .ptr H.length 0 0 0), (5, .ptr (H.length + 2) 0 0 0), (9, .ptr (H.length + 3) 0 0 0), (59, .list 7 (funsL m.funcs)), (60, .int .i64 m.funcs.length), (61, .int .i64 k), (90, .list 6 (insL code)), (91, .int .i64 code.length), (92, .int .i64 j)]) (fun j => H ++ [.cells 0 4 [.agg mc], .cells 0 1 (strBytes (Q ++ (code.take j).flatMap insS)), .cells 0 1 [.agg [.sl (H.length + 1) 0 0 (Q ++ (code.take j).flatMap insS).length]], .cells 0 7 [.agg [.str name, .bool thunk, .bool upd, .int .i64 free, .int .i64 params, .int .i64 frame, .list 6 (insL code)]]]) (fun j => code.length - j) (fun j => j ≤ code.length) 0 (Nat.zero_le _) (by
      rw [show (code.take 0).flatMap insS = [] from rfl, List.append_nil]
      exact wkS (n0 := H.length) [(H.length, 0), (H.length + 1, 0), (H.length + 2, 0), (H.length + 3, 0)] hG hB hC' hcl (hk := keepW hmu rfl (keepC (g := 0) (H.length + 3) (by simp) (by omega) (by simp only [SV.underL, SV.under, hux, Bool.and_self]) .nil))) ?_
    clear g1 g2 g3 g4
    rintro K2 j hj hK2
    rcases Nat.lt_or_ge j code.length with hjt | hjg
    · have e2 : (insL code)[j]? = some (.agg code[j].cells) := by simp [insL, hjt]
      have hgs := flat_take code insS hjt
      have hgl := flat_leS code insS hjt
      obtain ⟨q1, q2, q3, q4, q5, q6⟩ := i4 _ (List.getElem_mem hjt)
      have q7 := j2 _ (List.getElem_mem hjt)
      generalize hy : code[j] = y at *
      obtain ⟨op, a, b, c, n, l⟩ := y
      simp only [Ins.cells] at e2
      simp only at q1 q2 q3 q4 q5 q6 q7
      have hds : insS ⟨op, a, b, c, n, l⟩ = numsS [op, a, b, c, n, (l.length : Int)] ++ numsS l := rfl
      rw [hds, List.length_append] at hgl
      have e4 : Q ++ (code.take (j + 1)).flatMap insS = Q ++ (code.take j).flatMap insS ++ numsS [op, a, b, c, n, (l.length : Int)] ++ numsS l := by rw [hgs, hds]; simp only [List.append_assoc]
      obtain ⟨R, hRr⟩ : ∃ R, R = Q ++ (code.take j).flatMap insS := ⟨_, rfl⟩
      have hRl : R.length = Q.length + ((code.take j).flatMap insS).length := by rw [hRr, List.length_append]
      rw [← hRr] at e4 ⊢
      have X := And.intro noX (And.intro hml (And.intro hm0 (And.intro hm1 (And.intro hm2 (And.intro hm3 e2)))))
      (refine run ?_; repeat' (first | with_reducible exact trivial | ((with_reducible apply Fork.mk) <;> intro hb) | with_reducible apply Two.mk))
      refine callS (wnum3 G hG [op, a, b, c, n, (l.length : Int)] 0 R H [.cells 0 7 [.agg [.str name, .bool thunk, .bool upd, .int .i64 free, .int .i64 params, .int .i64 frame, .list 6 (insL code)]], .cells 0 6 [.agg [.int .i64 op, .int .i64 a, .int .i64 b, .int .i64 c, .int .i64 n, .list 1 (l.map (.int .i64))]]] (.cells 0 4 [.agg mc]) (by simpa using ⟨q1, q2, q3, q4, q5, isI_len q7⟩) (by omega) (by simp)) ?_
      rintro _ _ ⟨⟨g1, rfl⟩, rfl⟩
      obtain ⟨R2, hR2⟩ : ∃ R2, R2 = R ++ numsS [op, a, b, c, n, (l.length : Int)] := ⟨_, rfl⟩
      have hRl2 : R2.length = R.length + (numsS [op, a, b, c, n, (l.length : Int)]).length := by rw [hR2, List.length_append]
      rw [← hR2] at e4 ⊢
      (refine run ?_; repeat' (first | with_reducible exact trivial | ((with_reducible apply Fork.mk) <;> intro hb) | with_reducible apply Two.mk))
      refine callS (wnum3 G hG l g1 R2 H [.cells 0 7 [.agg [.str name, .bool thunk, .bool upd, .int .i64 free, .int .i64 params, .int .i64 frame, .list 6 (insL code)]], .cells 0 6 [.agg [.int .i64 op, .int .i64 a, .int .i64 b, .int .i64 c, .int .i64 n, .list 1 (l.map (.int .i64))]]] (.cells 0 4 [.agg mc]) q6 (by omega) q7) ?_
      rintro _ _ ⟨⟨g2, rfl⟩, rfl⟩
      (refine run ?_; repeat' (first | with_reducible exact trivial | ((with_reducible apply Fork.mk) <;> intro hb) | with_reducible apply Two.mk))
      refine hK2 _ _ (j + 1) (by omega) (by omega) ?_
      rw [e4]
      exact wkS (n0 := H.length) [(H.length, 0), (H.length + 1, 0), (H.length + 2, 0), (H.length + 3, 0)] hG hB hC' hcl (hk := keepW hmu rfl (keepC (g := 0) (H.length + 3) (by simp) (by omega) (by simp only [SV.underL, SV.under, hux, Bool.and_self]) .nil))
    have : j = code.length := by omega
    subst this
    clear hK2
    rw [List.take_length]
    have X := And.intro noX (And.intro hml (And.intro hm0 (And.intro hm1 (And.intro hm2 (And.intro hm3 (Int.lt_irrefl (code.length : Int)))))))
    (refine run ?_; repeat' (first | with_reducible exact trivial | ((with_reducible apply Fork.mk) <;> intro hb) | with_reducible apply Two.mk))
    refine hK _ _ (k + 1) (by omega) (by omega) ?_
    rw [e3]
    exact wkS (n0 := H.length) [(H.length, 0), (H.length + 1, 0), (H.length + 2, 0)] hG hB hC' hcl (hk := keepW hmu rfl .nil)
  have : k = m.funcs.length := by omega
  subst this
  clear hK
  rw [List.take_length]
  have X := And.intro noX (And.intro hml (And.intro hm0 (And.intro hm1 (And.intro hm2 (And.intro hm3 (Int.lt_irrefl (m.funcs.length : Int)))))))
  clear hPl hP
  obtain ⟨P, hP⟩ : ∃ P, P = B2 ++ m.funcs.flatMap funS := ⟨_, rfl⟩
  have hPl : P.length = B2.length + (m.funcs.flatMap funS).length := by rw [hP, List.length_append]
  rw [← hP] at hB3 ⊢
  (refine run ?_; repeat' (first | with_reducible exact trivial | ((with_reducible apply Fork.mk) <;> intro hb) | with_reducible apply Two.mk))
  refine callS (wnum3 G hG [(m.globals.length : Int)] 0 P H [] (.cells 0 4 [.agg mc]) (fun n hn => by rw [List.mem_singleton.1 hn]; exact isI_len hlg) (by rw [numsS_one]; omega) (by simp)) ?_
  rintro _ _ ⟨⟨g1, rfl⟩, rfl⟩
  (refine run ?_; repeat' (first | with_reducible exact trivial | ((with_reducible apply Fork.mk) <;> intro hb) | with_reducible apply Two.mk))
  clear X
  rw [numsS_one, ← hB3]
  refine go_loop (fun k : Nat => [(1, .ptr H.length 0 0 0), (5, .ptr (H.length + 2) 0 0 0), (125, .list 3 (glbsL m.globals)), (126, .int .i64 m.globals.length), (127, .int .i64 k)]) (fun k => H ++ [.cells 0 4 [.agg mc], .cells 0 1 (strBytes (B3 ++ (m.globals.take k).flatMap glbS)), .cells 0 1 [.agg [.sl (H.length + 1) 0 0 (B3 ++ (m.globals.take k).flatMap glbS).length]]]) (fun k => m.globals.length - k) (fun k => k ≤ m.globals.length) 0 (Nat.zero_le _) (by
    rw [show (m.globals.take 0).flatMap glbS = [] from rfl, List.append_nil]
    exact wkS (n0 := H.length) [(H.length, 0), (H.length + 1, 0), (H.length + 2, 0)] hG hB hC' hcl (hk := keepW hmu rfl .nil)) ?_
  clear g1
  rintro K k hk hK
  rcases Nat.lt_or_ge k m.globals.length with hlt | hge
  · have e1 : (glbsL m.globals)[k]? = some (.agg m.globals[k].cells) := by simp [glbsL, hlt]
    have hfs := flat_take m.globals glbS hlt
    have hfl := flat_leS m.globals glbS hlt
    obtain ⟨i1, i2, i3⟩ := hi.globals _ (List.getElem_mem hlt)
    have j1 := hmb.args _ (List.getElem_mem hlt)
    generalize hx : m.globals[k] = x at *
    obtain ⟨kind, gn, args⟩ := x
    simp only [Glb.cells] at e1
    simp only at i1 i2 i3 j1
    have hcs : glbS ⟨kind, gn, args⟩ = numsS [kind, gn, (args.length : Int)] ++ args.flatMap refS := rfl
    rw [hcs, List.length_append] at hfl
    obtain ⟨P, hP⟩ : ∃ P, P = B3 ++ (m.globals.take k).flatMap glbS := ⟨_, rfl⟩
    have hPl : P.length = B3.length + ((m.globals.take k).flatMap glbS).length := by rw [hP, List.length_append]
    have e3 : B3 ++ (m.globals.take (k + 1)).flatMap glbS = P ++ numsS [kind, gn, (args.length : Int)] ++ args.flatMap refS := by rw [hfs, hcs, hP]; simp only [List.append_assoc]
    rw [← hP]
    have hux : SV.underL H.length (args.map encR) = true := SV.underL_map fun _ _ => rfl
    have hll : (args.map encR).length = args.length := by simp
    have X := And.intro noX (And.intro hml (And.intro hm0 (And.intro hm1 (And.intro hm2 (And.intro hm3 e1)))))
    (refine run ?_; repeat' (first | with_reducible exact trivial | ((with_reducible apply Fork.mk) <;> intro hb) | with_reducible apply Two.mk))
    refine callS (wnum3 G hG [kind, gn, (args.length : Int)] 0 P H [.cells 0 3 [.agg [.int .i64 kind, .int .i64 gn, .list 2 (args.map encR)]]] (.cells 0 4 [.agg mc]) (by simpa using ⟨i1, i2, isI_len j1⟩) (by omega) (by simp)) ?_
    rintro _ _ ⟨⟨g1, rfl⟩, rfl⟩
    obtain ⟨Q, hQ⟩ : ∃ Q, Q = P ++ numsS [kind, gn, (args.length : Int)] := ⟨_, rfl⟩
    have hQl : Q.length = P.length + (numsS [kind, gn, (args.length : Int)]).length := by rw [hQ, List.length_append]
    rw [← hQ] at e3 ⊢
    (refine run ?_; repeat' (first | with_reducible exact trivial | ((with_reducible apply Fork.mk) <;> intro hb) | with_reducible apply Two.mk))
    clear X
    refine go_loop (fun j : Nat => [(1, .ptr H.length 0 0 0), (5, .ptr (H.length + 2) 0 0 0), (13, .ptr (H.length + 3) 0 0 0), (125, .list 3 (glbsL m.globals)), (126, .int .i64 m.globals.length), (127, .int .i64 k), (142, .list 2 (args.map encR)), (143, .int .i64 args.length), (144, .int .i64 j)]) (fun j => H ++ [.cells 0 4 [.agg mc], .cells 0 1 (strBytes (Q ++ (args.take j).flatMap refS)), .cells 0 1 [.agg [.sl (H.length + 1) 0 0 (Q ++ (args.take j).flatMap refS).length]], .cells 0 3 [.agg [.int .i64 kind, .int .i64 gn, .list 2 (args.map encR)]]]) (fun j => args.length - j) (fun j => j ≤ args.length) 0 (Nat.zero_le _) (by
      rw [show (args.take 0).flatMap refS = [] from rfl, List.append_nil]
      exact wkS (n0 := H.length) [(H.length, 0), (H.length + 1, 0), (H.length + 2, 0), (H.length + 3, 0)] hG hB hC' hcl (hk := keepW hmu rfl (keepC (g := 0) (H.length + 3) (by simp) (by omega) (by simp only [SV.underL, SV.under, hux, Bool.and_self]) .nil))) ?_
    clear g1
    rintro K2 j hj hK2
    rcases Nat.lt_or_ge j args.length with hjt | hjg
    · have e2 : (args.map encR)[j]? = some (encR args[j]) := by simp [hjt]
      have hgs := flat_take args refS hjt
      have hgl := flat_leS args refS hjt
      obtain ⟨q1, q2⟩ := i3 _ (List.getElem_mem hjt)
      generalize hy : args[j] = y at *
      obtain ⟨a, b⟩ := y
      simp only [encR] at e2
      simp only at q1 q2
      have hds : refS (a, b) = numsS [a, b] := rfl
      rw [hds] at hgl
      have e4 : Q ++ (args.take (j + 1)).flatMap refS = Q ++ (args.take j).flatMap refS ++ numsS [a, b] := by rw [hgs, hds]; simp only [List.append_assoc]
      obtain ⟨R, hRr⟩ : ∃ R, R = Q ++ (args.take j).flatMap refS := ⟨_, rfl⟩
      have hRl : R.length = Q.length + ((args.take j).flatMap refS).length := by rw [hRr, List.length_append]
      rw [← hRr] at e4 ⊢
      have X := And.intro noX (And.intro hml (And.intro hm0 (And.intro hm1 (And.intro hm2 (And.intro hm3 e2)))))
      (refine run ?_; repeat' (first | with_reducible exact trivial | ((with_reducible apply Fork.mk) <;> intro hb) | with_reducible apply Two.mk))
      refine callS (wnum3 G hG [a, b] 0 R H [.cells 0 3 [.agg [.int .i64 kind, .int .i64 gn, .list 2 (args.map encR)]], .cells 0 2 [.agg [.int .i64 a, .int .i64 b]]] (.cells 0 4 [.agg mc]) (by simpa using ⟨q1, q2⟩) (by omega) (by simp)) ?_
      rintro _ _ ⟨⟨g1, rfl⟩, rfl⟩
      (refine run ?_; repeat' (first | with_reducible exact trivial | ((with_reducible apply Fork.mk) <;> intro hb) | with_reducible apply Two.mk))
      refine hK2 _ _ (j + 1) (by omega) (by omega) ?_
      rw [e4]
      exact wkS (n0 := H.length) [(H.length, 0), (H.length + 1, 0), (H.length + 2, 0), (H.length + 3, 0)] hG hB hC' hcl (hk := keepW hmu rfl (keepC (g := 0) (H.length + 3) (by simp) (by omega) (by simp only [SV.underL, SV.under, hux, Bool.and_self]) .nil))
    have : j = args.length := by omega
    subst this
    clear hK2
    rw [List.take_length]
    have X := And.intro noX (And.intro hml (And.intro hm0 (And.intro hm1 (And.intro hm2 (And.intro hm3 (Int.lt_irrefl (args.length : Int)))))))
    (refine run ?_; repeat' (first | with_reducible exact trivial | ((with_reducible apply Fork.mk) <;> intro hb) | with_reducible apply Two.mk))
    refine hK _ _ (k + 1) (by omega) (by omega) ?_
    rw [e3]
    exact wkS (n0 := H.length) [(H.length, 0), (H.length + 1, 0), (H.length + 2, 0)] hG hB hC' hcl (hk := keepW hmu rfl .nil)
  have : k = m.globals.length := by omega
  subst this
  clear hK
  rw [List.take_length]
  have X := And.intro noX (And.intro hml (And.intro hm0 (And.intro hm1 (And.intro hm2 (And.intro hm3 (Int.lt_irrefl (m.globals.length : Int)))))))
  clear hPl hP
  obtain ⟨P, hP⟩ : ∃ P, P = B3 ++ m.globals.flatMap glbS := ⟨_, rfl⟩
  have hPl : P.length = B3.length + (m.globals.flatMap glbS).length := by rw [hP, List.length_append]
  rw [← hP] at hen ⊢
  (refine run ?_; repeat' (first | with_reducible exact trivial | ((with_reducible apply Fork.mk) <;> intro hb) | with_reducible apply Two.mk))
  refine callS (wnum3 G hG [m.main] 0 P H [] (.cells 0 4 [.agg mc]) (fun n hn => by rw [List.mem_singleton.1 hn]; exact hi.main) (by rw [numsS_one]; omega) (by simp)) ?_
  rintro _ _ ⟨⟨g1, rfl⟩, rfl⟩
  rw [numsS_one, ← hen]
  (refine run ?_; repeat' (first | with_reducible exact trivial | ((with_reducible apply Fork.mk) <;> intro hb) | with_reducible apply Two.mk))
  refine finS hR hC' hcl (.same _ ?_) ⟨rfl, ?_⟩
  · rfl
  unfold encS; rw [if_pos hchk, hchk]; rfl
end Go.Proofs.YthgdcjenoiojeaaGreatDoor
end
