/- CodeChecks: the encoder and the checker do as the reference's do. -/
import Derived.Test.YtihhngjoecgkpaaDoorMj

section
namespace Go.Proofs.YtihhngjoecgkpaaDoor
open Go
set_option linter.unusedSimpArgs false
set_option linter.unusedVariables false
set_option maxRecDepth 10000
set_option maxHeartbeats 4000000

/-- what a global is of, but for its arguments -/
def glbA (m : Img) (g : Glb) : Bool :=
  if g.kind = 1 ∨ g.kind = 2 then inR g.n 0 ((m.funcs.length : Int) - 1) && (getT m.funcs g.n == decide (g.kind = 2)) && decide (getF m.funcs g.n = 0) && decide ((g.args.length : Int) = 0)
  else if g.kind = 3 then inR g.n 0 ((m.cons.length : Int) - 1) && decide (getA m.cons g.n = (g.args.length : Int)) else false
theorem glb_parts (m : Img) (g : Glb) : glbOK m g = (glbA m g && !(g.args.any (refBad m.globals.length))) := by
  rw [Bool.and_comm]; rfl
theorem rcheck_ok (G : Gl) (hG : GClosed G) (m : Img) (slots : Int) (hIB : ImgB m) (H : List Blk) : ACall Tryd.prog G 12 [.agg m.cells, .int .i64 slots] H (fun r H' => H' = H ∧ r = .int .i64 (chkS m slots)) := by
  have hml : m.cells.length = 4 := rfl
  have hmu := fun n => Img.cells_under n m
  have hm0 : m.cells[0]? = some (.list 4 (consL m.cons)) := rfl
  have hm1 : m.cells[1]? = some (.list 7 (funsL m.funcs)) := rfl
  have hm2 : m.cells[2]? = some (.list 3 (glbsL m.globals)) := rfl
  have hm3 : m.cells[3]? = some (.int .i64 m.main) := rfl
  have b1 := hIB.c
  have b2 := hIB.f
  have b3 := hIB.g
  have k1 := fun H => rcons_ok G hG m.cons b1 H
  have hS : chkS m slots = if inR slots 1 65536 = false then 1 else if !consOK m.cons || decide ((10000 : Int) < m.funcs.length) || decide ((10000 : Int) < m.globals.length) || !inR m.main 0 ((m.globals.length : Int) - 1) then 170 else if m.funcs.any (fun f => !funOK m slots f) || m.globals.any (fun g => !glbOK m g) then 170 else 0 := rfl
  by_cases hs : slots < 1 ∨ 65536 < slots
  · have hb0 : (decide (slots < 1) || decide (65536 < slots)) = true := by simpa using hs
    have e : chkS m slots = 1 := by rw [hS, if_pos]; rw [← Bool.not_eq_true, inR_iff]; omega
    rw [e]
    generalize m.cells = mc at *
    refine ACall.of_go TB [] tabOK _ Tryd.func12 rfl (by decide) Tryd.ntmps12 (by simp) rfl (by simp only [initEnv, Nat.reduceAdd]; rfl) fun C R' hR hC hcl hB => ?_; have X := noX; have hC' := congrArg List.length hC
    have X := And.intro hml hb0
    (refine run ?_; repeat' (first | with_reducible exact trivial | ((with_reducible apply Fork.mk) <;> intro hb) | with_reducible apply Two.mk))
    exact finS hR hC' hcl (.same _ rfl) ⟨rfl, rfl⟩
  have hs : 1 ≤ slots ∧ slots ≤ 65536 := by omega
  have hb0 : (decide (slots < 1) || decide (65536 < slots)) = false := by simp; omega
  rw [if_neg (by rw [inR_iff.2 hs]; decide)] at hS
  have k2 := fun f hf H => rfun_ok G hG m slots f (hIB.code f hf).1 (hIB.code f hf).2 b1 b2 b3 hs H
  have hga := hIB.args
  clear hIB
  generalize hv : chkS m slots = V at *
  generalize hmc : m.cells = mc at *
  generalize consOK m.cons = cok at *
  refine ACall.of_go TB [] tabOK _ Tryd.func12 rfl (by decide) Tryd.ntmps12 (by simp) rfl (by simp only [initEnv, Nat.reduceAdd]; rfl) fun C R' hR hC hcl hB => ?_; have X := noX; have hC' := congrArg List.length hC
  have X0 := And.intro hml (And.intro hm0 (And.intro hm1 (And.intro hm2 hm3)))
  have hfin : ∀ (X : List Blk) (v : Int), v = V → Fin C (H ++ X) (resSV [SV.int .i64 v]) R' := fun X v e => finS hR hC' hcl (.same _ rfl) ⟨rfl, by rw [← e]; rfl⟩
  have c1 := k1
  have X := And.intro X0 hb0
  have hF170 : ∀ f ∈ m.funcs, funOK m slots f = false → (170 : Int) = V := fun f hf h => by
    rw [hS]
    split
    · rfl
    · rw [if_pos]
      rw [Bool.or_eq_true, List.any_eq_true]
      exact .inl ⟨f, hf, by rw [h]; rfl⟩
  have hG170 : ∀ g ∈ m.globals, glbOK m g = false → (170 : Int) = V := fun g hg h => by
    rw [hS]
    split
    · rfl
    · rw [if_pos]
      rw [Bool.or_eq_true, List.any_eq_true (l := m.globals)]
      exact .inr ⟨g, hg, by rw [h]; rfl⟩
  by_cases h0 : (!cok || decide ((10000 : Int) < m.funcs.length) || decide ((10000 : Int) < m.globals.length)) = true
  · have X := And.intro X0 (And.intro hb0 h0)
    (refine run ?_; repeat' (first | with_reducible exact trivial | ((with_reducible apply Fork.mk) <;> intro hb) | with_reducible apply Two.mk))
    exact hfin _ _ (by rw [hS, if_pos (by rw [h0]; rfl)])
  have h0 : (!cok || decide ((10000 : Int) < m.funcs.length) || decide ((10000 : Int) < m.globals.length)) = false := by simpa using h0
  rw [h0, Bool.false_or] at hS
  have X := And.intro X0 (And.intro hb0 h0)
  (refine run ?_; repeat' (first | with_reducible exact trivial | ((with_reducible apply Fork.mk) <;> intro hb) | with_reducible apply Two.mk))
  clear X c1
  refine go_loop (fun i : Nat => [(1, .int .i64 slots), (2, .ptr H.length 0 0 0), (5, .int .i64 i)]) (fun _ => H ++ [.cells 0 4 [.agg mc]]) (fun i => m.funcs.length - i) (fun i => i ≤ m.funcs.length ∧ ∀ f ∈ m.funcs.take i, funOK m slots f = true) 0 ⟨Nat.zero_le _, fun x hx => by simp at hx⟩ (Wk.sub (by simp [subEnv, look])) ?_
  rintro K i ⟨hi, hall⟩ hK
  rcases Nat.lt_or_ge i m.funcs.length with hlt | hge
  · have e1 : (funsL m.funcs)[i]? = some (.agg m.funcs[i].cells) := by simp [funsL, hlt]
    have htk := List.take_succ_eq_append_getElem hlt
    have hmem := List.getElem_mem hlt
    have c1 := k2 m.funcs[i] hmem
    have hbad := hF170 m.funcs[i] hmem
    have hcl7 := Fun.cells_len m.funcs[i]
    have hyes : funOK m slots m.funcs[i] = true → ∀ f ∈ m.funcs.take (i + 1), funOK m slots f = true := fun h x hx => by
      rw [htk] at hx
      rcases List.mem_append.1 hx with h1 | h1
      · exact hall x h1
      · rw [List.mem_singleton.1 h1]; exact h
    generalize funOK m slots m.funcs[i] = pv at *
    generalize m.funcs[i].cells = xc at *
    have X := And.intro X0 (And.intro e1 hcl7)
    cases pv with
    | true =>
      (refine run ?_; repeat' (first | with_reducible exact trivial | ((with_reducible apply Fork.mk) <;> intro hb) | with_reducible apply Two.mk))
      exact hK _ _ (i + 1) (by omega) ⟨by omega, hyes rfl⟩ (Wk.sub (by simp [subEnv, look]))
    | false =>
      (refine run ?_; repeat' (first | with_reducible exact trivial | ((with_reducible apply Fork.mk) <;> intro hb) | with_reducible apply Two.mk))
      exact hfin _ _ (hbad rfl)
  have : i = m.funcs.length := by omega
  subst this
  clear hK
  rw [List.take_length] at hall
  have hany1 : (m.funcs.any fun f => !funOK m slots f) = false := by
    rw [List.any_eq_false]; intro x hx; rw [hall x hx]; simp
  rw [hany1, Bool.false_or] at hS
  have X := And.intro X0 (Int.lt_irrefl (m.funcs.length : Int))
  (refine run ?_; repeat' (first | with_reducible exact trivial | ((with_reducible apply Fork.mk) <;> intro hb) | with_reducible apply Two.mk))
  clear X
  refine go_loop (fun i : Nat => [(2, .ptr H.length 0 0 0), (6, .int .i64 i)]) (fun _ => H ++ [.cells 0 4 [.agg mc]]) (fun i => m.globals.length - i) (fun i => i ≤ m.globals.length ∧ ∀ g ∈ m.globals.take i, glbOK m g = true) 0 ⟨Nat.zero_le _, fun x hx => by simp at hx⟩ (Wk.sub (by simp [subEnv, look])) ?_
  rintro K i ⟨hi, hall2⟩ hK
  rcases Nat.lt_or_ge i m.globals.length with hlt | hge
  · have e1 : (glbsL m.globals)[i]? = some (.agg m.globals[i].cells) := by simp [glbsL, hlt]
    have htk := List.take_succ_eq_append_getElem hlt
    have hmem := List.getElem_mem hlt
    have hbad := hG170 m.globals[i] hmem
    have hal := hga m.globals[i] hmem
    have hyes : glbOK m m.globals[i] = true → ∀ g ∈ m.globals.take (i + 1), glbOK m g = true := fun h x hx => by
      rw [htk] at hx
      rcases List.mem_append.1 hx with h1 | h1
      · exact hall2 x h1
      · rw [List.mem_singleton.1 h1]; exact h
    rw [glb_parts] at hbad hyes
    have hgA : glbA m m.globals[i] = glbA m m.globals[i] := rfl
    generalize m.globals[i] = g at *
    obtain ⟨kind, n, args⟩ := g
    simp only [Glb.cells] at e1
    simp only at hal hbad hyes
    have hux : ∀ n, SV.underL n (args.map encR) = true := fun n => SV.underL_map fun _ _ => rfl
    have hall3 : (args.map encR).length = args.length := by simp
    have X := And.intro X0 e1
    (refine runB ?_; repeat' (first | with_reducible exact trivial | ((with_reducible apply Fork.mk) <;> intro hb) | with_reducible apply Two.mk))
    refine go_block ?_
    (refine runB ?_; repeat' (first | with_reducible exact trivial | ((with_reducible apply Fork.mk) <;> intro hb) | with_reducible apply Two.mk))
    refine go_cut (fun _ : Unit => [(2, .ptr H.length 0 0 0), (6, .int .i64 i), (7, .ptr (H.length + 1) 0 0 0), (8, .bool (glbA m ⟨kind, n, args⟩))]) (fun _ => H ++ [.cells 0 4 [.agg mc], .cells 0 3 [.agg [.int .i64 kind, .int .i64 n, .list 2 (args.map encR)]]]) (fun _ => True) (fun K2 hK2 => ?_) (fun _ _ => ?_)
    · by_cases hk12 : kind = 1 ∨ kind = 2
      · have hA : glbA m ⟨kind, n, args⟩ = (inR n 0 ((m.funcs.length : Int) - 1) && (getT m.funcs n == decide (kind = 2)) && decide (getF m.funcs n = 0) && decide ((args.length : Int) = 0)) := by unfold glbA; rw [if_pos hk12]
        by_cases hin : 0 ≤ n ∧ n < m.funcs.length
        · have e2 : (funsL m.funcs)[n.toNat]? = some (.agg (m.funcs[n.toNat]'(by omega)).cells) := by simp [funsL, show n.toNat < m.funcs.length by omega]
          have e3 : getF m.funcs n = (m.funcs[n.toNat]'(by omega)).free := by unfold getF; rw [List.getElem?_eq_getElem (by omega)]
          have e4 : getT m.funcs n = (m.funcs[n.toNat]'(by omega)).thunk := by unfold getT; rw [List.getElem?_eq_getElem (by omega)]
          generalize (m.funcs[n.toNat]'(by omega)) = x at e2 e3 e4
          obtain ⟨x0, x1, x2, x3, x4, x5, x6⟩ := x
          simp only [Fun.cells] at e2 e3 e4
          have e5 : inR n 0 ((m.funcs.length : Int) - 1) = true := inR_iff.2 (by omega)
          rw [e3, e4, e5, Bool.true_and] at hA
          rw [hA] at hK2
          rcases hk12 with rfl | rfl
          · have X := And.intro X0 (And.intro hin.1 (And.intro hin.2 (And.intro e2 hall3)))
            (refine run ?_; repeat' (first | with_reducible exact trivial | ((with_reducible apply Fork.mk) <;> intro hb) | with_reducible apply Two.mk))
            all_goals (refine hK2 _ _ () trivial (Wk.sub ?_); exact ⟨rfl, rfl, rfl, rfl, trivial⟩)
          · have X := And.intro X0 (And.intro hin.1 (And.intro hin.2 (And.intro e2 hall3)))
            (refine run ?_; repeat' (first | with_reducible exact trivial | ((with_reducible apply Fork.mk) <;> intro hb) | with_reducible apply Two.mk))
            all_goals (refine hK2 _ _ () trivial (Wk.sub ?_); exact ⟨rfl, rfl, rfl, rfl, trivial⟩)
        · have e5 : inR n 0 ((m.funcs.length : Int) - 1) = false := by rw [← Bool.not_eq_true, inR_iff]; omega
          have e6 : (decide (0 ≤ n) && decide (n < (m.funcs.length : Int))) = false := by rw [← Bool.not_eq_true]; simp only [Bool.and_eq_true, decide_eq_true_eq]; exact hin
          rw [e5, Bool.false_and, Bool.false_and, Bool.false_and] at hA
          rw [hA] at hK2
          rcases hk12 with rfl | rfl
          · have X := And.intro X0 (And.intro e6 hall3)
            (refine run ?_; repeat' (first | with_reducible exact trivial | ((with_reducible apply Fork.mk) <;> intro hb) | with_reducible apply Two.mk))
            all_goals (refine hK2 _ _ () trivial (Wk.sub ?_); exact ⟨rfl, rfl, rfl, rfl, trivial⟩)
          · have X := And.intro X0 (And.intro e6 hall3)
            (refine run ?_; repeat' (first | with_reducible exact trivial | ((with_reducible apply Fork.mk) <;> intro hb) | with_reducible apply Two.mk))
            all_goals (refine hK2 _ _ () trivial (Wk.sub ?_); exact ⟨rfl, rfl, rfl, rfl, trivial⟩)
      · by_cases hk3 : kind = 3
        · subst hk3
          have hA : glbA m ⟨3, n, args⟩ = (inR n 0 ((m.cons.length : Int) - 1) && decide (getA m.cons n = (args.length : Int))) := rfl
          by_cases hin : 0 ≤ n ∧ n < m.cons.length
          · have e2 : (consL m.cons)[n.toNat]? = some (.agg (m.cons[n.toNat]'(by omega)).cells) := by simp [consL, show n.toNat < m.cons.length by omega]
            have e3 : getA m.cons n = (m.cons[n.toNat]'(by omega)).arity := by unfold getA; rw [List.getElem?_eq_getElem (by omega)]
            generalize (m.cons[n.toNat]'(by omega)) = x at e2 e3
            obtain ⟨x0, x1, x2, x3⟩ := x
            simp only [Con.cells] at e2 e3
            have e5 : inR n 0 ((m.cons.length : Int) - 1) = true := inR_iff.2 (by omega)
            rw [e3, e5, Bool.true_and] at hA
            rw [hA] at hK2
            have X := And.intro X0 (And.intro hin.1 (And.intro hin.2 (And.intro e2 hall3)))
            (refine run ?_; repeat' (first | with_reducible exact trivial | ((with_reducible apply Fork.mk) <;> intro hb) | with_reducible apply Two.mk))
            all_goals (refine hK2 _ _ () trivial (Wk.sub ?_); exact ⟨rfl, rfl, rfl, rfl, trivial⟩)
          · have e5 : inR n 0 ((m.cons.length : Int) - 1) = false := by rw [← Bool.not_eq_true, inR_iff]; omega
            have e6 : (decide (0 ≤ n) && decide (n < (m.cons.length : Int))) = false := by rw [← Bool.not_eq_true]; simp only [Bool.and_eq_true, decide_eq_true_eq]; exact hin
            rw [e5, Bool.false_and] at hA
            rw [hA] at hK2
            have X := And.intro X0 (And.intro e6 hall3)
            (refine run ?_; repeat' (first | with_reducible exact trivial | ((with_reducible apply Fork.mk) <;> intro hb) | with_reducible apply Two.mk))
            all_goals (refine hK2 _ _ () trivial (Wk.sub ?_); exact ⟨rfl, rfl, rfl, rfl, trivial⟩)
        · have hA : glbA m ⟨kind, n, args⟩ = false := by unfold glbA; rw [if_neg hk12, if_neg hk3]
          rw [hA] at hK2
          have hk1 : ¬ kind = 1 := fun h => hk12 (.inl h)
          have hk2 : ¬ kind = 2 := fun h => hk12 (.inr h)
          have X := And.intro X0 (And.intro hk1 (And.intro hk2 hk3))
          (refine run ?_; repeat' (first | with_reducible exact trivial | ((with_reducible apply Fork.mk) <;> intro hb) | with_reducible apply Two.mk))
          all_goals (refine hK2 _ _ () trivial (Wk.sub ?_); exact ⟨rfl, rfl, rfl, rfl, trivial⟩)
    · generalize glbA m ⟨kind, n, args⟩ = ga at *
      have X := And.intro X0 hall3
      (refine run ?_; repeat' (first | with_reducible exact trivial | ((with_reducible apply Fork.mk) <;> intro hb) | with_reducible apply Two.mk))
      clear X
      refine go_loop (fun j : Nat => [(2, .ptr H.length 0 0 0), (6, .int .i64 i), (7, .ptr (H.length + 1) 0 0 0), (8, .bool (ga && !((args.take j).any (refBad m.globals.length)))), (9, .int .i64 j)]) (fun _ => H ++ [.cells 0 4 [.agg mc], .cells 0 3 [.agg [.int .i64 kind, .int .i64 n, .list 2 (args.map encR)]]]) (fun j => args.length - j) (fun j => j ≤ args.length) 0 (Nat.zero_le _) (Wk.sub (by simp [subEnv, look])) ?_
      rintro K3 j hj hK3
      rcases Nat.lt_or_ge j args.length with hjt | hjg
      · have e2 : (args.map encR)[j]? = some (encR args[j]) := by simp [hjt]
        have hta := List.take_succ_eq_append_getElem hjt
        generalize args[j] = r at *
        obtain ⟨x, y⟩ := r
        simp only [encR] at e2
        have hrb : ∀ q : Bool, (q && decide (-1 ≤ x) && decide (x < (m.globals.length : Int)) && (decide (x < 0) || decide (y = 0))) = (q && !refBad m.globals.length (x, y)) := fun q => by
          cases q
          · simp
          · rw [Bool.eq_iff_iff]
            simp only [refBad, inR, Bool.true_and, Bool.and_eq_true, Bool.or_eq_true, Bool.not_eq_true', decide_eq_true_eq, Bool.or_eq_false_iff, Bool.not_eq_false', Bool.and_eq_false_iff, decide_eq_false_iff_not]
            omega
        have hq2 : (ga && !((args.take (j + 1)).any (refBad m.globals.length))) = ((ga && !((args.take j).any (refBad m.globals.length))) && !refBad m.globals.length (x, y)) := by
          rw [hta, List.any_append]
          simp only [List.any_cons, List.any_nil, Bool.or_false, Bool.not_or, Bool.and_assoc]
        rw [← hrb] at hq2
        generalize (ga && !((args.take j).any (refBad m.globals.length))) = q at *
        have X := And.intro X0 (And.intro e2 hall3)
        (refine run ?_; repeat' (first | with_reducible exact trivial | ((with_reducible apply Fork.mk) <;> intro hb) | with_reducible apply Two.mk))
        refine hK3 _ _ (j + 1) (by omega) (by omega) ?_
        rw [hq2]
        exact wkS (n0 := H.length) [(H.length, 0), (H.length + 1, 0)] hG hB hC' hcl (hk := keepC (g := 0) H.length (by simp) (Nat.le_refl _) (by simp only [SV.underL, SV.under, hmu, Bool.and_self]) (keepC (g := 0) (H.length + 1) (by simp) (by omega) (by simp only [SV.underL, SV.under, hux, Bool.and_self]) .nil))
      · have : j = args.length := by omega
        subst this
        rw [List.take_length]
        clear hK3
        generalize (ga && !(args.any (refBad m.globals.length))) = q at *
        have X := And.intro X0 (And.intro hall3 (Int.lt_irrefl (args.length : Int)))
        cases q with
        | true =>
          (refine run ?_; repeat' (first | with_reducible exact trivial | ((with_reducible apply Fork.mk) <;> intro hb) | with_reducible apply Two.mk))
          refine hK _ _ (i + 1) (by omega) ⟨by omega, hyes rfl⟩ ?_
          exact wkS (n0 := H.length) [(H.length, 0)] hG hB hC' hcl (hk := keepC (g := 0) H.length (by simp) (Nat.le_refl _) (by simp only [SV.underL, SV.under, hmu, Bool.and_self]) .nil)
        | false =>
          (refine run ?_; repeat' (first | with_reducible exact trivial | ((with_reducible apply Fork.mk) <;> intro hb) | with_reducible apply Two.mk))
          exact hfin _ _ (hbad rfl)
  have : i = m.globals.length := by omega
  subst this
  clear hK
  rw [List.take_length] at hall2
  have hany2 : (m.globals.any fun g => !glbOK m g) = false := by
    rw [List.any_eq_false]; intro x hx; rw [hall2 x hx]; simp
  rw [hany2] at hS
  have hmn : (decide (m.main < 0) || decide ((m.globals.length : Int) ≤ m.main)) = !inR m.main 0 ((m.globals.length : Int) - 1) := by
    rw [Bool.eq_iff_iff]; simp only [inR, Bool.or_eq_true, decide_eq_true_eq, Bool.not_eq_true', Bool.and_eq_false_iff, decide_eq_false_iff_not]; omega
  rw [← hmn] at hS
  have X := And.intro X0 (Int.lt_irrefl (m.globals.length : Int))
  (refine run ?_; repeat' (first | with_reducible exact trivial | ((with_reducible apply Fork.mk) <;> intro hb) | with_reducible apply Two.mk))
  · rename_i hb
    exact hfin _ _ (by rw [hS, if_pos hb])
  · rename_i hb
    exact hfin _ _ (by rw [hS, if_neg (by rw [hb]; decide)]; rfl)
end Go.Proofs.YtihhngjoecgkpaaDoor
end

section
namespace Go.Proofs.YtihhngjoecgkpaaDoor
open Go
set_option linter.unusedSimpArgs false
set_option linter.unusedVariables false
set_option maxRecDepth 10000
set_option maxHeartbeats 4000000

section
variable {P : Program} {G : Gl} {T : Tab} {own : List Nat} {nt B : Nat} {ρ : Option Nat} {C : Cx} {rs : List ResultVar} {R : SV → List Blk → Prop} {env env2 : Env} {H H' : List Blk} {k : List It}
variable {all r : List Oper} {ty d j dj : Nat} {op : Op} {pos : String} {after : Array Edge} {v : SV}
/-- EVERY BIT OF A NUMBER TURNED. -/
theorem go_compl {x : Operand} {t : Nat} {n : Int} (h1 : ev G env x = some (.int .u64 n)) (hd : Nat.blt d nt = true)
    (hk : (Out P G T own nt ρ C rs R) (.ops all r :: k) .normal ((d, .int .u64 (bxorI .u64 18446744073709551615 n)) :: env) H) : (Out P G T own nt ρ C rs R) (.ops all (⟨some d, .unOp .xor t x, ty, pos, after, none⟩ :: r) :: k) .normal env H := by
  refine OW.law (R0 := fun y H' => y = .int .u64 (bxorI .u64 18446744073709551615 n) ∧ H' = H) rfl rfl hd (fun hT c a o' hs hc hi hg next Q hn => ?_) (fun y H' hy => by obtain ⟨rfl, rfl⟩ := hy; exact hk)
  have hv := ev_ok hi h1
  simp only [Rep] at hv
  obtain ⟨s1, s2, s3⟩ := hs
  refine wp_val (u := .int .u64 (bxorI .u64 18446744073709551615 n)) (w' := c.w) (by rw [s2]; intro _ e; cases e) ?_ ?_
  · simp [execOp, s2, hv.1, Op.unary, Op.intBits]
    rfl
  · rw [s1]
    exact hn (.int .u64 (bxorI .u64 18446744073709551615 n)) c _ ⟨rfl, hc⟩ hi.heap (rep_wrap c _ _) (Grow.refl c)
end
theorem compl64 {m : Int} (h1 : 0 ≤ m) (h2 : m < 18446744073709551616) : bxorI .u64 18446744073709551615 m = 18446744073709551615 - m := by
  show IntKind.u64.wrap ↑(BitVec.ofInt 64 18446744073709551615 ^^^ BitVec.ofInt 64 m).toNat = 18446744073709551615 - m
  rw [show BitVec.ofInt 64 18446744073709551615 = BitVec.allOnes 64 from by decide, BitVec.xor_comm, BitVec.xor_allOnes, BitVec.toNat_not, BitVec.toNat_ofInt, wrapU64]
  omega

theorem rnumber_ok (G : Gl) (hG : GClosed G) (n : Int) (hn : isI n) (H : List Blk) : ACall Tryd.prog G 24 [.int .i64 n] H (fun r H' => H' = H ∧ r = .str (numS n)) := by
  refine ACall.of_go TB [4] tabOK _ Tryd.func24 rfl (by decide) Tryd.ntmps24 (by simp) rfl (by simp only [initEnv, Nat.reduceAdd]; rfl) fun C R' hR hC hcl hB => ?_; have X := noX; have hC' := congrArg List.length hC
  obtain ⟨h1, h2⟩ := hn
  have hz := zz_lt ⟨h1, h2⟩
  have hu0 : IntKind.u64.wrap (IntKind.u64.wrap n * 2 ^ min 1 64) = (2 * n) % 18446744073709551616 := by
    rw [show min 1 64 = 1 from rfl, wrapU64, wrapU64]; omega
  (refine runC ?_; repeat' (first | with_reducible exact trivial | ((with_reducible apply Fork.mk) <;> intro hb) | with_reducible apply Two.mk))
  refine go_cut (fun _ : Unit => [(3, .int .u64 (zz n : Int))]) (fun _ => H) (fun _ => True) (fun K hK => ?_) (fun _ _ => ?_)
  · (refine run ?_; repeat' (first | with_reducible exact trivial | ((with_reducible apply Fork.mk) <;> intro hb) | with_reducible apply Two.mk))
    · refine go_compl rfl rfl ?_
      (refine run ?_; repeat' (first | with_reducible exact trivial | ((with_reducible apply Fork.mk) <;> intro hb) | with_reducible apply Two.mk))
      refine hK _ _ () trivial (Wk.sub ?_)
      have e : bxorI .u64 18446744073709551615 (IntKind.u64.wrap (IntKind.u64.wrap n * 2 ^ min 1 64)) = (zz n : Int) := by
        rw [hu0, compl64 (by omega) (by omega)]
        unfold zz; rw [if_neg (by omega)]; omega
      exact ⟨congrArg (fun q => some (SV.int IntKind.u64 q)) e, trivial⟩
    · refine hK _ _ () trivial (Wk.sub ?_)
      have e : IntKind.u64.wrap (IntKind.u64.wrap n * 2 ^ min 1 64) = (zz n : Int) := by
        rw [hu0]
        unfold zz; rw [if_pos (by omega)]; omega
      exact ⟨congrArg (fun q => some (SV.int IntKind.u64 q)) e, trivial⟩
  clear X
  have hS : numS n = vb (zz n) := rfl
  generalize zz n = z at *
  have X := noX
  (refine run ?_; repeat' (first | with_reducible exact trivial | ((with_reducible apply Fork.mk) <;> intro hb) | with_reducible apply Two.mk))
  refine go_loop (fun a : Nat × Str => [(3, .int .u64 a.1), (4, .sl H.length 0 0 a.2.length)]) (fun a => H ++ [.cells 0 1 (strBytes a.2)]) (fun a => a.1) (fun a => a.1 < 18446744073709551616 ∧ a.2 ++ vb a.1 = vb z) (z, []) ⟨hz, rfl⟩ (by
    dsimp only [List.length_nil]
    rw [show strBytes [] = [] from rfl]
    exact wkS (n0 := H.length) [(H.length, 0)] hG hB hC' hcl (hk := keepC (g := 0) H.length (by simp) (Nat.le_refl _) rfl .nil)) ?_
  rintro K2 ⟨u, o⟩ ⟨hu, ho⟩ hK2
  simp only at hu ho
  dsimp only
  have hol : o.length + 1 ≤ 10 := by
    have h3 := vb_len 9 z (Nat.lt_trans hz (by decide))
    rw [← ho, List.length_append] at h3
    have := vb_pos u
    omega
  by_cases hu1 : u < 128
  · have X := And.intro noX hu1
    have hw8 : IntKind.u8.wrap (u : Int) = (u : Int) := by rw [wrapU8]; omega
    (refine run ?_; repeat' (first | with_reducible exact trivial | ((with_reducible apply Fork.mk) <;> intro hb) | with_reducible apply Two.mk))
    rw [hw8, strBytes_snoc _ _ (by omega)]
    rw [vb_lt hu1] at ho
    rw [ho, show o.length + 1 = (vb z).length from by rw [← ho]; simp]
    (refine run ?_; repeat' (first | with_reducible exact trivial | ((with_reducible apply Fork.mk) <;> intro hb) | with_reducible apply Two.mk))
    rw [← hS]
    exact finS hR hC' hcl (.same _ rfl) ⟨rfl, rfl⟩
  · have X := And.intro noX hu1
    (refine run ?_; repeat' (first | with_reducible exact trivial | ((with_reducible apply Fork.mk) <;> intro hb) | with_reducible apply Two.mk))
    have e1 : IntKind.u8.wrap (IntKind.u8.wrap ((u : Int).tmod 128) + 128) = ((u % 128 + 128 : Nat) : Int) := by
      rw [wrapU8, wrapU8, Int.tmod_eq_emod_of_nonneg (by omega)]; omega
    have e2 : IntKind.u64.wrap ((u : Int).tdiv 128) = ((u / 128 : Nat) : Int) := by
      rw [wrapU64, Int.tdiv_eq_ediv_of_nonneg (by omega)]; omega
    rw [e1, e2, strBytes_snoc _ _ (by omega)]
    rw [vb_ge hu1] at ho
    refine hK2 _ _ (u / 128, o ++ [UInt8.ofNat (u % 128 + 128)]) (show u / 128 < u by omega) ⟨by show u / 128 < _; omega, by rw [← ho]; simp⟩ ?_
    dsimp only
    rw [List.length_append, List.length_singleton]
    exact wkS (n0 := H.length) [(H.length, 0)] hG hB hC' hcl (hk := keepC (g := 1) H.length (by simp) (Nat.le_refl _) (by simp only [strBytes_under]) .nil)
end Go.Proofs.YtihhngjoecgkpaaDoor
end

section
namespace Go.Proofs.YtihhngjoecgkpaaDoor
open Go
set_option linter.unusedSimpArgs false
set_option linter.unusedVariables false
set_option maxRecDepth 10000
set_option maxHeartbeats 4000000

theorem ftext_ok (G : Gl) (hG : GClosed G) (s : Str) (hl : s.length < 1099511627776) (H : List Blk) : ACall Tryd.prog G 25 [.str s] H (fun r H' => H' = H ∧ r = .str (txtS s)) := by
  have c1 := fun H => rnumber_ok G hG (s.length : Int) (isI_len hl) H
  have hb : (numS (s.length : Int)).length + s.length ≤ maxLen := by
    have := numS_len (isI_len hl)
    unfold maxLen; omega
  refine ACall.of_go TB [] tabOK _ Tryd.func25 rfl (by decide) Tryd.ntmps25 (by simp) rfl (by simp only [initEnv, Nat.reduceAdd]; rfl) fun C R' hR hC hcl hB => ?_; have X := noX; have hC' := congrArg List.length hC
  have X := And.intro X hb
  (refine run ?_; repeat' (first | with_reducible exact trivial | ((with_reducible apply Fork.mk) <;> intro hb) | with_reducible apply Two.mk))
  exact Fin.out hR ⟨rfl, rfl⟩
theorem ftruth_ok (G : Gl) (hG : GClosed G) (t : Bool) (H : List Blk) : ACall Tryd.prog G 26 [.bool t] H (fun r H' => H' = H ∧ r = .str (truS t)) := by
  have c1 := fun H => rnumber_ok G hG 1 ⟨by decide, by decide⟩ H
  have c2 := fun H => rnumber_ok G hG 0 ⟨by decide, by decide⟩ H
  cases t with
  | true =>
    refine ACall.of_go TB [] tabOK _ Tryd.func26 rfl (by decide) Tryd.ntmps26 (by simp) rfl (by simp only [initEnv, Nat.reduceAdd]; rfl) fun C R' hR hC hcl hB => ?_; have X := noX; have hC' := congrArg List.length hC
    (refine run ?_; repeat' (first | with_reducible exact trivial | ((with_reducible apply Fork.mk) <;> intro hb) | with_reducible apply Two.mk))
    exact Fin.out hR ⟨rfl, rfl⟩
  | false =>
    refine ACall.of_go TB [] tabOK _ Tryd.func26 rfl (by decide) Tryd.ntmps26 (by simp) rfl (by simp only [initEnv, Nat.reduceAdd]; rfl) fun C R' hR hC hcl hB => ?_; have X := noX; have hC' := congrArg List.length hC
    (refine run ?_; repeat' (first | with_reducible exact trivial | ((with_reducible apply Fork.mk) <;> intro hb) | with_reducible apply Two.mk))
    exact Fin.out hR ⟨rfl, rfl⟩
end Go.Proofs.YtihhngjoecgkpaaDoor
end

section
namespace Go.Proofs.YtihhngjoecgkpaaDoor
open Go
set_option linter.unusedSimpArgs false
set_option linter.unusedVariables false
set_option maxRecDepth 10000
set_option maxHeartbeats 4000000
set_option pp.deepTerms true
set_option pp.maxSteps 100000

theorem numsS_nil : numsS [] = [] := rfl
theorem mx {a b : Str} (h : a.length + b.length < 1099511627776) : a.length + b.length ≤ maxLen := by unfold maxLen; omega
theorem mx' {a b : Str} {n : Nat} (h : n + (a ++ b).length < 1099511627776) : n + a.length < 1099511627776 ∧ a.length + b.length ≤ maxLen := by
  rw [List.length_append] at h; unfold maxLen; omega
theorem rencode_ok (G : Gl) (hG : GClosed G) (m : Img) (hmb : ImgB m) (hi : ImgI m) (hl : (encB m).length < 1099511627776) (H : List Blk) :
    ACall Tryd.prog G 10 [.agg m.cells] H (fun r H' => H' = H ∧ r = .tuple [.str (encS m), .int .i64 (chkS m 65536)]) := by
  have hml : m.cells.length = 4 := rfl
  have c1 := fun H => rcheck_ok G hG m 65536 hmb H
  refine ACall.of_go TB [5] tabOK _ Tryd.func10 rfl (by decide) Tryd.ntmps10 (by simp) rfl (by simp only [initEnv, Nat.reduceAdd]; rfl) fun C R' hR hC hcl hB => ?_; have X := noX; have hC' := congrArg List.length hC
  have X := And.intro X hml
  have hm0 : m.cells[0]? = some (.list 4 (consL m.cons)) := rfl
  have hm1 : m.cells[1]? = some (.list 7 (funsL m.funcs)) := rfl
  have hm2 : m.cells[2]? = some (.list 3 (glbsL m.globals)) := rfl
  have hm3 : m.cells[3]? = some (.int .i64 m.main) := rfl
  have hmu := fun n => Img.cells_under n m
  have hlc := hmb.c
  have hlf := hmb.f
  have hlg := hmb.g
  have hu1 := funsL_under H.length m.funcs
  have hu2 := glbsL_under H.length m.globals
  have c2 := fun n hn H => rnumber_ok G hG n hn H
  have k3 := fun n hn => c2 n hn
  generalize hmc : m.cells = mc at *
  have X := And.intro X (And.intro hm0 (And.intro hm1 (And.intro hm2 hm3)))
  have c3 := c2 _ (isI_len hlc)
  clear c2 k3
  have hen1 : 4 + (numS (m.cons.length : Int)).length ≤ maxLen := by
    have := numS_len (isI_len hlc)
    unfold maxLen; omega
  have X := And.intro X hen1
  (refine run ?_; repeat' (first | with_reducible exact trivial | ((with_reducible apply Fork.mk) <;> intro hb) | with_reducible apply Two.mk))
  · refine finS hR hC' hcl (.same _ rfl) ⟨rfl, ?_⟩
    unfold encS; rw [if_neg hb]; rfl
  have hchk : chkS m 65536 = 0 := by simpa using hb
  have l0 : magicS.length = 4 := rfl
  obtain ⟨B1, hB1⟩ : ∃ B1, B1 = magicS ++ numS m.cons.length := ⟨_, rfl⟩
  obtain ⟨B2, hB2⟩ : ∃ B2, B2 = B1 ++ m.cons.flatMap conS ++ numS m.funcs.length := ⟨_, rfl⟩
  obtain ⟨B3, hB3⟩ : ∃ B3, B3 = B2 ++ m.funcs.flatMap funS ++ numS m.globals.length := ⟨_, rfl⟩
  have hen : encB m = B3 ++ m.globals.flatMap glbS ++ numS m.main := by rw [hB3, hB2, hB1]; rfl
  rw [hen] at hl
  have l3 : B3.length + (m.globals.flatMap glbS).length + (numS m.main).length < 1099511627776 := by simpa only [List.length_append] using hl
  have l2 : B2.length + (m.funcs.flatMap funS).length + (numS m.globals.length).length ≤ B3.length := by rw [hB3]; simp only [List.length_append]; omega
  have l1 : B1.length + (m.cons.flatMap conS).length + (numS m.funcs.length).length ≤ B2.length := by rw [hB2]; simp only [List.length_append]; omega
  have l0' : magicS.length + (numS m.cons.length).length ≤ B1.length := by rw [hB1]; simp only [List.length_append]; omega
  rw [show (84 :: 83 :: 76 :: 49 :: numS m.cons.length : Str) = B1 from hB1.symm]
  have hb1 : 0 + B1.length < 1099511627776 := by omega
  (refine run ?_; repeat' (first | with_reducible exact trivial | ((with_reducible apply Fork.mk) <;> intro hb) | with_reducible apply Two.mk))
  clear X c1 c3
  refine go_loop (fun k : Nat => [(1, .ptr H.length 0 0 0), (6, .int .i64 k), (5, .sl (H.length + 1) 0 0 (B1 ++ (m.cons.take k).flatMap conS).length)]) (fun k => H ++ [.cells 0 4 [.agg mc], .cells 0 1 (strBytes (B1 ++ (m.cons.take k).flatMap conS))]) (fun k => m.cons.length - k) (fun k => k ≤ m.cons.length) 0 (Nat.zero_le _) (by
    rw [show (m.cons.take 0).flatMap conS = [] from rfl, List.append_nil]
    exact wkS (n0 := H.length) [(H.length, 0), (H.length + 1, 0)] hG hB hC' hcl (hk := keepC (g := 0) H.length (by simp) (Nat.le_refl _) (by simp only [SV.underL, SV.under, hmu, Bool.and_self]) (keepC (H.length + 1) (by simp; rfl) (by omega) (by simp only [strBytes_under]) .nil))) ?_
  rintro K k hk hK
  rcases Nat.lt_or_ge k m.cons.length with hlt | hge
  · have e1 : (consL m.cons)[k]? = some (.agg m.cons[k].cells) := by simp [consL, hlt]
    have hfs := flat_take m.cons conS hlt
    have hfl := flat_leS m.cons conS hlt
    obtain ⟨i1, i2, i3⟩ := hi.cons _ (List.getElem_mem hlt)
    generalize hx : m.cons[k] = x at *
    obtain ⟨name, arity, tag, family⟩ := x
    simp only [Con.cells] at e1
    simp only at i1 i2 i3
    have hcs : txtS name ++ numS arity ++ numS tag ++ numS family = conS ⟨name, arity, tag, family⟩ := by
      simp only [conS, numsS_cons, numsS_nil, List.append_assoc, List.append_nil]
    obtain ⟨P, hP⟩ : ∃ P, P = B1 ++ (m.cons.take k).flatMap conS := ⟨_, rfl⟩
    have e3 : B1 ++ (m.cons.take (k + 1)).flatMap conS = P ++ conS ⟨name, arity, tag, family⟩ := by rw [hfs, hP]; simp only [List.append_assoc]
    have hPl : P.length = B1.length + ((m.cons.take k).flatMap conS).length := by rw [hP, List.length_append]
    rw [← hP]
    have hPc : P.length + (conS ⟨name, arity, tag, family⟩).length < 1099511627776 := by omega
    generalize conS ⟨name, arity, tag, family⟩ = E at *
    have hPe := hPc
    rw [← hcs] at hPc
    obtain ⟨p1, q1⟩ := mx' hPc
    obtain ⟨p2, q2⟩ := mx' p1
    obtain ⟨p3, q3⟩ := mx' p2
    simp only [List.append_assoc] at q1 q2 q3 hPc hcs
    have hnl : name.length < 1099511627776 := by
      have : (txtS name).length = (numS name.length).length + name.length := by rw [txtS, List.length_append]
      omega
    have c1 := fun H => ftext_ok G hG name hnl H
    have c2 := fun H => rnumber_ok G hG arity i1 H
    have c3 := fun H => rnumber_ok G hG tag i2 H
    have c4 := fun H => rnumber_ok G hG family i3 H
    have X := And.intro noX (And.intro hml (And.intro hm0 (And.intro hm1 (And.intro hm2 (And.intro hm3 (And.intro e1 (And.intro q1 (And.intro q2 q3))))))))
    (refine run ?_; repeat' (first | with_reducible exact trivial | ((with_reducible apply Fork.mk) <;> intro hb) | with_reducible apply Two.mk))
    rw [hcs]
    (refine run ?_; repeat' (first | with_reducible exact trivial | ((with_reducible apply Fork.mk) <;> intro hb) | with_reducible apply Two.mk))
    refine hK _ _ (k + 1) (by omega) (by omega) ?_
    rw [e3, ← strBytes_app, ← List.length_append]
    exact wkS (n0 := H.length) [(H.length, 0), (H.length + 1, 0)] hG hB hC' hcl (hk := keepC (g := 0) H.length (by simp) (Nat.le_refl _) (by simp only [SV.underL, SV.under, hmu, Bool.and_self]) (keepC (H.length + 1) (by simp; rfl) (by omega) (by simp only [strBytes_under]) .nil))
  have : k = m.cons.length := by omega
  subst this
  clear hK
  rw [List.take_length]
  have hfc := isI_len hlf
  have X := And.intro noX (And.intro hml (And.intro hm0 (And.intro hm1 (And.intro hm2 (And.intro hm3 (Int.lt_irrefl (m.cons.length : Int)))))))
  obtain ⟨P, hP⟩ : ∃ P, P = B1 ++ m.cons.flatMap conS := ⟨_, rfl⟩
  have hPl : P.length = B1.length + (m.cons.flatMap conS).length := by rw [hP, List.length_append]
  rw [← hP] at hB2 ⊢
  have c1 := fun H => rnumber_ok G hG m.funcs.length hfc H
  have hPc : P.length + (numS m.funcs.length).length < 1099511627776 := by omega
  (refine run ?_; repeat' (first | with_reducible exact trivial | ((with_reducible apply Fork.mk) <;> intro hb) | with_reducible apply Two.mk))
  rw [← strBytes_app, ← List.length_append, ← hB2]
  clear X c1 hPc hPl hP
  refine go_loop (fun k : Nat => [(1, .ptr H.length 0 0 0), (8, .int .i64 k), (5, .sl (H.length + 1) 0 0 (B2 ++ (m.funcs.take k).flatMap funS).length)]) (fun k => H ++ [.cells 0 4 [.agg mc], .cells 0 1 (strBytes (B2 ++ (m.funcs.take k).flatMap funS))]) (fun k => m.funcs.length - k) (fun k => k ≤ m.funcs.length) 0 (Nat.zero_le _) (by
    rw [show (m.funcs.take 0).flatMap funS = [] from rfl, List.append_nil]
    exact wkS (n0 := H.length) [(H.length, 0), (H.length + 1, 0)] hG hB hC' hcl (hk := keepC (g := 0) H.length (by simp) (Nat.le_refl _) (by simp only [SV.underL, SV.under, hmu, Bool.and_self]) (keepC (H.length + 1) (by simp; rfl) (by omega) (by simp only [strBytes_under]) .nil))) ?_
  rintro K k hk hK
  rcases Nat.lt_or_ge k m.funcs.length with hlt | hge
  · have e1 : (funsL m.funcs)[k]? = some (.agg m.funcs[k].cells) := by simp [funsL, hlt]
    have hfs := flat_take m.funcs funS hlt
    have hfl := flat_leS m.funcs funS hlt
    obtain ⟨i1, i2, i3, i4⟩ := hi.funcs _ (List.getElem_mem hlt)
    obtain ⟨j1, j2⟩ := hmb.code _ (List.getElem_mem hlt)
    generalize hx : m.funcs[k] = x at *
    obtain ⟨name, thunk, upd, free, params, frame, code⟩ := x
    simp only [Fun.cells] at e1
    simp only at i1 i2 i3 i4 j1 j2
    have i5 := isI_len j1
    have hcs : txtS name ++ truS thunk ++ truS upd ++ numS free ++ numS params ++ numS frame ++ numS code.length = funH ⟨name, thunk, upd, free, params, frame, code⟩ := by
      simp only [funH, numsS_cons, numsS_nil, List.append_assoc, List.append_nil]
    have hfS : funS ⟨name, thunk, upd, free, params, frame, code⟩ = funH ⟨name, thunk, upd, free, params, frame, code⟩ ++ code.flatMap insS := rfl
    have hux := insL_under H.length code
    obtain ⟨P, hP⟩ : ∃ P, P = B2 ++ (m.funcs.take k).flatMap funS := ⟨_, rfl⟩
    generalize hE : funH ⟨name, thunk, upd, free, params, frame, code⟩ = E at *
    have e3 : B2 ++ (m.funcs.take (k + 1)).flatMap funS = P ++ E ++ code.flatMap insS := by rw [hfs, hfS, hP]; simp only [List.append_assoc]
    have hPl : P.length = B2.length + ((m.funcs.take k).flatMap funS).length := by rw [hP, List.length_append]
    rw [← hP]
    rw [hfS, List.length_append] at hfl
    have hPc : P.length + E.length + (code.flatMap insS).length < 1099511627776 := by omega
    have hPe : P.length + E.length < 1099511627776 := by omega
    have hPq := hPe
    rw [← hcs] at hPq
    obtain ⟨p1, q1⟩ := mx' hPq
    obtain ⟨p2, q2⟩ := mx' p1
    obtain ⟨p3, q3⟩ := mx' p2
    obtain ⟨p4, q4⟩ := mx' p3
    obtain ⟨p5, q5⟩ := mx' p4
    obtain ⟨p6, q6⟩ := mx' p5
    simp only [List.append_assoc] at q1 q2 q3 q4 q5 q6 hPq hcs
    have hnl : name.length < 1099511627776 := by
      have : (txtS name).length = (numS name.length).length + name.length := by rw [txtS, List.length_append]
      omega
    have c1 := fun H => ftext_ok G hG name hnl H
    have c2 := fun t H => ftruth_ok G hG t H
    have c3 := fun H => rnumber_ok G hG free i1 H
    have c4 := fun H => rnumber_ok G hG params i2 H
    have c5 := fun H => rnumber_ok G hG frame i3 H
    have c6 := fun H => rnumber_ok G hG code.length i5 H
    have X := And.intro noX (And.intro hml (And.intro hm0 (And.intro hm1 (And.intro hm2 (And.intro hm3 (And.intro e1 (And.intro q1 (And.intro q2 (And.intro q3 (And.intro q4 (And.intro q5 q6)))))))))))
    (refine run ?_; repeat' (first | with_reducible exact trivial | ((with_reducible apply Fork.mk) <;> intro hb) | with_reducible apply Two.mk))
    rw [hcs]
    (refine run ?_; repeat' (first | with_reducible exact trivial | ((with_reducible apply Fork.mk) <;> intro hb) | with_reducible apply Two.mk))
    rw [← strBytes_app, ← List.length_append]
    clear X c1 c2 c3 c4 c5 c6 q1 q2 q3 q4 q5 q6 p1 p2 p3 p4 p5 p6 hPq
    generalize hP1 : P ++ E = P1 at *
    have hP1l : P1.length = P.length + E.length := by rw [← hP1, List.length_append]
    refine go_loop (fun j : Nat => [(1, .ptr H.length 0 0 0), (8, .int .i64 k), (9, .ptr (H.length + 2) 0 0 0), (10, .int .i64 j), (5, .sl (H.length + 1) 0 0 (P1 ++ (code.take j).flatMap insS).length)]) (fun j => H ++ [.cells 0 4 [.agg mc], .cells 0 1 (strBytes (P1 ++ (code.take j).flatMap insS)), .cells 0 7 [.agg [.str name, .bool thunk, .bool upd, .int .i64 free, .int .i64 params, .int .i64 frame, .list 6 (insL code)]]]) (fun j => code.length - j) (fun j => j ≤ code.length) 0 (Nat.zero_le _) (by
      rw [show (code.take 0).flatMap insS = [] from rfl, List.append_nil]
      exact wkS (n0 := H.length) [(H.length, 0), (H.length + 1, 0), (H.length + 2, 0)] hG hB hC' hcl (hk := keepC (g := 0) H.length (by simp) (Nat.le_refl _) (by simp only [SV.underL, SV.under, hmu, Bool.and_self]) (keepC (H.length + 1) (by simp; rfl) (by omega) (by simp only [strBytes_under]) (keepC (g := 0) (H.length + 2) (by simp) (by omega) (by simp only [SV.underL, SV.under, hux, Bool.and_self]) .nil)))) ?_
    rintro K2 j hj hK2
    rcases Nat.lt_or_ge j code.length with hjt | hjg
    · have e2 : (insL code)[j]? = some (.agg code[j].cells) := by simp [insL, hjt]
      have hjs := flat_take code insS hjt
      have hjl := flat_leS code insS hjt
      obtain ⟨o1, o2, o3, o4, o5, o6⟩ := i4 _ (List.getElem_mem hjt)
      have o9 := j2 _ (List.getElem_mem hjt)
      have o7 := isI_len o9
      generalize hxj : code[j] = x at *
      obtain ⟨op, a, b, c, n, l⟩ := x
      simp only [Ins.cells] at e2
      simp only at o1 o2 o3 o4 o5 o6 o7 o9
      have hds : numS op ++ numS a ++ numS b ++ numS c ++ numS n ++ numS l.length = numsS [op, a, b, c, n, (l.length : Int)] := by
        simp only [numsS_cons, numsS_nil, List.append_assoc, List.append_nil]
      have hiS : insS ⟨op, a, b, c, n, l⟩ = numsS [op, a, b, c, n, (l.length : Int)] ++ numsS l := rfl
      obtain ⟨Q, hQ⟩ : ∃ Q, Q = P1 ++ (code.take j).flatMap insS := ⟨_, rfl⟩
      generalize numsS [op, a, b, c, n, (l.length : Int)] = D at *
      have f3 : P1 ++ (code.take (j + 1)).flatMap insS = Q ++ D ++ numsS l := by rw [hjs, hiS, hQ]; simp only [List.append_assoc]
      have hQl : Q.length = P1.length + ((code.take j).flatMap insS).length := by rw [hQ, List.length_append]
      rw [← hQ]
      rw [hiS, List.length_append] at hjl
      have hQc : Q.length + D.length + (numsS l).length < 1099511627776 := by omega
      have hQe : Q.length + D.length < 1099511627776 := by omega
      have hQq := hQe
      rw [← hds] at hQq
      obtain ⟨p1, q1⟩ := mx' hQq
      obtain ⟨p2, q2⟩ := mx' p1
      obtain ⟨p3, q3⟩ := mx' p2
      obtain ⟨p4, q4⟩ := mx' p3
      obtain ⟨p5, q5⟩ := mx' p4
      simp only [List.append_assoc] at q1 q2 q3 q4 q5 hQq hds
      have c1 := fun H => rnumber_ok G hG op o1 H
      have c2 := fun H => rnumber_ok G hG a o2 H
      have c3 := fun H => rnumber_ok G hG b o3 H
      have c4 := fun H => rnumber_ok G hG c o4 H
      have c5 := fun H => rnumber_ok G hG n o5 H
      have c6 := fun H => rnumber_ok G hG l.length o7 H
      have X := And.intro noX (And.intro hml (And.intro hm0 (And.intro hm1 (And.intro hm2 (And.intro hm3 (And.intro e2 (And.intro q1 (And.intro q2 (And.intro q3 (And.intro q4 q5))))))))))
      (refine run ?_; repeat' (first | with_reducible exact trivial | ((with_reducible apply Fork.mk) <;> intro hb) | with_reducible apply Two.mk))
      rw [hds]
      (refine run ?_; repeat' (first | with_reducible exact trivial | ((with_reducible apply Fork.mk) <;> intro hb) | with_reducible apply Two.mk))
      rw [← strBytes_app, ← List.length_append]
      clear X c1 c2 c3 c4 c5 c6 q1 q2 q3 q4 q5 p1 p2 p3 p4 p5 hQq
      generalize hQ1 : Q ++ D = Q1 at *
      have hQ1l : Q1.length = Q.length + D.length := by rw [← hQ1, List.length_append]
      refine go_loop (fun h : Nat => [(1, .ptr H.length 0 0 0), (8, .int .i64 k), (9, .ptr (H.length + 2) 0 0 0), (10, .int .i64 j), (11, .ptr (H.length + 3) 0 0 0), (12, .int .i64 h), (5, .sl (H.length + 1) 0 0 (Q1 ++ numsS (l.take h)).length)]) (fun h => H ++ [.cells 0 4 [.agg mc], .cells 0 1 (strBytes (Q1 ++ numsS (l.take h))), .cells 0 7 [.agg [.str name, .bool thunk, .bool upd, .int .i64 free, .int .i64 params, .int .i64 frame, .list 6 (insL code)]], .cells 0 6 [.agg [.int .i64 op, .int .i64 a, .int .i64 b, .int .i64 c, .int .i64 n, .list 1 (l.map (.int .i64))]]]) (fun h => l.length - h) (fun h => h ≤ l.length) 0 (Nat.zero_le _) (by
        rw [show numsS (l.take 0) = [] from rfl, List.append_nil]
        exact wkS (n0 := H.length) [(H.length, 0), (H.length + 1, 0), (H.length + 2, 0), (H.length + 3, 0)] hG hB hC' hcl (hk := keepC (g := 0) H.length (by simp) (Nat.le_refl _) (by simp only [SV.underL, SV.under, hmu, Bool.and_self]) (keepC (H.length + 1) (by simp; rfl) (by omega) (by simp only [strBytes_under]) (keepC (g := 0) (H.length + 2) (by simp) (by omega) (by simp only [SV.underL, SV.under, hux, Bool.and_self]) (keepC (g := 0) (H.length + 3) (by simp) (by omega) (by simp only [SV.underL, SV.under, ints_under, Bool.and_self]) .nil))))) ?_
      rintro K3 h hh hK3
      rcases Nat.lt_or_ge h l.length with hht | hhg
      · have e4 : (l.map (SV.int .i64))[h]? = some (SV.int .i64 l[h]) := by simp [hht]
        have o8 := o6 _ (List.getElem_mem hht)
        have hks : numsS (l.take (h + 1)) = numsS (l.take h) ++ numS l[h] := flat_take l numS hht
        have hkl : (numsS (l.take h)).length + (numS l[h]).length ≤ (numsS l).length := flat_leS l numS hht
        generalize l[h] = y at *
        have h3 : Q1 ++ numsS (l.take (h + 1)) = Q1 ++ numsS (l.take h) ++ numS y := by rw [hks]; simp only [List.append_assoc]
        have hRl : (Q1 ++ numsS (l.take h)).length = Q1.length + (numsS (l.take h)).length := List.length_append
        generalize Q1 ++ numsS (l.take h) = R1 at *
        have hRc : R1.length + (numS y).length < 1099511627776 := by omega
        have c1 := fun H => rnumber_ok G hG y o8 H
        have X := And.intro noX (And.intro hml (And.intro hm0 (And.intro hm1 (And.intro hm2 (And.intro hm3 e4)))))
        (refine run ?_; repeat' (first | with_reducible exact trivial | ((with_reducible apply Fork.mk) <;> intro hb) | with_reducible apply Two.mk))
        refine hK3 _ _ (h + 1) (by omega) (by omega) ?_
        rw [h3, ← strBytes_app, ← List.length_append]
        exact wkS (n0 := H.length) [(H.length, 0), (H.length + 1, 0), (H.length + 2, 0), (H.length + 3, 0)] hG hB hC' hcl (hk := keepC (g := 0) H.length (by simp) (Nat.le_refl _) (by simp only [SV.underL, SV.under, hmu, Bool.and_self]) (keepC (H.length + 1) (by simp; rfl) (by omega) (by simp only [strBytes_under]) (keepC (g := 0) (H.length + 2) (by simp) (by omega) (by simp only [SV.underL, SV.under, hux, Bool.and_self]) (keepC (g := 0) (H.length + 3) (by simp) (by omega) (by simp only [SV.underL, SV.under, ints_under, Bool.and_self]) .nil))))
      have : h = l.length := by omega
      subst this
      clear hK3
      rw [List.take_length]
      have X := And.intro noX (And.intro hml (And.intro hm0 (And.intro hm1 (And.intro hm2 (And.intro hm3 (Int.lt_irrefl (l.length : Int)))))))
      (refine run ?_; repeat' (first | with_reducible exact trivial | ((with_reducible apply Fork.mk) <;> intro hb) | with_reducible apply Two.mk))
      refine hK2 _ _ (j + 1) (by omega) (by omega) ?_
      rw [f3]
      exact wkS (n0 := H.length) [(H.length, 0), (H.length + 1, 0), (H.length + 2, 0)] hG hB hC' hcl (hk := keepC (g := 0) H.length (by simp) (Nat.le_refl _) (by simp only [SV.underL, SV.under, hmu, Bool.and_self]) (keepC (H.length + 1) (by simp; rfl) (by omega) (by simp only [strBytes_under]) (keepC (g := 0) (H.length + 2) (by simp) (by omega) (by simp only [SV.underL, SV.under, hux, Bool.and_self]) .nil)))
    have : j = code.length := by omega
    subst this
    clear hK2
    rw [List.take_length]
    have X := And.intro noX (And.intro hml (And.intro hm0 (And.intro hm1 (And.intro hm2 (And.intro hm3 (Int.lt_irrefl (code.length : Int)))))))
    (refine run ?_; repeat' (first | with_reducible exact trivial | ((with_reducible apply Fork.mk) <;> intro hb) | with_reducible apply Two.mk))
    refine hK _ _ (k + 1) (by omega) (by omega) ?_
    rw [e3]
    exact wkS (n0 := H.length) [(H.length, 0), (H.length + 1, 0)] hG hB hC' hcl (hk := keepC (g := 0) H.length (by simp) (Nat.le_refl _) (by simp only [SV.underL, SV.under, hmu, Bool.and_self]) (keepC (H.length + 1) (by simp; rfl) (by omega) (by simp only [strBytes_under]) .nil))
  have : k = m.funcs.length := by omega
  subst this
  clear hK
  rw [List.take_length]
  have hgc := isI_len hlg
  have X := And.intro noX (And.intro hml (And.intro hm0 (And.intro hm1 (And.intro hm2 (And.intro hm3 (Int.lt_irrefl (m.funcs.length : Int)))))))
  obtain ⟨P, hP⟩ : ∃ P, P = B2 ++ m.funcs.flatMap funS := ⟨_, rfl⟩
  have hPl : P.length = B2.length + (m.funcs.flatMap funS).length := by rw [hP, List.length_append]
  rw [← hP] at hB3 ⊢
  have c1 := fun H => rnumber_ok G hG m.globals.length hgc H
  have hPc : P.length + (numS m.globals.length).length < 1099511627776 := by omega
  (refine run ?_; repeat' (first | with_reducible exact trivial | ((with_reducible apply Fork.mk) <;> intro hb) | with_reducible apply Two.mk))
  rw [← strBytes_app, ← List.length_append, ← hB3]
  clear X c1 hPc hPl hP
  refine go_loop (fun k : Nat => [(1, .ptr H.length 0 0 0), (13, .int .i64 k), (5, .sl (H.length + 1) 0 0 (B3 ++ (m.globals.take k).flatMap glbS).length)]) (fun k => H ++ [.cells 0 4 [.agg mc], .cells 0 1 (strBytes (B3 ++ (m.globals.take k).flatMap glbS))]) (fun k => m.globals.length - k) (fun k => k ≤ m.globals.length) 0 (Nat.zero_le _) (by
    rw [show (m.globals.take 0).flatMap glbS = [] from rfl, List.append_nil]
    exact wkS (n0 := H.length) [(H.length, 0), (H.length + 1, 0)] hG hB hC' hcl (hk := keepC (g := 0) H.length (by simp) (Nat.le_refl _) (by simp only [SV.underL, SV.under, hmu, Bool.and_self]) (keepC (H.length + 1) (by simp; rfl) (by omega) (by simp only [strBytes_under]) .nil))) ?_
  rintro K k hk hK
  rcases Nat.lt_or_ge k m.globals.length with hlt | hge
  · have e1 : (glbsL m.globals)[k]? = some (.agg m.globals[k].cells) := by simp [glbsL, hlt]
    have hfs := flat_take m.globals glbS hlt
    have hfl := flat_leS m.globals glbS hlt
    obtain ⟨i1, i2, i4⟩ := hi.globals _ (List.getElem_mem hlt)
    have j1 := hmb.args _ (List.getElem_mem hlt)
    generalize hx : m.globals[k] = x at *
    obtain ⟨kind, gn, args⟩ := x
    simp only [Glb.cells] at e1
    simp only at i1 i2 i4 j1
    have i5 := isI_len j1
    have hcs : numS kind ++ numS gn ++ numS args.length = numsS [kind, gn, (args.length : Int)] := by
      simp only [numsS_cons, numsS_nil, List.append_assoc, List.append_nil]
    have hfS : glbS ⟨kind, gn, args⟩ = numsS [kind, gn, (args.length : Int)] ++ args.flatMap refS := rfl
    have hux : SV.underL H.length (args.map encR) = true := SV.underL_map fun _ _ => rfl
    obtain ⟨P, hP⟩ : ∃ P, P = B3 ++ (m.globals.take k).flatMap glbS := ⟨_, rfl⟩
    generalize numsS [kind, gn, (args.length : Int)] = E at *
    have e3 : B3 ++ (m.globals.take (k + 1)).flatMap glbS = P ++ E ++ args.flatMap refS := by rw [hfs, hfS, hP]; simp only [List.append_assoc]
    have hPl : P.length = B3.length + ((m.globals.take k).flatMap glbS).length := by rw [hP, List.length_append]
    rw [← hP]
    rw [hfS, List.length_append] at hfl
    have hPc : P.length + E.length + (args.flatMap refS).length < 1099511627776 := by omega
    have hPe : P.length + E.length < 1099511627776 := by omega
    have hPq := hPe
    rw [← hcs] at hPq
    obtain ⟨p1, q1⟩ := mx' hPq
    obtain ⟨p2, q2⟩ := mx' p1
    simp only [List.append_assoc] at q1 q2 hPq hcs
    have c1 := fun H => rnumber_ok G hG kind i1 H
    have c2 := fun H => rnumber_ok G hG gn i2 H
    have c3 := fun H => rnumber_ok G hG args.length i5 H
    have X := And.intro noX (And.intro hml (And.intro hm0 (And.intro hm1 (And.intro hm2 (And.intro hm3 (And.intro e1 (And.intro q1 q2)))))))
    (refine run ?_; repeat' (first | with_reducible exact trivial | ((with_reducible apply Fork.mk) <;> intro hb) | with_reducible apply Two.mk))
    rw [hcs]
    (refine run ?_; repeat' (first | with_reducible exact trivial | ((with_reducible apply Fork.mk) <;> intro hb) | with_reducible apply Two.mk))
    rw [← strBytes_app, ← List.length_append]
    clear X c1 c2 c3 q1 q2 p1 p2 hPq
    generalize hP1 : P ++ E = P1 at *
    have hP1l : P1.length = P.length + E.length := by rw [← hP1, List.length_append]
    refine go_loop (fun j : Nat => [(1, .ptr H.length 0 0 0), (13, .int .i64 k), (14, .ptr (H.length + 2) 0 0 0), (15, .int .i64 j), (5, .sl (H.length + 1) 0 0 (P1 ++ (args.take j).flatMap refS).length)]) (fun j => H ++ [.cells 0 4 [.agg mc], .cells 0 1 (strBytes (P1 ++ (args.take j).flatMap refS)), .cells 0 3 [.agg [.int .i64 kind, .int .i64 gn, .list 2 (args.map encR)]]]) (fun j => args.length - j) (fun j => j ≤ args.length) 0 (Nat.zero_le _) (by
      rw [show (args.take 0).flatMap refS = [] from rfl, List.append_nil]
      exact wkS (n0 := H.length) [(H.length, 0), (H.length + 1, 0), (H.length + 2, 0)] hG hB hC' hcl (hk := keepC (g := 0) H.length (by simp) (Nat.le_refl _) (by simp only [SV.underL, SV.under, hmu, Bool.and_self]) (keepC (H.length + 1) (by simp; rfl) (by omega) (by simp only [strBytes_under]) (keepC (g := 0) (H.length + 2) (by simp) (by omega) (by simp only [SV.underL, SV.under, hux, Bool.and_self]) .nil)))) ?_
    rintro K2 j hj hK2
    rcases Nat.lt_or_ge j args.length with hjt | hjg
    · have e2 : (args.map encR)[j]? = some (encR args[j]) := by simp [hjt]
      have hjs := flat_take args refS hjt
      have hjl := flat_leS args refS hjt
      obtain ⟨o1, o2⟩ := i4 _ (List.getElem_mem hjt)
      generalize args[j] = r at *
      obtain ⟨x, y⟩ := r
      simp only [encR] at e2
      simp only at o1 o2
      have hds : numS x ++ numS y = refS (x, y) := by
        simp only [refS, numsS_cons, numsS_nil, List.append_assoc, List.append_nil]
      generalize refS (x, y) = D at *
      have f3 : P1 ++ (args.take (j + 1)).flatMap refS = P1 ++ (args.take j).flatMap refS ++ D := by rw [hjs]; simp only [List.append_assoc]
      have hQl : (P1 ++ (args.take j).flatMap refS).length = P1.length + ((args.take j).flatMap refS).length := List.length_append
      generalize P1 ++ (args.take j).flatMap refS = Q at *
      have hQe : Q.length + D.length < 1099511627776 := by omega
      have hQq := hQe
      rw [← hds] at hQq
      obtain ⟨p1, q1⟩ := mx' hQq
      have c1 := fun H => rnumber_ok G hG x o1 H
      have c2 := fun H => rnumber_ok G hG y o2 H
      have X := And.intro noX (And.intro hml (And.intro hm0 (And.intro hm1 (And.intro hm2 (And.intro hm3 (And.intro e2 q1))))))
      (refine run ?_; repeat' (first | with_reducible exact trivial | ((with_reducible apply Fork.mk) <;> intro hb) | with_reducible apply Two.mk))
      rw [hds]
      (refine run ?_; repeat' (first | with_reducible exact trivial | ((with_reducible apply Fork.mk) <;> intro hb) | with_reducible apply Two.mk))
      refine hK2 _ _ (j + 1) (by omega) (by omega) ?_
      rw [f3, ← strBytes_app, ← List.length_append]
      exact wkS (n0 := H.length) [(H.length, 0), (H.length + 1, 0), (H.length + 2, 0)] hG hB hC' hcl (hk := keepC (g := 0) H.length (by simp) (Nat.le_refl _) (by simp only [SV.underL, SV.under, hmu, Bool.and_self]) (keepC (H.length + 1) (by simp; rfl) (by omega) (by simp only [strBytes_under]) (keepC (g := 0) (H.length + 2) (by simp) (by omega) (by simp only [SV.underL, SV.under, hux, Bool.and_self]) .nil)))
    have : j = args.length := by omega
    subst this
    clear hK2
    rw [List.take_length]
    have X := And.intro noX (And.intro hml (And.intro hm0 (And.intro hm1 (And.intro hm2 (And.intro hm3 (Int.lt_irrefl (args.length : Int)))))))
    (refine run ?_; repeat' (first | with_reducible exact trivial | ((with_reducible apply Fork.mk) <;> intro hb) | with_reducible apply Two.mk))
    refine hK _ _ (k + 1) (by omega) (by omega) ?_
    rw [e3]
    exact wkS (n0 := H.length) [(H.length, 0), (H.length + 1, 0)] hG hB hC' hcl (hk := keepC (g := 0) H.length (by simp) (Nat.le_refl _) (by simp only [SV.underL, SV.under, hmu, Bool.and_self]) (keepC (H.length + 1) (by simp; rfl) (by omega) (by simp only [strBytes_under]) .nil))
  have : k = m.globals.length := by omega
  subst this
  clear hK
  rw [List.take_length]
  have hmi := hi.main
  have X := And.intro noX (And.intro hml (And.intro hm0 (And.intro hm1 (And.intro hm2 (And.intro hm3 (Int.lt_irrefl (m.globals.length : Int)))))))
  obtain ⟨P, hP⟩ : ∃ P, P = B3 ++ m.globals.flatMap glbS := ⟨_, rfl⟩
  have hPl : P.length = B3.length + (m.globals.flatMap glbS).length := by rw [hP, List.length_append]
  have c1 := fun H => rnumber_ok G hG m.main hmi H
  rw [← hP] at hen ⊢
  have hPc : P.length + (numS m.main).length < 1099511627776 := by omega
  (refine run ?_; repeat' (first | with_reducible exact trivial | ((with_reducible apply Fork.mk) <;> intro hb) | with_reducible apply Two.mk))
  rw [← strBytes_app, ← List.length_append, ← hen]
  (refine run ?_; repeat' (first | with_reducible exact trivial | ((with_reducible apply Fork.mk) <;> intro hb) | with_reducible apply Two.mk))
  refine finS hR hC' hcl (.same _ rfl) ⟨rfl, ?_⟩
  unfold encS; rw [if_pos hchk, hchk]; rfl
end Go.Proofs.YtihhngjoecgkpaaDoor
end

section
namespace Go.Proofs.YtihhngjoecgkpaaDoor
open Go
set_option linter.unusedSimpArgs false
set_option linter.unusedVariables false
set_option maxRecDepth 10000
set_option maxHeartbeats 4000000

theorem codeChecks_ok (G : Gl) (hG : GClosed G) (hF : GF G) (m : Img) (slots : Int) (hx : ImgB m) (jx : ImgI m) (lx : (encB m).length < 4294967296) (H : List Blk) : ACall Tryd.prog G 3 [.agg m.cells, .int .i64 slots] H (fun r H' => H' = H ∧ r = .bool true) := by
  have c1 := fun H => encode_ok G hG hF m hx jx (by omega) H
  have c2 := fun H => rencode_ok G hG m hx jx (by omega) H
  have c3 := fun H => check_ok G hG hF m slots hx H
  have c4 := fun H => rcheck_ok G hG m slots hx H
  have c5 := fun H => same_ok G hG m m hx hx H
  rw [(imgE_iff m m).2 rfl] at c5
  have c6 := fun H => awake_ok G hG hF H
  have hml : m.cells.length = 4 := rfl
  have hmu := fun n => Img.cells_under n m
  generalize m.cells = mc at *
  generalize encS m = E at *
  generalize chkS m 65536 = u at *
  generalize chkS m slots = v at *
  refine ACall.of_go TB [] tabOK _ Tryd.func3 rfl (by decide) Tryd.ntmps3 (by simp) rfl (by simp only [initEnv, Nat.reduceAdd]; rfl) fun C R' hR hC hcl hB => ?_; have X := noX; have hC' := congrArg List.length hC
  have X := And.intro X hml
  (refine run ?_; repeat' (first | with_reducible exact trivial | ((with_reducible apply Fork.mk) <;> intro hb) | with_reducible apply Two.mk))
  exact finS hR hC' hcl (.same _ rfl) ⟨rfl, rfl⟩
end Go.Proofs.YtihhngjoecgkpaaDoor
end

section
namespace Go.Proofs.YtihhngjoecgkpaaDoor.codeChecks
open Go Go.ChangeShapes Go.WideShapes Go.RowKit
set_option linter.unusedVariables false
set_option linter.unusedSimpArgs false

set_option maxRecDepth 100000 in
theorem contract (H : Type) (enc : TypeId × Value → H) (W : World) (base : Nat) (args : Array Value) (ds gs : List (DataW H)) (before : List MemPlace)
    (hval : ∀ (j : Nat) t v, Tryd.f3.params[j]? = some t → args[j]? = some v → Value.okWide Tryd.prog W .any base t v)
    (hW : DataW.Whole enc Tryd.prog Tryd.f3.params.toList Rows.codeChecksSpec.vars false W args.toList ds gs before) (hL : laidMetH Tryd.prog Rows.codeChecksUptoRow.laid W) (hk : Rows.uptoSmall H (ds ++ gs) = true) :
    Calls Tryd.prog 3 args W fun e W' => ∃ v, e = .returned v ∧ Rows.codeChecksSpec.post enc Tryd.prog Tryd.f3 false true false false W args v W' := by
  have hW' := hW
  obtain ⟨p, q, hA0, hV, rfl, hfz, hnd⟩ := hW
  have hA : DataW.TrodAll enc Tryd.prog W 0 (fun _ => true) true Tryd.f3.params.toList args.toList ds p := hA0
  rw [Tryd.params3] at hA hval
  obtain ⟨v0, vs0, d0, ds0, p0, q0, hargs, rfl, rfl, h0, r0⟩ := trodAll_cons hA
  obtain ⟨v1, vs1, d1, ds1, p1, q1, rfl, rfl, rfl, h1, r1⟩ := trodAll_cons r0
  obtain ⟨rfl, rfl, rfl⟩ := trodAll_nil r1
  obtain rfl : args = #[v0, v1] := by cases args; simp_all
  obtain ⟨rfl, rfl⟩ := trodVars_none hV
  obtain ⟨cs0, rfl, _⟩ := okWide_struct Tryd.underlying26 (hval 0 26 v0 (by simp) (by simp))
  obtain ⟨fuel0, hf0⟩ := h0
  obtain ⟨m0, hg0, _, hw0⟩ := read_img fuel0 _ _ hf0
  obtain ⟨n1, rfl, rfl, rfl, hn1⟩ := open_int Tryd.underlying3 (hval 1 3 v1 (by simp) (by simp)) h1
  have hbulk : imgW m0 + 1 ≤ 1048576 := by
    simp only [Rows.uptoSmall, decide_eq_true_eq, List.append_nil, Rows.uptoBulkAll, Rows.uptoBulk] at hk
    simp only at hw0
    omega
  have hB0 := imgOfW (m := m0) (by omega)
  have hJ0 := imgJ hg0 (by omega)
  have hE0 := encB_len hJ0
  refine (law_callsG (args := [.agg m0.cells, .int .i64 n1]) (vs := [.agg cs0, .int .i64 n1]) (codeChecks_ok Gf gclosedF gF m0 n1 hB0 hJ0.I (by omega) []) (gok hL) ?_ (fun W' => law_post laid rfl hW' ?_ rfl (by kernel_rfl) rfl rfl rfl)).mono ?_
  · refine RepL.mk_cons ?_ (RepL.mk_cons ?_ (RepL.mk_nil))
    · simp only [Rep]; exact ⟨cs0.toList, hg0.1, hg0.2, rfl⟩
    · simp only [Rep]; exact ⟨trivial, wf_range hn1⟩
  · intro t ht
    rw [Tryd.params3] at ht
    simp only [List.mem_cons, List.not_mem_nil, or_false] at ht
    rcases ht with rfl | rfl <;> exact ⟨by kernel_rfl, of_decide_eq_true (by kernel_rfl)⟩
  · rintro _ W' ⟨v, rfl, rfl, hp⟩
    exact ⟨_, rfl, hp⟩

theorem laid_met (os : Os) : laidMet Tryd.prog Rows.codeChecksUptoRow.laid ((laidWorld os).forCall (fun _ _ => 0) ⟨#[], #[Value.agg #[.slice none 0 0, .slice none 0 0, .slice none 0 0, .int .i64 0], Value.int .i64 0], []⟩).memory :=
  laidMet_of_run' 8 (by kernel_rfl) (by kernel_rfl)
theorem reads (os : Os) {H : Type} (enc : TypeId × Value → H) : ∃ places, DataW.whole enc Tryd.prog ((laidWorld os).forCall (fun _ _ => 0) ⟨#[], #[Value.agg #[.slice none 0 0, .slice none 0 0, .slice none 0 0, .int .i64 0], Value.int .i64 0], []⟩).memory Tryd.f3.params.toList Rows.codeChecksSpec.vars false (#[Value.agg #[.slice none 0 0, .slice none 0 0, .slice none 0 0, .int .i64 0], Value.int .i64 0] : Array Value).toList 8 = some ([.agg [.nil, .nil, .nil, .lit (.int .i64 0)], .lit (.int .i64 0)], [], places) :=
  ⟨[], by kernel_rfl⟩
set_option maxRecDepth 100000 in
theorem lifted (os : Os) (started : os.Started) (H : Type) (enc : TypeId × Value → H) (F : Stop.Interp) :
    ReturnsInHanded {} Tryd.checked os 3 .any ((Rows.OpenSpec.upto Rows.codeChecksSpec).preRow enc Tryd.prog Tryd.f3 Rows.codeChecksUptoRow.domain false Rows.codeChecksUptoRow.laid) (((Rows.OpenSpec.upto Rows.codeChecksSpec).at F).post enc Tryd.prog Tryd.f3 false true false false) := by
  obtain ⟨places, hx⟩ := reads os enc
  refine returnsInHanded_of_row (C := Tryd.checked) (s := Rows.OpenSpec.upto Rows.codeChecksSpec) own started (by kernel_rfl) Tryd.func3
    (witness_row_at (enc := enc) (C := Tryd.checked) false (laidWorld os) #[Value.agg #[.slice none 0 0, .slice none 0 0, .slice none 0 0, .int .i64 0], Value.int .i64 0] rfl (by kernel_rfl) (by kernel_rfl) (by kernel_rfl)
      (OpenSpec.preRow_of_cond 8 hx (by kernel_rfl) (fun k hk => by cases hk; kernel_rfl) (by kernel_rfl) (laid_met os))) ?_
  intro W base args ds gs before hval hW _ hcond _ hL _ _
  exact contract H enc W base args ds gs before hval hW hL (hcond _ rfl)
theorem said : Rows.CodeChecksUptoSaid :=
  OpenClaim.holds_of_cond 3 Tryd.f3 rfl rfl rfl rfl rfl rfl rfl ⟨rfl, rfl, rfl, rfl, rfl⟩ rfl rfl rfl rfl rfl (by kernel_rfl) Tryd.func3 (by kernel_rfl)
    (of_decide_eq_true (by kernel_rfl)) (by unfold Func.isWrapper; first | (rw [if_pos (by decide +kernel)]; kernel_rfl) | (rw [if_neg (by decide +kernel)]; exact ⟨rfl, rfl⟩))
    (fun os started H enc _ F => by rw [OpenClaim.pre_eq_preRow]; exact lifted os started H enc F)
theorem plain (f : FuncId) (fn : Func) (hf : Tryd.pinned.checked.prog.funcNamed "teasel/teasellaw17.CodeChecks" = some f) (hfn : Tryd.pinned.checked.prog.funcs[f]? = some fn) :
    false = Tryd.pinned.checked.prog.looks [] ∧ ∀ (j : Nat) t, fn.params[j]? = some t → Tryd.pinned.checked.prog.wantsStandIn t = false := by
  obtain rfl : f = 3 := Option.some.inj ((show Tryd.prog.funcNamed "teasel/teasellaw17.CodeChecks" = some 3 by kernel_rfl).symm.trans hf) |>.symm
  obtain rfl : fn = Tryd.f3 := (Option.some.inj (Tryd.func3.symm.trans hfn)).symm
  refine ⟨by kernel_rfl, fun j t ht => ?_⟩
  rw [Tryd.params3] at ht
  have hm := Array.mem_of_getElem? ht
  have hm2 : t = 26 ∨ t = 3 := by simpa using hm
  rcases hm2 with rfl | rfl
  · exact (show Tryd.prog.wantsStandIn 26 = false by kernel_rfl)
  · exact (show Tryd.prog.wantsStandIn 3 = false by kernel_rfl)
theorem proved : Rows.CodeChecksUptoCardSaid :=
  Claim7.holds_tied_plain_at .later [] _ _ _ _ said (fun _ h => by cases h) (by kernel_rfl) (fun _ h => by cases h) codeChecksUpto_row_tie rfl ⟨rfl, rfl⟩ (by kernel_rfl) rfl plain (by kernel_rfl)
end Go.Proofs.YtihhngjoecgkpaaDoor.codeChecks
end
