/- A part of the proof: G7, G8, G9, G10, G11, G12, G13, G14, G15. -/
import Derived.Test.YtihhngjoecgkpaaDoorMj

section
namespace Go.Proofs.YtihhngjoecgkpaaDoor
open Go
set_option linter.unusedSimpArgs false
set_option linter.unusedVariables false
set_option maxRecDepth 10000
set_option maxHeartbeats 4000000

section
variable {P : Program} {G : Gl} {T : Tab} {own : List Nat} {nt B : Nat} {ρ : Option Nat} {C : Cx} {rs : List ResultVar} {R : SV → List Blk → Prop} {env env2 : Env} {H H' : List Blk} {k : List It}
variable {all r : List Oper} {ty d j dj : Nat} {op : Op} {pos : String} {after : Array Edge} {v : SV}
/-- EVERY BIT OF A NUMBER TURNED. -/
theorem go_compl {x : Operand} {t : Nat} {n : Int} (h1 : ev G env x = some (.int .u64 n)) (hd : Nat.blt d nt = true)
    (hk : (Out P G T own nt ρ C rs R) (.ops all r :: k) .normal ((d, .int .u64 (bxorI .u64 18446744073709551615 n)) :: env) H) : (Out P G T own nt ρ C rs R) (.ops all (⟨some d, .unOp .xor t x, ty, pos, after, none⟩ :: r) :: k) .normal env H := by
  refine OW.law (R0 := fun y H' => y = .int .u64 (bxorI .u64 18446744073709551615 n) ∧ H' = H) rfl rfl hd (fun hT c a o' hs hc hi hg next Q hn => ?_) (fun y H' hy => by obtain ⟨rfl, rfl⟩ := hy; exact hk)
  have hv := ev_ok hi h1
  simp only [Rep] at hv
  obtain ⟨s1, s2, s3⟩ := hs
  refine wp_val (u := .int .u64 (bxorI .u64 18446744073709551615 n)) (w' := c.w) (by rw [s2]; intro _ e; cases e) ?_ ?_
  · simp [execOp, s2, hv.1, Op.unary, Op.intBits]
    rfl
  · rw [s1]
    exact hn (.int .u64 (bxorI .u64 18446744073709551615 n)) c _ ⟨rfl, hc⟩ hi.heap (rep_wrap c _ _) (Grow.refl c)
end
theorem compl64 {m : Int} (h1 : 0 ≤ m) (h2 : m < 18446744073709551616) : bxorI .u64 18446744073709551615 m = 18446744073709551615 - m := by
  show IntKind.u64.wrap ↑(BitVec.ofInt 64 18446744073709551615 ^^^ BitVec.ofInt 64 m).toNat = 18446744073709551615 - m
  rw [show BitVec.ofInt 64 18446744073709551615 = BitVec.allOnes 64 from by decide, BitVec.xor_comm, BitVec.xor_allOnes, BitVec.toNat_not, BitVec.toNat_ofInt, wrapU64]
  omega

theorem rnumber_ok (G : Gl) (hG : GClosed G) (n : Int) (hn : isI n) (H : List Blk) : ACall Tryd.prog G 24 [.int .i64 n] H (fun r H' => H' = H ∧ r = .str (numS n)) := by
  refine ACall.of_go TB [4] tabOK _ Tryd.func24 rfl (by decide) Tryd.ntmps24 (by simp) rfl (by simp only [initEnv, Nat.reduceAdd]; rfl) fun C R' hR hC hcl hB => ?_; have X := noX; have hC' := congrArg List.length hC
  obtain ⟨h1, h2⟩ := hn
  have hz := zz_lt ⟨h1, h2⟩
  have hu0 : IntKind.u64.wrap (IntKind.u64.wrap n * 2 ^ min 1 64) = (2 * n) % 18446744073709551616 := by
    rw [show min 1 64 = 1 from rfl, wrapU64, wrapU64]; omega
  (refine runC ?_; repeat' (first | with_reducible exact trivial | ((with_reducible apply Fork.mk) <;> intro hb) | with_reducible apply Two.mk))
  refine go_cut (fun _ : Unit => [(3, .int .u64 (zz n : Int))]) (fun _ => H) (fun _ => True) (fun K hK => ?_) (fun _ _ => ?_)
  · (refine run ?_; repeat' (first | with_reducible exact trivial | ((with_reducible apply Fork.mk) <;> intro hb) | with_reducible apply Two.mk))
    · refine go_compl rfl rfl ?_
      (refine run ?_; repeat' (first | with_reducible exact trivial | ((with_reducible apply Fork.mk) <;> intro hb) | with_reducible apply Two.mk))
      refine hK _ _ () trivial (Wk.sub ?_)
      have e : bxorI .u64 18446744073709551615 (IntKind.u64.wrap (IntKind.u64.wrap n * 2 ^ min 1 64)) = (zz n : Int) := by
        rw [hu0, compl64 (by omega) (by omega)]
        unfold zz; rw [if_neg (by omega)]; omega
      exact ⟨congrArg (fun q => some (SV.int IntKind.u64 q)) e, trivial⟩
    · refine hK _ _ () trivial (Wk.sub ?_)
      have e : IntKind.u64.wrap (IntKind.u64.wrap n * 2 ^ min 1 64) = (zz n : Int) := by
        rw [hu0]
        unfold zz; rw [if_pos (by omega)]; omega
      exact ⟨congrArg (fun q => some (SV.int IntKind.u64 q)) e, trivial⟩
  clear X
  have hS : numS n = vb (zz n) := rfl
  generalize zz n = z at *
  have X := noX
  (refine run ?_; repeat' (first | with_reducible exact trivial | ((with_reducible apply Fork.mk) <;> intro hb) | with_reducible apply Two.mk))
  refine go_loop (fun a : Nat × Str => [(3, .int .u64 a.1), (4, .sl H.length 0 0 a.2.length)]) (fun a => H ++ [.cells 0 1 (strBytes a.2)]) (fun a => a.1) (fun a => a.1 < 18446744073709551616 ∧ a.2 ++ vb a.1 = vb z) (z, []) ⟨hz, rfl⟩ (by
    dsimp only [List.length_nil]
    rw [show strBytes [] = [] from rfl]
    exact wkS (n0 := H.length) [(H.length, 0)] hG hB hC' hcl (hk := keepC (g := 0) H.length (by simp) (Nat.le_refl _) rfl .nil)) ?_
  rintro K2 ⟨u, o⟩ ⟨hu, ho⟩ hK2
  simp only at hu ho
  dsimp only
  have hol : o.length + 1 ≤ 10 := by
    have h3 := vb_len 9 z (Nat.lt_trans hz (by decide))
    rw [← ho, List.length_append] at h3
    have := vb_pos u
    omega
  by_cases hu1 : u < 128
  · have X := And.intro noX hu1
    have hw8 : IntKind.u8.wrap (u : Int) = (u : Int) := by rw [wrapU8]; omega
    (refine run ?_; repeat' (first | with_reducible exact trivial | ((with_reducible apply Fork.mk) <;> intro hb) | with_reducible apply Two.mk))
    rw [hw8, strBytes_snoc _ _ (by omega)]
    rw [vb_lt hu1] at ho
    rw [ho, show o.length + 1 = (vb z).length from by rw [← ho]; simp]
    (refine run ?_; repeat' (first | with_reducible exact trivial | ((with_reducible apply Fork.mk) <;> intro hb) | with_reducible apply Two.mk))
    rw [← hS]
    exact finS hR hC' hcl (.same _ rfl) ⟨rfl, rfl⟩
  · have X := And.intro noX hu1
    (refine run ?_; repeat' (first | with_reducible exact trivial | ((with_reducible apply Fork.mk) <;> intro hb) | with_reducible apply Two.mk))
    have e1 : IntKind.u8.wrap (IntKind.u8.wrap ((u : Int).tmod 128) + 128) = ((u % 128 + 128 : Nat) : Int) := by
      rw [wrapU8, wrapU8, Int.tmod_eq_emod_of_nonneg (by omega)]; omega
    have e2 : IntKind.u64.wrap ((u : Int).tdiv 128) = ((u / 128 : Nat) : Int) := by
      rw [wrapU64, Int.tdiv_eq_ediv_of_nonneg (by omega)]; omega
    rw [e1, e2, strBytes_snoc _ _ (by omega)]
    rw [vb_ge hu1] at ho
    refine hK2 _ _ (u / 128, o ++ [UInt8.ofNat (u % 128 + 128)]) (show u / 128 < u by omega) ⟨by show u / 128 < _; omega, by rw [← ho]; simp⟩ ?_
    dsimp only
    rw [List.length_append, List.length_singleton]
    exact wkS (n0 := H.length) [(H.length, 0)] hG hB hC' hcl (hk := keepC (g := 1) H.length (by simp) (Nat.le_refl _) (by simp only [strBytes_under]) .nil)
end Go.Proofs.YtihhngjoecgkpaaDoor
end

section
namespace Go.Proofs.YtihhngjoecgkpaaDoor
open Go
set_option linter.unusedSimpArgs false
set_option linter.unusedVariables false
set_option maxRecDepth 10000
set_option maxHeartbeats 4000000

theorem ftext_ok (G : Gl) (hG : GClosed G) (s : Str) (hl : s.length < 1099511627776) (H : List Blk) : ACall Tryd.prog G 25 [.str s] H (fun r H' => H' = H ∧ r = .str (txtS s)) := by
  have c1 := fun H => rnumber_ok G hG (s.length : Int) (isI_len hl) H
  have hb : (numS (s.length : Int)).length + s.length ≤ maxLen := by
    have := numS_len (isI_len hl)
    unfold maxLen; omega
  refine ACall.of_go TB [] tabOK _ Tryd.func25 rfl (by decide) Tryd.ntmps25 (by simp) rfl (by simp only [initEnv, Nat.reduceAdd]; rfl) fun C R' hR hC hcl hB => ?_; have X := noX; have hC' := congrArg List.length hC
  have X := And.intro X hb
  (refine run ?_; repeat' (first | with_reducible exact trivial | ((with_reducible apply Fork.mk) <;> intro hb) | with_reducible apply Two.mk))
  exact Fin.out hR ⟨rfl, rfl⟩
theorem ftruth_ok (G : Gl) (hG : GClosed G) (t : Bool) (H : List Blk) : ACall Tryd.prog G 26 [.bool t] H (fun r H' => H' = H ∧ r = .str (truS t)) := by
  have c1 := fun H => rnumber_ok G hG 1 ⟨by decide, by decide⟩ H
  have c2 := fun H => rnumber_ok G hG 0 ⟨by decide, by decide⟩ H
  cases t with
  | true =>
    refine ACall.of_go TB [] tabOK _ Tryd.func26 rfl (by decide) Tryd.ntmps26 (by simp) rfl (by simp only [initEnv, Nat.reduceAdd]; rfl) fun C R' hR hC hcl hB => ?_; have X := noX; have hC' := congrArg List.length hC
    (refine run ?_; repeat' (first | with_reducible exact trivial | ((with_reducible apply Fork.mk) <;> intro hb) | with_reducible apply Two.mk))
    exact Fin.out hR ⟨rfl, rfl⟩
  | false =>
    refine ACall.of_go TB [] tabOK _ Tryd.func26 rfl (by decide) Tryd.ntmps26 (by simp) rfl (by simp only [initEnv, Nat.reduceAdd]; rfl) fun C R' hR hC hcl hB => ?_; have X := noX; have hC' := congrArg List.length hC
    (refine run ?_; repeat' (first | with_reducible exact trivial | ((with_reducible apply Fork.mk) <;> intro hb) | with_reducible apply Two.mk))
    exact Fin.out hR ⟨rfl, rfl⟩
end Go.Proofs.YtihhngjoecgkpaaDoor
end

section
namespace Go.Proofs.YtihhngjoecgkpaaDoor
open Go
set_option linter.unusedSimpArgs false
set_option linter.unusedVariables false
set_option maxRecDepth 10000
set_option maxHeartbeats 4000000
set_option pp.deepTerms true
set_option pp.maxSteps 100000

theorem numsS_nil : numsS [] = [] := rfl
theorem mx {a b : Str} (h : a.length + b.length < 1099511627776) : a.length + b.length ≤ maxLen := by unfold maxLen; omega
theorem mx' {a b : Str} {n : Nat} (h : n + (a ++ b).length < 1099511627776) : n + a.length < 1099511627776 ∧ a.length + b.length ≤ maxLen := by
  rw [List.length_append] at h; unfold maxLen; omega
theorem rencode_ok (G : Gl) (hG : GClosed G) (m : Img) (hmb : ImgB m) (hi : ImgI m) (hl : (encB m).length < 1099511627776) (H : List Blk) :
    ACall Tryd.prog G 10 [.agg m.cells] H (fun r H' => H' = H ∧ r = .tuple [.str (encS m), .int .i64 (chkS m 65536)]) := by
  have hml : m.cells.length = 4 := rfl
  have c1 := fun H => rcheck_ok G hG m 65536 hmb H
  refine ACall.of_go TB [5] tabOK _ Tryd.func10 rfl (by decide) Tryd.ntmps10 (by simp) rfl (by simp only [initEnv, Nat.reduceAdd]; rfl) fun C R' hR hC hcl hB => ?_; have X := noX; have hC' := congrArg List.length hC
  have X := And.intro X hml
  have hm0 : m.cells[0]? = some (.list 4 (consL m.cons)) := rfl
  have hm1 : m.cells[1]? = some (.list 7 (funsL m.funcs)) := rfl
  have hm2 : m.cells[2]? = some (.list 3 (glbsL m.globals)) := rfl
  have hm3 : m.cells[3]? = some (.int .i64 m.main) := rfl
  have hmu := fun n => Img.cells_under n m
  have hlc := hmb.c
  have hlf := hmb.f
  have hlg := hmb.g
  have hu1 := funsL_under H.length m.funcs
  have hu2 := glbsL_under H.length m.globals
  have c2 := fun n hn H => rnumber_ok G hG n hn H
  have k3 := fun n hn => c2 n hn
  generalize hmc : m.cells = mc at *
  have X := And.intro X (And.intro hm0 (And.intro hm1 (And.intro hm2 hm3)))
  have c3 := c2 _ (isI_len hlc)
  clear c2 k3
  have hen1 : 4 + (numS (m.cons.length : Int)).length ≤ maxLen := by
    have := numS_len (isI_len hlc)
    unfold maxLen; omega
  have X := And.intro X hen1
  (refine run ?_; repeat' (first | with_reducible exact trivial | ((with_reducible apply Fork.mk) <;> intro hb) | with_reducible apply Two.mk))
  · refine finS hR hC' hcl (.same _ rfl) ⟨rfl, ?_⟩
    unfold encS; rw [if_neg hb]; rfl
  have hchk : chkS m 65536 = 0 := by simpa using hb
  have l0 : magicS.length = 4 := rfl
  obtain ⟨B1, hB1⟩ : ∃ B1, B1 = magicS ++ numS m.cons.length := ⟨_, rfl⟩
  obtain ⟨B2, hB2⟩ : ∃ B2, B2 = B1 ++ m.cons.flatMap conS ++ numS m.funcs.length := ⟨_, rfl⟩
  obtain ⟨B3, hB3⟩ : ∃ B3, B3 = B2 ++ m.funcs.flatMap funS ++ numS m.globals.length := ⟨_, rfl⟩
  have hen : encB m = B3 ++ m.globals.flatMap glbS ++ numS m.main := by rw [hB3, hB2, hB1]; rfl
  rw [hen] at hl
  have l3 : B3.length + (m.globals.flatMap glbS).length + (numS m.main).length < 1099511627776 := by simpa only [List.length_append] using hl
  have l2 : B2.length + (m.funcs.flatMap funS).length + (numS m.globals.length).length ≤ B3.length := by rw [hB3]; simp only [List.length_append]; omega
  have l1 : B1.length + (m.cons.flatMap conS).length + (numS m.funcs.length).length ≤ B2.length := by rw [hB2]; simp only [List.length_append]; omega
  have l0' : magicS.length + (numS m.cons.length).length ≤ B1.length := by rw [hB1]; simp only [List.length_append]; omega
  rw [show (84 :: 83 :: 76 :: 49 :: numS m.cons.length : Str) = B1 from hB1.symm]
  have hb1 : 0 + B1.length < 1099511627776 := by omega
  (refine run ?_; repeat' (first | with_reducible exact trivial | ((with_reducible apply Fork.mk) <;> intro hb) | with_reducible apply Two.mk))
  clear X c1 c3
  refine go_loop (fun k : Nat => [(1, .ptr H.length 0 0 0), (6, .int .i64 k), (5, .sl (H.length + 1) 0 0 (B1 ++ (m.cons.take k).flatMap conS).length)]) (fun k => H ++ [.cells 0 4 [.agg mc], .cells 0 1 (strBytes (B1 ++ (m.cons.take k).flatMap conS))]) (fun k => m.cons.length - k) (fun k => k ≤ m.cons.length) 0 (Nat.zero_le _) (by
    rw [show (m.cons.take 0).flatMap conS = [] from rfl, List.append_nil]
    exact wkS (n0 := H.length) [(H.length, 0), (H.length + 1, 0)] hG hB hC' hcl (hk := keepC (g := 0) H.length (by simp) (Nat.le_refl _) (by simp only [SV.underL, SV.under, hmu, Bool.and_self]) (keepC (H.length + 1) (by simp; rfl) (by omega) (by simp only [strBytes_under]) .nil))) ?_
  rintro K k hk hK
  rcases Nat.lt_or_ge k m.cons.length with hlt | hge
  · have e1 : (consL m.cons)[k]? = some (.agg m.cons[k].cells) := by simp [consL, hlt]
    have hfs := flat_take m.cons conS hlt
    have hfl := flat_leS m.cons conS hlt
    obtain ⟨i1, i2, i3⟩ := hi.cons _ (List.getElem_mem hlt)
    generalize hx : m.cons[k] = x at *
    obtain ⟨name, arity, tag, family⟩ := x
    simp only [Con.cells] at e1
    simp only at i1 i2 i3
    have hcs : txtS name ++ numS arity ++ numS tag ++ numS family = conS ⟨name, arity, tag, family⟩ := by
      simp only [conS, numsS_cons, numsS_nil, List.append_assoc, List.append_nil]
    obtain ⟨P, hP⟩ : ∃ P, P = B1 ++ (m.cons.take k).flatMap conS := ⟨_, rfl⟩
    have e3 : B1 ++ (m.cons.take (k + 1)).flatMap conS = P ++ conS ⟨name, arity, tag, family⟩ := by rw [hfs, hP]; simp only [List.append_assoc]
    have hPl : P.length = B1.length + ((m.cons.take k).flatMap conS).length := by rw [hP, List.length_append]
    rw [← hP]
    have hPc : P.length + (conS ⟨name, arity, tag, family⟩).length < 1099511627776 := by omega
    generalize conS ⟨name, arity, tag, family⟩ = E at *
    have hPe := hPc
    rw [← hcs] at hPc
    obtain ⟨p1, q1⟩ := mx' hPc
    obtain ⟨p2, q2⟩ := mx' p1
    obtain ⟨p3, q3⟩ := mx' p2
    simp only [List.append_assoc] at q1 q2 q3 hPc hcs
    have hnl : name.length < 1099511627776 := by
      have : (txtS name).length = (numS name.length).length + name.length := by rw [txtS, List.length_append]
      omega
    have c1 := fun H => ftext_ok G hG name hnl H
    have c2 := fun H => rnumber_ok G hG arity i1 H
    have c3 := fun H => rnumber_ok G hG tag i2 H
    have c4 := fun H => rnumber_ok G hG family i3 H
    have X := And.intro noX (And.intro hml (And.intro hm0 (And.intro hm1 (And.intro hm2 (And.intro hm3 (And.intro e1 (And.intro q1 (And.intro q2 q3))))))))
    (refine run ?_; repeat' (first | with_reducible exact trivial | ((with_reducible apply Fork.mk) <;> intro hb) | with_reducible apply Two.mk))
    rw [hcs]
    (refine run ?_; repeat' (first | with_reducible exact trivial | ((with_reducible apply Fork.mk) <;> intro hb) | with_reducible apply Two.mk))
    refine hK _ _ (k + 1) (by omega) (by omega) ?_
    rw [e3, ← strBytes_app, ← List.length_append]
    exact wkS (n0 := H.length) [(H.length, 0), (H.length + 1, 0)] hG hB hC' hcl (hk := keepC (g := 0) H.length (by simp) (Nat.le_refl _) (by simp only [SV.underL, SV.under, hmu, Bool.and_self]) (keepC (H.length + 1) (by simp; rfl) (by omega) (by simp only [strBytes_under]) .nil))
  have : k = m.cons.length := by omega
  subst this
  clear hK
  rw [List.take_length]
  have hfc := isI_len hlf
  have X := And.intro noX (And.intro hml (And.intro hm0 (And.intro hm1 (And.intro hm2 (And.intro hm3 (Int.lt_irrefl (m.cons.length : Int)))))))
  obtain ⟨P, hP⟩ : ∃ P, P = B1 ++ m.cons.flatMap conS := ⟨_, rfl⟩
  have hPl : P.length = B1.length + (m.cons.flatMap conS).length := by rw [hP, List.length_append]
  rw [← hP] at hB2 ⊢
  have c1 := fun H => rnumber_ok G hG m.funcs.length hfc H
  have hPc : P.length + (numS m.funcs.length).length < 1099511627776 := by omega
  (refine run ?_; repeat' (first | with_reducible exact trivial | ((with_reducible apply Fork.mk) <;> intro hb) | with_reducible apply Two.mk))
  rw [← strBytes_app, ← List.length_append, ← hB2]
  clear X c1 hPc hPl hP
  refine go_loop (fun k : Nat => [(1, .ptr H.length 0 0 0), (8, .int .i64 k), (5, .sl (H.length + 1) 0 0 (B2 ++ (m.funcs.take k).flatMap funS).length)]) (fun k => H ++ [.cells 0 4 [.agg mc], .cells 0 1 (strBytes (B2 ++ (m.funcs.take k).flatMap funS))]) (fun k => m.funcs.length - k) (fun k => k ≤ m.funcs.length) 0 (Nat.zero_le _) (by
    rw [show (m.funcs.take 0).flatMap funS = [] from rfl, List.append_nil]
    exact wkS (n0 := H.length) [(H.length, 0), (H.length + 1, 0)] hG hB hC' hcl (hk := keepC (g := 0) H.length (by simp) (Nat.le_refl _) (by simp only [SV.underL, SV.under, hmu, Bool.and_self]) (keepC (H.length + 1) (by simp; rfl) (by omega) (by simp only [strBytes_under]) .nil))) ?_
  rintro K k hk hK
  rcases Nat.lt_or_ge k m.funcs.length with hlt | hge
  · have e1 : (funsL m.funcs)[k]? = some (.agg m.funcs[k].cells) := by simp [funsL, hlt]
    have hfs := flat_take m.funcs funS hlt
    have hfl := flat_leS m.funcs funS hlt
    obtain ⟨i1, i2, i3, i4⟩ := hi.funcs _ (List.getElem_mem hlt)
    obtain ⟨j1, j2⟩ := hmb.code _ (List.getElem_mem hlt)
    generalize hx : m.funcs[k] = x at *
    obtain ⟨name, thunk, upd, free, params, frame, code⟩ := x
    simp only [Fun.cells] at e1
    simp only at i1 i2 i3 i4 j1 j2
    have i5 := isI_len j1
    have hcs : txtS name ++ truS thunk ++ truS upd ++ numS free ++ numS params ++ numS frame ++ numS code.length = funH ⟨name, thunk, upd, free, params, frame, code⟩ := by
      simp only [funH, numsS_cons, numsS_nil, List.append_assoc, List.append_nil]
    have hfS : funS ⟨name, thunk, upd, free, params, frame, code⟩ = funH ⟨name, thunk, upd, free, params, frame, code⟩ ++ code.flatMap insS := rfl
    have hux := insL_under H.length code
    obtain ⟨P, hP⟩ : ∃ P, P = B2 ++ (m.funcs.take k).flatMap funS := ⟨_, rfl⟩
    generalize hE : funH ⟨name, thunk, upd, free, params, frame, code⟩ = E at *
    have e3 : B2 ++ (m.funcs.take (k + 1)).flatMap funS = P ++ E ++ code.flatMap insS := by rw [hfs, hfS, hP]; simp only [List.append_assoc]
    have hPl : P.length = B2.length + ((m.funcs.take k).flatMap funS).length := by rw [hP, List.length_append]
    rw [← hP]
    rw [hfS, List.length_append] at hfl
    have hPc : P.length + E.length + (code.flatMap insS).length < 1099511627776 := by omega
    have hPe : P.length + E.length < 1099511627776 := by omega
    have hPq := hPe
    rw [← hcs] at hPq
    obtain ⟨p1, q1⟩ := mx' hPq
    obtain ⟨p2, q2⟩ := mx' p1
    obtain ⟨p3, q3⟩ := mx' p2
    obtain ⟨p4, q4⟩ := mx' p3
    obtain ⟨p5, q5⟩ := mx' p4
    obtain ⟨p6, q6⟩ := mx' p5
    simp only [List.append_assoc] at q1 q2 q3 q4 q5 q6 hPq hcs
    have hnl : name.length < 1099511627776 := by
      have : (txtS name).length = (numS name.length).length + name.length := by rw [txtS, List.length_append]
      omega
    have c1 := fun H => ftext_ok G hG name hnl H
    have c2 := fun t H => ftruth_ok G hG t H
    have c3 := fun H => rnumber_ok G hG free i1 H
    have c4 := fun H => rnumber_ok G hG params i2 H
    have c5 := fun H => rnumber_ok G hG frame i3 H
    have c6 := fun H => rnumber_ok G hG code.length i5 H
    have X := And.intro noX (And.intro hml (And.intro hm0 (And.intro hm1 (And.intro hm2 (And.intro hm3 (And.intro e1 (And.intro q1 (And.intro q2 (And.intro q3 (And.intro q4 (And.intro q5 q6)))))))))))
    (refine run ?_; repeat' (first | with_reducible exact trivial | ((with_reducible apply Fork.mk) <;> intro hb) | with_reducible apply Two.mk))
    rw [hcs]
    (refine run ?_; repeat' (first | with_reducible exact trivial | ((with_reducible apply Fork.mk) <;> intro hb) | with_reducible apply Two.mk))
    rw [← strBytes_app, ← List.length_append]
    clear X c1 c2 c3 c4 c5 c6 q1 q2 q3 q4 q5 q6 p1 p2 p3 p4 p5 p6 hPq
    generalize hP1 : P ++ E = P1 at *
    have hP1l : P1.length = P.length + E.length := by rw [← hP1, List.length_append]
    refine go_loop (fun j : Nat => [(1, .ptr H.length 0 0 0), (8, .int .i64 k), (9, .ptr (H.length + 2) 0 0 0), (10, .int .i64 j), (5, .sl (H.length + 1) 0 0 (P1 ++ (code.take j).flatMap insS).length)]) (fun j => H ++ [.cells 0 4 [.agg mc], .cells 0 1 (strBytes (P1 ++ (code.take j).flatMap insS)), .cells 0 7 [.agg [.str name, .bool thunk, .bool upd, .int .i64 free, .int .i64 params, .int .i64 frame, .list 6 (insL code)]]]) (fun j => code.length - j) (fun j => j ≤ code.length) 0 (Nat.zero_le _) (by
      rw [show (code.take 0).flatMap insS = [] from rfl, List.append_nil]
      exact wkS (n0 := H.length) [(H.length, 0), (H.length + 1, 0), (H.length + 2, 0)] hG hB hC' hcl (hk := keepC (g := 0) H.length (by simp) (Nat.le_refl _) (by simp only [SV.underL, SV.under, hmu, Bool.and_self]) (keepC (H.length + 1) (by simp; rfl) (by omega) (by simp only [strBytes_under]) (keepC (g := 0) (H.length + 2) (by simp) (by omega) (by simp only [SV.underL, SV.under, hux, Bool.and_self]) .nil)))) ?_
    rintro K2 j hj hK2
    rcases Nat.lt_or_ge j code.length with hjt | hjg
    · have e2 : (insL code)[j]? = some (.agg code[j].cells) := by simp [insL, hjt]
      have hjs := flat_take code insS hjt
      have hjl := flat_leS code insS hjt
      obtain ⟨o1, o2, o3, o4, o5, o6⟩ := i4 _ (List.getElem_mem hjt)
      have o9 := j2 _ (List.getElem_mem hjt)
      have o7 := isI_len o9
      generalize hxj : code[j] = x at *
      obtain ⟨op, a, b, c, n, l⟩ := x
      simp only [Ins.cells] at e2
      simp only at o1 o2 o3 o4 o5 o6 o7 o9
      have hds : numS op ++ numS a ++ numS b ++ numS c ++ numS n ++ numS l.length = numsS [op, a, b, c, n, (l.length : Int)] := by
        simp only [numsS_cons, numsS_nil, List.append_assoc, List.append_nil]
      have hiS : insS ⟨op, a, b, c, n, l⟩ = numsS [op, a, b, c, n, (l.length : Int)] ++ numsS l := rfl
      obtain ⟨Q, hQ⟩ : ∃ Q, Q = P1 ++ (code.take j).flatMap insS := ⟨_, rfl⟩
      generalize numsS [op, a, b, c, n, (l.length : Int)] = D at *
      have f3 : P1 ++ (code.take (j + 1)).flatMap insS = Q ++ D ++ numsS l := by rw [hjs, hiS, hQ]; simp only [List.append_assoc]
      have hQl : Q.length = P1.length + ((code.take j).flatMap insS).length := by rw [hQ, List.length_append]
      rw [← hQ]
      rw [hiS, List.length_append] at hjl
      have hQc : Q.length + D.length + (numsS l).length < 1099511627776 := by omega
      have hQe : Q.length + D.length < 1099511627776 := by omega
      have hQq := hQe
      rw [← hds] at hQq
      obtain ⟨p1, q1⟩ := mx' hQq
      obtain ⟨p2, q2⟩ := mx' p1
      obtain ⟨p3, q3⟩ := mx' p2
      obtain ⟨p4, q4⟩ := mx' p3
      obtain ⟨p5, q5⟩ := mx' p4
      simp only [List.append_assoc] at q1 q2 q3 q4 q5 hQq hds
      have c1 := fun H => rnumber_ok G hG op o1 H
      have c2 := fun H => rnumber_ok G hG a o2 H
      have c3 := fun H => rnumber_ok G hG b o3 H
      have c4 := fun H => rnumber_ok G hG c o4 H
      have c5 := fun H => rnumber_ok G hG n o5 H
      have c6 := fun H => rnumber_ok G hG l.length o7 H
      have X := And.intro noX (And.intro hml (And.intro hm0 (And.intro hm1 (And.intro hm2 (And.intro hm3 (And.intro e2 (And.intro q1 (And.intro q2 (And.intro q3 (And.intro q4 q5))))))))))
      (refine run ?_; repeat' (first | with_reducible exact trivial | ((with_reducible apply Fork.mk) <;> intro hb) | with_reducible apply Two.mk))
      rw [hds]
      (refine run ?_; repeat' (first | with_reducible exact trivial | ((with_reducible apply Fork.mk) <;> intro hb) | with_reducible apply Two.mk))
      rw [← strBytes_app, ← List.length_append]
      clear X c1 c2 c3 c4 c5 c6 q1 q2 q3 q4 q5 p1 p2 p3 p4 p5 hQq
      generalize hQ1 : Q ++ D = Q1 at *
      have hQ1l : Q1.length = Q.length + D.length := by rw [← hQ1, List.length_append]
      refine go_loop (fun h : Nat => [(1, .ptr H.length 0 0 0), (8, .int .i64 k), (9, .ptr (H.length + 2) 0 0 0), (10, .int .i64 j), (11, .ptr (H.length + 3) 0 0 0), (12, .int .i64 h), (5, .sl (H.length + 1) 0 0 (Q1 ++ numsS (l.take h)).length)]) (fun h => H ++ [.cells 0 4 [.agg mc], .cells 0 1 (strBytes (Q1 ++ numsS (l.take h))), .cells 0 7 [.agg [.str name, .bool thunk, .bool upd, .int .i64 free, .int .i64 params, .int .i64 frame, .list 6 (insL code)]], .cells 0 6 [.agg [.int .i64 op, .int .i64 a, .int .i64 b, .int .i64 c, .int .i64 n, .list 1 (l.map (.int .i64))]]]) (fun h => l.length - h) (fun h => h ≤ l.length) 0 (Nat.zero_le _) (by
        rw [show numsS (l.take 0) = [] from rfl, List.append_nil]
        exact wkS (n0 := H.length) [(H.length, 0), (H.length + 1, 0), (H.length + 2, 0), (H.length + 3, 0)] hG hB hC' hcl (hk := keepC (g := 0) H.length (by simp) (Nat.le_refl _) (by simp only [SV.underL, SV.under, hmu, Bool.and_self]) (keepC (H.length + 1) (by simp; rfl) (by omega) (by simp only [strBytes_under]) (keepC (g := 0) (H.length + 2) (by simp) (by omega) (by simp only [SV.underL, SV.under, hux, Bool.and_self]) (keepC (g := 0) (H.length + 3) (by simp) (by omega) (by simp only [SV.underL, SV.under, ints_under, Bool.and_self]) .nil))))) ?_
      rintro K3 h hh hK3
      rcases Nat.lt_or_ge h l.length with hht | hhg
      · have e4 : (l.map (SV.int .i64))[h]? = some (SV.int .i64 l[h]) := by simp [hht]
        have o8 := o6 _ (List.getElem_mem hht)
        have hks : numsS (l.take (h + 1)) = numsS (l.take h) ++ numS l[h] := flat_take l numS hht
        have hkl : (numsS (l.take h)).length + (numS l[h]).length ≤ (numsS l).length := flat_leS l numS hht
        generalize l[h] = y at *
        have h3 : Q1 ++ numsS (l.take (h + 1)) = Q1 ++ numsS (l.take h) ++ numS y := by rw [hks]; simp only [List.append_assoc]
        have hRl : (Q1 ++ numsS (l.take h)).length = Q1.length + (numsS (l.take h)).length := List.length_append
        generalize Q1 ++ numsS (l.take h) = R1 at *
        have hRc : R1.length + (numS y).length < 1099511627776 := by omega
        have c1 := fun H => rnumber_ok G hG y o8 H
        have X := And.intro noX (And.intro hml (And.intro hm0 (And.intro hm1 (And.intro hm2 (And.intro hm3 e4)))))
        (refine run ?_; repeat' (first | with_reducible exact trivial | ((with_reducible apply Fork.mk) <;> intro hb) | with_reducible apply Two.mk))
        refine hK3 _ _ (h + 1) (by omega) (by omega) ?_
        rw [h3, ← strBytes_app, ← List.length_append]
        exact wkS (n0 := H.length) [(H.length, 0), (H.length + 1, 0), (H.length + 2, 0), (H.length + 3, 0)] hG hB hC' hcl (hk := keepC (g := 0) H.length (by simp) (Nat.le_refl _) (by simp only [SV.underL, SV.under, hmu, Bool.and_self]) (keepC (H.length + 1) (by simp; rfl) (by omega) (by simp only [strBytes_under]) (keepC (g := 0) (H.length + 2) (by simp) (by omega) (by simp only [SV.underL, SV.under, hux, Bool.and_self]) (keepC (g := 0) (H.length + 3) (by simp) (by omega) (by simp only [SV.underL, SV.under, ints_under, Bool.and_self]) .nil))))
      have : h = l.length := by omega
      subst this
      clear hK3
      rw [List.take_length]
      have X := And.intro noX (And.intro hml (And.intro hm0 (And.intro hm1 (And.intro hm2 (And.intro hm3 (Int.lt_irrefl (l.length : Int)))))))
      (refine run ?_; repeat' (first | with_reducible exact trivial | ((with_reducible apply Fork.mk) <;> intro hb) | with_reducible apply Two.mk))
      refine hK2 _ _ (j + 1) (by omega) (by omega) ?_
      rw [f3]
      exact wkS (n0 := H.length) [(H.length, 0), (H.length + 1, 0), (H.length + 2, 0)] hG hB hC' hcl (hk := keepC (g := 0) H.length (by simp) (Nat.le_refl _) (by simp only [SV.underL, SV.under, hmu, Bool.and_self]) (keepC (H.length + 1) (by simp; rfl) (by omega) (by simp only [strBytes_under]) (keepC (g := 0) (H.length + 2) (by simp) (by omega) (by simp only [SV.underL, SV.under, hux, Bool.and_self]) .nil)))
    have : j = code.length := by omega
    subst this
    clear hK2
    rw [List.take_length]
    have X := And.intro noX (And.intro hml (And.intro hm0 (And.intro hm1 (And.intro hm2 (And.intro hm3 (Int.lt_irrefl (code.length : Int)))))))
    (refine run ?_; repeat' (first | with_reducible exact trivial | ((with_reducible apply Fork.mk) <;> intro hb) | with_reducible apply Two.mk))
    refine hK _ _ (k + 1) (by omega) (by omega) ?_
    rw [e3]
    exact wkS (n0 := H.length) [(H.length, 0), (H.length + 1, 0)] hG hB hC' hcl (hk := keepC (g := 0) H.length (by simp) (Nat.le_refl _) (by simp only [SV.underL, SV.under, hmu, Bool.and_self]) (keepC (H.length + 1) (by simp; rfl) (by omega) (by simp only [strBytes_under]) .nil))
  have : k = m.funcs.length := by omega
  subst this
  clear hK
  rw [List.take_length]
  have hgc := isI_len hlg
  have X := And.intro noX (And.intro hml (And.intro hm0 (And.intro hm1 (And.intro hm2 (And.intro hm3 (Int.lt_irrefl (m.funcs.length : Int)))))))
  obtain ⟨P, hP⟩ : ∃ P, P = B2 ++ m.funcs.flatMap funS := ⟨_, rfl⟩
  have hPl : P.length = B2.length + (m.funcs.flatMap funS).length := by rw [hP, List.length_append]
  rw [← hP] at hB3 ⊢
  have c1 := fun H => rnumber_ok G hG m.globals.length hgc H
  have hPc : P.length + (numS m.globals.length).length < 1099511627776 := by omega
  (refine run ?_; repeat' (first | with_reducible exact trivial | ((with_reducible apply Fork.mk) <;> intro hb) | with_reducible apply Two.mk))
  rw [← strBytes_app, ← List.length_append, ← hB3]
  clear X c1 hPc hPl hP
  refine go_loop (fun k : Nat => [(1, .ptr H.length 0 0 0), (13, .int .i64 k), (5, .sl (H.length + 1) 0 0 (B3 ++ (m.globals.take k).flatMap glbS).length)]) (fun k => H ++ [.cells 0 4 [.agg mc], .cells 0 1 (strBytes (B3 ++ (m.globals.take k).flatMap glbS))]) (fun k => m.globals.length - k) (fun k => k ≤ m.globals.length) 0 (Nat.zero_le _) (by
    rw [show (m.globals.take 0).flatMap glbS = [] from rfl, List.append_nil]
    exact wkS (n0 := H.length) [(H.length, 0), (H.length + 1, 0)] hG hB hC' hcl (hk := keepC (g := 0) H.length (by simp) (Nat.le_refl _) (by simp only [SV.underL, SV.under, hmu, Bool.and_self]) (keepC (H.length + 1) (by simp; rfl) (by omega) (by simp only [strBytes_under]) .nil))) ?_
  rintro K k hk hK
  rcases Nat.lt_or_ge k m.globals.length with hlt | hge
  · have e1 : (glbsL m.globals)[k]? = some (.agg m.globals[k].cells) := by simp [glbsL, hlt]
    have hfs := flat_take m.globals glbS hlt
    have hfl := flat_leS m.globals glbS hlt
    obtain ⟨i1, i2, i4⟩ := hi.globals _ (List.getElem_mem hlt)
    have j1 := hmb.args _ (List.getElem_mem hlt)
    generalize hx : m.globals[k] = x at *
    obtain ⟨kind, gn, args⟩ := x
    simp only [Glb.cells] at e1
    simp only at i1 i2 i4 j1
    have i5 := isI_len j1
    have hcs : numS kind ++ numS gn ++ numS args.length = numsS [kind, gn, (args.length : Int)] := by
      simp only [numsS_cons, numsS_nil, List.append_assoc, List.append_nil]
    have hfS : glbS ⟨kind, gn, args⟩ = numsS [kind, gn, (args.length : Int)] ++ args.flatMap refS := rfl
    have hux : SV.underL H.length (args.map encR) = true := SV.underL_map fun _ _ => rfl
    obtain ⟨P, hP⟩ : ∃ P, P = B3 ++ (m.globals.take k).flatMap glbS := ⟨_, rfl⟩
    generalize numsS [kind, gn, (args.length : Int)] = E at *
    have e3 : B3 ++ (m.globals.take (k + 1)).flatMap glbS = P ++ E ++ args.flatMap refS := by rw [hfs, hfS, hP]; simp only [List.append_assoc]
    have hPl : P.length = B3.length + ((m.globals.take k).flatMap glbS).length := by rw [hP, List.length_append]
    rw [← hP]
    rw [hfS, List.length_append] at hfl
    have hPc : P.length + E.length + (args.flatMap refS).length < 1099511627776 := by omega
    have hPe : P.length + E.length < 1099511627776 := by omega
    have hPq := hPe
    rw [← hcs] at hPq
    obtain ⟨p1, q1⟩ := mx' hPq
    obtain ⟨p2, q2⟩ := mx' p1
    simp only [List.append_assoc] at q1 q2 hPq hcs
    have c1 := fun H => rnumber_ok G hG kind i1 H
    have c2 := fun H => rnumber_ok G hG gn i2 H
    have c3 := fun H => rnumber_ok G hG args.length i5 H
    have X := And.intro noX (And.intro hml (And.intro hm0 (And.intro hm1 (And.intro hm2 (And.intro hm3 (And.intro e1 (And.intro q1 q2)))))))
    (refine run ?_; repeat' (first | with_reducible exact trivial | ((with_reducible apply Fork.mk) <;> intro hb) | with_reducible apply Two.mk))
    rw [hcs]
    (refine run ?_; repeat' (first | with_reducible exact trivial | ((with_reducible apply Fork.mk) <;> intro hb) | with_reducible apply Two.mk))
    rw [← strBytes_app, ← List.length_append]
    clear X c1 c2 c3 q1 q2 p1 p2 hPq
    generalize hP1 : P ++ E = P1 at *
    have hP1l : P1.length = P.length + E.length := by rw [← hP1, List.length_append]
    refine go_loop (fun j : Nat => [(1, .ptr H.length 0 0 0), (13, .int .i64 k), (14, .ptr (H.length + 2) 0 0 0), (15, .int .i64 j), (5, .sl (H.length + 1) 0 0 (P1 ++ (args.take j).flatMap refS).length)]) (fun j => H ++ [.cells 0 4 [.agg mc], .cells 0 1 (strBytes (P1 ++ (args.take j).flatMap refS)), .cells 0 3 [.agg [.int .i64 kind, .int .i64 gn, .list 2 (args.map encR)]]]) (fun j => args.length - j) (fun j => j ≤ args.length) 0 (Nat.zero_le _) (by
      rw [show (args.take 0).flatMap refS = [] from rfl, List.append_nil]
      exact wkS (n0 := H.length) [(H.length, 0), (H.length + 1, 0), (H.length + 2, 0)] hG hB hC' hcl (hk := keepC (g := 0) H.length (by simp) (Nat.le_refl _) (by simp only [SV.underL, SV.under, hmu, Bool.and_self]) (keepC (H.length + 1) (by simp; rfl) (by omega) (by simp only [strBytes_under]) (keepC (g := 0) (H.length + 2) (by simp) (by omega) (by simp only [SV.underL, SV.under, hux, Bool.and_self]) .nil)))) ?_
    rintro K2 j hj hK2
    rcases Nat.lt_or_ge j args.length with hjt | hjg
    · have e2 : (args.map encR)[j]? = some (encR args[j]) := by simp [hjt]
      have hjs := flat_take args refS hjt
      have hjl := flat_leS args refS hjt
      obtain ⟨o1, o2⟩ := i4 _ (List.getElem_mem hjt)
      generalize args[j] = r at *
      obtain ⟨x, y⟩ := r
      simp only [encR] at e2
      simp only at o1 o2
      have hds : numS x ++ numS y = refS (x, y) := by
        simp only [refS, numsS_cons, numsS_nil, List.append_assoc, List.append_nil]
      generalize refS (x, y) = D at *
      have f3 : P1 ++ (args.take (j + 1)).flatMap refS = P1 ++ (args.take j).flatMap refS ++ D := by rw [hjs]; simp only [List.append_assoc]
      have hQl : (P1 ++ (args.take j).flatMap refS).length = P1.length + ((args.take j).flatMap refS).length := List.length_append
      generalize P1 ++ (args.take j).flatMap refS = Q at *
      have hQe : Q.length + D.length < 1099511627776 := by omega
      have hQq := hQe
      rw [← hds] at hQq
      obtain ⟨p1, q1⟩ := mx' hQq
      have c1 := fun H => rnumber_ok G hG x o1 H
      have c2 := fun H => rnumber_ok G hG y o2 H
      have X := And.intro noX (And.intro hml (And.intro hm0 (And.intro hm1 (And.intro hm2 (And.intro hm3 (And.intro e2 q1))))))
      (refine run ?_; repeat' (first | with_reducible exact trivial | ((with_reducible apply Fork.mk) <;> intro hb) | with_reducible apply Two.mk))
      rw [hds]
      (refine run ?_; repeat' (first | with_reducible exact trivial | ((with_reducible apply Fork.mk) <;> intro hb) | with_reducible apply Two.mk))
      refine hK2 _ _ (j + 1) (by omega) (by omega) ?_
      rw [f3, ← strBytes_app, ← List.length_append]
      exact wkS (n0 := H.length) [(H.length, 0), (H.length + 1, 0), (H.length + 2, 0)] hG hB hC' hcl (hk := keepC (g := 0) H.length (by simp) (Nat.le_refl _) (by simp only [SV.underL, SV.under, hmu, Bool.and_self]) (keepC (H.length + 1) (by simp; rfl) (by omega) (by simp only [strBytes_under]) (keepC (g := 0) (H.length + 2) (by simp) (by omega) (by simp only [SV.underL, SV.under, hux, Bool.and_self]) .nil)))
    have : j = args.length := by omega
    subst this
    clear hK2
    rw [List.take_length]
    have X := And.intro noX (And.intro hml (And.intro hm0 (And.intro hm1 (And.intro hm2 (And.intro hm3 (Int.lt_irrefl (args.length : Int)))))))
    (refine run ?_; repeat' (first | with_reducible exact trivial | ((with_reducible apply Fork.mk) <;> intro hb) | with_reducible apply Two.mk))
    refine hK _ _ (k + 1) (by omega) (by omega) ?_
    rw [e3]
    exact wkS (n0 := H.length) [(H.length, 0), (H.length + 1, 0)] hG hB hC' hcl (hk := keepC (g := 0) H.length (by simp) (Nat.le_refl _) (by simp only [SV.underL, SV.under, hmu, Bool.and_self]) (keepC (H.length + 1) (by simp; rfl) (by omega) (by simp only [strBytes_under]) .nil))
  have : k = m.globals.length := by omega
  subst this
  clear hK
  rw [List.take_length]
  have hmi := hi.main
  have X := And.intro noX (And.intro hml (And.intro hm0 (And.intro hm1 (And.intro hm2 (And.intro hm3 (Int.lt_irrefl (m.globals.length : Int)))))))
  obtain ⟨P, hP⟩ : ∃ P, P = B3 ++ m.globals.flatMap glbS := ⟨_, rfl⟩
  have hPl : P.length = B3.length + (m.globals.flatMap glbS).length := by rw [hP, List.length_append]
  have c1 := fun H => rnumber_ok G hG m.main hmi H
  rw [← hP] at hen ⊢
  have hPc : P.length + (numS m.main).length < 1099511627776 := by omega
  (refine run ?_; repeat' (first | with_reducible exact trivial | ((with_reducible apply Fork.mk) <;> intro hb) | with_reducible apply Two.mk))
  rw [← strBytes_app, ← List.length_append, ← hen]
  (refine run ?_; repeat' (first | with_reducible exact trivial | ((with_reducible apply Fork.mk) <;> intro hb) | with_reducible apply Two.mk))
  refine finS hR hC' hcl (.same _ rfl) ⟨rfl, ?_⟩
  unfold encS; rw [if_pos hchk, hchk]; rfl
end Go.Proofs.YtihhngjoecgkpaaDoor
end

section
namespace Go.Proofs.YtihhngjoecgkpaaDoor
open Go
set_option linter.unusedSimpArgs false
set_option linter.unusedVariables false
set_option maxRecDepth 10000
set_option maxHeartbeats 4000000
set_option pp.deepTerms true
set_option pp.maxSteps 100000

/-! ### the reference's reader -/
section
variable {P : Program} {G : Gl} {T : Tab} {own : List Nat} {nt B : Nat} {ρ : Option Nat} {C : Cx} {rs : List ResultVar} {R : SV → List Blk → Prop} {env env2 : Env} {H H' : List Blk} {k : List It}
variable {all r : List Oper} {ty d j dj : Nat} {op : Op} {pos : String} {after : Array Edge} {v : SV}
theorem go_complI {x : Operand} {t : Nat} {n : Int} (h1 : ev G env x = some (.int .i64 n)) (hd : Nat.blt d nt = true)
    (hk : (Out P G T own nt ρ C rs R) (.ops all r :: k) .normal ((d, .int .i64 (bxorI .i64 (-1) n)) :: env) H) : (Out P G T own nt ρ C rs R) (.ops all (⟨some d, .unOp .xor t x, ty, pos, after, none⟩ :: r) :: k) .normal env H := by
  refine OW.law (R0 := fun y H' => y = .int .i64 (bxorI .i64 (-1) n) ∧ H' = H) rfl rfl hd (fun hT c a o' hs hc hi hg next Q hn => ?_) (fun y H' hy => by obtain ⟨rfl, rfl⟩ := hy; exact hk)
  have hv := ev_ok hi h1
  simp only [Rep] at hv
  obtain ⟨s1, s2, s3⟩ := hs
  refine wp_val (u := .int .i64 (bxorI .i64 (-1) n)) (w' := c.w) (by rw [s2]; intro _ e; cases e) ?_ ?_
  · simp [execOp, s2, hv.1, Op.unary, Op.intBits]
    rfl
  · rw [s1]
    exact hn (.int .i64 (bxorI .i64 (-1) n)) c _ ⟨rfl, hc⟩ hi.heap (rep_wrap c _ _) (Grow.refl c)
end
theorem complI {m : Int} (h1 : 0 ≤ m) (h2 : m < 9223372036854775808) : bxorI .i64 (-1) m = -m - 1 := by
  show IntKind.i64.wrap ↑(BitVec.ofInt 64 (-1) ^^^ BitVec.ofInt 64 m).toNat = -m - 1
  rw [show BitVec.ofInt 64 (-1) = BitVec.allOnes 64 from by decide, BitVec.xor_comm, BitVec.xor_allOnes, BitVec.toNat_not, BitVec.toNat_ofInt, wrap64]
  omega
structure FS where
  at_ : Nat
  bad : Bool
def fC (data : Str) (q : FS) : Blk := .cells 0 3 [.agg [.str data, .int .i64 q.at_, .bool q.bad]]
def rdG (k u : Nat) : Str → Option Nat × Nat
  | [] => (none, 0)
  | b :: r => if (k = 9 ∧ 1 < b.toNat) ∨ (b.toNat = 0 ∧ 0 < k) then (none, 1) else if b.toNat < 128 then (some (u + b.toNat * 128 ^ k), 1)
    else ((rdG (k + 1) (u + (b.toNat - 128) * 128 ^ k) r).1, (rdG (k + 1) (u + (b.toNat - 128) * 128 ^ k) r).2 + 1)
def FS.num (data : Str) (q : FS) : Int × FS := if q.bad then (0, q) else match rdG 0 0 (data.drop q.at_) with
  | (some u, n) => (unz u, ⟨q.at_ + n, false⟩)
  | (none, n) => (0, ⟨q.at_ + n, true⟩)
theorem rdG_le : ∀ (s : Str) (k u : Nat), (rdG k u s).2 ≤ s.length
  | [], _, _ => Nat.le_refl _
  | b :: r, k, u => by
    have := rdG_le r (k + 1) (u + (b.toNat - 128) * 128 ^ k)
    unfold rdG
    split
    · simp
    · split
      · simp
      · simp only [List.length_cons]; omega
theorem rdN_rdG : ∀ (s : Str) (k u : Nat), k ≤ 9 → rdN k u s = (rdG k u s).1.map fun v => (v, s.drop (rdG k u s).2)
  | [], k, u, h => rfl
  | b :: r, k, u, h => by
    have ih := fun h' => rdN_rdG r (k + 1) (u + (b.toNat - 128) * 128 ^ k) h'
    unfold rdN rdG
    rw [if_neg (by omega)]
    by_cases h1 : (k = 9 ∧ 1 < b.toNat) ∨ (b.toNat = 0 ∧ 0 < k)
    · rw [if_pos h1]
      by_cases h2 : 127 < b.toNat
      · rw [if_pos h2]
        have : k = 9 := by omega
        subst this
        cases r with
        | nil => rfl
        | cons x l => rw [rdN, if_pos (by omega)]; rfl
      · rw [if_neg h2, if_pos (by omega)]; rfl
    · rw [if_neg h1]
      by_cases h2 : 127 < b.toNat
      · rw [if_pos h2, if_neg (by omega), ih (by omega)]
        rfl
      · rw [if_neg h2, if_neg (by omega), if_pos (by omega)]; rfl
theorem FS.num_le {data : Str} {q : FS} (h : q.at_ ≤ data.length) : (q.num data).2.at_ ≤ data.length := by
  unfold FS.num
  split
  · exact h
  · have := rdG_le (data.drop q.at_) 0 0
    rw [List.length_drop] at this
    split <;> (rename_i e; rw [e] at this; simp only at this ⊢; omega)

theorem fnum_ok (G : Gl) (hG : GClosed G) (data : Str) (hdl : data.length < 4294967296) (q : FS) (ha : q.at_ ≤ data.length) (rb : Nat) (H : List Blk) (hr : H[rb]? = some (fC data q)) :
    ACall Tryd.prog G 59 [.ptr rb 0 0 0] H (fun r H' => H' = H.set rb (fC data (q.num data).2) ∧ r = .int .i64 (q.num data).1) := by
  have hrl := (List.getElem?_eq_some_iff.1 hr).1
  have hgs := get_set_self' hrl
  obtain ⟨at0, bad⟩ := q
  cases bad with
  | true =>
    simp only [fC, FS.num, if_true] at hr ⊢
    refine ACall.of_go TB [] tabOK _ Tryd.func59 rfl (by decide) Tryd.ntmps59 (by simp) rfl (by simp only [initEnv, Nat.reduceAdd]; rfl) fun C R' hR hC hcl hB => ?_; have X := noX; have hC' := congrArg List.length hC
    have X := And.intro X (And.intro hr hgs)
    (refine run ?_; repeat' (first | with_reducible exact trivial | ((with_reducible apply Fork.mk) <;> intro hb) | with_reducible apply Two.mk))
    refine go_loop (fun _ : Unit => [(0, .ptr rb 0 0 0), (4, .int .i64 0)]) (fun _ => H) (fun _ => 0) (fun _ => True) () trivial (Wk.sub (by simp [subEnv, look])) ?_
    rintro K _ _ hK
    (refine run ?_; repeat' (first | with_reducible exact trivial | ((with_reducible apply Fork.mk) <;> intro hb) | with_reducible apply Two.mk))
    exact Fin.out hR ⟨rfl, rfl⟩
  | false =>
    have hn : ∀ u n, rdG 0 0 (data.drop at0) = (some u, n) → H.set rb (.cells 0 3 [.agg [.str data, .int .i64 ((at0 + n : Nat) : Int), .bool false]]) = H.set rb (fC data (FS.num data ⟨at0, false⟩).2) ∧ unz u = (FS.num data ⟨at0, false⟩).1 := fun u n h => by
      simp only [FS.num, Bool.false_eq_true, if_false, h, fC]; exact ⟨trivial, trivial⟩
    have hno : ∀ n, rdG 0 0 (data.drop at0) = (none, n) → H.set rb (.cells 0 3 [.agg [.str data, .int .i64 ((at0 + n : Nat) : Int), .bool true]]) = H.set rb (fC data (FS.num data ⟨at0, false⟩).2) ∧ 0 = (FS.num data ⟨at0, false⟩).1 := fun n h => by
      simp only [FS.num, Bool.false_eq_true, if_false, h, fC]; exact ⟨trivial, trivial⟩
    simp only at ha
    simp only [fC] at hr
    generalize fC data (FS.num data ⟨at0, false⟩).2 = F at *
    generalize (FS.num data ⟨at0, false⟩).1 = V at *
    refine ACall.of_go TB [] tabOK _ Tryd.func59 rfl (by decide) Tryd.ntmps59 (by simp) rfl (by simp only [initEnv, Nat.reduceAdd]; rfl) fun C R' hR hC hcl hB => ?_; have X := noX; have hC' := congrArg List.length hC
    have X := And.intro X (And.intro hr hgs)
    (refine run ?_; repeat' (first | with_reducible exact trivial | ((with_reducible apply Fork.mk) <;> intro hb) | with_reducible apply Two.mk))
    refine go_loop (fun a : Nat × Nat => [(0, .ptr rb 0 0 0), (3, .int .u64 a.2), (4, .int .i64 a.1)]) (fun a => H.set rb (.cells 0 3 [.agg [.str data, .int .i64 ((at0 + a.1 : Nat) : Int), .bool false]])) (fun a => 10 - a.1) (fun a => a.1 ≤ 9 ∧ a.2 < 128 ^ a.1 ∧ at0 + a.1 ≤ data.length ∧ rdG 0 0 (data.drop at0) = ((rdG a.1 a.2 (data.drop (at0 + a.1))).1, (rdG a.1 a.2 (data.drop (at0 + a.1))).2 + a.1)) (0, 0) ⟨by simp, by simp, by simpa using ha, rfl⟩ (by
      dsimp only
      rw [Nat.add_zero, set_same hr]
      exact Wk.sub (by simp [subEnv, look])) ?_
    rintro K ⟨k, u⟩ ⟨hk, hu, hat, hrd⟩ hK
    simp only at hk hu hat hrd
    dsimp only
    generalize hQ : H.set rb (.cells 0 3 [.agg [.str data, .int .i64 ((at0 + k : Nat) : Int), .bool false]]) = Q at *
    have hq : Q[rb]? = some (.cells 0 3 [.agg [.str data, .int .i64 ((at0 + k : Nat) : Int), .bool false]]) := by rw [← hQ]; exact hgs _
    have hqs := fun x => get_set_self' (H := Q) (id := rb) (by rw [← hQ, List.length_set]; exact hrl) x
    have hss : ∀ x, Q.set rb x = H.set rb x := fun x => by rw [← hQ, List.set_set]
    generalize hat' : at0 + k = at_ at *
    have X := And.intro noX (And.intro hq hqs)
    rcases Nat.lt_or_ge at_ data.length with hlt | hge
    · have e1 : data[at_]? = some data[at_] := by simp [hlt]
      rw [List.drop_eq_getElem_cons hlt] at hrd
      generalize data[at_] = b at *
      have hbl := b.toNat_lt
      have a0 : IntKind.u64.wrap (b.toNat : Int) = (b.toNat : Int) := by rw [wrapU64]; omega
      have a1 : (b.toNat : Int).tmod 128 = ((b.toNat % 128 : Nat) : Int) := by rw [Int.tmod_eq_emod_of_nonneg (by omega)]; omega
      have a2 := shl7 (k := k) (b := b.toNat) (by omega)
      have hu64 : u < 18446744073709551616 := Nat.lt_of_lt_of_le hu (Nat.le_trans (Nat.pow_le_pow_right (by decide) hk) (by decide))
      have a3 := borU (x := u) (y := b.toNat % 128 * 2 ^ (7 * k) % 18446744073709551616) hu64 (Nat.mod_lt _ (by decide))
      have hvl := nextU_lt (k := k) (b := b.toNat) hu64
      have hve := nextU_eq (k := k) (b := b.toNat) hu
      rw [show (u ||| (b.toNat % 128 * 2 ^ (7 * k) % 18446744073709551616)) = nextU k u b.toNat from rfl] at a3
      generalize nextU k u b.toNat = v at *
      have a4 : (v : Int).tmod 2 = ((v % 2 : Nat) : Int) := by rw [Int.tmod_eq_emod_of_nonneg (by omega)]; omega
      have a5 : IntKind.i64.wrap ((v : Int).fdiv (2 ^ min 1 64)) = ((v / 2 : Nat) : Int) := by
        rw [wrap64, show min 1 64 = 1 from rfl, Int.fdiv_eq_ediv_of_nonneg _ (by decide)]; omega
      have X := And.intro noX (And.intro hq (And.intro hqs (And.intro e1 (And.intro a0 (And.intro a1 (And.intro a2 (And.intro a3 (And.intro a4 a5))))))))
      have hend : ∀ z, unz v = z → b.toNat < 128 → (decide ((k : Int) = 9) && decide (1 < (b.toNat : Int)) || decide ((b.toNat : Int) = 0) && decide (0 < (k : Int))) = false → Q.set rb (.cells 0 3 [.agg [.str data, .int .i64 ((at_ : Int) + 1), .bool false]]) = H.set rb F ∧ z = V := fun z hz h2 h1 => by
        simp only [Bool.or_eq_false_iff, Bool.and_eq_false_iff, decide_eq_false_iff_not] at h1
        obtain ⟨w1, w2⟩ := hve (by omega) (by omega)
        rw [rdG, if_neg (by omega), if_pos h2] at hrd
        obtain ⟨g1, g2⟩ := hn _ _ hrd
        rw [show u + b.toNat * 128 ^ k = v from by rw [w1, Nat.mod_eq_of_lt h2], hz] at g2
        refine ⟨?_, g2⟩
        rw [hss, ← g1, show ((at0 + (1 + k) : Nat) : Int) = (at_ : Int) + 1 from by omega]
      (refine run ?_; repeat' (first | with_reducible exact trivial | ((with_reducible apply Fork.mk) <;> intro hb) | with_reducible apply Two.mk))
      · rw [rdG, if_pos (by
          simp only [Bool.or_eq_true, Bool.and_eq_true, decide_eq_true_eq] at hb
          omega)] at hrd
        obtain ⟨g1, g2⟩ := hno _ hrd
        refine Fin.out hR ⟨?_, by rw [← g2]; rfl⟩
        rw [hss, ← g1, show ((at0 + (1 + k) : Nat) : Int) = (at_ : Int) + 1 from by omega]
      · refine go_complI rfl rfl ?_
        (refine run ?_; repeat' (first | with_reducible exact trivial | ((with_reducible apply Fork.mk) <;> intro hb) | with_reducible apply Two.mk))
        rename_i hb1 hb2
        obtain ⟨g1, g2⟩ := hend (bxorI .i64 (-1) ((v / 2 : Nat) : Int)) (by
          rw [complI (by omega) (by omega)]
          unfold unz
          rw [if_neg (by omega)]) (by omega) hb1
        exact Fin.out hR ⟨g1, by rw [← g2]; rfl⟩
      · rename_i hb1 hb2
        obtain ⟨g1, g2⟩ := hend ((v / 2 : Nat) : Int) (by
          unfold unz
          rw [if_pos (by omega)]) (by omega) hb1
        exact Fin.out hR ⟨g1, by rw [← g2]; rfl⟩
      · rename_i hb1
        have h1 := hb1
        simp only [Bool.or_eq_false_iff, Bool.and_eq_false_iff, decide_eq_false_iff_not] at h1
        obtain ⟨w1, w2⟩ := hve (by omega) (by omega)
        have w3 : b.toNat % 128 = b.toNat - 128 := by omega
        rw [rdG, if_neg (by omega), if_neg (by omega), ← w3, ← w1] at hrd
        simp only at hrd
        refine hK _ _ (k + 1, v) (show 10 - (k + 1) < 10 - k by omega) ⟨show k + 1 ≤ 9 by omega, by rw [w1]; exact w2, show at0 + (k + 1) ≤ data.length by omega, ?_⟩ ?_
        · simp only
          rw [hrd, show at0 + (k + 1) = at_ + 1 from by omega]
          simp only [Nat.add_assoc, Nat.add_comm 1 k]
        · simp only
          rw [hss, show ((at0 + (k + 1) : Nat) : Int) = (at_ : Int) + 1 from by omega]
          exact Wk.sub (by simp [subEnv, look])
    · (refine run ?_; repeat' (first | with_reducible exact trivial | ((with_reducible apply Fork.mk) <;> intro hb) | with_reducible apply Two.mk))
      rw [List.drop_eq_nil_of_le hge, rdG] at hrd
      obtain ⟨g1, g2⟩ := hno _ hrd
      refine Fin.out hR ⟨?_, by rw [← g2]; rfl⟩
      rw [hss, ← g1, show ((at0 + (0 + k) : Nat) : Int) = (at_ : Int) from by omega]
end Go.Proofs.YtihhngjoecgkpaaDoor
end

section
namespace Go.Proofs.YtihhngjoecgkpaaDoor
open Go
set_option linter.unusedSimpArgs false
set_option linter.unusedVariables false
set_option maxRecDepth 10000
set_option maxHeartbeats 4000000
set_option pp.deepTerms true
set_option pp.maxSteps 100000

def FS.many (data : Str) (q : FS) : Int × FS := if (q.num data).1 < 0 ∨ (data.length : Int) - (q.num data).2.at_ < (q.num data).1 then (0, ⟨(q.num data).2.at_, true⟩) else q.num data
def FS.text (data : Str) (q : FS) : Str × FS := ((data.drop (q.many data).2.at_).take (q.many data).1.toNat, ⟨(q.many data).2.at_ + (q.many data).1.toNat, (q.many data).2.bad⟩)
def FS.truth (data : Str) (q : FS) : Bool × FS := (decide ((q.num data).1 = 1), ⟨(q.num data).2.at_, (q.num data).2.bad || (decide ((q.num data).1 ≠ 0) && decide ((q.num data).1 ≠ 1))⟩)
theorem FS.many_le {data : Str} {q : FS} (h : q.at_ ≤ data.length) : (q.many data).2.at_ + (q.many data).1.toNat ≤ data.length ∧ 0 ≤ (q.many data).1 := by
  have := FS.num_le h
  unfold FS.many
  split
  · exact ⟨by simpa using this, Int.le_refl _⟩
  · omega
theorem FS.many_le' {data : Str} {q : FS} (h : q.at_ ≤ data.length) : (q.many data).2.at_ ≤ data.length := by have := FS.many_le h; omega
theorem FS.text_le {data : Str} {q : FS} (h : q.at_ ≤ data.length) : (q.text data).2.at_ ≤ data.length := (FS.many_le h).1
theorem FS.truth_le {data : Str} {q : FS} (h : q.at_ ≤ data.length) : (q.truth data).2.at_ ≤ data.length := FS.num_le h

theorem fmany_ok (G : Gl) (hG : GClosed G) (data : Str) (hdl : data.length < 4294967296) (q : FS) (ha : q.at_ ≤ data.length) (rb : Nat) (H : List Blk) (hr : H[rb]? = some (fC data q)) :
    ACall Tryd.prog G 57 [.ptr rb 0 0 0] H (fun r H' => H' = H.set rb (fC data (q.many data).2) ∧ r = .int .i64 (q.many data).1) := by
  have hrl := (List.getElem?_eq_some_iff.1 hr).1
  have c1 := fnum_ok G hG data hdl q ha rb H hr
  have hle := FS.num_le ha
  have hgs := get_set_self' hrl
  have e1 : q.many data = if (q.num data).1 < 0 ∨ (data.length : Int) - (q.num data).2.at_ < (q.num data).1 then (0, ⟨(q.num data).2.at_, true⟩) else q.num data := rfl
  generalize q.many data = R at *
  generalize q.num data = p at *
  obtain ⟨n, ⟨at1, bad⟩⟩ := p
  simp only [fC] at c1 e1 hle ⊢
  refine ACall.of_go TB [] tabOK _ Tryd.func57 rfl (by decide) Tryd.ntmps57 (by simp) rfl (by simp only [initEnv, Nat.reduceAdd]; rfl) fun C R' hR hC hcl hB => ?_; have X := noX; have hC' := congrArg List.length hC
  have X := And.intro X hgs
  (refine run ?_; repeat' (first | with_reducible exact trivial | ((with_reducible apply Fork.mk) <;> intro hb) | with_reducible apply Two.mk))
  · rw [if_pos (by simp only [Bool.or_eq_true, decide_eq_true_eq] at hb; exact hb)] at e1
    subst e1
    exact Fin.out hR ⟨rfl, rfl⟩
  · rw [if_neg (by simp only [Bool.or_eq_false_iff, decide_eq_false_iff_not] at hb; omega)] at e1
    subst e1
    exact Fin.out hR ⟨rfl, rfl⟩
theorem ftexts_ok (G : Gl) (hG : GClosed G) (data : Str) (hdl : data.length < 4294967296) (q : FS) (ha : q.at_ ≤ data.length) (rb : Nat) (H : List Blk) (hr : H[rb]? = some (fC data q)) :
    ACall Tryd.prog G 58 [.ptr rb 0 0 0] H (fun r H' => H' = H.set rb (fC data (q.text data).2) ∧ r = .str (q.text data).1) := by
  have hrl := (List.getElem?_eq_some_iff.1 hr).1
  have c1 := fmany_ok G hG data hdl q ha rb H hr
  obtain ⟨hle, hn0⟩ := FS.many_le ha
  have hgs := get_set_self' hrl
  have e1 : q.text data = ((data.drop (q.many data).2.at_).take (q.many data).1.toNat, ⟨(q.many data).2.at_ + (q.many data).1.toNat, (q.many data).2.bad⟩) := rfl
  generalize q.text data = R at *
  generalize q.many data = p at *
  obtain ⟨n, ⟨at1, bad⟩⟩ := p
  subst e1
  simp only [fC] at c1 hle hn0 ⊢
  obtain ⟨m, rfl⟩ := Int.eq_ofNat_of_zero_le hn0
  simp only [Int.toNat_natCast] at hle ⊢
  have a1 : ((at1 : Int) + m).toNat = at1 + m := by omega
  have a2 : at1 + m - at1 = m := by omega
  refine ACall.of_go TB [] tabOK _ Tryd.func58 rfl (by decide) Tryd.ntmps58 (by simp) rfl (by simp only [initEnv, Nat.reduceAdd]; rfl) fun C R' hR hC hcl hB => ?_; have X := noX; have hC' := congrArg List.length hC
  have X := And.intro X (And.intro hgs (And.intro a1 a2))
  (refine run ?_; repeat' (first | with_reducible exact trivial | ((with_reducible apply Fork.mk) <;> intro hb) | with_reducible apply Two.mk))
  exact Fin.out hR ⟨by rw [show ((at1 + m : Nat) : Int) = (at1 : Int) + m from by omega], rfl⟩
theorem ftruths_ok (G : Gl) (hG : GClosed G) (data : Str) (hdl : data.length < 4294967296) (q : FS) (ha : q.at_ ≤ data.length) (rb : Nat) (H : List Blk) (hr : H[rb]? = some (fC data q)) :
    ACall Tryd.prog G 60 [.ptr rb 0 0 0] H (fun r H' => H' = H.set rb (fC data (q.truth data).2) ∧ r = .bool (q.truth data).1) := by
  have hrl := (List.getElem?_eq_some_iff.1 hr).1
  have c1 := fnum_ok G hG data hdl q ha rb H hr
  have hgs := get_set_self' hrl
  unfold FS.truth
  generalize q.num data = p at *
  obtain ⟨n, ⟨at1, bad⟩⟩ := p
  simp only [fC] at c1 ⊢
  refine ACall.of_go TB [] tabOK _ Tryd.func60 rfl (by decide) Tryd.ntmps60 (by simp) rfl (by simp only [initEnv, Nat.reduceAdd]; rfl) fun C R' hR hC hcl hB => ?_; have X := noX; have hC' := congrArg List.length hC
  have X := And.intro X hgs
  (refine run ?_; repeat' (first | with_reducible exact trivial | ((with_reducible apply Fork.mk) <;> intro hb) | with_reducible apply Two.mk))
  exact Fin.out hR ⟨rfl, rfl⟩
end Go.Proofs.YtihhngjoecgkpaaDoor
end

section
namespace Go.Proofs.YtihhngjoecgkpaaDoor
open Go
set_option linter.unusedSimpArgs false
set_option linter.unusedVariables false
set_option maxRecDepth 10000
set_option maxHeartbeats 4000000

/-! ### the two readers read alike, or are both bad -/
def eachF {α : Type} (f : FS → α × FS) : Nat → FS → List α × FS
  | 0, q => ([], q)
  | n + 1, q => if q.bad then ([], q) else ((f q).1 :: (eachF f n (f q).2).1, (eachF f n (f q).2).2)
def FS.each {α : Type} (data : Str) (f : FS → α × FS) (q : FS) : List α × FS := eachF f (q.many data).1.toNat (q.many data).2
def FS.ref (d : Str) (q : FS) : (Int × Int) × FS := (((q.num d).1, ((q.num d).2.num d).1), ((q.num d).2.num d).2)
def FS.con (d : Str) (q : FS) : Con × FS :=
  (⟨(q.text d).1, ((q.text d).2.num d).1, (((q.text d).2.num d).2.num d).1, ((((q.text d).2.num d).2.num d).2.num d).1⟩, ((((q.text d).2.num d).2.num d).2.num d).2)
def FS.five (d : Str) (q : FS) : FS := (((((q.num d).2.num d).2.num d).2.num d).2.num d).2
def FS.ins (d : Str) (q : FS) : Ins × FS :=
  (⟨(q.num d).1, ((q.num d).2.num d).1, (((q.num d).2.num d).2.num d).1, ((((q.num d).2.num d).2.num d).2.num d).1, (((((q.num d).2.num d).2.num d).2.num d).2.num d).1, ((q.five d).each d (FS.num d)).1⟩, ((q.five d).each d (FS.num d)).2)
def FS.h3 (d : Str) (q : FS) : FS := (((q.text d).2.truth d).2.truth d).2
def FS.head (d : Str) (q : FS) : FS := ((((q.h3 d).num d).2.num d).2.num d).2
def FS.fn (d : Str) (q : FS) : Fun × FS :=
  (⟨(q.text d).1, ((q.text d).2.truth d).1, (((q.text d).2.truth d).2.truth d).1, ((q.h3 d).num d).1, (((q.h3 d).num d).2.num d).1, ((((q.h3 d).num d).2.num d).2.num d).1, ((q.head d).each d (FS.ins d)).1⟩, ((q.head d).each d (FS.ins d)).2)
def FS.glb (d : Str) (q : FS) : Glb × FS :=
  (⟨(q.num d).1, ((q.num d).2.num d).1, (((q.num d).2.num d).2.each d (FS.ref d)).1⟩, (((q.num d).2.num d).2.each d (FS.ref d)).2)
def FS.img (d : Str) (q : FS) : Img × FS :=
  (⟨(q.each d (FS.con d)).1, ((q.each d (FS.con d)).2.each d (FS.fn d)).1, (((q.each d (FS.con d)).2.each d (FS.fn d)).2.each d (FS.glb d)).1, ((((q.each d (FS.con d)).2.each d (FS.fn d)).2.each d (FS.glb d)).2.num d).1⟩,
    ((((q.each d (FS.con d)).2.each d (FS.fn d)).2.each d (FS.glb d)).2.num d).2)
structure Like (d : Str) (q : RS) (p : FS) : Prop where
  b : q.bad = false
  c : p.bad = false
  le : p.at_ ≤ d.length
  s : q.s = d.drop p.at_
def Both (q : RS) (p : FS) : Prop := q.bad = true ∧ p.bad = true
structure Rel (d : Str) {α : Type} (f : RS → α × RS) (g : FS → α × FS) : Prop where
  bad : ∀ q p, Both q p → Both (f q).2 (g p).2
  like : ∀ q p, Like d q p → Both (f q).2 (g p).2 ∨ ((f q).1 = (g p).1 ∧ Like d (f q).2 (g p).2)
theorem rNum (d : Str) : Rel d RS.num (FS.num d) := by
  refine ⟨fun q p ⟨h1, h2⟩ => ?_, fun q p hl => ?_⟩
  · refine ⟨?_, ?_⟩
    · unfold RS.num; split
      · exact h1
      · rfl
    · unfold FS.num; rw [if_pos h2]; exact h2
  · have hle := rdG_le (d.drop p.at_) 0 0
    unfold RS.num FS.num
    rw [hl.c, if_neg (by decide), hl.s, rdN_rdG _ _ _ (by omega)]
    cases hr : rdG 0 0 (d.drop p.at_) with
    | mk v n =>
      rw [hr, List.length_drop] at hle
      have := hl.le
      cases v with
      | none => exact .inl ⟨rfl, rfl⟩
      | some u => exact .inr ⟨rfl, hl.b, rfl, by simp only at hle ⊢; omega, by simp⟩
theorem fmany_bad {d : Str} {p : FS} (h : p.bad = true) : (p.many d).2.bad = true := by
  have : (p.num d).2.bad = true := by unfold FS.num; rw [if_pos h]; exact h
  unfold FS.many
  split
  · rfl
  · exact this
theorem rnum_bad {q : RS} (h : q.bad = true) : q.num.2.bad = true := by
  unfold RS.num; split
  · exact h
  · rfl
/-- how many are to come: what both make of a number that is read -/
theorem rMany {d : Str} {q : RS} {p : FS} (hl : Like d q p) : (Both q.num.2 (p.num d).2) ∨ (q.num.1 = (p.num d).1 ∧ Like d q.num.2 (p.num d).2 ∧ ((q.num.1 < 0 ∨ (q.num.2.s.length : Int) < q.num.1) ↔ ((p.num d).1 < 0 ∨ (d.length : Int) - (p.num d).2.at_ < (p.num d).1))) := by
  rcases (rNum d).like q p hl with h | ⟨h1, h2⟩
  · exact .inl h
  · refine .inr ⟨h1, h2, ?_⟩
    have := h2.le
    rw [h1, h2.s, List.length_drop]
    omega
theorem rText (d : Str) : Rel d RS.text (FS.text d) := by
  refine ⟨fun q p ⟨h1, h2⟩ => ⟨?_, fmany_bad h2⟩, fun q p hl => ?_⟩
  · unfold RS.text; split
    · rfl
    · exact rnum_bad h1
  · rcases rMany hl with ⟨h1, h2⟩ | ⟨h1, h2, h3⟩
    · refine .inl ⟨?_, ?_⟩
      · unfold RS.text; split
        · rfl
        · exact h1
      · show (p.many d).2.bad = true
        unfold FS.many; split
        · rfl
        · exact h2
    · by_cases hc : (p.num d).1 < 0 ∨ (d.length : Int) - (p.num d).2.at_ < (p.num d).1
      · refine .inl ⟨?_, ?_⟩
        · unfold RS.text; rw [if_pos (h3.2 hc)]
        · show (p.many d).2.bad = true
          unfold FS.many; rw [if_pos hc]
      · refine .inr ?_
        have hm : p.many d = p.num d := by unfold FS.many; rw [if_neg hc]
        unfold RS.text FS.text
        rw [if_neg (fun h => hc (h3.1 h)), hm, h1, h2.s]
        refine ⟨rfl, h2.b, h2.c, ?_, ?_⟩
        · simp only; omega
        · simp only [List.drop_drop]
theorem rTruth (d : Str) : Rel d RS.truth (FS.truth d) := by
  refine ⟨fun q p h => ?_, fun q p hl => ?_⟩
  · obtain ⟨h1, h2⟩ := (rNum d).bad q p h
    exact ⟨by simp only [RS.truth, h1, Bool.true_or], by simp only [FS.truth, h2, Bool.true_or]⟩
  · rcases (rNum d).like q p hl with ⟨h1, h2⟩ | ⟨h1, h2⟩
    · exact .inl ⟨by simp only [RS.truth, h1, Bool.true_or], by simp only [FS.truth, h2, Bool.true_or]⟩
    · unfold RS.truth FS.truth
      rw [h1, h2.b, h2.c]
      cases hb : (decide ((p.num d).1 ≠ 0) && decide ((p.num d).1 ≠ 1)) with
      | true => exact .inl ⟨rfl, rfl⟩
      | false => exact .inr ⟨rfl, rfl, rfl, h2.le, h2.s⟩
theorem eachN_bad {α : Type} {f : RS → α × RS} {q : RS} (h : q.bad = true) : ∀ n, (eachN f n q).2.bad = true
  | 0 => h
  | n + 1 => by unfold eachN; rw [if_pos h]; exact h
theorem eachF_bad {α : Type} {f : FS → α × FS} {q : FS} (h : q.bad = true) : ∀ n, (eachF f n q).2.bad = true
  | 0 => h
  | n + 1 => by unfold eachF; rw [if_pos h]; exact h
theorem rEachN {d : Str} {α : Type} {f : RS → α × RS} {g : FS → α × FS} (h : Rel d f g) : ∀ (n : Nat) (q : RS) (p : FS), Like d q p → Both (eachN f n q).2 (eachF g n p).2 ∨ ((eachN f n q).1 = (eachF g n p).1 ∧ Like d (eachN f n q).2 (eachF g n p).2)
  | 0, q, p, hl => .inr ⟨rfl, hl⟩
  | n + 1, q, p, hl => by
    unfold eachN eachF
    rw [hl.b, hl.c, if_neg (by decide), if_neg (by decide)]
    rcases h.like q p hl with ⟨h1, h2⟩ | ⟨h1, h2⟩
    · exact .inl ⟨eachN_bad h1 n, eachF_bad h2 n⟩
    · rcases rEachN h n _ _ h2 with h3 | ⟨h3, h4⟩
      · exact .inl h3
      · exact .inr ⟨by simp only [h1, h3], h4⟩
theorem rEach {d : Str} {α : Type} {f : RS → α × RS} {g : FS → α × FS} (h : Rel d f g) : Rel d (RS.each f) (FS.each d g) := by
  refine ⟨fun q p ⟨h1, h2⟩ => ⟨?_, eachF_bad (fmany_bad h2) _⟩, fun q p hl => ?_⟩
  · unfold RS.each; split
    · rfl
    · exact eachN_bad (rnum_bad h1) _
  · rcases rMany hl with ⟨h1, h2⟩ | ⟨h1, h2, h3⟩
    · refine .inl ⟨?_, eachF_bad ?_ _⟩
      · unfold RS.each; split
        · rfl
        · exact eachN_bad h1 _
      · unfold FS.many; split
        · rfl
        · exact h2
    · by_cases hc : (p.num d).1 < 0 ∨ (d.length : Int) - (p.num d).2.at_ < (p.num d).1
      · refine .inl ⟨?_, eachF_bad ?_ _⟩
        · unfold RS.each; rw [if_pos (h3.2 hc)]
        · unfold FS.many; rw [if_pos hc]
      · have hm : p.many d = p.num d := by unfold FS.many; rw [if_neg hc]
        unfold RS.each FS.each
        rw [if_neg (fun h => hc (h3.1 h)), hm, h1]
        exact rEachN h _ _ _ h2
theorem rRef (d : Str) : Rel d RS.ref (FS.ref d) := by
  have N := rNum d
  refine ⟨fun q p h => N.bad _ _ (N.bad _ _ h), fun q p h => ?_⟩
  rcases N.like _ _ h with h1 | ⟨e1, h1⟩
  · exact .inl (N.bad _ _ h1)
  rcases N.like _ _ h1 with h2 | ⟨e2, h2⟩
  · exact .inl h2
  exact .inr ⟨by unfold RS.ref FS.ref; rw [e1, e2], h2⟩
theorem rCon (d : Str) : Rel d RS.con (FS.con d) := by
  have N := rNum d
  refine ⟨fun q p h => N.bad _ _ (N.bad _ _ (N.bad _ _ ((rText d).bad _ _ h))), fun q p h => ?_⟩
  rcases (rText d).like _ _ h with h1 | ⟨e1, h1⟩
  · exact .inl (N.bad _ _ (N.bad _ _ (N.bad _ _ h1)))
  rcases N.like _ _ h1 with h2 | ⟨e2, h2⟩
  · exact .inl (N.bad _ _ (N.bad _ _ h2))
  rcases N.like _ _ h2 with h3 | ⟨e3, h3⟩
  · exact .inl (N.bad _ _ h3)
  rcases N.like _ _ h3 with h4 | ⟨e4, h4⟩
  · exact .inl h4
  exact .inr ⟨by unfold RS.con FS.con; rw [e1, e2, e3, e4], h4⟩
theorem rIns (d : Str) : Rel d RS.ins (FS.ins d) := by
  have N := rNum d
  have E := rEach N
  refine ⟨fun q p h => E.bad _ _ (N.bad _ _ (N.bad _ _ (N.bad _ _ (N.bad _ _ (N.bad _ _ h))))), fun q p h => ?_⟩
  rcases N.like _ _ h with h1 | ⟨e1, h1⟩
  · exact .inl (E.bad _ _ (N.bad _ _ (N.bad _ _ (N.bad _ _ (N.bad _ _ h1)))))
  rcases N.like _ _ h1 with h2 | ⟨e2, h2⟩
  · exact .inl (E.bad _ _ (N.bad _ _ (N.bad _ _ (N.bad _ _ h2))))
  rcases N.like _ _ h2 with h3 | ⟨e3, h3⟩
  · exact .inl (E.bad _ _ (N.bad _ _ (N.bad _ _ h3)))
  rcases N.like _ _ h3 with h4 | ⟨e4, h4⟩
  · exact .inl (E.bad _ _ (N.bad _ _ h4))
  rcases N.like _ _ h4 with h5 | ⟨e5, h5⟩
  · exact .inl (E.bad _ _ h5)
  rcases E.like _ _ h5 with h6 | ⟨e6, h6⟩
  · exact .inl h6
  exact .inr ⟨by unfold RS.ins FS.ins RS.five FS.five; rw [e1, e2, e3, e4, e5, e6], h6⟩
theorem rFn (d : Str) : Rel d RS.fn (FS.fn d) := by
  have N := rNum d
  have U := rTruth d
  have E := rEach (rIns d)
  refine ⟨fun q p h => E.bad _ _ (N.bad _ _ (N.bad _ _ (N.bad _ _ (U.bad _ _ (U.bad _ _ ((rText d).bad _ _ h)))))), fun q p h => ?_⟩
  rcases (rText d).like _ _ h with h1 | ⟨e1, h1⟩
  · exact .inl (E.bad _ _ (N.bad _ _ (N.bad _ _ (N.bad _ _ (U.bad _ _ (U.bad _ _ h1))))))
  rcases U.like _ _ h1 with h2 | ⟨e2, h2⟩
  · exact .inl (E.bad _ _ (N.bad _ _ (N.bad _ _ (N.bad _ _ (U.bad _ _ h2)))))
  rcases U.like _ _ h2 with h3 | ⟨e3, h3⟩
  · exact .inl (E.bad _ _ (N.bad _ _ (N.bad _ _ (N.bad _ _ h3))))
  rcases N.like _ _ h3 with h4 | ⟨e4, h4⟩
  · exact .inl (E.bad _ _ (N.bad _ _ (N.bad _ _ h4)))
  rcases N.like _ _ h4 with h5 | ⟨e5, h5⟩
  · exact .inl (E.bad _ _ (N.bad _ _ h5))
  rcases N.like _ _ h5 with h6 | ⟨e6, h6⟩
  · exact .inl (E.bad _ _ h6)
  rcases E.like _ _ h6 with h7 | ⟨e7, h7⟩
  · exact .inl h7
  exact .inr ⟨by unfold RS.fn FS.fn RS.head FS.head FS.h3; rw [e1, e2, e3, e4, e5, e6, e7], h7⟩
theorem rGlb (d : Str) : Rel d RS.glb (FS.glb d) := by
  have N := rNum d
  have E := rEach (rRef d)
  refine ⟨fun q p h => E.bad _ _ (N.bad _ _ (N.bad _ _ h)), fun q p h => ?_⟩
  rcases N.like _ _ h with h1 | ⟨e1, h1⟩
  · exact .inl (E.bad _ _ (N.bad _ _ h1))
  rcases N.like _ _ h1 with h2 | ⟨e2, h2⟩
  · exact .inl (E.bad _ _ h2)
  rcases E.like _ _ h2 with h3 | ⟨e3, h3⟩
  · exact .inl h3
  exact .inr ⟨by unfold RS.glb FS.glb; rw [e1, e2, e3], h3⟩
theorem rImg (d : Str) : Rel d RS.img (FS.img d) := by
  have N := rNum d
  have E1 := rEach (rCon d)
  have E2 := rEach (rFn d)
  have E3 := rEach (rGlb d)
  refine ⟨fun q p h => N.bad _ _ (E3.bad _ _ (E2.bad _ _ (E1.bad _ _ h))), fun q p h => ?_⟩
  rcases E1.like _ _ h with h1 | ⟨e1, h1⟩
  · exact .inl (N.bad _ _ (E3.bad _ _ (E2.bad _ _ h1)))
  rcases E2.like _ _ h1 with h2 | ⟨e2, h2⟩
  · exact .inl (N.bad _ _ (E3.bad _ _ h2))
  rcases E3.like _ _ h2 with h3 | ⟨e3, h3⟩
  · exact .inl (N.bad _ _ h3)
  rcases N.like _ _ h3 with h4 | ⟨e4, h4⟩
  · exact .inl h4
  exact .inr ⟨by unfold RS.img FS.img; rw [e1, e2, e3, e4], h4⟩
end Go.Proofs.YtihhngjoecgkpaaDoor
end

section
namespace Go.Proofs.YtihhngjoecgkpaaDoor
open Go
set_option linter.unusedSimpArgs false
set_option linter.unusedVariables false
set_option maxRecDepth 10000
set_option maxHeartbeats 4000000
set_option pp.deepTerms true
set_option pp.maxSteps 100000

theorem eachF_le {α : Type} {d : Str} {f : FS → α × FS} (hf : ∀ q, q.at_ ≤ d.length → (f q).2.at_ ≤ d.length) : ∀ (n : Nat) (q : FS), q.at_ ≤ d.length → (eachF f n q).2.at_ ≤ d.length
  | 0, q, h => h
  | n + 1, q, h => by
    unfold eachF
    split
    · exact h
    · exact eachF_le hf n _ (hf q h)
theorem FS.each_le {α : Type} {d : Str} {f : FS → α × FS} (hf : ∀ q, q.at_ ≤ d.length → (f q).2.at_ ≤ d.length) (q : FS) (h : q.at_ ≤ d.length) : (q.each d f).2.at_ ≤ d.length := eachF_le hf _ _ (FS.many_le' h)
theorem eachF_size {α : Type} {f : FS → α × FS} : ∀ (n : Nat) (q : FS), (eachF f n q).1.length ≤ n
  | 0, q => Nat.le_refl _
  | n + 1, q => by
    unfold eachF
    split
    · simp
    · have := eachF_size (f := f) n (f q).2; simp only [List.length_cons]; omega
theorem FS.each_size {α : Type} {d : Str} {f : FS → α × FS} (q : FS) (h : q.at_ ≤ d.length) : (q.each d f).1.length ≤ d.length := by
  have h1 := eachF_size (f := f) (q.many d).1.toNat (q.many d).2
  have h2 := FS.many_le h
  show (eachF f (q.many d).1.toNat (q.many d).2).1.length ≤ _
  omega
/-- one more is read -/
theorem eachF_step {α : Type} {f : FS → α × FS} : ∀ (n : Nat) (q : FS) (k : Nat), k < n → (eachF f k q).2.bad = false → (eachF f (k + 1) q).1 = (eachF f k q).1 ++ [(f (eachF f k q).2).1] ∧ (eachF f (k + 1) q).2 = (f (eachF f k q).2).2
  | n, q, 0, _, h => by
    have h : q.bad = false := h
    unfold eachF
    rw [h, if_neg (by decide)]
    exact ⟨rfl, rfl⟩
  | n + 1, q, k + 1, hk, h => by
    unfold eachF at h ⊢
    by_cases hb : q.bad = true
    · rw [if_pos hb] at h; rw [hb] at h; cases h
    · rw [if_neg hb] at h ⊢
      rw [if_neg hb]
      obtain ⟨h1, h2⟩ := eachF_step n (f q).2 k (by omega) h
      exact ⟨by simp only [h1, List.cons_append], h2⟩
/-- none more is read -/
theorem eachF_stop {α : Type} {f : FS → α × FS} : ∀ (n : Nat) (q : FS) (k : Nat), k ≤ n → (eachF f k q).2.bad = true → eachF f n q = eachF f k q
  | 0, q, 0, _, _ => rfl
  | n + 1, q, 0, _, h => by
    have h : q.bad = true := h
    unfold eachF
    rw [if_pos h]
  | n + 1, q, k + 1, hk, h => by
    unfold eachF at h ⊢
    by_cases hb : q.bad = true
    · rw [if_pos hb, if_pos hb]
    · rw [if_neg hb] at h ⊢
      rw [if_neg hb, eachF_stop n (f q).2 k (by omega) h]
theorem ins_le (d : Str) (q : FS) (h : q.at_ ≤ d.length) : (FS.ins d q).2.at_ ≤ d.length := FS.each_le (fun _ h => FS.num_le h) _ (FS.num_le (FS.num_le (FS.num_le (FS.num_le (FS.num_le h)))))
theorem fn_le (d : Str) (q : FS) (h : q.at_ ≤ d.length) : (FS.fn d q).2.at_ ≤ d.length := FS.each_le (ins_le d) _ (FS.num_le (FS.num_le (FS.num_le (FS.truth_le (FS.truth_le (FS.text_le h))))))
theorem glb_le (d : Str) (q : FS) (h : q.at_ ≤ d.length) : (FS.glb d q).2.at_ ≤ d.length := FS.each_le (f := FS.ref d) (fun _ h => FS.num_le (FS.num_le h)) _ (FS.num_le (FS.num_le h))
end Go.Proofs.YtihhngjoecgkpaaDoor
end

section
namespace Go.Proofs.YtihhngjoecgkpaaDoor
open Go
set_option linter.unusedSimpArgs false
set_option linter.unusedVariables false
set_option maxRecDepth 10000
set_option maxHeartbeats 4000000

/-- what the reference's Decode gives -/
def refD (data : Str) : Img × Int :=
  if data.length < 4 ∨ data.take 4 ≠ magic4 then (img0, 171)
  else if (FS.img data ⟨4, false⟩).2.bad = true ∨ (FS.img data ⟨4, false⟩).2.at_ ≠ data.length ∨ chkS (FS.img data ⟨4, false⟩).1 65536 ≠ 0 then (img0, 171) else ((FS.img data ⟨4, false⟩).1, 0)
theorem refD_eq (data : Str) : refD data = decS data := by
  unfold refD decS
  by_cases hm : data.length < 4 ∨ data.take 4 ≠ magic4
  · rw [if_pos hm, if_pos hm]
  · rw [if_neg hm, if_neg hm]
    have hl : Like data ⟨data.drop 4, false⟩ ⟨4, false⟩ := ⟨rfl, rfl, by simp only; omega, rfl⟩
    rcases (rImg data).like _ _ hl with ⟨h1, h2⟩ | ⟨h1, h2⟩
    · rw [if_pos (.inl h2), if_pos (.inl h1)]
    · have he : (RS.img ⟨data.drop 4, false⟩).2.s ≠ [] ↔ (FS.img data ⟨4, false⟩).2.at_ ≠ data.length := by
        have := h2.le
        rw [h2.s]
        rw [ne_eq, List.drop_eq_nil_iff]
        omega
      rw [h1, h2.b, h2.c]
      simp only [he]
end Go.Proofs.YtihhngjoecgkpaaDoor
end

section
namespace Go.Proofs.YtihhngjoecgkpaaDoor
open Go
set_option linter.unusedSimpArgs false
set_option linter.unusedVariables false
set_option maxRecDepth 10000
set_option maxHeartbeats 4000000
set_option pp.deepTerms true
set_option pp.maxSteps 100000

theorem fnumL (G : Gl) (hG : GClosed G) (data : Str) (hdl : data.length < 4294967296) (q : FS) (ha : q.at_ ≤ data.length) (H : List Blk) (A : Blk) (L : List Blk) :
    ACall Tryd.prog G 59 [.ptr (H.length + 1) 0 0 0] (H ++ A :: .cells 0 3 [.agg [.str data, .int .i64 q.at_, .bool q.bad]] :: L) (fun r H' => H' = H ++ A :: .cells 0 3 [.agg [.str data, .int .i64 (q.num data).2.at_, .bool (q.num data).2.bad]] :: L ∧ r = .int .i64 (q.num data).1) :=
  (fnum_ok G hG data hdl q ha (H.length + 1) _ (by simp [fC])).mono fun r H' h => ⟨h.1.trans (by simp [fC]), h.2⟩
theorem fmanyL (G : Gl) (hG : GClosed G) (data : Str) (hdl : data.length < 4294967296) (q : FS) (ha : q.at_ ≤ data.length) (H : List Blk) (A : Blk) (L : List Blk) :
    ACall Tryd.prog G 57 [.ptr (H.length + 1) 0 0 0] (H ++ A :: .cells 0 3 [.agg [.str data, .int .i64 q.at_, .bool q.bad]] :: L) (fun r H' => H' = H ++ A :: .cells 0 3 [.agg [.str data, .int .i64 (q.many data).2.at_, .bool (q.many data).2.bad]] :: L ∧ r = .int .i64 (q.many data).1) :=
  (fmany_ok G hG data hdl q ha (H.length + 1) _ (by simp [fC])).mono fun r H' h => ⟨h.1.trans (by simp [fC]), h.2⟩
theorem ftextL (G : Gl) (hG : GClosed G) (data : Str) (hdl : data.length < 4294967296) (q : FS) (ha : q.at_ ≤ data.length) (H : List Blk) (A : Blk) (L : List Blk) :
    ACall Tryd.prog G 58 [.ptr (H.length + 1) 0 0 0] (H ++ A :: .cells 0 3 [.agg [.str data, .int .i64 q.at_, .bool q.bad]] :: L) (fun r H' => H' = H ++ A :: .cells 0 3 [.agg [.str data, .int .i64 (q.text data).2.at_, .bool (q.text data).2.bad]] :: L ∧ r = .str (q.text data).1) :=
  (ftexts_ok G hG data hdl q ha (H.length + 1) _ (by simp [fC])).mono fun r H' h => ⟨h.1.trans (by simp [fC]), h.2⟩
theorem ftruthL (G : Gl) (hG : GClosed G) (data : Str) (hdl : data.length < 4294967296) (q : FS) (ha : q.at_ ≤ data.length) (H : List Blk) (A : Blk) (L : List Blk) :
    ACall Tryd.prog G 60 [.ptr (H.length + 1) 0 0 0] (H ++ A :: .cells 0 3 [.agg [.str data, .int .i64 q.at_, .bool q.bad]] :: L) (fun r H' => H' = H ++ A :: .cells 0 3 [.agg [.str data, .int .i64 (q.truth data).2.at_, .bool (q.truth data).2.bad]] :: L ∧ r = .bool (q.truth data).1) :=
  (ftruths_ok G hG data hdl q ha (H.length + 1) _ (by simp [fC])).mono fun r H' h => ⟨h.1.trans (by simp [fC]), h.2⟩
/-- WEAKENING BEHIND A CLOSED PREFIX that is longer than what was there at the start: the prefix stays as it is. -/
theorem wkT {G : Gl} {nt : Nat} {C : Cx} {env env2 : Env} {H X KB : List Blk} (ks : Keep) {n0 : Nat} (hG : GClosed G) (hB : Based G C.H.length) (hC : C.H.length ≤ n0) (hcl : closed H) (hn : H.length = n0) (hk : KeepB (H ++ X) n0 ks ks KB := by exact frzS) (hd : (ks.map (·.1)).Nodup := by first | rfl | decide | simp)
    (he : subEnvF (H ++ X) n0 ks env2 env := by exact frzS) : Wk G nt C ⟨env, H ++ X⟩ ⟨env2, H ++ KB⟩ := by
  subst hn
  exact Wk.keep ks KB hG (fun C0 h => Nat.le_trans (hB C0 h) hC) hC hcl ⟨hk, hd⟩ he
/-- the six blocks that the reference's Decode starts with are closed -/
theorem six_closed {H : List Blk} (hcl : closed H) (data : Str) (a g1 g2 g3 : Nat) (b : Bool) (cs : List Con) (fs : List Fun) (gs : List Glb) :
    closed (H ++ [.cells 0 4 [.agg [.nil, .nil, .nil, .int .i64 0]], .cells 0 3 [.agg [.str data, .int .i64 a, .bool b]], .cells 0 4 [.agg [.sl (H.length + 3) g1 0 cs.length, .sl (H.length + 4) g2 0 fs.length, .sl (H.length + 5) g3 0 gs.length, .int .i64 0]], .cells g1 4 (consL cs), .cells g2 7 (funsL fs), .cells g3 3 (glbsL gs)]) := by
  refine closed.app hcl ?_
  intro b hb
  simp only [List.mem_cons, List.not_mem_nil, or_false] at hb
  rcases hb with rfl | rfl | rfl | rfl | rfl | rfl <;> simp [Blk.under, SV.under, SV.underL, consL_under, funsL_under, glbsL_under]
theorem app62 {α : Type} (A : List α) (a b c d e f x y : α) : A ++ [a, b, c, d, e, f, x, y] = (A ++ [a, b, c, d, e, f]) ++ [x, y] := by simp
theorem app61 {α : Type} (A : List α) (a b c d e f x : α) : A ++ [a, b, c, d, e, f, x] = (A ++ [a, b, c, d, e, f]) ++ [x] := by simp
theorem app82 {α : Type} (A : List α) (a b c d e f g h x y : α) : A ++ [a, b, c, d, e, f, g, h, x, y] = (A ++ [a, b, c, d, e, f, g, h]) ++ [x, y] := by simp
theorem app81 {α : Type} (A : List α) (a b c d e f g h x : α) : A ++ [a, b, c, d, e, f, g, h, x] = (A ++ [a, b, c, d, e, f, g, h]) ++ [x] := by simp
/-- forgetting what lies behind a closed prefix -/
theorem wkD {G : Gl} {nt : Nat} {C : Cx} {env env2 : Env} {H X : List Blk} {n0 : Nat} (hG : GClosed G) (hB : Based G C.H.length) (hC : C.H.length ≤ n0) (hcl : closed H) (hn : H.length = n0)
    (he : subEnvF (H ++ X) n0 [] env2 env := by exact frzS) : Wk G nt C ⟨env, H ++ X⟩ ⟨env2, H⟩ := by
  subst hn
  exact Wk.tell hG (fun C0 h => Nat.le_trans (hB C0 h) hC) hC hcl he
/-- .. the lists in any form -/
theorem six_closedL {H : List Blk} (hcl : closed H) (data : Str) (a g1 g2 g3 n1 n2 n3 : Nat) (b : Bool) (L1 L2 L3 : List SV) (h1 : ∀ n, SV.underL n L1 = true) (h2 : ∀ n, SV.underL n L2 = true) (h3 : ∀ n, SV.underL n L3 = true) :
    closed (H ++ [.cells 0 4 [.agg [.nil, .nil, .nil, .int .i64 0]], .cells 0 3 [.agg [.str data, .int .i64 a, .bool b]], .cells 0 4 [.agg [.sl (H.length + 3) g1 0 n1, .sl (H.length + 4) g2 0 n2, .sl (H.length + 5) g3 0 n3, .int .i64 0]], .cells g1 4 L1, .cells g2 7 L2, .cells g3 3 L3]) := by
  refine closed.app hcl ?_
  intro b hb
  simp only [List.mem_cons, List.not_mem_nil, or_false] at hb
  rcases hb with rfl | rfl | rfl | rfl | rfl | rfl <;> simp [Blk.under, SV.under, SV.underL, h1, h2, h3]
/-- .. and with the two of a function that is being read -/
theorem eight_closedL {H : List Blk} (hcl : closed H) (data : Str) (a g1 g2 g3 g4 n1 n2 n3 n4 : Nat) (b : Bool) (L1 L2 L3 L4 : List SV) (h1 : ∀ n, SV.underL n L1 = true) (h2 : ∀ n, SV.underL n L2 = true) (h3 : ∀ n, SV.underL n L3 = true) (h4 : ∀ n, SV.underL n L4 = true)
    (name : Str) (t u : Bool) (x y z : Int) :
    closed (H ++ [.cells 0 4 [.agg [.nil, .nil, .nil, .int .i64 0]], .cells 0 3 [.agg [.str data, .int .i64 a, .bool b]], .cells 0 4 [.agg [.sl (H.length + 3) g1 0 n1, .sl (H.length + 4) g2 0 n2, .sl (H.length + 5) g3 0 n3, .int .i64 0]], .cells g1 4 L1, .cells g2 7 L2, .cells g3 3 L3,
      .cells 0 7 [.agg [.str name, .bool t, .bool u, .int .i64 x, .int .i64 y, .int .i64 z, .sl (H.length + 7) g4 0 n4]], .cells g4 6 L4]) := by
  refine closed.app hcl ?_
  intro b hb
  simp only [List.mem_cons, List.not_mem_nil, or_false] at hb
  rcases hb with rfl | rfl | rfl | rfl | rfl | rfl | rfl | rfl <;> simp [Blk.under, SV.under, SV.underL, h1, h2, h3, h4]
theorem keepR (H : List Blk) (data : Str) (q : FS) (cs : List Con) (fs : List Fun) (gs : List Glb) :
    KeepB (H ++ [.cells 0 4 [.agg [.nil, .nil, .nil, .int .i64 0]], .cells 0 3 [.agg [.str data, .int .i64 q.at_, .bool q.bad]], .cells 0 4 [.agg [.sl (H.length + 3) cs.length 0 cs.length, .sl (H.length + 4) fs.length 0 fs.length, .sl (H.length + 5) gs.length 0 gs.length, .int .i64 0]], .cells cs.length 4 (consL cs), .cells fs.length 7 (funsL fs), .cells gs.length 3 (glbsL gs)]) H.length
      [(H.length, 0), (H.length + 1, 0), (H.length + 2, 0)] [(H.length, 0), (H.length + 1, 0), (H.length + 2, 0)]
      [.cells 0 4 [.agg [.nil, .nil, .nil, .int .i64 0]], .cells 0 3 [.agg [.str data, .int .i64 q.at_, .bool q.bad]], .cells 0 4 [.agg [.list 4 (consL cs), .list 7 (funsL fs), .list 3 (glbsL gs), .int .i64 0]]] := by
  have hk : ∀ i, 3 ≤ i → ∀ p ∈ [(H.length, 0), (H.length + 1, 0), (H.length + 2, 0)], p.1 ≠ H.length + i := fun i hi p hp => by
    simp only [List.mem_cons, List.not_mem_nil, or_false] at hp
    rcases hp with rfl | rfl | rfl <;> simp only <;> omega
  refine KeepB.cells H.length 0 0 4 _ _ _ _ ((get_app _ _ 0).trans rfl) (Nat.le_refl _) (Nat.zero_le _) (FrzL.same rfl) ?_
  refine KeepB.cells (H.length + 1) 0 0 3 _ _ _ _ ((get_app _ _ 1).trans rfl) (by omega) (Nat.zero_le _) (FrzL.same rfl) ?_
  refine KeepB.cells (H.length + 2) 0 0 4 _ _ _ _ ((get_app _ _ 2).trans rfl) (by omega) (Nat.zero_le _) (.cons _ _ _ _ (.agg _ _ ?_) .nil) .nil
  exact .cons _ _ _ _ (frzSl (sz := 4) ((get_app _ _ 3).trans rfl) (by omega) (hk 3 (by omega)) (consL_under _ _) (consL_len _).symm)
    (.cons _ _ _ _ (frzSl (sz := 7) ((get_app _ _ 4).trans rfl) (by omega) (hk 4 (by omega)) (funsL_under _ _) (funsL_len _).symm)
    (.cons _ _ _ _ (frzSl (sz := 3) ((get_app _ _ 5).trans rfl) (by omega) (hk 5 (by omega)) (glbsL_under _ _) (glbsL_len _).symm) (.cons _ _ _ _ (.same _ rfl) .nil)))
theorem eachF_mem {α : Type} {d : Str} {f : FS → α × FS} (hf : ∀ q, q.at_ ≤ d.length → (f q).2.at_ ≤ d.length) : ∀ (n : Nat) (q : FS), q.at_ ≤ d.length → ∀ x ∈ (eachF f n q).1, ∃ q', q'.at_ ≤ d.length ∧ x = (f q').1
  | 0, q, h, x, hx => by cases hx
  | n + 1, q, h, x, hx => by
    unfold eachF at hx
    split at hx
    · cases hx
    · rcases List.mem_cons.1 hx with rfl | hx
      · exact ⟨q, h, rfl⟩
      · exact eachF_mem hf n _ (hf q h) x hx
theorem FS.ins_B {d : Str} {q : FS} (h : q.at_ ≤ d.length) : (FS.ins d q).1.l.length ≤ d.length := FS.each_size (f := FS.num d) (q.five d) (FS.num_le (FS.num_le (FS.num_le (FS.num_le (FS.num_le h)))))
theorem FS.fn_B {d : Str} {q : FS} (h : q.at_ ≤ d.length) : (FS.fn d q).1.code.length ≤ d.length ∧ ∀ i ∈ (FS.fn d q).1.code, i.l.length ≤ d.length := by
  have hh : (q.head d).at_ ≤ d.length := FS.num_le (FS.num_le (FS.num_le (FS.truth_le (FS.truth_le (FS.text_le h)))))
  refine ⟨FS.each_size (f := FS.ins d) (q.head d) hh, fun i hi => ?_⟩
  obtain ⟨q', h1, rfl⟩ := eachF_mem (ins_le d) _ _ (FS.many_le' hh) i hi
  exact FS.ins_B h1
theorem FS.glb_B {d : Str} {q : FS} (h : q.at_ ≤ d.length) : (FS.glb d q).1.args.length ≤ d.length := FS.each_size (f := FS.ref d) _ (FS.num_le (FS.num_le h))
end Go.Proofs.YtihhngjoecgkpaaDoor
end
