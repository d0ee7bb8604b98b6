/- CodeDecodes: the decoder reads an image's bytes as the reference does, for texts of at most 2^20 bytes. -/
import Derived.Test.YtihhngjoecgkpaaDoorMk

section
namespace Go.Proofs.YtihhngjoecgkpaaDoor
open Go
set_option linter.unusedSimpArgs false
set_option linter.unusedVariables false
set_option maxRecDepth 10000
set_option maxHeartbeats 4000000
set_option pp.deepTerms true
set_option pp.maxSteps 100000

theorem rdecode_ok (G : Gl) (hG : GClosed G) (data : Str) (hl : data.length < 4294967296) (H : List Blk) :
    ACall Tryd.prog G 16 [.str data] H (fun r H' => H' = H ∧ r = .tuple [.agg (refD data).1.cells, .int .i64 (refD data).2]) := by
  have hz : img0.cells = [.list 4 [], .list 7 [], .list 3 [], .int .i64 0] := rfl
  by_cases hm : data.length < 4 ∨ data.take 4 ≠ magic4
  · have e1 : refD data = (img0, 171) := by unfold refD; rw [if_pos hm]
    rw [e1]
    simp only [hz]
    have hb0 : (decide ((data.length : Int) < 4) || decide ¬data.take 4 = [84, 83, 76, 49]) = true := by
      simp only [Bool.or_eq_true, decide_eq_true_eq]
      rcases hm with h | h
      · exact .inl (by omega)
      · exact .inr h
    refine ACall.of_go TB [] tabOK _ Tryd.func16 rfl (by decide) Tryd.ntmps16 (by simp) rfl (by simp only [initEnv, Nat.reduceAdd]; rfl) fun C R' hR hC hcl hB => ?_; have X := noX; have hC' := congrArg List.length hC
    have X := And.intro X hb0
    (refine run ?_; repeat' (first | with_reducible exact trivial | ((with_reducible apply Fork.mk) <;> intro hb) | with_reducible apply Two.mk))
    · refine finS hR hC' hcl (y := .tuple [.agg [.list 4 [], .list 7 [], .list 3 [], .int .i64 0], .int .i64 171]) (frzImg0 _ _ _) ⟨rfl, rfl⟩
    all_goals (rw [hb0] at hb; cases hb)
  · have hm1 : 4 ≤ data.length ∧ data.take 4 = magic4 := by simp only [not_or, Nat.not_lt, ne_eq, Decidable.not_not] at hm; exact hm
    have hb0 : (decide ((data.length : Int) < 4) || decide ¬data.take 4 = [84, 83, 76, 49]) = false := by
      rw [Bool.or_eq_false_iff]
      exact ⟨decide_eq_false (by omega), decide_eq_false (fun h => h hm1.2)⟩
    have c1 := fun L => fmanyL G hG data hl ⟨4, false⟩ hm1.1 H (.cells 0 4 [.agg [.nil, .nil, .nil, .int .i64 0]]) L
    simp only at c1
    have hq1 := FS.many_le' (data := data) (q := ⟨4, false⟩) hm1.1
    refine ACall.of_go TB [] tabOK _ Tryd.func16 rfl (by decide) Tryd.ntmps16 (by simp) rfl (by simp only [initEnv, Nat.reduceAdd]; rfl) fun C R' hR hC hcl hB => ?_; have X := noX; have hC' := congrArg List.length hC
    have X := And.intro X hb0
    (refine runB ?_; repeat' (first | with_reducible exact trivial | ((with_reducible apply Fork.mk) <;> intro hb) | with_reducible apply Two.mk))
    · exact absurd hm1.2 hb
    clear hb
    (refine runB ?_; repeat' (first | with_reducible exact trivial | ((with_reducible apply Fork.mk) <;> intro hb) | with_reducible apply Two.mk))
    generalize hq0 : FS.many data ⟨4, false⟩ = m1 at *
    obtain ⟨n1, q1⟩ := m1
    simp only at hq1
    refine go_wkC [(2, .ptr H.length 0 0 0), (4, .ptr (H.length + 1) 0 0 0), (5, .ptr (H.length + 2) 0 0 0), (6, .int .i64 n1), (7, .int .i64 0), (0, .str data)] (H ++ [.cells 0 4 [.agg [.nil, .nil, .nil, .int .i64 0]], .cells 0 3 [.agg [.str data, .int .i64 q1.at_, .bool q1.bad]], .cells 0 4 [.agg [.sl (H.length + 3) 0 0 0, .sl (H.length + 4) 0 0 0, .sl (H.length + 5) 0 0 0, .int .i64 0]], .cells 0 4 [], .cells 0 7 [], .cells 0 3 []]) ?_ ?_
    · refine Wk.trans (wk_ghost (id := H.length + 2) (i := 0) (j := 0) 4 ((get_app ..).trans rfl) rfl rfl) ?_
      rw [set_app, List.append_assoc]
      refine Wk.trans (wk_ghost (id := H.length + 2) (i := 0) (j := 1) 7 ((get_app ..).trans rfl) rfl rfl) ?_
      rw [set_app, List.append_assoc]
      refine wk_ghostE (id := H.length + 2) (i := 0) (j := 2) 3 ((get_app ..).trans rfl) rfl rfl ?_ (by simp [subEnv, look])
      rw [set_app, List.append_assoc]
      simp
    have hN1 : n1.toNat ≤ data.length ∧ 0 ≤ n1 := by
      have := FS.many_le (data := data) (q := ⟨4, false⟩) hm1.1
      rw [hq0] at this
      simp only at this
      omega
    obtain ⟨N1, rfl⟩ := Int.eq_ofNat_of_zero_le hN1.2
    simp only [Int.toNat_natCast] at hN1
    refine go_cut (fun _ : Unit => [(2, .ptr H.length 0 0 0), (4, .ptr (H.length + 1) 0 0 0), (5, .ptr (H.length + 2) 0 0 0), (0, .str data)]) (fun _ => H ++ [.cells 0 4 [.agg [.nil, .nil, .nil, .int .i64 0]], .cells 0 3 [.agg [.str data, .int .i64 (eachF (FS.con data) N1 q1).2.at_, .bool (eachF (FS.con data) N1 q1).2.bad]], .cells 0 4 [.agg [.sl (H.length + 3) (eachF (FS.con data) N1 q1).1.length 0 (eachF (FS.con data) N1 q1).1.length, .sl (H.length + 4) 0 0 0, .sl (H.length + 5) 0 0 0, .int .i64 0]], .cells (eachF (FS.con data) N1 q1).1.length 4 (consL (eachF (FS.con data) N1 q1).1), .cells 0 7 [], .cells 0 3 []]) (fun _ => True) (fun K hK => ?_) (fun _ _ => ?_)
    · clear X
      have X := noX
      (refine run ?_; repeat' (first | with_reducible exact trivial | ((with_reducible apply Fork.mk) <;> intro hb) | with_reducible apply Two.mk))
      refine go_loop (fun k : Nat => [(2, .ptr H.length 0 0 0), (4, .ptr (H.length + 1) 0 0 0), (5, .ptr (H.length + 2) 0 0 0), (0, .str data), (6, .int .i64 N1), (7, .int .i64 k)]) (fun k => H ++ [.cells 0 4 [.agg [.nil, .nil, .nil, .int .i64 0]], .cells 0 3 [.agg [.str data, .int .i64 (eachF (FS.con data) k q1).2.at_, .bool (eachF (FS.con data) k q1).2.bad]], .cells 0 4 [.agg [.sl (H.length + 3) (eachF (FS.con data) k q1).1.length 0 (eachF (FS.con data) k q1).1.length, .sl (H.length + 4) 0 0 0, .sl (H.length + 5) 0 0 0, .int .i64 0]], .cells (eachF (FS.con data) k q1).1.length 4 (consL (eachF (FS.con data) k q1).1), .cells 0 7 [], .cells 0 3 []]) (fun k => N1 - k) (fun k => k ≤ N1) 0 (Nat.zero_le _) (Wk.sub (by simp [subEnv, look])) ?_
      rintro K2 k hk hK2
      have hstep := eachF_step (f := FS.con data) N1 q1 k
      have hstop := eachF_stop (f := FS.con data) N1 q1 k hk
      have hsz := eachF_size (f := FS.con data) k q1
      have hle := eachF_le (d := data) (f := FS.con data) (fun q h => FS.num_le (FS.num_le (FS.num_le (FS.text_le h)))) k q1 hq1
      generalize hT : eachF (FS.con data) k q1 = T at *
      obtain ⟨cs, q⟩ := T
      simp only at hstep hstop hsz hle
      dsimp only
      have hml := consL_len cs
      cases hbad : q.bad with
      | true =>
        rw [hstop hbad] at hK
        simp only [hbad] at hK
        (refine run ?_; repeat' (first | with_reducible exact trivial | ((with_reducible apply Fork.mk) <;> intro hb) | with_reducible apply Two.mk))
        exact hK _ _ () trivial (Wk.sub (by simp [subEnv, look]))
      | false =>
        rw [hbad] at hstep
        rcases Nat.lt_or_ge k N1 with hlt | hge
        · obtain ⟨s1, s2⟩ := hstep hlt rfl
          have d1 := fun L => ftextL G hG data hl q hle H (.cells 0 4 [.agg [.nil, .nil, .nil, .int .i64 0]]) L
          have t1 := FS.text_le (data := data) hle
          have d2 := fun L => fnumL G hG data hl _ t1 H (.cells 0 4 [.agg [.nil, .nil, .nil, .int .i64 0]]) L
          have t2 := FS.num_le t1
          have d3 := fun L => fnumL G hG data hl _ t2 H (.cells 0 4 [.agg [.nil, .nil, .nil, .int .i64 0]]) L
          have t3 := FS.num_le t2
          have d4 := fun L => fnumL G hG data hl _ t3 H (.cells 0 4 [.agg [.nil, .nil, .nil, .int .i64 0]]) L
          rw [hbad] at d1
          have c1 := d1
          have c2 := d2
          have c3 := d3
          have c4 := d4
          have X := And.intro noX hml
          (refine run ?_; repeat' (first | with_reducible exact trivial | ((with_reducible apply Fork.mk) <;> intro hb) | with_reducible apply Two.mk))
          refine hK2 _ _ (k + 1) (by omega) (by omega) ?_
          have ec : consL (cs ++ [(FS.con data q).1]) = consL cs ++ [SV.agg (FS.con data q).1.cells] := by simp [consL]
          rw [s1, s2, ec, List.length_append, List.length_singleton]
          exact Wk.sub (by simp [subEnv, look])
        · have : k = N1 := by omega
          subst this
          have X := And.intro noX (And.intro hml (Int.lt_irrefl (k : Int)))
          rw [hT] at hK
          simp only [hbad] at hK
          (refine run ?_; repeat' (first | with_reducible exact trivial | ((with_reducible apply Fork.mk) <;> intro hb) | with_reducible apply Two.mk))
          exact hK _ _ () trivial (Wk.sub (by simp [subEnv, look]))
    have hcs := eachF_size (f := FS.con data) N1 q1
    have hqa := eachF_le (d := data) (f := FS.con data) (fun q h => FS.num_le (FS.num_le (FS.num_le (FS.text_le h)))) N1 q1 hq1
    have hT1 : FS.each data (FS.con data) ⟨4, false⟩ = eachF (FS.con data) N1 q1 := by unfold FS.each; rw [hq0]; rfl
    have hi1 : (FS.img data ⟨4, false⟩).1.cons = (FS.each data (FS.con data) ⟨4, false⟩).1 := rfl
    generalize eachF (FS.con data) N1 q1 = T1 at *
    obtain ⟨cs, qa⟩ := T1
    simp only at hcs hqa
    dsimp only
    clear hq1
    have c1 := fun L => fmanyL G hG data hl qa hqa H (.cells 0 4 [.agg [.nil, .nil, .nil, .int .i64 0]]) L
    have hm2 := FS.many_le (data := data) hqa
    generalize hq2 : qa.many data = m2 at *
    obtain ⟨n2, q2⟩ := m2
    simp only at hm2 c1
    obtain ⟨N2, rfl⟩ := Int.eq_ofNat_of_zero_le hm2.2
    simp only [Int.toNat_natCast] at hm2
    clear X
    have X := noX
    (refine runB ?_; repeat' (first | with_reducible exact trivial | ((with_reducible apply Fork.mk) <;> intro hb) | with_reducible apply Two.mk))
    have hqf : ∀ q : FS, q.at_ ≤ data.length → (FS.fn data q).2.at_ ≤ data.length := fn_le data
    have hq2' : q2.at_ ≤ data.length := by omega
    have hk2 : ∀ f ∈ (eachF (FS.fn data) N2 q2).1, f.code.length < 1099511627776 ∧ ∀ i ∈ f.code, i.l.length < 1099511627776 := fun f hf => by
      obtain ⟨q', h1, rfl⟩ := eachF_mem hqf _ _ hq2' f hf
      obtain ⟨h2, h3⟩ := FS.fn_B h1
      exact ⟨by omega, fun i hi => by have := h3 i hi; omega⟩
    refine go_cut (fun _ : Unit => [(2, .ptr H.length 0 0 0), (4, .ptr (H.length + 1) 0 0 0), (5, .ptr (H.length + 2) 0 0 0), (0, .str data)]) (fun _ => H ++ [.cells 0 4 [.agg [.nil, .nil, .nil, .int .i64 0]], .cells 0 3 [.agg [.str data, .int .i64 (eachF (FS.fn data) N2 q2).2.at_, .bool (eachF (FS.fn data) N2 q2).2.bad]], .cells 0 4 [.agg [.sl (H.length + 3) cs.length 0 cs.length, .sl (H.length + 4) (eachF (FS.fn data) N2 q2).1.length 0 (eachF (FS.fn data) N2 q2).1.length, .sl (H.length + 5) 0 0 0, .int .i64 0]], .cells cs.length 4 (consL cs), .cells (eachF (FS.fn data) N2 q2).1.length 7 (funsL (eachF (FS.fn data) N2 q2).1), .cells 0 3 []]) (fun _ => True) (fun K hK => ?_) (fun _ _ => ?_)
    · (refine run ?_; repeat' (first | with_reducible exact trivial | ((with_reducible apply Fork.mk) <;> intro hb) | with_reducible apply Two.mk))
      refine go_loop (fun k : Nat => [(2, .ptr H.length 0 0 0), (4, .ptr (H.length + 1) 0 0 0), (5, .ptr (H.length + 2) 0 0 0), (0, .str data), (6, .int .i64 N2), (8, .int .i64 k)]) (fun k => H ++ [.cells 0 4 [.agg [.nil, .nil, .nil, .int .i64 0]], .cells 0 3 [.agg [.str data, .int .i64 (eachF (FS.fn data) k q2).2.at_, .bool (eachF (FS.fn data) k q2).2.bad]], .cells 0 4 [.agg [.sl (H.length + 3) cs.length 0 cs.length, .sl (H.length + 4) (eachF (FS.fn data) k q2).1.length 0 (eachF (FS.fn data) k q2).1.length, .sl (H.length + 5) 0 0 0, .int .i64 0]], .cells cs.length 4 (consL cs), .cells (eachF (FS.fn data) k q2).1.length 7 (funsL (eachF (FS.fn data) k q2).1), .cells 0 3 []]) (fun k => N2 - k) (fun k => k ≤ N2) 0 (Nat.zero_le _) (Wk.sub (by simp [subEnv, look])) ?_
      rintro K2 k hk hK2
      have hstep := eachF_step (f := FS.fn data) N2 q2 k
      have hstop := eachF_stop (f := FS.fn data) N2 q2 k hk
      have hsz := eachF_size (f := FS.fn data) k q2
      have hle := eachF_le (d := data) (f := FS.fn data) hqf k q2 hq2'
      generalize hT : eachF (FS.fn data) k q2 = T at *
      obtain ⟨fs, q⟩ := T
      simp only at hstep hstop hsz hle
      dsimp only
      have hml := funsL_len fs
      cases hbad : q.bad with
      | true =>
        rw [hstop hbad] at hK
        simp only [hbad] at hK
        (refine run ?_; repeat' (first | with_reducible exact trivial | ((with_reducible apply Fork.mk) <;> intro hb) | with_reducible apply Two.mk))
        exact hK _ _ () trivial (Wk.sub (by simp [subEnv, look]))
      | false =>
        rw [hbad] at hstep
        rcases Nat.lt_or_ge k N2 with hlt | hge
        · obtain ⟨s1, s2⟩ := hstep hlt rfl
          have d1 := fun L => ftextL G hG data hl q hle H (.cells 0 4 [.agg [.nil, .nil, .nil, .int .i64 0]]) L
          have t1 := FS.text_le (data := data) hle
          have d2 := fun L => ftruthL G hG data hl _ t1 H (.cells 0 4 [.agg [.nil, .nil, .nil, .int .i64 0]]) L
          have t2 := FS.truth_le t1
          have d3 := fun L => ftruthL G hG data hl _ t2 H (.cells 0 4 [.agg [.nil, .nil, .nil, .int .i64 0]]) L
          have t3 := FS.truth_le t2
          have d4 := fun L => fnumL G hG data hl _ t3 H (.cells 0 4 [.agg [.nil, .nil, .nil, .int .i64 0]]) L
          have t4 := FS.num_le t3
          have d5 := fun L => fnumL G hG data hl _ t4 H (.cells 0 4 [.agg [.nil, .nil, .nil, .int .i64 0]]) L
          have t5 := FS.num_le t4
          have d6 := fun L => fnumL G hG data hl _ t5 H (.cells 0 4 [.agg [.nil, .nil, .nil, .int .i64 0]]) L
          have t6 := FS.num_le t5
          rw [hbad] at d1
          have X := And.intro noX hml
          (refine runB ?_; repeat' (first | with_reducible exact trivial | ((with_reducible apply Fork.mk) <;> intro hb) | with_reducible apply Two.mk))
          refine go_cut (fun _ : Unit => [(2, .ptr H.length 0 0 0), (4, .ptr (H.length + 1) 0 0 0), (5, .ptr (H.length + 2) 0 0 0), (0, .str data), (6, .int .i64 N2), (8, .int .i64 k)]) (fun _ => H ++ [.cells 0 4 [.agg [.nil, .nil, .nil, .int .i64 0]], .cells 0 3 [.agg [.str data, .int .i64 (FS.fn data q).2.at_, .bool (FS.fn data q).2.bad]], .cells 0 4 [.agg [.sl (H.length + 3) cs.length 0 cs.length, .sl (H.length + 4) (fs.length + 1) 0 (fs.length + 1), .sl (H.length + 5) 0 0 0, .int .i64 0]], .cells cs.length 4 (consL cs), .cells (fs.length + 1) 7 (funsL fs ++ [.agg (FS.fn data q).1.cells]), .cells 0 3 []]) (fun _ => True) (fun K3 hK3 => ?_) (fun _ _ => ?_)
          · have c1 := d1
            have c2 := d2
            have c3 := d3
            have c4 := d4
            have c5 := d5
            have c6 := d6
            refine go_block ?_
            (refine runB ?_; repeat' (first | with_reducible exact trivial | ((with_reducible apply Fork.mk) <;> intro hb) | with_reducible apply Two.mk))
            have hfn : FS.fn data q = (⟨(q.text data).1, ((q.text data).2.truth data).1, (((q.text data).2.truth data).2.truth data).1, ((q.h3 data).num data).1, (((q.h3 data).num data).2.num data).1, ((((q.h3 data).num data).2.num data).2.num data).1, ((q.head data).each data (FS.ins data)).1⟩, ((q.head data).each data (FS.ins data)).2) := rfl
            have e3 : (((q.text data).2.truth data).2.truth data).2 = q.h3 data := rfl
            have e7 : ((((q.h3 data).num data).2.num data).2.num data).2 = q.head data := rfl
            rw [e3, e7] at t6
            simp only [e3, e7]
            clear d1 d2 d3 d4 d5 d6 c1 c2 c3 c4 c5 c6 t1 t2 t3 t4 t5 e3 e7
            refine callS (fmanyL G hG data hl (q.head data) t6 H (.cells 0 4 [.agg [.nil, .nil, .nil, .int .i64 0]]) _) ?_
            rintro r H' ⟨rfl, rfl⟩
            have e6 : (q.head data).each data (FS.ins data) = eachF (FS.ins data) ((q.head data).many data).1.toNat ((q.head data).many data).2 := rfl
            rw [e6] at hfn
            have hm6 := FS.many_le (data := data) t6
            generalize (q.head data).many data = m6 at *
            generalize (q.text data).1 = nm at *
            generalize ((q.text data).2.truth data).1 = tb at *
            generalize (((q.text data).2.truth data).2.truth data).1 = ub at *
            generalize ((q.h3 data).num data).1 = xa at *
            generalize (((q.h3 data).num data).2.num data).1 = xb at *
            generalize ((((q.h3 data).num data).2.num data).2.num data).1 = xc at *
            obtain ⟨n6, q7⟩ := m6
            simp only at hm6 hfn
            dsimp only
            obtain ⟨N6, rfl⟩ := Int.eq_ofNat_of_zero_le hm6.2
            simp only [Int.toNat_natCast] at hm6 hfn
            have X := noX
            (refine runB ?_; repeat' (first | with_reducible exact trivial | ((with_reducible apply Fork.mk) <;> intro hb) | with_reducible apply Two.mk))
            refine go_wkC [(2, .ptr H.length 0 0 0), (4, .ptr (H.length + 1) 0 0 0), (5, .ptr (H.length + 2) 0 0 0), (0, .str data), (6, .int .i64 N2), (8, .int .i64 k), (9, .ptr (H.length + 6) 0 0 0), (10, .int .i64 N6), (11, .int .i64 0)] (H ++ [.cells 0 4 [.agg [.nil, .nil, .nil, .int .i64 0]], .cells 0 3 [.agg [.str data, .int .i64 q7.at_, .bool q7.bad]], .cells 0 4 [.agg [.sl (H.length + 3) cs.length 0 cs.length, .sl (H.length + 4) fs.length 0 fs.length, .sl (H.length + 5) 0 0 0, .int .i64 0]], .cells cs.length 4 (consL cs), .cells fs.length 7 (funsL fs), .cells 0 3 [], .cells 0 7 [.agg [.str nm, .bool tb, .bool ub, .int .i64 xa, .int .i64 xb, .int .i64 xc, .sl (H.length + 7) 0 0 0]], .cells 0 6 []]) ?_ ?_
            · refine wk_ghostE (id := H.length + 6) (i := 0) (j := 6) 6 ((get_app ..).trans rfl) rfl rfl ?_ (by simp [subEnv, look])
              rw [set_app, List.append_assoc]
              simp
            have hq7 : q7.at_ ≤ data.length := by omega
            refine go_cut (fun _ : Unit => [(2, .ptr H.length 0 0 0), (4, .ptr (H.length + 1) 0 0 0), (5, .ptr (H.length + 2) 0 0 0), (0, .str data), (6, .int .i64 N2), (8, .int .i64 k), (9, .ptr (H.length + 6) 0 0 0)]) (fun _ => H ++ [.cells 0 4 [.agg [.nil, .nil, .nil, .int .i64 0]], .cells 0 3 [.agg [.str data, .int .i64 (eachF (FS.ins data) N6 q7).2.at_, .bool (eachF (FS.ins data) N6 q7).2.bad]], .cells 0 4 [.agg [.sl (H.length + 3) cs.length 0 cs.length, .sl (H.length + 4) fs.length 0 fs.length, .sl (H.length + 5) 0 0 0, .int .i64 0]], .cells cs.length 4 (consL cs), .cells fs.length 7 (funsL fs), .cells 0 3 [], .cells 0 7 [.agg [.str nm, .bool tb, .bool ub, .int .i64 xa, .int .i64 xb, .int .i64 xc, .list 6 (insL (eachF (FS.ins data) N6 q7).1)]]]) (fun _ => True) (fun K4 hK4 => ?_) (fun _ _ => ?_)
            · (refine run ?_; repeat' (first | with_reducible exact trivial | ((with_reducible apply Fork.mk) <;> intro hb) | with_reducible apply Two.mk))
              refine go_loop (fun j : Nat => [(2, .ptr H.length 0 0 0), (4, .ptr (H.length + 1) 0 0 0), (5, .ptr (H.length + 2) 0 0 0), (0, .str data), (6, .int .i64 N2), (8, .int .i64 k), (9, .ptr (H.length + 6) 0 0 0), (10, .int .i64 N6), (11, .int .i64 j)]) (fun j => H ++ [.cells 0 4 [.agg [.nil, .nil, .nil, .int .i64 0]], .cells 0 3 [.agg [.str data, .int .i64 (eachF (FS.ins data) j q7).2.at_, .bool (eachF (FS.ins data) j q7).2.bad]], .cells 0 4 [.agg [.sl (H.length + 3) cs.length 0 cs.length, .sl (H.length + 4) fs.length 0 fs.length, .sl (H.length + 5) 0 0 0, .int .i64 0]], .cells cs.length 4 (consL cs), .cells fs.length 7 (funsL fs), .cells 0 3 [], .cells 0 7 [.agg [.str nm, .bool tb, .bool ub, .int .i64 xa, .int .i64 xb, .int .i64 xc, .sl (H.length + 7) (eachF (FS.ins data) j q7).1.length 0 (eachF (FS.ins data) j q7).1.length]], .cells (eachF (FS.ins data) j q7).1.length 6 (insL (eachF (FS.ins data) j q7).1)]) (fun j => N6 - j) (fun j => j ≤ N6) 0 (Nat.zero_le _) (Wk.sub (by simp [subEnv, look])) ?_
              rintro K5 j hj hK5
              have hstep := eachF_step (f := FS.ins data) N6 q7 j
              have hstop := eachF_stop (f := FS.ins data) N6 q7 j hj
              have hsz := eachF_size (f := FS.ins data) j q7
              have hle := eachF_le (d := data) (f := FS.ins data) (ins_le data) j q7 hq7
              generalize hT2 : eachF (FS.ins data) j q7 = T2 at *
              obtain ⟨is, p⟩ := T2
              simp only at hstep hstop hsz hle
              dsimp only
              have hml2 := insL_len is
              have hwk : ∀ env : Env, subEnvF ((H ++ [.cells 0 4 [.agg [.nil, .nil, .nil, .int .i64 0]], .cells 0 3 [.agg [.str data, .int .i64 p.at_, .bool p.bad]], .cells 0 4 [.agg [.sl (H.length + 3) cs.length 0 cs.length, .sl (H.length + 4) fs.length 0 fs.length, .sl (H.length + 5) 0 0 0, .int .i64 0]], .cells cs.length 4 (consL cs), .cells fs.length 7 (funsL fs), .cells 0 3 []]) ++ [.cells 0 7 [.agg [.str nm, .bool tb, .bool ub, .int .i64 xa, .int .i64 xb, .int .i64 xc, .sl (H.length + 7) is.length 0 is.length]], .cells is.length 6 (insL is)]) (H.length + 6) [(H.length + 6, 0)] [(2, .ptr H.length 0 0 0), (4, .ptr (H.length + 1) 0 0 0), (5, .ptr (H.length + 2) 0 0 0), (0, .str data), (6, .int .i64 N2), (8, .int .i64 k), (9, .ptr (H.length + 6) 0 0 0)] env → Wk G (216) C ⟨env, H ++ [.cells 0 4 [.agg [.nil, .nil, .nil, .int .i64 0]], .cells 0 3 [.agg [.str data, .int .i64 p.at_, .bool p.bad]], .cells 0 4 [.agg [.sl (H.length + 3) cs.length 0 cs.length, .sl (H.length + 4) fs.length 0 fs.length, .sl (H.length + 5) 0 0 0, .int .i64 0]], .cells cs.length 4 (consL cs), .cells fs.length 7 (funsL fs), .cells 0 3 [], .cells 0 7 [.agg [.str nm, .bool tb, .bool ub, .int .i64 xa, .int .i64 xb, .int .i64 xc, .sl (H.length + 7) is.length 0 is.length]], .cells is.length 6 (insL is)]⟩ ⟨[(2, .ptr H.length 0 0 0), (4, .ptr (H.length + 1) 0 0 0), (5, .ptr (H.length + 2) 0 0 0), (0, .str data), (6, .int .i64 N2), (8, .int .i64 k), (9, .ptr (H.length + 6) 0 0 0)], H ++ [.cells 0 4 [.agg [.nil, .nil, .nil, .int .i64 0]], .cells 0 3 [.agg [.str data, .int .i64 p.at_, .bool p.bad]], .cells 0 4 [.agg [.sl (H.length + 3) cs.length 0 cs.length, .sl (H.length + 4) fs.length 0 fs.length, .sl (H.length + 5) 0 0 0, .int .i64 0]], .cells cs.length 4 (consL cs), .cells fs.length 7 (funsL fs), .cells 0 3 [], .cells 0 7 [.agg [.str nm, .bool tb, .bool ub, .int .i64 xa, .int .i64 xb, .int .i64 xc, .list 6 (insL is)]]]⟩ := by
                intro env he
                rw [app62, app61]
                exact wkT (n0 := H.length + 6) [(H.length + 6, 0)] hG hB (by rw [hC']; omega) (six_closedL hcl data _ _ _ _ _ _ _ _ _ _ _ (fun n => consL_under n cs) (fun n => funsL_under n fs) (fun _ => rfl)) (by simp) (keepF (by simp) 7 6 [.str nm, .bool tb, .bool ub, .int .i64 xa, .int .i64 xb, .int .i64 xc] (insL_len is).symm (insL_under _ _) rfl) (by simp) he
              cases hbad2 : p.bad with
              | true =>
                rw [hstop hbad2] at hK4
                simp only [hbad2] at hK4 hwk
                (refine run ?_; repeat' (first | with_reducible exact trivial | ((with_reducible apply Fork.mk) <;> intro hb) | with_reducible apply Two.mk))
                exact hK4 _ _ () trivial (hwk _ (by exact frzS))
              | false =>
                rw [hbad2] at hstep
                simp only [hbad2] at hwk
                rcases Nat.lt_or_ge j N6 with hlt2 | hge2
                · obtain ⟨s1', s2'⟩ := hstep hlt2 rfl
                  have d1 := fun L => fnumL G hG data hl p hle H (.cells 0 4 [.agg [.nil, .nil, .nil, .int .i64 0]]) L
                  have v1 := FS.num_le (data := data) hle
                  have d2 := fun L => fnumL G hG data hl _ v1 H (.cells 0 4 [.agg [.nil, .nil, .nil, .int .i64 0]]) L
                  have v2 := FS.num_le v1
                  have d3 := fun L => fnumL G hG data hl _ v2 H (.cells 0 4 [.agg [.nil, .nil, .nil, .int .i64 0]]) L
                  have v3 := FS.num_le v2
                  have d4 := fun L => fnumL G hG data hl _ v3 H (.cells 0 4 [.agg [.nil, .nil, .nil, .int .i64 0]]) L
                  have v4 := FS.num_le v3
                  have d5 := fun L => fnumL G hG data hl _ v4 H (.cells 0 4 [.agg [.nil, .nil, .nil, .int .i64 0]]) L
                  have v5 := FS.num_le v4
                  have d6 := fun L => fmanyL G hG data hl _ v5 H (.cells 0 4 [.agg [.nil, .nil, .nil, .int .i64 0]]) L
                  rw [hbad2] at d1
                  have X := And.intro noX hml2
                  (refine runB ?_; repeat' (first | with_reducible exact trivial | ((with_reducible apply Fork.mk) <;> intro hb) | with_reducible apply Two.mk))
                  refine go_block ?_
                  have c1 := d1
                  have c2 := d2
                  have c3 := d3
                  have c4 := d4
                  have c5 := d5
                  have c6 := d6
                  (refine runB ?_; repeat' (first | with_reducible exact trivial | ((with_reducible apply Fork.mk) <;> intro hb) | with_reducible apply Two.mk))
                  have hins : FS.ins data p = (⟨(p.num data).1, ((p.num data).2.num data).1, (((p.num data).2.num data).2.num data).1, ((((p.num data).2.num data).2.num data).2.num data).1, (((((p.num data).2.num data).2.num data).2.num data).2.num data).1, ((p.five data).each data (FS.num data)).1⟩, ((p.five data).each data (FS.num data)).2) := rfl
                  have e8 : (((((p.num data).2.num data).2.num data).2.num data).2.num data).2 = p.five data := rfl
                  rw [e8] at v5
                  simp only [e8]
                  have e9 : (p.five data).each data (FS.num data) = eachF (FS.num data) ((p.five data).many data).1.toNat ((p.five data).many data).2 := rfl
                  rw [e9] at hins
                  have hm8 := FS.many_le (data := data) v5
                  clear d1 d2 d3 d4 d5 d6 c1 c2 c3 c4 c5 c6 v1 v2 v3 v4 e8 e9
                  generalize (p.five data).many data = m8 at *
                  generalize (p.num data).1 = i1 at *
                  generalize ((p.num data).2.num data).1 = i2 at *
                  generalize (((p.num data).2.num data).2.num data).1 = i3 at *
                  generalize ((((p.num data).2.num data).2.num data).2.num data).1 = i4 at *
                  generalize (((((p.num data).2.num data).2.num data).2.num data).2.num data).1 = i5 at *
                  obtain ⟨n8, q9⟩ := m8
                  simp only at hm8 hins
                  dsimp only
                  obtain ⟨N8, rfl⟩ := Int.eq_ofNat_of_zero_le hm8.2
                  simp only [Int.toNat_natCast] at hm8 hins
                  refine go_wkC [(2, .ptr H.length 0 0 0), (4, .ptr (H.length + 1) 0 0 0), (5, .ptr (H.length + 2) 0 0 0), (0, .str data), (6, .int .i64 N2), (8, .int .i64 k), (9, .ptr (H.length + 6) 0 0 0), (10, .int .i64 N6), (11, .int .i64 j), (12, .ptr (H.length + 8) 0 0 0), (13, .int .i64 N8), (14, .int .i64 0)] (H ++ [.cells 0 4 [.agg [.nil, .nil, .nil, .int .i64 0]], .cells 0 3 [.agg [.str data, .int .i64 q9.at_, .bool q9.bad]], .cells 0 4 [.agg [.sl (H.length + 3) cs.length 0 cs.length, .sl (H.length + 4) fs.length 0 fs.length, .sl (H.length + 5) 0 0 0, .int .i64 0]], .cells cs.length 4 (consL cs), .cells fs.length 7 (funsL fs), .cells 0 3 [], .cells 0 7 [.agg [.str nm, .bool tb, .bool ub, .int .i64 xa, .int .i64 xb, .int .i64 xc, .sl (H.length + 7) is.length 0 is.length]], .cells is.length 6 (insL is), .cells 0 6 [.agg [.int .i64 i1, .int .i64 i2, .int .i64 i3, .int .i64 i4, .int .i64 i5, .sl (H.length + 9) 0 0 0]], .cells 0 1 []]) ?_ ?_
                  · refine wk_ghostE (id := H.length + 8) (i := 0) (j := 5) 1 ((get_app ..).trans rfl) rfl rfl ?_ (by simp [subEnv, look])
                    rw [set_app, List.append_assoc]
                    simp
                  have hq9 : q9.at_ ≤ data.length := by omega
                  refine go_cut (fun _ : Unit => [(2, .ptr H.length 0 0 0), (4, .ptr (H.length + 1) 0 0 0), (5, .ptr (H.length + 2) 0 0 0), (0, .str data), (6, .int .i64 N2), (8, .int .i64 k), (9, .ptr (H.length + 6) 0 0 0), (10, .int .i64 N6), (11, .int .i64 j), (12, .ptr (H.length + 8) 0 0 0)]) (fun _ => H ++ [.cells 0 4 [.agg [.nil, .nil, .nil, .int .i64 0]], .cells 0 3 [.agg [.str data, .int .i64 (eachF (FS.num data) N8 q9).2.at_, .bool (eachF (FS.num data) N8 q9).2.bad]], .cells 0 4 [.agg [.sl (H.length + 3) cs.length 0 cs.length, .sl (H.length + 4) fs.length 0 fs.length, .sl (H.length + 5) 0 0 0, .int .i64 0]], .cells cs.length 4 (consL cs), .cells fs.length 7 (funsL fs), .cells 0 3 [], .cells 0 7 [.agg [.str nm, .bool tb, .bool ub, .int .i64 xa, .int .i64 xb, .int .i64 xc, .sl (H.length + 7) is.length 0 is.length]], .cells is.length 6 (insL is), .cells 0 6 [.agg [.int .i64 i1, .int .i64 i2, .int .i64 i3, .int .i64 i4, .int .i64 i5, .list 1 ((eachF (FS.num data) N8 q9).1.map (.int .i64))]]]) (fun _ => True) (fun K6 hK6 => ?_) (fun _ _ => ?_)
                  · (refine run ?_; repeat' (first | with_reducible exact trivial | ((with_reducible apply Fork.mk) <;> intro hb) | with_reducible apply Two.mk))
                    refine go_loop (fun r : Nat => [(2, .ptr H.length 0 0 0), (4, .ptr (H.length + 1) 0 0 0), (5, .ptr (H.length + 2) 0 0 0), (0, .str data), (6, .int .i64 N2), (8, .int .i64 k), (9, .ptr (H.length + 6) 0 0 0), (10, .int .i64 N6), (11, .int .i64 j), (12, .ptr (H.length + 8) 0 0 0), (13, .int .i64 N8), (14, .int .i64 r)]) (fun r => H ++ [.cells 0 4 [.agg [.nil, .nil, .nil, .int .i64 0]], .cells 0 3 [.agg [.str data, .int .i64 (eachF (FS.num data) r q9).2.at_, .bool (eachF (FS.num data) r q9).2.bad]], .cells 0 4 [.agg [.sl (H.length + 3) cs.length 0 cs.length, .sl (H.length + 4) fs.length 0 fs.length, .sl (H.length + 5) 0 0 0, .int .i64 0]], .cells cs.length 4 (consL cs), .cells fs.length 7 (funsL fs), .cells 0 3 [], .cells 0 7 [.agg [.str nm, .bool tb, .bool ub, .int .i64 xa, .int .i64 xb, .int .i64 xc, .sl (H.length + 7) is.length 0 is.length]], .cells is.length 6 (insL is), .cells 0 6 [.agg [.int .i64 i1, .int .i64 i2, .int .i64 i3, .int .i64 i4, .int .i64 i5, .sl (H.length + 9) (eachF (FS.num data) r q9).1.length 0 (eachF (FS.num data) r q9).1.length]], .cells (eachF (FS.num data) r q9).1.length 1 ((eachF (FS.num data) r q9).1.map (.int .i64))]) (fun r => N8 - r) (fun r => r ≤ N8) 0 (Nat.zero_le _) (Wk.sub (by simp [subEnv, look])) ?_
                    rintro K7 r hr hK7
                    have hstep3 := eachF_step (f := FS.num data) N8 q9 r
                    have hstop3 := eachF_stop (f := FS.num data) N8 q9 r hr
                    have hsz3 := eachF_size (f := FS.num data) r q9
                    have hle3 := eachF_le (d := data) (f := FS.num data) (fun _ h => FS.num_le h) r q9 hq9
                    generalize hT3 : eachF (FS.num data) r q9 = T3 at *
                    obtain ⟨ns, q'⟩ := T3
                    simp only at hstep3 hstop3 hsz3 hle3
                    dsimp only
                    have hml3 : (ns.map (SV.int .i64)).length = ns.length := List.length_map ..
                    have hwk3 : ∀ env : Env, subEnvF ((H ++ [.cells 0 4 [.agg [.nil, .nil, .nil, .int .i64 0]], .cells 0 3 [.agg [.str data, .int .i64 q'.at_, .bool q'.bad]], .cells 0 4 [.agg [.sl (H.length + 3) cs.length 0 cs.length, .sl (H.length + 4) fs.length 0 fs.length, .sl (H.length + 5) 0 0 0, .int .i64 0]], .cells cs.length 4 (consL cs), .cells fs.length 7 (funsL fs), .cells 0 3 [], .cells 0 7 [.agg [.str nm, .bool tb, .bool ub, .int .i64 xa, .int .i64 xb, .int .i64 xc, .sl (H.length + 7) is.length 0 is.length]], .cells is.length 6 (insL is)]) ++ [.cells 0 6 [.agg [.int .i64 i1, .int .i64 i2, .int .i64 i3, .int .i64 i4, .int .i64 i5, .sl (H.length + 9) ns.length 0 ns.length]], .cells ns.length 1 (ns.map (.int .i64))]) (H.length + 8) [(H.length + 8, 0)] [(2, .ptr H.length 0 0 0), (4, .ptr (H.length + 1) 0 0 0), (5, .ptr (H.length + 2) 0 0 0), (0, .str data), (6, .int .i64 N2), (8, .int .i64 k), (9, .ptr (H.length + 6) 0 0 0), (10, .int .i64 N6), (11, .int .i64 j), (12, .ptr (H.length + 8) 0 0 0)] env → Wk G (216) C ⟨env, H ++ [.cells 0 4 [.agg [.nil, .nil, .nil, .int .i64 0]], .cells 0 3 [.agg [.str data, .int .i64 q'.at_, .bool q'.bad]], .cells 0 4 [.agg [.sl (H.length + 3) cs.length 0 cs.length, .sl (H.length + 4) fs.length 0 fs.length, .sl (H.length + 5) 0 0 0, .int .i64 0]], .cells cs.length 4 (consL cs), .cells fs.length 7 (funsL fs), .cells 0 3 [], .cells 0 7 [.agg [.str nm, .bool tb, .bool ub, .int .i64 xa, .int .i64 xb, .int .i64 xc, .sl (H.length + 7) is.length 0 is.length]], .cells is.length 6 (insL is), .cells 0 6 [.agg [.int .i64 i1, .int .i64 i2, .int .i64 i3, .int .i64 i4, .int .i64 i5, .sl (H.length + 9) ns.length 0 ns.length]], .cells ns.length 1 (ns.map (.int .i64))]⟩ ⟨[(2, .ptr H.length 0 0 0), (4, .ptr (H.length + 1) 0 0 0), (5, .ptr (H.length + 2) 0 0 0), (0, .str data), (6, .int .i64 N2), (8, .int .i64 k), (9, .ptr (H.length + 6) 0 0 0), (10, .int .i64 N6), (11, .int .i64 j), (12, .ptr (H.length + 8) 0 0 0)], H ++ [.cells 0 4 [.agg [.nil, .nil, .nil, .int .i64 0]], .cells 0 3 [.agg [.str data, .int .i64 q'.at_, .bool q'.bad]], .cells 0 4 [.agg [.sl (H.length + 3) cs.length 0 cs.length, .sl (H.length + 4) fs.length 0 fs.length, .sl (H.length + 5) 0 0 0, .int .i64 0]], .cells cs.length 4 (consL cs), .cells fs.length 7 (funsL fs), .cells 0 3 [], .cells 0 7 [.agg [.str nm, .bool tb, .bool ub, .int .i64 xa, .int .i64 xb, .int .i64 xc, .sl (H.length + 7) is.length 0 is.length]], .cells is.length 6 (insL is), .cells 0 6 [.agg [.int .i64 i1, .int .i64 i2, .int .i64 i3, .int .i64 i4, .int .i64 i5, .list 1 (ns.map (.int .i64))]]]⟩ := by
                      intro env he
                      rw [app82, app81]
                      exact wkT (n0 := H.length + 8) [(H.length + 8, 0)] hG hB (by rw [hC']; omega) (eight_closedL hcl data _ _ _ _ _ _ _ _ _ _ _ _ _ _ (fun n => consL_under n cs) (fun n => funsL_under n fs) (fun _ => rfl) (fun n => insL_under n is) _ _ _ _ _ _) (by simp) (keepF (by simp) 6 1 [.int .i64 i1, .int .i64 i2, .int .i64 i3, .int .i64 i4, .int .i64 i5] hml3.symm (ints_under _ _) rfl) (by simp) he
                    cases hbad3 : q'.bad with
                    | true =>
                      rw [hstop3 hbad3] at hK6
                      simp only [hbad3] at hK6 hwk3
                      (refine run ?_; repeat' (first | with_reducible exact trivial | ((with_reducible apply Fork.mk) <;> intro hb) | with_reducible apply Two.mk))
                      exact hK6 _ _ () trivial (hwk3 _ (by exact frzS))
                    | false =>
                      rw [hbad3] at hstep3
                      simp only [hbad3] at hwk3
                      rcases Nat.lt_or_ge r N8 with hlt3 | hge3
                      · obtain ⟨u1, u2⟩ := hstep3 hlt3 rfl
                        have c1 := fun L => fnumL G hG data hl q' hle3 H (.cells 0 4 [.agg [.nil, .nil, .nil, .int .i64 0]]) L
                        rw [hbad3] at c1
                        have X := And.intro noX hml3
                        (refine run ?_; repeat' (first | with_reducible exact trivial | ((with_reducible apply Fork.mk) <;> intro hb) | with_reducible apply Two.mk))
                        refine hK7 _ _ (r + 1) (by omega) (by omega) ?_
                        have ec3 : (ns ++ [(FS.num data q').1]).map (SV.int .i64) = ns.map (.int .i64) ++ [SV.int .i64 (FS.num data q').1] := by simp
                        rw [u1, u2, ec3, List.length_append, List.length_singleton]
                        exact Wk.sub (by simp [subEnv, look])
                      · have : r = N8 := by omega
                        subst this
                        have X := And.intro noX (And.intro hml3 (Int.lt_irrefl (r : Int)))
                        rw [hT3] at hK6
                        simp only [hbad3] at hK6
                        (refine run ?_; repeat' (first | with_reducible exact trivial | ((with_reducible apply Fork.mk) <;> intro hb) | with_reducible apply Two.mk))
                        exact hK6 _ _ () trivial (hwk3 _ (by exact frzS))
                  · (refine run ?_; repeat' (first | with_reducible exact trivial | ((with_reducible apply Fork.mk) <;> intro hb) | with_reducible apply Two.mk))
                    refine hK5 _ _ (j + 1) (by omega) (by omega) ?_
                    have ec2 : insL (is ++ [(FS.ins data p).1]) = insL is ++ [SV.agg (FS.ins data p).1.cells] := by simp [insL]
                    rw [s1', s2', ec2, List.length_append, List.length_singleton, hins]
                    simp only [Ins.cells]
                    rw [app81]
                    exact wkD (n0 := H.length + 8) hG hB (by rw [hC']; omega) (eight_closedL hcl data _ _ _ _ _ _ _ _ _ _ _ _ _ _ (fun n => consL_under n cs) (fun n => funsL_under n fs) (fun _ => rfl) (fun n => by simp only [SV.underL_append, insL_under, SV.underL, SV.under, ints_under, Bool.and_self]) _ _ _ _ _ _) (by simp)
                · have : j = N6 := by omega
                  subst this
                  have X := And.intro noX (And.intro hml2 (Int.lt_irrefl (j : Int)))
                  rw [hT2] at hK4
                  simp only [hbad2] at hK4
                  (refine run ?_; repeat' (first | with_reducible exact trivial | ((with_reducible apply Fork.mk) <;> intro hb) | with_reducible apply Two.mk))
                  exact hK4 _ _ () trivial (hwk _ (by exact frzS))
            · have X := And.intro noX hml
              rw [hfn] at hK3
              simp only [Fun.cells] at hK3
              (refine run ?_; repeat' (first | with_reducible exact trivial | ((with_reducible apply Fork.mk) <;> intro hb) | with_reducible apply Two.mk))
              refine hK3 _ _ () trivial ?_
              rw [app61]
              exact wkD (n0 := H.length + 6) hG hB (by rw [hC']; omega) (six_closedL hcl data _ _ _ _ _ _ _ _ _ _ _ (fun n => consL_under n cs) (fun n => by simp only [SV.underL_append, funsL_under, SV.underL, SV.under, insL_under, Bool.and_self]) (fun _ => rfl)) (by simp)
          · have ec : funsL (fs ++ [(FS.fn data q).1]) = funsL fs ++ [SV.agg (FS.fn data q).1.cells] := by simp [funsL]
            (refine run ?_; repeat' (first | with_reducible exact trivial | ((with_reducible apply Fork.mk) <;> intro hb) | with_reducible apply Two.mk))
            refine hK2 _ _ (k + 1) (by omega) (by omega) ?_
            rw [s1, s2, ec, List.length_append, List.length_singleton]
            exact Wk.sub (by simp [subEnv, look])
        · have : k = N2 := by omega
          subst this
          have X := And.intro noX (And.intro hml (Int.lt_irrefl (k : Int)))
          rw [hT] at hK
          simp only [hbad] at hK
          (refine run ?_; repeat' (first | with_reducible exact trivial | ((with_reducible apply Fork.mk) <;> intro hb) | with_reducible apply Two.mk))
          exact hK _ _ () trivial (Wk.sub (by simp [subEnv, look]))
    have hfs := eachF_size (f := FS.fn data) N2 q2
    have hqb := eachF_le (d := data) (f := FS.fn data) hqf N2 q2 hq2'
    have hT2 : FS.each data (FS.fn data) qa = eachF (FS.fn data) N2 q2 := by unfold FS.each; rw [hq2]; rfl
    generalize eachF (FS.fn data) N2 q2 = T2 at *
    obtain ⟨fs, qb⟩ := T2
    simp only at hfs hqb
    dsimp only
    have c1 := fun L => fmanyL G hG data hl qb hqb H (.cells 0 4 [.agg [.nil, .nil, .nil, .int .i64 0]]) L
    have hm3 := FS.many_le (data := data) hqb
    generalize hq3 : qb.many data = m3 at *
    obtain ⟨n3, q3⟩ := m3
    simp only at hm3 c1
    obtain ⟨N3, rfl⟩ := Int.eq_ofNat_of_zero_le hm3.2
    simp only [Int.toNat_natCast] at hm3
    clear X
    have X := noX
    (refine runB ?_; repeat' (first | with_reducible exact trivial | ((with_reducible apply Fork.mk) <;> intro hb) | with_reducible apply Two.mk))
    clear c1
    have hq3' : q3.at_ ≤ data.length := by omega
    have hmf := funsL_len fs
    refine go_cut (fun _ : Unit => [(2, .ptr H.length 0 0 0), (4, .ptr (H.length + 1) 0 0 0), (5, .ptr (H.length + 2) 0 0 0), (0, .str data)]) (fun _ => H ++ [.cells 0 4 [.agg [.nil, .nil, .nil, .int .i64 0]], .cells 0 3 [.agg [.str data, .int .i64 (eachF (FS.glb data) N3 q3).2.at_, .bool (eachF (FS.glb data) N3 q3).2.bad]], .cells 0 4 [.agg [.sl (H.length + 3) cs.length 0 cs.length, .sl (H.length + 4) fs.length 0 fs.length, .sl (H.length + 5) (eachF (FS.glb data) N3 q3).1.length 0 (eachF (FS.glb data) N3 q3).1.length, .int .i64 0]], .cells cs.length 4 (consL cs), .cells fs.length 7 (funsL fs), .cells (eachF (FS.glb data) N3 q3).1.length 3 (glbsL (eachF (FS.glb data) N3 q3).1)]) (fun _ => True) (fun K hK => ?_) (fun _ _ => ?_)
    · (refine run ?_; repeat' (first | with_reducible exact trivial | ((with_reducible apply Fork.mk) <;> intro hb) | with_reducible apply Two.mk))
      refine go_loop (fun k : Nat => [(2, .ptr H.length 0 0 0), (4, .ptr (H.length + 1) 0 0 0), (5, .ptr (H.length + 2) 0 0 0), (0, .str data), (6, .int .i64 N3), (15, .int .i64 k)]) (fun k => H ++ [.cells 0 4 [.agg [.nil, .nil, .nil, .int .i64 0]], .cells 0 3 [.agg [.str data, .int .i64 (eachF (FS.glb data) k q3).2.at_, .bool (eachF (FS.glb data) k q3).2.bad]], .cells 0 4 [.agg [.sl (H.length + 3) cs.length 0 cs.length, .sl (H.length + 4) fs.length 0 fs.length, .sl (H.length + 5) (eachF (FS.glb data) k q3).1.length 0 (eachF (FS.glb data) k q3).1.length, .int .i64 0]], .cells cs.length 4 (consL cs), .cells fs.length 7 (funsL fs), .cells (eachF (FS.glb data) k q3).1.length 3 (glbsL (eachF (FS.glb data) k q3).1)]) (fun k => N3 - k) (fun k => k ≤ N3) 0 (Nat.zero_le _) (Wk.sub (by simp [subEnv, look])) ?_
      rintro K2 k hk hK2
      have hstep := eachF_step (f := FS.glb data) N3 q3 k
      have hstop := eachF_stop (f := FS.glb data) N3 q3 k hk
      have hsz := eachF_size (f := FS.glb data) k q3
      have hle := eachF_le (d := data) (f := FS.glb data) (glb_le data) k q3 hq3'
      generalize hT : eachF (FS.glb data) k q3 = T at *
      obtain ⟨gs, q⟩ := T
      simp only at hstep hstop hsz hle
      dsimp only
      have hml := glbsL_len gs
      cases hbad : q.bad with
      | true =>
        rw [hstop hbad] at hK
        simp only [hbad] at hK
        (refine run ?_; repeat' (first | with_reducible exact trivial | ((with_reducible apply Fork.mk) <;> intro hb) | with_reducible apply Two.mk))
        exact hK _ _ () trivial (Wk.sub (by simp [subEnv, look]))
      | false =>
        rw [hbad] at hstep
        rcases Nat.lt_or_ge k N3 with hlt | hge
        · obtain ⟨s1, s2⟩ := hstep hlt rfl
          have d1 := fun L => fnumL G hG data hl q hle H (.cells 0 4 [.agg [.nil, .nil, .nil, .int .i64 0]]) L
          have v1 := FS.num_le (data := data) hle
          have d2 := fun L => fnumL G hG data hl _ v1 H (.cells 0 4 [.agg [.nil, .nil, .nil, .int .i64 0]]) L
          have v2 := FS.num_le v1
          have d3 := fun L => fmanyL G hG data hl _ v2 H (.cells 0 4 [.agg [.nil, .nil, .nil, .int .i64 0]]) L
          rw [hbad] at d1
          have X := And.intro noX hml
          (refine runB ?_; repeat' (first | with_reducible exact trivial | ((with_reducible apply Fork.mk) <;> intro hb) | with_reducible apply Two.mk))
          refine go_block ?_
          have c1 := d1
          have c2 := d2
          have c3 := d3
          (refine runB ?_; repeat' (first | with_reducible exact trivial | ((with_reducible apply Fork.mk) <;> intro hb) | with_reducible apply Two.mk))
          have hglb : FS.glb data q = (⟨(q.num data).1, ((q.num data).2.num data).1, (((q.num data).2.num data).2.each data (FS.ref data)).1⟩, (((q.num data).2.num data).2.each data (FS.ref data)).2) := rfl
          have e9 : ((q.num data).2.num data).2.each data (FS.ref data) = eachF (FS.ref data) ((((q.num data).2.num data).2).many data).1.toNat ((((q.num data).2.num data).2).many data).2 := rfl
          rw [e9] at hglb
          have hm5 := FS.many_le (data := data) v2
          clear d1 d2 d3 c1 c2 c3 v1 e9
          generalize ((q.num data).2.num data).2.many data = m5 at *
          generalize (q.num data).1 = gk at *
          generalize ((q.num data).2.num data).1 = gn at *
          obtain ⟨n5, q5⟩ := m5
          simp only at hm5 hglb
          dsimp only
          obtain ⟨N5, rfl⟩ := Int.eq_ofNat_of_zero_le hm5.2
          simp only [Int.toNat_natCast] at hm5 hglb
          refine go_wkC [(2, .ptr H.length 0 0 0), (4, .ptr (H.length + 1) 0 0 0), (5, .ptr (H.length + 2) 0 0 0), (0, .str data), (6, .int .i64 N3), (15, .int .i64 k), (16, .ptr (H.length + 6) 0 0 0), (17, .int .i64 N5), (18, .int .i64 0)] (H ++ [.cells 0 4 [.agg [.nil, .nil, .nil, .int .i64 0]], .cells 0 3 [.agg [.str data, .int .i64 q5.at_, .bool q5.bad]], .cells 0 4 [.agg [.sl (H.length + 3) cs.length 0 cs.length, .sl (H.length + 4) fs.length 0 fs.length, .sl (H.length + 5) gs.length 0 gs.length, .int .i64 0]], .cells cs.length 4 (consL cs), .cells fs.length 7 (funsL fs), .cells gs.length 3 (glbsL gs), .cells 0 3 [.agg [.int .i64 gk, .int .i64 gn, .sl (H.length + 7) 0 0 0]], .cells 0 2 []]) ?_ ?_
          · refine wk_ghostE (id := H.length + 6) (i := 0) (j := 2) 2 ((get_app ..).trans rfl) rfl rfl ?_ (by simp [subEnv, look])
            rw [set_app, List.append_assoc]
            simp
          have hq5 : q5.at_ ≤ data.length := by omega
          have hre : ∀ q : FS, q.at_ ≤ data.length → (FS.ref data q).2.at_ ≤ data.length := fun _ h => FS.num_le (FS.num_le h)
          refine go_cut (fun _ : Unit => [(2, .ptr H.length 0 0 0), (4, .ptr (H.length + 1) 0 0 0), (5, .ptr (H.length + 2) 0 0 0), (0, .str data), (6, .int .i64 N3), (15, .int .i64 k), (16, .ptr (H.length + 6) 0 0 0)]) (fun _ => H ++ [.cells 0 4 [.agg [.nil, .nil, .nil, .int .i64 0]], .cells 0 3 [.agg [.str data, .int .i64 (eachF (FS.ref data) N5 q5).2.at_, .bool (eachF (FS.ref data) N5 q5).2.bad]], .cells 0 4 [.agg [.sl (H.length + 3) cs.length 0 cs.length, .sl (H.length + 4) fs.length 0 fs.length, .sl (H.length + 5) gs.length 0 gs.length, .int .i64 0]], .cells cs.length 4 (consL cs), .cells fs.length 7 (funsL fs), .cells gs.length 3 (glbsL gs), .cells 0 3 [.agg [.int .i64 gk, .int .i64 gn, .list 2 ((eachF (FS.ref data) N5 q5).1.map encR)]]]) (fun _ => True) (fun K6 hK6 => ?_) (fun _ _ => ?_)
          · (refine run ?_; repeat' (first | with_reducible exact trivial | ((with_reducible apply Fork.mk) <;> intro hb) | with_reducible apply Two.mk))
            refine go_loop (fun r : Nat => [(2, .ptr H.length 0 0 0), (4, .ptr (H.length + 1) 0 0 0), (5, .ptr (H.length + 2) 0 0 0), (0, .str data), (6, .int .i64 N3), (15, .int .i64 k), (16, .ptr (H.length + 6) 0 0 0), (17, .int .i64 N5), (18, .int .i64 r)]) (fun r => H ++ [.cells 0 4 [.agg [.nil, .nil, .nil, .int .i64 0]], .cells 0 3 [.agg [.str data, .int .i64 (eachF (FS.ref data) r q5).2.at_, .bool (eachF (FS.ref data) r q5).2.bad]], .cells 0 4 [.agg [.sl (H.length + 3) cs.length 0 cs.length, .sl (H.length + 4) fs.length 0 fs.length, .sl (H.length + 5) gs.length 0 gs.length, .int .i64 0]], .cells cs.length 4 (consL cs), .cells fs.length 7 (funsL fs), .cells gs.length 3 (glbsL gs), .cells 0 3 [.agg [.int .i64 gk, .int .i64 gn, .sl (H.length + 7) (eachF (FS.ref data) r q5).1.length 0 (eachF (FS.ref data) r q5).1.length]], .cells (eachF (FS.ref data) r q5).1.length 2 ((eachF (FS.ref data) r q5).1.map encR)]) (fun r => N5 - r) (fun r => r ≤ N5) 0 (Nat.zero_le _) (Wk.sub (by simp [subEnv, look])) ?_
            rintro K7 r hr hK7
            have hstep3 := eachF_step (f := FS.ref data) N5 q5 r
            have hstop3 := eachF_stop (f := FS.ref data) N5 q5 r hr
            have hsz3 := eachF_size (f := FS.ref data) r q5
            have hle3 := eachF_le (d := data) (f := FS.ref data) hre r q5 hq5
            generalize hT3 : eachF (FS.ref data) r q5 = T3 at *
            obtain ⟨ns, q'⟩ := T3
            simp only at hstep3 hstop3 hsz3 hle3
            dsimp only
            have hml3 : (ns.map encR).length = ns.length := List.length_map ..
            have hwk3 : ∀ env : Env, subEnvF ((H ++ [.cells 0 4 [.agg [.nil, .nil, .nil, .int .i64 0]], .cells 0 3 [.agg [.str data, .int .i64 q'.at_, .bool q'.bad]], .cells 0 4 [.agg [.sl (H.length + 3) cs.length 0 cs.length, .sl (H.length + 4) fs.length 0 fs.length, .sl (H.length + 5) gs.length 0 gs.length, .int .i64 0]], .cells cs.length 4 (consL cs), .cells fs.length 7 (funsL fs), .cells gs.length 3 (glbsL gs)]) ++ [.cells 0 3 [.agg [.int .i64 gk, .int .i64 gn, .sl (H.length + 7) ns.length 0 ns.length]], .cells ns.length 2 (ns.map encR)]) (H.length + 6) [(H.length + 6, 0)] [(2, .ptr H.length 0 0 0), (4, .ptr (H.length + 1) 0 0 0), (5, .ptr (H.length + 2) 0 0 0), (0, .str data), (6, .int .i64 N3), (15, .int .i64 k), (16, .ptr (H.length + 6) 0 0 0)] env → Wk G (216) C ⟨env, H ++ [.cells 0 4 [.agg [.nil, .nil, .nil, .int .i64 0]], .cells 0 3 [.agg [.str data, .int .i64 q'.at_, .bool q'.bad]], .cells 0 4 [.agg [.sl (H.length + 3) cs.length 0 cs.length, .sl (H.length + 4) fs.length 0 fs.length, .sl (H.length + 5) gs.length 0 gs.length, .int .i64 0]], .cells cs.length 4 (consL cs), .cells fs.length 7 (funsL fs), .cells gs.length 3 (glbsL gs), .cells 0 3 [.agg [.int .i64 gk, .int .i64 gn, .sl (H.length + 7) ns.length 0 ns.length]], .cells ns.length 2 (ns.map encR)]⟩ ⟨[(2, .ptr H.length 0 0 0), (4, .ptr (H.length + 1) 0 0 0), (5, .ptr (H.length + 2) 0 0 0), (0, .str data), (6, .int .i64 N3), (15, .int .i64 k), (16, .ptr (H.length + 6) 0 0 0)], H ++ [.cells 0 4 [.agg [.nil, .nil, .nil, .int .i64 0]], .cells 0 3 [.agg [.str data, .int .i64 q'.at_, .bool q'.bad]], .cells 0 4 [.agg [.sl (H.length + 3) cs.length 0 cs.length, .sl (H.length + 4) fs.length 0 fs.length, .sl (H.length + 5) gs.length 0 gs.length, .int .i64 0]], .cells cs.length 4 (consL cs), .cells fs.length 7 (funsL fs), .cells gs.length 3 (glbsL gs), .cells 0 3 [.agg [.int .i64 gk, .int .i64 gn, .list 2 (ns.map encR)]]]⟩ := by
              intro env he
              rw [app62, app61]
              exact wkT (n0 := H.length + 6) [(H.length + 6, 0)] hG hB (by rw [hC']; omega) (six_closedL hcl data _ _ _ _ _ _ _ _ _ _ _ (fun n => consL_under n cs) (fun n => funsL_under n fs) (fun n => glbsL_under n gs)) (by simp) (keepF (by simp) 3 2 [.int .i64 gk, .int .i64 gn] hml3.symm (SV.underL_map fun _ _ => rfl) rfl) (by simp) he
            cases hbad3 : q'.bad with
            | true =>
              rw [hstop3 hbad3] at hK6
              simp only [hbad3] at hK6 hwk3
              (refine run ?_; repeat' (first | with_reducible exact trivial | ((with_reducible apply Fork.mk) <;> intro hb) | with_reducible apply Two.mk))
              exact hK6 _ _ () trivial (hwk3 _ (by exact frzS))
            | false =>
              rw [hbad3] at hstep3
              simp only [hbad3] at hwk3
              rcases Nat.lt_or_ge r N5 with hlt3 | hge3
              · obtain ⟨u1, u2⟩ := hstep3 hlt3 rfl
                have c1 := fun L => fnumL G hG data hl q' hle3 H (.cells 0 4 [.agg [.nil, .nil, .nil, .int .i64 0]]) L
                have c2 := fun L => fnumL G hG data hl _ (FS.num_le hle3) H (.cells 0 4 [.agg [.nil, .nil, .nil, .int .i64 0]]) L
                rw [hbad3] at c1
                have X := And.intro noX hml3
                (refine run ?_; repeat' (first | with_reducible exact trivial | ((with_reducible apply Fork.mk) <;> intro hb) | with_reducible apply Two.mk))
                refine hK7 _ _ (r + 1) (by omega) (by omega) ?_
                have ec3 : (ns ++ [(FS.ref data q').1]).map encR = ns.map encR ++ [SV.agg [.int .i64 (FS.num data q').1, .int .i64 (FS.num data (FS.num data q').2).1]] := by simp [encR, FS.ref]
                rw [u1, u2, ec3, List.length_append, List.length_singleton]
                exact Wk.sub (by simp [subEnv, look])
              · have : r = N5 := by omega
                subst this
                have X := And.intro noX (And.intro hml3 (Int.lt_irrefl (r : Int)))
                rw [hT3] at hK6
                simp only [hbad3] at hK6
                (refine run ?_; repeat' (first | with_reducible exact trivial | ((with_reducible apply Fork.mk) <;> intro hb) | with_reducible apply Two.mk))
                exact hK6 _ _ () trivial (hwk3 _ (by exact frzS))
          · (refine run ?_; repeat' (first | with_reducible exact trivial | ((with_reducible apply Fork.mk) <;> intro hb) | with_reducible apply Two.mk))
            refine hK2 _ _ (k + 1) (by omega) (by omega) ?_
            have ec2 : glbsL (gs ++ [(FS.glb data q).1]) = glbsL gs ++ [SV.agg (FS.glb data q).1.cells] := by simp [glbsL]
            rw [s1, s2, ec2, List.length_append, List.length_singleton, hglb]
            simp only [Glb.cells]
            rw [app61]
            exact wkD (n0 := H.length + 6) hG hB (by rw [hC']; omega) (six_closedL hcl data _ _ _ _ _ _ _ _ _ _ _ (fun n => consL_under n cs) (fun n => funsL_under n fs) (fun n => by
              have hr : ∀ l : List (Int × Int), SV.underL n (l.map encR) = true := fun l => SV.underL_map fun _ _ => rfl
              simp only [SV.underL_append, glbsL_under, SV.underL, SV.under, hr, Bool.and_self])) (by simp)
        · have : k = N3 := by omega
          subst this
          have X := And.intro noX (And.intro hml (Int.lt_irrefl (k : Int)))
          rw [hT] at hK
          simp only [hbad] at hK
          (refine run ?_; repeat' (first | with_reducible exact trivial | ((with_reducible apply Fork.mk) <;> intro hb) | with_reducible apply Two.mk))
          exact hK _ _ () trivial (Wk.sub (by simp [subEnv, look]))
    have hgs := eachF_size (f := FS.glb data) N3 q3
    have hqc := eachF_le (d := data) (f := FS.glb data) (glb_le data) N3 q3 hq3'
    have hT3 : FS.each data (FS.glb data) qb = eachF (FS.glb data) N3 q3 := by unfold FS.each; rw [hq3]; rfl
    have hk3 : ∀ g ∈ (eachF (FS.glb data) N3 q3).1, g.args.length < 1099511627776 := fun g hg => by
      obtain ⟨q', h1, rfl⟩ := eachF_mem (glb_le data) _ _ hq3' g hg
      have := FS.glb_B h1
      omega
    generalize eachF (FS.glb data) N3 q3 = T3 at *
    obtain ⟨gs, qc⟩ := T3
    simp only at hgs hqc hk3
    dsimp only
    have himg : FS.img data ⟨4, false⟩ = (⟨cs, fs, gs, (qc.num data).1⟩, (qc.num data).2) := by
      unfold FS.img
      rw [hT1]
      dsimp only
      rw [hT2]
      dsimp only
      rw [hT3]
    have e1 : refD data = if (FS.img data ⟨4, false⟩).2.bad = true ∨ (FS.img data ⟨4, false⟩).2.at_ ≠ data.length ∨ chkS (FS.img data ⟨4, false⟩).1 65536 ≠ 0 then (img0, 171) else ((FS.img data ⟨4, false⟩).1, 0) := by unfold refD; rw [if_neg hm]
    rw [himg] at e1
    simp only at e1
    rw [e1] at hR
    have hcall := rcheck_ok G hG ⟨cs, fs, gs, (qc.num data).1⟩ 65536 ⟨by show cs.length < _; omega, by show fs.length < _; omega, by show gs.length < _; omega, hk2, hk3⟩
    clear X
    have X := noX
    (refine run ?_; repeat' (first | with_reducible exact trivial | ((with_reducible apply Fork.mk) <;> intro hb) | with_reducible apply Two.mk))
    refine go_wkO [(2, .ptr H.length 0 0 0), (4, .ptr (H.length + 1) 0 0 0), (5, .ptr (H.length + 2) 0 0 0), (0, .str data), (193, .ptr (H.length + 1) 0 0 0)] (H ++ [.cells 0 4 [.agg [.nil, .nil, .nil, .int .i64 0]], .cells 0 3 [.agg [.str data, .int .i64 qc.at_, .bool qc.bad]], .cells 0 4 [.agg [.list 4 (consL cs), .list 7 (funsL fs), .list 3 (glbsL gs), .int .i64 0]]]) (wkS (n0 := H.length) [(H.length, 0), (H.length + 1, 0), (H.length + 2, 0)] hG hB hC' hcl (hk := keepR H data qc cs fs gs)) ?_
    refine callS (fnumL G hG data hl qc hqc H (.cells 0 4 [.agg [.nil, .nil, .nil, .int .i64 0]]) _) ?_
    rintro r H' ⟨rfl, rfl⟩
    generalize qc.num data = T at *
    obtain ⟨mn, ⟨ea, eb⟩⟩ := T
    simp only at e1 hcall hR
    dsimp only
    have c1 : ∀ H, ACall Tryd.prog G 12 [.agg [.list 4 (consL cs), .list 7 (funsL fs), .list 3 (glbsL gs), .int .i64 mn], .int .i64 65536] H _ := hcall
    (refine run ?_; repeat' (first | with_reducible exact trivial | ((with_reducible apply Fork.mk) <;> intro hb) | with_reducible apply Two.mk))
    · have hb2 : eb = true ∨ ea ≠ data.length := by
        rcases (by simpa only [Bool.or_eq_true] using hb : eb = true ∨ (decide ¬(ea : Int) = (data.length : Int)) = true) with h | h
        · exact .inl h
        · exact .inr (fun e => (of_decide_eq_true h) (by rw [e]))
      refine finS hR hC' hcl (y := .tuple [.agg [.list 4 [], .list 7 [], .list 3 [], .int .i64 0], .int .i64 171]) (frzImg0 _ _ _) ⟨rfl, ?_⟩
      rw [if_pos (by rcases hb2 with h | h; exact Or.inl h; exact Or.inr (Or.inl h))]; rfl
    · refine finS hR hC' hcl (y := .tuple [.agg [.list 4 [], .list 7 [], .list 3 [], .int .i64 0], .int .i64 171]) (frzImg0 _ _ _) ⟨rfl, ?_⟩
      rw [if_pos (Or.inr (Or.inr hb))]; rfl
    · rename_i hb2
      have hb3 : eb = false ∧ ea = data.length := by
        obtain ⟨h1, h2⟩ := Bool.or_eq_false_iff.1 hb2
        exact ⟨h1, by have := of_decide_eq_false h2; omega⟩
      refine finS hR hC' hcl (.same _ ?_) ⟨rfl, ?_⟩
      · simp only [resSV, SV.under, SV.underL, consL_under, funsL_under, glbsL_under, Bool.and_self]
      · rw [if_neg (by rw [hb3.1, hb3.2]; simp only [Bool.false_eq_true, false_or, ne_eq, not_true_eq_false]; exact hb)]; rfl
end Go.Proofs.YtihhngjoecgkpaaDoor
end

section
namespace Go.Proofs.YtihhngjoecgkpaaDoor
open Go
set_option linter.unusedSimpArgs false
set_option linter.unusedVariables false
set_option maxRecDepth 10000
set_option maxHeartbeats 4000000

theorem codeDecodes_ok (G : Gl) (hG : GClosed G) (hF : GF G) (data : Str) (hl : data.length < 4294967296) (H : List Blk) : ACall Tryd.prog G 4 [.str data] H (fun r H' => H' = H ∧ r = .bool true) := by
  have hB := decS_B data hl
  have c1 := fun H => decode_ok G hG hF data hl H
  have c2 := fun H => rdecode_ok G hG data hl H
  simp only [refD_eq] at c2
  have c3 := fun H => rsame_ok G hG (decS data).1 (decS data).1 hB hB H
  rw [(imgE_iff (decS data).1 (decS data).1).2 rfl] at c3
  have c4 := fun H => awake_ok G hG hF H
  generalize decS data = D at *
  obtain ⟨m, e⟩ := D
  simp only at c1 c2 c3
  have hml : m.cells.length = 4 := rfl
  have hmu := fun n => Img.cells_under n m
  clear hB
  generalize m.cells = mc at *
  refine ACall.of_go TB [] tabOK _ Tryd.func4 rfl (by decide) Tryd.ntmps4 (by simp) rfl (by simp only [initEnv, Nat.reduceAdd]; rfl) fun C R' hR hC hcl hB => ?_; have X := noX; have hC' := congrArg List.length hC
  have X := And.intro X hml
  (refine run ?_; repeat' (first | with_reducible exact trivial | ((with_reducible apply Fork.mk) <;> intro hb) | with_reducible apply Two.mk))
  exact finS hR hC' hcl (.same _ rfl) ⟨rfl, rfl⟩
end Go.Proofs.YtihhngjoecgkpaaDoor
end

section
namespace Go.Proofs.YtihhngjoecgkpaaDoor.codeDecodes
open Go Go.ChangeShapes Go.WideShapes Go.RowKit
set_option linter.unusedVariables false
set_option linter.unusedSimpArgs false

set_option maxRecDepth 100000 in
theorem contract (H : Type) (enc : TypeId × Value → H) (W : World) (base : Nat) (args : Array Value) (ds gs : List (DataW H)) (before : List MemPlace)
    (hval : ∀ (j : Nat) t v, Tryd.f4.params[j]? = some t → args[j]? = some v → Value.okWide Tryd.prog W .any base t v)
    (hW : DataW.Whole enc Tryd.prog Tryd.f4.params.toList Rows.codeDecodesSpec.vars false W args.toList ds gs before) (hL : laidMetH Tryd.prog Rows.codeDecodesUptoRow.laid W) (hk : Rows.uptoSmall H (ds ++ gs) = true) :
    Calls Tryd.prog 4 args W fun e W' => ∃ v, e = .returned v ∧ Rows.codeDecodesSpec.post enc Tryd.prog Tryd.f4 false true false false W args v W' := by
  have hW' := hW
  obtain ⟨p, q, hA0, hV, rfl, hfz, hnd⟩ := hW
  have hA : DataW.TrodAll enc Tryd.prog W 0 (fun _ => true) true Tryd.f4.params.toList args.toList ds p := hA0
  rw [Tryd.params4] at hA hval
  obtain ⟨v0, vs0, d0, ds0, p0, q0, hargs, rfl, rfl, h0, r0⟩ := trodAll_cons hA
  obtain ⟨rfl, rfl, rfl⟩ := trodAll_nil r0
  obtain rfl : args = #[v0] := by cases args; simp_all
  obtain ⟨rfl, rfl⟩ := trodVars_none hV
  obtain ⟨s0, rfl, rfl, rfl, hs0⟩ := Go.ChangeMaps.open_string Tryd.underlying9 (hval 0 9 v0 (by simp) (by simp)) h0
  have hbulk : s0.data.toList.length ≤ 1048576 := by
    simp only [Rows.uptoSmall, decide_eq_true_eq, List.append_nil, Rows.uptoBulkAll, Rows.uptoBulk] at hk
    omega
  refine (law_callsG (args := [.str s0.data.toList]) (vs := [.string s0]) (codeDecodes_ok Gf gclosedF gF s0.data.toList (by omega) []) (gok hL) ?_ (fun W' => law_post laid rfl hW' ?_ rfl (by kernel_rfl) rfl rfl rfl)).mono ?_
  · refine RepL.mk_cons ?_ (RepL.mk_nil)
    · simp only [Rep]; exact ⟨trivial, by simpa using hs0⟩
  · intro t ht
    rw [Tryd.params4] at ht
    simp only [List.mem_cons, List.not_mem_nil, or_false] at ht
    rcases ht with rfl <;> exact ⟨by kernel_rfl, of_decide_eq_true (by kernel_rfl)⟩
  · rintro _ W' ⟨v, rfl, rfl, hp⟩
    exact ⟨_, rfl, hp⟩

theorem laid_met (os : Os) : laidMet Tryd.prog Rows.codeDecodesUptoRow.laid ((laidWorld os).forCall (fun _ _ => 0) ⟨#[], #[Value.string ⟨⟨[]⟩⟩], []⟩).memory :=
  laidMet_of_run' 8 (by kernel_rfl) (by kernel_rfl)
theorem reads (os : Os) {H : Type} (enc : TypeId × Value → H) : ∃ places, DataW.whole enc Tryd.prog ((laidWorld os).forCall (fun _ _ => 0) ⟨#[], #[Value.string ⟨⟨[]⟩⟩], []⟩).memory Tryd.f4.params.toList Rows.codeDecodesSpec.vars false (#[Value.string ⟨⟨[]⟩⟩] : Array Value).toList 8 = some ([.lit (.string [])], [], places) :=
  ⟨[], by kernel_rfl⟩
set_option maxRecDepth 100000 in
theorem lifted (os : Os) (started : os.Started) (H : Type) (enc : TypeId × Value → H) (F : Stop.Interp) :
    ReturnsInHanded {} Tryd.checked os 4 .any ((Rows.OpenSpec.upto Rows.codeDecodesSpec).preRow enc Tryd.prog Tryd.f4 Rows.codeDecodesUptoRow.domain false Rows.codeDecodesUptoRow.laid) (((Rows.OpenSpec.upto Rows.codeDecodesSpec).at F).post enc Tryd.prog Tryd.f4 false true false false) := by
  obtain ⟨places, hx⟩ := reads os enc
  refine returnsInHanded_of_row (C := Tryd.checked) (s := Rows.OpenSpec.upto Rows.codeDecodesSpec) own started (by kernel_rfl) Tryd.func4
    (witness_row_at (enc := enc) (C := Tryd.checked) false (laidWorld os) #[Value.string ⟨⟨[]⟩⟩] rfl (by kernel_rfl) (by kernel_rfl) (by kernel_rfl)
      (OpenSpec.preRow_of_cond 8 hx (by kernel_rfl) (fun k hk => by cases hk; kernel_rfl) (by kernel_rfl) (laid_met os))) ?_
  intro W base args ds gs before hval hW _ hcond _ hL _ _
  exact contract H enc W base args ds gs before hval hW hL (hcond _ rfl)
theorem said : Rows.CodeDecodesUptoSaid :=
  OpenClaim.holds_of_cond 4 Tryd.f4 rfl rfl rfl rfl rfl rfl rfl ⟨rfl, rfl, rfl, rfl, rfl⟩ rfl rfl rfl rfl rfl (by kernel_rfl) Tryd.func4 (by kernel_rfl)
    (of_decide_eq_true (by kernel_rfl)) (by unfold Func.isWrapper; first | (rw [if_pos (by decide +kernel)]; kernel_rfl) | (rw [if_neg (by decide +kernel)]; exact ⟨rfl, rfl⟩))
    (fun os started H enc _ F => by rw [OpenClaim.pre_eq_preRow]; exact lifted os started H enc F)
theorem plain (f : FuncId) (fn : Func) (hf : Tryd.pinned.checked.prog.funcNamed "teasel/teasellaw17.CodeDecodes" = some f) (hfn : Tryd.pinned.checked.prog.funcs[f]? = some fn) :
    false = Tryd.pinned.checked.prog.looks [] ∧ ∀ (j : Nat) t, fn.params[j]? = some t → Tryd.pinned.checked.prog.wantsStandIn t = false := by
  obtain rfl : f = 4 := Option.some.inj ((show Tryd.prog.funcNamed "teasel/teasellaw17.CodeDecodes" = some 4 by kernel_rfl).symm.trans hf) |>.symm
  obtain rfl : fn = Tryd.f4 := (Option.some.inj (Tryd.func4.symm.trans hfn)).symm
  refine ⟨by kernel_rfl, fun j t ht => ?_⟩
  rw [Tryd.params4] at ht
  have hm := Array.mem_of_getElem? ht
  have hm2 : t = 9 := by simpa using hm
  subst hm2
  · exact (show Tryd.prog.wantsStandIn 9 = false by kernel_rfl)
theorem proved : Rows.CodeDecodesUptoCardSaid :=
  Claim7.holds_tied_plain_at .later [] _ _ _ _ said (fun _ h => by cases h) (by kernel_rfl) (fun _ h => by cases h) codeDecodesUpto_row_tie rfl ⟨rfl, rfl⟩ (by kernel_rfl) rfl plain (by kernel_rfl)
end Go.Proofs.YtihhngjoecgkpaaDoor.codeDecodes
end
