/- A part of the proof: F1, F2, F3. -/
import Derived.Test.YtihhngjoecgkpaaDoorMe

section
namespace Go.Proofs.YtihhngjoecgkpaaDoor
open Go
set_option linter.unusedSimpArgs false
set_option linter.unusedVariables false
set_option maxRecDepth 10000
set_option maxHeartbeats 4000000

/-! ### images -/
structure Con where
  name : Str
  arity : Int
  tag : Int
  family : Int
def Con.cells (c : Con) : List SV := [.str c.name, .int .i64 c.arity, .int .i64 c.tag, .int .i64 c.family]
structure Glb where
  kind : Int
  n : Int
  args : List (Int × Int)
abbrev encR : Int × Int → SV := fun x => .agg [.int .i64 x.1, .int .i64 x.2]
def Glb.cells (g : Glb) : List SV := [.int .i64 g.kind, .int .i64 g.n, .list 2 (g.args.map encR)]
structure Img where
  cons : List Con
  funcs : List Fun
  globals : List Glb
  main : Int
def consL (l : List Con) : List SV := l.map fun c => .agg c.cells
def funsL (l : List Fun) : List SV := l.map fun f => .agg f.cells
def glbsL (l : List Glb) : List SV := l.map fun g => .agg g.cells
def Img.cells (m : Img) : List SV := [.list 4 (consL m.cons), .list 7 (funsL m.funcs), .list 3 (glbsL m.globals), .int .i64 m.main]
theorem Fun.cells_len (f : Fun) : f.cells.length = 7 := rfl
theorem Glb.cells_len (g : Glb) : g.cells.length = 3 := rfl
theorem Con.cells_len (c : Con) : c.cells.length = 4 := rfl
attribute [go_sem] Fun.cells_len Glb.cells_len Con.cells_len
theorem consL_len (l : List Con) : (consL l).length = l.length := by simp [consL]
theorem funsL_len (l : List Fun) : (funsL l).length = l.length := by simp [funsL]
theorem glbsL_len (l : List Glb) : (glbsL l).length = l.length := by simp [glbsL]
attribute [go_sem] consL_len funsL_len glbsL_len
theorem Con.cells_under (n : Nat) (c : Con) : SV.underL n c.cells = true := rfl
theorem Glb.cells_under (n : Nat) (g : Glb) : SV.underL n g.cells = true := by
  simp only [Glb.cells, SV.underL, SV.under, SV.underL_map (f := encR) (fun _ _ => rfl), Bool.and_self]
theorem consL_under (n : Nat) (l : List Con) : SV.underL n (consL l) = true := SV.underL_map fun i _ => Con.cells_under n i
theorem funsL_under (n : Nat) (l : List Fun) : SV.underL n (funsL l) = true := SV.underL_map fun i _ => Fun.cells_under n i
theorem glbsL_under (n : Nat) (l : List Glb) : SV.underL n (glbsL l) = true := SV.underL_map fun i _ => Glb.cells_under n i
theorem Img.cells_under (n : Nat) (m : Img) : SV.underL n m.cells = true := by
  simp only [Img.cells, SV.underL, SV.under, consL_under, funsL_under, glbsL_under, Bool.and_self]

theorem idxP_any {α : Type} (p : α → Bool) (l : List α) : (match l.findIdx? p with | some i => decide (0 ≤ (i : Int)) | none => false) = l.any p := by
  cases h : l.findIdx? p with
  | none => rw [List.findIdx?_eq_none_iff] at h; simp only; symm; rw [List.any_eq_false]; intro x hx; simp [h x hx]
  | some i =>
    obtain ⟨hi, hp, _⟩ := List.findIdx?_eq_some_iff_getElem.1 h
    have : (0 : Int) ≤ i := by omega
    simp only [this, decide_true]
    symm; rw [List.any_eq_true]
    exact ⟨_, List.getElem_mem hi, hp⟩

theorem anyFun_ok (G : Gl) (hG : GClosed G) (f : SV) (p : Fun → Bool) (V : List (Fun)) (H : List Blk) (hl : V.length < 1125899906842624) (hfu : f.under H.length = true)
    (hf : ∀ x ∈ V, ACallV Tryd.prog G f [(fun x : Fun => SV.agg x.cells) x] H (fun r H' => H' = H ∧ r = .bool (p x))) :
    ACall Tryd.prog G 29 [.list 7 (V.map (fun x : Fun => SV.agg x.cells)), f] H (fun r H' => H' = H ∧ r = .bool (V.any p)) := by
  have hidx : ACall Tryd.prog G 65 [.list 7 (V.map (fun x : Fun => SV.agg x.cells)), f] H (fun r H' => H' = H ∧ r = .int .i64 (match V.findIdx? p with | some i => (i : Int) | none => -1)) := by
    have hlm : (V.map (fun x : Fun => SV.agg x.cells)).length = V.length := by simp
    refine ACall.of_go TB [] tabOK _ Tryd.func65 rfl (by decide) Tryd.ntmps65 (by simp) rfl (by simp only [initEnv, Nat.reduceAdd]; rfl) fun C R' hR hC hcl hB => ?_; have X := noX; have hC' := congrArg List.length hC
    have X := And.intro X hlm
    have hcl1 := hcl
    (refine run ?_; repeat' (first | with_reducible exact trivial | ((with_reducible apply Fork.mk) <;> intro hb) | with_reducible apply Two.mk))
    refine go_loop (fun k : Nat => [(0, .list 7 (V.map (fun x : Fun => SV.agg x.cells))), (1, f), (7, .int .i64 V.length), (8, .int .i64 k)]) (fun _ => H) (fun k => V.length - k) (fun k => k ≤ V.length ∧ ∀ x ∈ V.take k, p x = false) 0 ⟨Nat.zero_le _, by simp⟩ (Wk.sub (by simp [subEnv, look])) ?_
    rintro K k ⟨hk, hno⟩ hK
    rcases Nat.lt_or_ge k V.length with hlt | hge
    · have e1 : (V.map (fun x : Fun => SV.agg x.cells))[k]? = some (SV.agg V[k].cells) := by simp [hlt]
      have hfk := hf V[k] (List.getElem_mem hlt)
      simp only at hfk
      have X := And.intro X e1
      (refine run ?_; repeat' (first | with_reducible exact trivial | ((with_reducible apply Fork.mk) <;> intro hb) | with_reducible apply Two.mk))
      refine callV hfk ?_
      rintro r H' ⟨rfl, rfl⟩
      (refine run ?_; repeat' (first | with_reducible exact trivial | ((with_reducible apply Fork.mk) <;> intro hb) | with_reducible apply Two.mk))
      · have hfi : V.findIdx? p = some k := by
          rw [List.findIdx?_eq_some_iff_getElem]
          refine ⟨hlt, by simpa using hb, fun j hj => ?_⟩
          have := hno (V[j]'(by omega)) (by rw [List.mem_take_iff_getElem]; exact ⟨j, by omega, rfl⟩)
          simp [this]
        refine Fin.out hR ⟨rfl, ?_⟩
        simp only [resSV, hfi]
      · refine hK _ _ (k + 1) (by omega) ⟨by omega, ?_⟩ (Wk.sub (by simp [subEnv, look]))
        rw [List.take_succ_eq_append_getElem hlt]
        intro x hx
        rcases List.mem_append.1 hx with hx | hx
        · exact hno x hx
        · rw [List.mem_singleton.1 hx]; exact hb
    · have : k = V.length := by omega
      subst this
      clear hK
      have X := And.intro X (Int.lt_irrefl (V.length : Int))
      (refine run ?_; repeat' (first | with_reducible exact trivial | ((with_reducible apply Fork.mk) <;> intro hb) | with_reducible apply Two.mk))
      have hfi : V.findIdx? p = none := by rw [List.findIdx?_eq_none_iff]; rw [List.take_length] at hno; exact hno
      refine Fin.out hR ⟨rfl, ?_⟩
      simp only [resSV, hfi]
  have h2 := idxP_any p V
  generalize hI : (match V.findIdx? p with | some i => (i : Int) | none => -1) = I at hidx
  refine ACall.of_go TB [] tabOK _ Tryd.func29 rfl (by decide) Tryd.ntmps29 (by simp) rfl (by simp only [initEnv, Nat.reduceAdd]; rfl) fun C R' hR hC hcl hB => ?_; have X := noX; have hC' := congrArg List.length hC
  (refine run ?_; repeat' (first | with_reducible exact trivial | ((with_reducible apply Fork.mk) <;> intro hb) | with_reducible apply Two.mk))
  refine callS hidx ?_
  rintro r H' ⟨rfl, rfl⟩
  (refine run ?_; repeat' (first | with_reducible exact trivial | ((with_reducible apply Fork.mk) <;> intro hb) | with_reducible apply Two.mk))
  refine Fin.out hR ⟨rfl, ?_⟩
  rw [← h2, ← hI]
  simp only [resSV]
  cases V.findIdx? p with
  | none => rfl
  | some i => rfl

theorem anyIns_ok (G : Gl) (hG : GClosed G) (f : SV) (p : Ins → Bool) (V : List (Ins)) (H : List Blk) (hl : V.length < 1125899906842624) (hfu : f.under H.length = true)
    (hf : ∀ x ∈ V, ACallV Tryd.prog G f [(fun x : Ins => SV.agg x.cells) x] H (fun r H' => H' = H ∧ r = .bool (p x))) :
    ACall Tryd.prog G 66 [.list 6 (V.map (fun x : Ins => SV.agg x.cells)), f] H (fun r H' => H' = H ∧ r = .bool (V.any p)) := by
  have hidx : ACall Tryd.prog G 77 [.list 6 (V.map (fun x : Ins => SV.agg x.cells)), f] H (fun r H' => H' = H ∧ r = .int .i64 (match V.findIdx? p with | some i => (i : Int) | none => -1)) := by
    have hlm : (V.map (fun x : Ins => SV.agg x.cells)).length = V.length := by simp
    refine ACall.of_go TB [] tabOK _ Tryd.func77 rfl (by decide) Tryd.ntmps77 (by simp) rfl (by simp only [initEnv, Nat.reduceAdd]; rfl) fun C R' hR hC hcl hB => ?_; have X := noX; have hC' := congrArg List.length hC
    have X := And.intro X hlm
    have hcl1 := hcl
    (refine run ?_; repeat' (first | with_reducible exact trivial | ((with_reducible apply Fork.mk) <;> intro hb) | with_reducible apply Two.mk))
    refine go_loop (fun k : Nat => [(0, .list 6 (V.map (fun x : Ins => SV.agg x.cells))), (1, f), (7, .int .i64 V.length), (8, .int .i64 k)]) (fun _ => H) (fun k => V.length - k) (fun k => k ≤ V.length ∧ ∀ x ∈ V.take k, p x = false) 0 ⟨Nat.zero_le _, by simp⟩ (Wk.sub (by simp [subEnv, look])) ?_
    rintro K k ⟨hk, hno⟩ hK
    rcases Nat.lt_or_ge k V.length with hlt | hge
    · have e1 : (V.map (fun x : Ins => SV.agg x.cells))[k]? = some (SV.agg V[k].cells) := by simp [hlt]
      have hfk := hf V[k] (List.getElem_mem hlt)
      simp only at hfk
      have X := And.intro X e1
      (refine run ?_; repeat' (first | with_reducible exact trivial | ((with_reducible apply Fork.mk) <;> intro hb) | with_reducible apply Two.mk))
      refine callV hfk ?_
      rintro r H' ⟨rfl, rfl⟩
      (refine run ?_; repeat' (first | with_reducible exact trivial | ((with_reducible apply Fork.mk) <;> intro hb) | with_reducible apply Two.mk))
      · have hfi : V.findIdx? p = some k := by
          rw [List.findIdx?_eq_some_iff_getElem]
          refine ⟨hlt, by simpa using hb, fun j hj => ?_⟩
          have := hno (V[j]'(by omega)) (by rw [List.mem_take_iff_getElem]; exact ⟨j, by omega, rfl⟩)
          simp [this]
        refine Fin.out hR ⟨rfl, ?_⟩
        simp only [resSV, hfi]
      · refine hK _ _ (k + 1) (by omega) ⟨by omega, ?_⟩ (Wk.sub (by simp [subEnv, look]))
        rw [List.take_succ_eq_append_getElem hlt]
        intro x hx
        rcases List.mem_append.1 hx with hx | hx
        · exact hno x hx
        · rw [List.mem_singleton.1 hx]; exact hb
    · have : k = V.length := by omega
      subst this
      clear hK
      have X := And.intro X (Int.lt_irrefl (V.length : Int))
      (refine run ?_; repeat' (first | with_reducible exact trivial | ((with_reducible apply Fork.mk) <;> intro hb) | with_reducible apply Two.mk))
      have hfi : V.findIdx? p = none := by rw [List.findIdx?_eq_none_iff]; rw [List.take_length] at hno; exact hno
      refine Fin.out hR ⟨rfl, ?_⟩
      simp only [resSV, hfi]
  have h2 := idxP_any p V
  generalize hI : (match V.findIdx? p with | some i => (i : Int) | none => -1) = I at hidx
  refine ACall.of_go TB [] tabOK _ Tryd.func66 rfl (by decide) Tryd.ntmps66 (by simp) rfl (by simp only [initEnv, Nat.reduceAdd]; rfl) fun C R' hR hC hcl hB => ?_; have X := noX; have hC' := congrArg List.length hC
  (refine run ?_; repeat' (first | with_reducible exact trivial | ((with_reducible apply Fork.mk) <;> intro hb) | with_reducible apply Two.mk))
  refine callS hidx ?_
  rintro r H' ⟨rfl, rfl⟩
  (refine run ?_; repeat' (first | with_reducible exact trivial | ((with_reducible apply Fork.mk) <;> intro hb) | with_reducible apply Two.mk))
  refine Fin.out hR ⟨rfl, ?_⟩
  rw [← h2, ← hI]
  simp only [resSV]
  cases V.findIdx? p with
  | none => rfl
  | some i => rfl

theorem anyGlb_ok (G : Gl) (hG : GClosed G) (f : SV) (p : Glb → Bool) (V : List (Glb)) (H : List Blk) (hl : V.length < 1125899906842624) (hfu : f.under H.length = true)
    (hf : ∀ x ∈ V, ACallV Tryd.prog G f [(fun x : Glb => SV.agg x.cells) x] H (fun r H' => H' = H ∧ r = .bool (p x))) :
    ACall Tryd.prog G 32 [.list 3 (V.map (fun x : Glb => SV.agg x.cells)), f] H (fun r H' => H' = H ∧ r = .bool (V.any p)) := by
  have hidx : ACall Tryd.prog G 69 [.list 3 (V.map (fun x : Glb => SV.agg x.cells)), f] H (fun r H' => H' = H ∧ r = .int .i64 (match V.findIdx? p with | some i => (i : Int) | none => -1)) := by
    have hlm : (V.map (fun x : Glb => SV.agg x.cells)).length = V.length := by simp
    refine ACall.of_go TB [] tabOK _ Tryd.func69 rfl (by decide) Tryd.ntmps69 (by simp) rfl (by simp only [initEnv, Nat.reduceAdd]; rfl) fun C R' hR hC hcl hB => ?_; have X := noX; have hC' := congrArg List.length hC
    have X := And.intro X hlm
    have hcl1 := hcl
    (refine run ?_; repeat' (first | with_reducible exact trivial | ((with_reducible apply Fork.mk) <;> intro hb) | with_reducible apply Two.mk))
    refine go_loop (fun k : Nat => [(0, .list 3 (V.map (fun x : Glb => SV.agg x.cells))), (1, f), (7, .int .i64 V.length), (8, .int .i64 k)]) (fun _ => H) (fun k => V.length - k) (fun k => k ≤ V.length ∧ ∀ x ∈ V.take k, p x = false) 0 ⟨Nat.zero_le _, by simp⟩ (Wk.sub (by simp [subEnv, look])) ?_
    rintro K k ⟨hk, hno⟩ hK
    rcases Nat.lt_or_ge k V.length with hlt | hge
    · have e1 : (V.map (fun x : Glb => SV.agg x.cells))[k]? = some (SV.agg V[k].cells) := by simp [hlt]
      have hfk := hf V[k] (List.getElem_mem hlt)
      simp only at hfk
      have X := And.intro X e1
      (refine run ?_; repeat' (first | with_reducible exact trivial | ((with_reducible apply Fork.mk) <;> intro hb) | with_reducible apply Two.mk))
      refine callV hfk ?_
      rintro r H' ⟨rfl, rfl⟩
      (refine run ?_; repeat' (first | with_reducible exact trivial | ((with_reducible apply Fork.mk) <;> intro hb) | with_reducible apply Two.mk))
      · have hfi : V.findIdx? p = some k := by
          rw [List.findIdx?_eq_some_iff_getElem]
          refine ⟨hlt, by simpa using hb, fun j hj => ?_⟩
          have := hno (V[j]'(by omega)) (by rw [List.mem_take_iff_getElem]; exact ⟨j, by omega, rfl⟩)
          simp [this]
        refine Fin.out hR ⟨rfl, ?_⟩
        simp only [resSV, hfi]
      · refine hK _ _ (k + 1) (by omega) ⟨by omega, ?_⟩ (Wk.sub (by simp [subEnv, look]))
        rw [List.take_succ_eq_append_getElem hlt]
        intro x hx
        rcases List.mem_append.1 hx with hx | hx
        · exact hno x hx
        · rw [List.mem_singleton.1 hx]; exact hb
    · have : k = V.length := by omega
      subst this
      clear hK
      have X := And.intro X (Int.lt_irrefl (V.length : Int))
      (refine run ?_; repeat' (first | with_reducible exact trivial | ((with_reducible apply Fork.mk) <;> intro hb) | with_reducible apply Two.mk))
      have hfi : V.findIdx? p = none := by rw [List.findIdx?_eq_none_iff]; rw [List.take_length] at hno; exact hno
      refine Fin.out hR ⟨rfl, ?_⟩
      simp only [resSV, hfi]
  have h2 := idxP_any p V
  generalize hI : (match V.findIdx? p with | some i => (i : Int) | none => -1) = I at hidx
  refine ACall.of_go TB [] tabOK _ Tryd.func32 rfl (by decide) Tryd.ntmps32 (by simp) rfl (by simp only [initEnv, Nat.reduceAdd]; rfl) fun C R' hR hC hcl hB => ?_; have X := noX; have hC' := congrArg List.length hC
  (refine run ?_; repeat' (first | with_reducible exact trivial | ((with_reducible apply Fork.mk) <;> intro hb) | with_reducible apply Two.mk))
  refine callS hidx ?_
  rintro r H' ⟨rfl, rfl⟩
  (refine run ?_; repeat' (first | with_reducible exact trivial | ((with_reducible apply Fork.mk) <;> intro hb) | with_reducible apply Two.mk))
  refine Fin.out hR ⟨rfl, ?_⟩
  rw [← h2, ← hI]
  simp only [resSV]
  cases V.findIdx? p with
  | none => rfl
  | some i => rfl

theorem anyRef_ok (G : Gl) (hG : GClosed G) (f : SV) (p : Int × Int → Bool) (V : List (Int × Int)) (H : List Blk) (hl : V.length < 1125899906842624) (hfu : f.under H.length = true)
    (hf : ∀ x ∈ V, ACallV Tryd.prog G f [(fun x : Int × Int => SV.agg [.int .i64 x.1, .int .i64 x.2]) x] H (fun r H' => H' = H ∧ r = .bool (p x))) :
    ACall Tryd.prog G 70 [.list 2 (V.map (fun x : Int × Int => SV.agg [.int .i64 x.1, .int .i64 x.2])), f] H (fun r H' => H' = H ∧ r = .bool (V.any p)) := by
  have hidx : ACall Tryd.prog G 83 [.list 2 (V.map (fun x : Int × Int => SV.agg [.int .i64 x.1, .int .i64 x.2])), f] H (fun r H' => H' = H ∧ r = .int .i64 (match V.findIdx? p with | some i => (i : Int) | none => -1)) := by
    have hlm : (V.map (fun x : Int × Int => SV.agg [.int .i64 x.1, .int .i64 x.2])).length = V.length := by simp
    refine ACall.of_go TB [] tabOK _ Tryd.func83 rfl (by decide) Tryd.ntmps83 (by simp) rfl (by simp only [initEnv, Nat.reduceAdd]; rfl) fun C R' hR hC hcl hB => ?_; have X := noX; have hC' := congrArg List.length hC
    have X := And.intro X hlm
    have hcl1 := hcl
    (refine run ?_; repeat' (first | with_reducible exact trivial | ((with_reducible apply Fork.mk) <;> intro hb) | with_reducible apply Two.mk))
    refine go_loop (fun k : Nat => [(0, .list 2 (V.map (fun x : Int × Int => SV.agg [.int .i64 x.1, .int .i64 x.2]))), (1, f), (7, .int .i64 V.length), (8, .int .i64 k)]) (fun _ => H) (fun k => V.length - k) (fun k => k ≤ V.length ∧ ∀ x ∈ V.take k, p x = false) 0 ⟨Nat.zero_le _, by simp⟩ (Wk.sub (by simp [subEnv, look])) ?_
    rintro K k ⟨hk, hno⟩ hK
    rcases Nat.lt_or_ge k V.length with hlt | hge
    · have e1 : (V.map (fun x : Int × Int => SV.agg [.int .i64 x.1, .int .i64 x.2]))[k]? = some (SV.agg [.int .i64 V[k].1, .int .i64 V[k].2]) := by simp [hlt]
      have hfk := hf V[k] (List.getElem_mem hlt)
      simp only at hfk
      have X := And.intro X e1
      (refine run ?_; repeat' (first | with_reducible exact trivial | ((with_reducible apply Fork.mk) <;> intro hb) | with_reducible apply Two.mk))
      refine callV hfk ?_
      rintro r H' ⟨rfl, rfl⟩
      (refine run ?_; repeat' (first | with_reducible exact trivial | ((with_reducible apply Fork.mk) <;> intro hb) | with_reducible apply Two.mk))
      · have hfi : V.findIdx? p = some k := by
          rw [List.findIdx?_eq_some_iff_getElem]
          refine ⟨hlt, by simpa using hb, fun j hj => ?_⟩
          have := hno (V[j]'(by omega)) (by rw [List.mem_take_iff_getElem]; exact ⟨j, by omega, rfl⟩)
          simp [this]
        refine Fin.out hR ⟨rfl, ?_⟩
        simp only [resSV, hfi]
      · refine hK _ _ (k + 1) (by omega) ⟨by omega, ?_⟩ (Wk.sub (by simp [subEnv, look]))
        rw [List.take_succ_eq_append_getElem hlt]
        intro x hx
        rcases List.mem_append.1 hx with hx | hx
        · exact hno x hx
        · rw [List.mem_singleton.1 hx]; exact hb
    · have : k = V.length := by omega
      subst this
      clear hK
      have X := And.intro X (Int.lt_irrefl (V.length : Int))
      (refine run ?_; repeat' (first | with_reducible exact trivial | ((with_reducible apply Fork.mk) <;> intro hb) | with_reducible apply Two.mk))
      have hfi : V.findIdx? p = none := by rw [List.findIdx?_eq_none_iff]; rw [List.take_length] at hno; exact hno
      refine Fin.out hR ⟨rfl, ?_⟩
      simp only [resSV, hfi]
  have h2 := idxP_any p V
  generalize hI : (match V.findIdx? p with | some i => (i : Int) | none => -1) = I at hidx
  refine ACall.of_go TB [] tabOK _ Tryd.func70 rfl (by decide) Tryd.ntmps70 (by simp) rfl (by simp only [initEnv, Nat.reduceAdd]; rfl) fun C R' hR hC hcl hB => ?_; have X := noX; have hC' := congrArg List.length hC
  (refine run ?_; repeat' (first | with_reducible exact trivial | ((with_reducible apply Fork.mk) <;> intro hb) | with_reducible apply Two.mk))
  refine callS hidx ?_
  rintro r H' ⟨rfl, rfl⟩
  (refine run ?_; repeat' (first | with_reducible exact trivial | ((with_reducible apply Fork.mk) <;> intro hb) | with_reducible apply Two.mk))
  refine Fin.out hR ⟨rfl, ?_⟩
  rw [← h2, ← hI]
  simp only [resSV]
  cases V.findIdx? p with
  | none => rfl
  | some i => rfl

theorem anyInt_ok (G : Gl) (hG : GClosed G) (f : SV) (p : Int → Bool) (V : List (Int)) (H : List Blk) (hl : V.length < 1125899906842624) (hfu : f.under H.length = true)
    (hf : ∀ x ∈ V, ACallV Tryd.prog G f [(fun x : Int => SV.int .i64 x) x] H (fun r H' => H' = H ∧ r = .bool (p x))) :
    ACall Tryd.prog G 80 [.list 1 (V.map (fun x : Int => SV.int .i64 x)), f] H (fun r H' => H' = H ∧ r = .bool (V.any p)) := by
  have hidx : ACall Tryd.prog G 96 [.list 1 (V.map (fun x : Int => SV.int .i64 x)), f] H (fun r H' => H' = H ∧ r = .int .i64 (match V.findIdx? p with | some i => (i : Int) | none => -1)) := by
    have hlm : (V.map (fun x : Int => SV.int .i64 x)).length = V.length := by simp
    refine ACall.of_go TB [] tabOK _ Tryd.func96 rfl (by decide) Tryd.ntmps96 (by simp) rfl (by simp only [initEnv, Nat.reduceAdd]; rfl) fun C R' hR hC hcl hB => ?_; have X := noX; have hC' := congrArg List.length hC
    have X := And.intro X hlm
    have hcl1 := hcl
    (refine run ?_; repeat' (first | with_reducible exact trivial | ((with_reducible apply Fork.mk) <;> intro hb) | with_reducible apply Two.mk))
    refine go_loop (fun k : Nat => [(0, .list 1 (V.map (fun x : Int => SV.int .i64 x))), (1, f), (7, .int .i64 V.length), (8, .int .i64 k)]) (fun _ => H) (fun k => V.length - k) (fun k => k ≤ V.length ∧ ∀ x ∈ V.take k, p x = false) 0 ⟨Nat.zero_le _, by simp⟩ (Wk.sub (by simp [subEnv, look])) ?_
    rintro K k ⟨hk, hno⟩ hK
    rcases Nat.lt_or_ge k V.length with hlt | hge
    · have e1 : (V.map (fun x : Int => SV.int .i64 x))[k]? = some (SV.int .i64 V[k]) := by simp [hlt]
      have hfk := hf V[k] (List.getElem_mem hlt)
      simp only at hfk
      have X := And.intro X e1
      (refine run ?_; repeat' (first | with_reducible exact trivial | ((with_reducible apply Fork.mk) <;> intro hb) | with_reducible apply Two.mk))
      refine callV hfk ?_
      rintro r H' ⟨rfl, rfl⟩
      (refine run ?_; repeat' (first | with_reducible exact trivial | ((with_reducible apply Fork.mk) <;> intro hb) | with_reducible apply Two.mk))
      · have hfi : V.findIdx? p = some k := by
          rw [List.findIdx?_eq_some_iff_getElem]
          refine ⟨hlt, by simpa using hb, fun j hj => ?_⟩
          have := hno (V[j]'(by omega)) (by rw [List.mem_take_iff_getElem]; exact ⟨j, by omega, rfl⟩)
          simp [this]
        refine Fin.out hR ⟨rfl, ?_⟩
        simp only [resSV, hfi]
      · refine hK _ _ (k + 1) (by omega) ⟨by omega, ?_⟩ (Wk.sub (by simp [subEnv, look]))
        rw [List.take_succ_eq_append_getElem hlt]
        intro x hx
        rcases List.mem_append.1 hx with hx | hx
        · exact hno x hx
        · rw [List.mem_singleton.1 hx]; exact hb
    · have : k = V.length := by omega
      subst this
      clear hK
      have X := And.intro X (Int.lt_irrefl (V.length : Int))
      (refine run ?_; repeat' (first | with_reducible exact trivial | ((with_reducible apply Fork.mk) <;> intro hb) | with_reducible apply Two.mk))
      have hfi : V.findIdx? p = none := by rw [List.findIdx?_eq_none_iff]; rw [List.take_length] at hno; exact hno
      refine Fin.out hR ⟨rfl, ?_⟩
      simp only [resSV, hfi]
  have h2 := idxP_any p V
  generalize hI : (match V.findIdx? p with | some i => (i : Int) | none => -1) = I at hidx
  refine ACall.of_go TB [] tabOK _ Tryd.func80 rfl (by decide) Tryd.ntmps80 (by simp) rfl (by simp only [initEnv, Nat.reduceAdd]; rfl) fun C R' hR hC hcl hB => ?_; have X := noX; have hC' := congrArg List.length hC
  (refine run ?_; repeat' (first | with_reducible exact trivial | ((with_reducible apply Fork.mk) <;> intro hb) | with_reducible apply Two.mk))
  refine callS hidx ?_
  rintro r H' ⟨rfl, rfl⟩
  (refine run ?_; repeat' (first | with_reducible exact trivial | ((with_reducible apply Fork.mk) <;> intro hb) | with_reducible apply Two.mk))
  refine Fin.out hR ⟨rfl, ?_⟩
  rw [← h2, ← hI]
  simp only [resSV]
  cases V.findIdx? p with
  | none => rfl
  | some i => rfl
end Go.Proofs.YtihhngjoecgkpaaDoor
end

section
namespace Go.Proofs.YtihhngjoecgkpaaDoor
open Go
set_option linter.unusedSimpArgs false
set_option linter.unusedVariables false
set_option maxRecDepth 10000
set_option maxHeartbeats 4000000

def inR (n lo hi : Int) : Bool := decide (lo ≤ n) && decide (n ≤ hi)
theorem within_ok (G : Gl) (hG : GClosed G) (n lo hi : Int) (H : List Blk) : ACall Tryd.prog G 27 [.int .i64 n, .int .i64 lo, .int .i64 hi] H (fun r H' => H' = H ∧ r = .bool (inR n lo hi)) := by
  refine ACall.of_go TB [] tabOK _ Tryd.func27 rfl (by decide) Tryd.ntmps27 (by simp) rfl (by simp only [initEnv, Nat.reduceAdd]; rfl) fun C R' hR hC hcl hB => ?_; have X := noX; have hC' := congrArg List.length hC
  (refine run ?_; repeat' (first | with_reducible exact trivial | ((with_reducible apply Fork.mk) <;> intro hb) | with_reducible apply Two.mk))
  all_goals exact Fin.out hR ⟨rfl, rfl⟩
/-- a field that names a slot -/
def slotB (has : Bool) (top n : Int) : Bool := if has then inR n 0 (top - 1) else decide (n = 0)
theorem slot_ok (G : Gl) (hG : GClosed G) (own top bit n : Int) (has : Bool) (b1 b2' : Nat) (H : List Blk) (h1 : H[b1]? = some (.cells 0 1 [.int .i64 own])) (h2 : H[b2']? = some (.cells 0 1 [.int .i64 top]))
    (hbit : bitsI .and .i64 own bit = some (b2 has bit)) (hz : decide (b2 has bit = 0) = !has) (ht : -1099511627776 < top ∧ top < 1099511627776) :
    ACall Tryd.prog G 78 [.int .i64 bit, .int .i64 n, .ptr b1 0 0 0, .ptr b2' 0 0 0] H (fun r H' => H' = H ∧ r = .bool (slotB has top n)) := by
  have c1 := fun n hi H => within_ok G hG n 0 hi H
  have hl1 := (List.getElem?_eq_some_iff.1 h1).1
  have hl2 := (List.getElem?_eq_some_iff.1 h2).1
  refine ACall.of_go TB [] tabOK _ Tryd.func78 rfl (by decide) Tryd.ntmps78 (by simp) rfl (by simp only [initEnv, Nat.reduceAdd]; rfl) fun C R' hR hC hcl hB => ?_; have X := noX; have hC' := congrArg List.length hC
  have X := And.intro X (And.intro (getX h1) (And.intro (getX h2) (And.intro hbit hz)))
  cases has with
  | false =>
    (refine run ?_; repeat' (first | with_reducible exact trivial | ((with_reducible apply Fork.mk) <;> intro hb) | with_reducible apply Two.mk))
    all_goals exact Fin.out hR ⟨rfl, rfl⟩
  | true =>
    (refine run ?_; repeat' (first | with_reducible exact trivial | ((with_reducible apply Fork.mk) <;> intro hb) | with_reducible apply Two.mk))
    all_goals exact Fin.out hR ⟨rfl, rfl⟩
theorem place_ok (G : Gl) (hG : GClosed G) (n : Int) (code : List Ins) (fc : List SV) (b : Nat) (H : List Blk) (hb : H[b]? = some (.cells 0 7 [.agg fc])) (hfcl : fc.length = 7) (hfc6 : fc[6]? = some (.list 6 (insL code))) (hn : code.length < 1125899906842624) :
    ACall Tryd.prog G 79 [.int .i64 n, .ptr b 0 0 0] H (fun r H' => H' = H ∧ r = .bool (inR n 0 ((code.length : Int) - 1))) := by
  have c1 := fun n hi H => within_ok G hG n 0 hi H
  have hl1 := (List.getElem?_eq_some_iff.1 hb).1
  refine ACall.of_go TB [] tabOK _ Tryd.func79 rfl (by decide) Tryd.ntmps79 (by simp) rfl (by simp only [initEnv, Nat.reduceAdd]; rfl) fun C R' hR hC hcl hB => ?_; have X := noX; have hC' := congrArg List.length hC
  have X := And.intro X (And.intro (getX hb) (And.intro hfcl hfc6))
  (refine run ?_; repeat' (first | with_reducible exact trivial | ((with_reducible apply Fork.mk) <;> intro hb) | with_reducible apply Two.mk))
  all_goals exact Fin.out hR ⟨rfl, rfl⟩
theorem notIn_ok (G : Gl) (hG : GClosed G) (n frame : Int) (fc : List SV) (b : Nat) (H : List Blk) (hb : H[b]? = some (.cells 0 7 [.agg fc])) (hfcl : fc.length = 7) (hfc5 : fc[5]? = some (.int .i64 frame)) (hfr : 0 ≤ frame ∧ frame ≤ 65536) :
    ACall Tryd.prog G 81 [.int .i64 n, .ptr b 0 0 0] H (fun r H' => H' = H ∧ r = .bool (!inR n 0 (frame - 1))) := by
  have c1 := fun n hi H => within_ok G hG n 0 hi H
  have hl1 := (List.getElem?_eq_some_iff.1 hb).1
  refine ACall.of_go TB [] tabOK _ Tryd.func81 rfl (by decide) Tryd.ntmps81 (by simp) rfl (by simp only [initEnv, Nat.reduceAdd]; rfl) fun C R' hR hC hcl hB => ?_; have X := noX; have hC' := congrArg List.length hC
  have X := And.intro X (And.intro (getX hb) (And.intro hfcl hfc5))
  (refine run ?_; repeat' (first | with_reducible exact trivial | ((with_reducible apply Fork.mk) <;> intro hb) | with_reducible apply Two.mk))
  all_goals exact Fin.out hR ⟨rfl, rfl⟩
/-- no place -/
def badP (op : Int) (len : Nat) (n : Int) : Bool := !inR n 0 ((len : Int) - 1) && !(decide (op = 21) && decide (n = -1))
theorem badP_ok (G : Gl) (hG : GClosed G) (n op : Int) (code : List Ins) (fc ic : List SV) (b bf bi : Nat) (H : List Blk) (hb : H[b]? = some (.cells 0 7 [.agg fc])) (hfcl : fc.length = 7) (hfc6 : fc[6]? = some (.list 6 (insL code))) (hn : code.length < 1125899906842624)
    (hf : H[bf]? = some (.cells 0 1 [.fn (.func 79) [] [.ptr b 0 0 0]])) (hi : H[bi]? = some (.cells 0 6 [.agg ic])) (hicl : ic.length = 6) (hic : ic[0]? = some (.int .i64 op)) :
    ACall Tryd.prog G 82 [.int .i64 n, .ptr bf 0 0 0, .ptr bi 0 0 0] H (fun r H' => H' = H ∧ r = .bool (badP op code.length n)) := by
  have v1 : ∀ s, ACallV Tryd.prog G (.fn (.func 79) [] [.ptr b 0 0 0]) [.int .i64 s] H (fun r H' => H' = H ∧ r = .bool (inR s 0 ((code.length : Int) - 1))) := fun s => ACallV.of (place_ok G hG s code fc b H hb hfcl hfc6 hn)
  have hl1 := (List.getElem?_eq_some_iff.1 hf).1
  have hl2 := (List.getElem?_eq_some_iff.1 hi).1
  refine ACall.of_go TB [] tabOK _ Tryd.func82 rfl (by decide) Tryd.ntmps82 (by simp) rfl (by simp only [initEnv, Nat.reduceAdd]; rfl) fun C R' hR hC hcl hB => ?_; have X := noX; have hC' := congrArg List.length hC
  have X := And.intro X (And.intro (getX hf) (And.intro (getX hi) (And.intro hicl hic)))
  (refine run ?_; repeat' (first | with_reducible exact trivial | ((with_reducible apply Fork.mk) <;> intro hb) | with_reducible apply Two.mk))
  all_goals exact Fin.out hR ⟨rfl, rfl⟩
end Go.Proofs.YtihhngjoecgkpaaDoor
end

section
namespace Go.Proofs.YtihhngjoecgkpaaDoor
open Go
set_option linter.unusedSimpArgs false
set_option linter.unusedVariables false
set_option maxRecDepth 10000
set_option maxHeartbeats 4000000

def insTop (op slots frame : Int) : Int := if op = 2 then frame else (if slots < frame then slots else frame)
def lstOK (op frame : Int) (n : Nat) (l : List Int) : Bool := if bitOf 16 op then !(l.any fun n => !inR n 0 (frame - 1)) else if bitOf 32 op then !(l.any (badP op n)) else !decide ((0 : Int) < l.length)
def getA (l : List Con) (n : Int) : Int := match l[n.toNat]? with | some c => c.arity | none => 0
def getF (l : List Fun) (n : Int) : Int := match l[n.toNat]? with | some c => c.free | none => 0
def finOK (m : Img) (len : Nat) (i : Ins) : Bool :=
  if i.op = 12 then inR i.n 0 ((m.cons.length : Int) - 1) && decide (getA m.cons i.n = (i.l.length : Int))
  else if i.op = 13 then inR i.n 0 ((m.funcs.length : Int) - 1) && decide (getF m.funcs i.n = (i.l.length : Int))
  else if i.op = 11 then inR i.n 0 ((m.globals.length : Int) - 1)
  else if i.op = 14 then inR i.n 0 1000
  else if i.op = 20 then inR i.n 0 99
  else if i.op = 21 then inR i.n 0 ((len : Int) - 1) && decide ((i.l.length : Int) ≤ 1000)
  else if i.op = 23 then inR i.n 0 ((len : Int) - 1)
  else if i.op = 22 then decide ((i.l.length : Int) = 1)
  else if i.op = 16 ∨ i.op = 17 then decide ((0 : Int) < i.l.length)
  else true
def insOK (m : Img) (slots : Int) (frame : Int) (len : Nat) (i : Ins) : Bool :=
  !decide (ofS i.op = 0) && slotB (bitOf 1 i.op) (insTop i.op slots frame) i.a && slotB (bitOf 2 i.op) (insTop i.op slots frame) i.b && slotB (bitOf 4 i.op) (insTop i.op slots frame) i.c && (bitOf 8 i.op || decide (i.n = 0)) && lstOK i.op frame len i.l && finOK m len i
theorem bit16 (op : Int) : bitOf 16 op = (decide (op = 12) || decide (op = 13) || decide (op = 16) || decide (op = 17)) := by
  by_cases h : op < 1 ∨ 27 ≤ op
  · have : ofS op = 0 := by unfold ofS; rw [if_pos h]
    simp only [bitOf, this]
    have e : ∀ k : Int, 1 ≤ k → k < 27 → decide (op = k) = false := fun k h1 h2 => by rw [decide_eq_false_iff_not]; omega
    simp only [e 12 (by decide) (by decide), e 13 (by decide) (by decide), e 16 (by decide) (by decide), e 17 (by decide) (by decide)]
    rfl
  · have hk : ∀ k : _root_.Fin 27, bitOf 16 (k.val : Int) = (decide ((k.val : Int) = 12) || decide ((k.val : Int) = 13) || decide ((k.val : Int) = 16) || decide ((k.val : Int) = 17)) := by decide
    have := hk ⟨op.toNat, by omega⟩
    rw [show ((⟨op.toNat, by omega⟩ : _root_.Fin 27).val : Int) = op by simp; omega] at this
    exact this
def chkC (m : Img) (slots : Int) : List SV := m.cells ++ [.int .i64 slots]

theorem insElse_ok (G : Gl) (hG : GClosed G) (hF : GF G) (m : Img) (slots frame : Int) (fc : List SV) (code : List Ins) (hfcl : fc.length = 7) (hfc5 : fc[5]? = some (.int .i64 frame)) (hfc6 : fc[6]? = some (.list 6 (insL code))) (i : Ins) (hn : code.length < 1099511627776) (hl : i.l.length < 1099511627776)
    (hm1 : m.cons.length < 1099511627776) (hm2 : m.funcs.length < 1099511627776) (hm3 : m.globals.length < 1099511627776) (hs : 1 ≤ slots ∧ slots ≤ 65536) (hfr : 0 ≤ frame ∧ frame ≤ 65536) (hop : i.op ≠ 2 ∧ i.op ≠ 11 ∧ i.op ≠ 12 ∧ i.op ≠ 13 ∧ i.op ≠ 14 ∧ i.op ≠ 16 ∧ i.op ≠ 17 ∧ i.op ≠ 20 ∧ i.op ≠ 21 ∧ i.op ≠ 22 ∧ i.op ≠ 23) (c : Nat) (H : List Blk) (hc : H[c]? = some (.cells 0 5 [.agg (chkC m slots)])) :
    ACall Tryd.prog G 68 [.ptr c 0 0 0, .agg fc, .agg i.cells] H (fun r H' => H' = H ∧ r = .bool (insOK m slots frame code.length i)) := by
  have hcl0 := (List.getElem?_eq_some_iff.1 hc).1
  have hmcl : (chkC m slots).length = 5 := rfl
  have hmc0 : (chkC m slots)[0]? = some (.list 4 (consL m.cons)) := rfl
  have hmc1 : (chkC m slots)[1]? = some (.list 7 (funsL m.funcs)) := rfl
  have hmc2 : (chkC m slots)[2]? = some (.list 3 (glbsL m.globals)) := rfl
  have hmc4 : (chkC m slots)[4]? = some (.int .i64 slots) := rfl
  have hgoal : insOK m slots frame code.length i = insOK m slots frame code.length i := rfl
  obtain ⟨op, a, b, c', n, l⟩ := i
  simp only at hop hl
  generalize htop : insTop op slots frame = top
  have htb : -1099511627776 < top ∧ top < 1099511627776 := by subst htop; unfold insTop; (repeat' split) <;> omega
  have hlm : (l.map (SV.int .i64)).length = l.length := by simp
  simp only [insOK, htop] at hgoal
  generalize hmc : chkC m slots = mc at hc hmcl hmc0 hmc1 hmc2 hmc4
  simp only [Ins.cells]
  have hicl : ([.int .i64 op, .int .i64 a, .int .i64 b, .int .i64 c', .int .i64 n, .list 1 (l.map (.int .i64))] : List SV).length = 6 := rfl
  generalize hic : ([.int .i64 op, .int .i64 a, .int .i64 b, .int .i64 c', .int .i64 n, .list 1 (l.map (.int .i64))] : List SV) = ic at hicl
  have i0 : ic[0]? = some (.int .i64 op) := by subst hic; rfl
  have i1 : ic[1]? = some (.int .i64 a) := by subst hic; rfl
  have i2 : ic[2]? = some (.int .i64 b) := by subst hic; rfl
  have i3 : ic[3]? = some (.int .i64 c') := by subst hic; rfl
  have i4 : ic[4]? = some (.int .i64 n) := by subst hic; rfl
  have i5 : ic[5]? = some (.list 1 (l.map (.int .i64))) := by subst hic; rfl
  clear hic hmc
  have c1 := fun n hi H => within_ok G hG n 0 hi H
  have c2 := fun H => of_ok G hG hF op H
  obtain ⟨a1, a2, a4, a8, a16, a32, _⟩ := and_bit op
  generalize hB1 : bitOf 1 op = B1 at a1
  generalize hB2 : bitOf 2 op = B2 at a2
  generalize hB4 : bitOf 4 op = B4 at a4
  generalize hB8 : bitOf 8 op = B8 at a8
  generalize hB16 : bitOf 16 op = B16 at a16
  generalize hB32 : bitOf 32 op = B32 at a32
  generalize hown : ofS op = own at a1 a2 a4 a8 a16 a32 c2
  have v1 : ∀ s, ACallV Tryd.prog G (.fn (.func 78) [] [.ptr (H.length + 2) 0 0 0, .ptr (H.length + 3) 0 0 0]) [.int .i64 1, .int .i64 s] (H ++ [.cells 0 7 [.agg fc], .cells 0 6 [.agg ic], .cells 0 1 [.int .i64 own], .cells 0 1 [.int .i64 top]]) (fun r H' => H' = (H ++ [.cells 0 7 [.agg fc], .cells 0 6 [.agg ic], .cells 0 1 [.int .i64 own], .cells 0 1 [.int .i64 top]]) ∧ r = .bool (slotB B1 top s)) := fun s => ACallV.of (slot_ok G hG own top 1 s B1 (H.length + 2) (H.length + 3) _ (by simp) (by simp) a1 (b2_zero B1).1 htb)
  have v2 : ∀ s, ACallV Tryd.prog G (.fn (.func 78) [] [.ptr (H.length + 2) 0 0 0, .ptr (H.length + 3) 0 0 0]) [.int .i64 2, .int .i64 s] (H ++ [.cells 0 7 [.agg fc], .cells 0 6 [.agg ic], .cells 0 1 [.int .i64 own], .cells 0 1 [.int .i64 top]]) (fun r H' => H' = (H ++ [.cells 0 7 [.agg fc], .cells 0 6 [.agg ic], .cells 0 1 [.int .i64 own], .cells 0 1 [.int .i64 top]]) ∧ r = .bool (slotB B2 top s)) := fun s => ACallV.of (slot_ok G hG own top 2 s B2 (H.length + 2) (H.length + 3) _ (by simp) (by simp) a2 (b2_zero B2).2.1 htb)
  have v3 : ∀ s, ACallV Tryd.prog G (.fn (.func 78) [] [.ptr (H.length + 2) 0 0 0, .ptr (H.length + 3) 0 0 0]) [.int .i64 4, .int .i64 s] (H ++ [.cells 0 7 [.agg fc], .cells 0 6 [.agg ic], .cells 0 1 [.int .i64 own], .cells 0 1 [.int .i64 top]]) (fun r H' => H' = (H ++ [.cells 0 7 [.agg fc], .cells 0 6 [.agg ic], .cells 0 1 [.int .i64 own], .cells 0 1 [.int .i64 top]]) ∧ r = .bool (slotB B4 top s)) := fun s => ACallV.of (slot_ok G hG own top 4 s B4 (H.length + 2) (H.length + 3) _ (by simp) (by simp) a4 (b2_zero B4).2.2.1 htb)
  refine ACall.of_go TB [] tabOK _ Tryd.func68 rfl (by decide) Tryd.ntmps68 (by simp) rfl (by simp only [initEnv, Nat.reduceAdd]; rfl) fun C R' hR hC hcl hB => ?_; have X := noX; have hC' := congrArg List.length hC
  have hr1 : IntKind.i64.min ≤ slots := by simp [IntKind.min, IntKind.signed, IntKind.bits]; omega
  have hr2 : slots ≤ IntKind.i64.max := by simp [IntKind.max, IntKind.signed, IntKind.bits]; omega
  have X0 := And.intro X (And.intro hlm (And.intro hfcl (And.intro hfc5 (And.intro hfc6 (And.intro (getX hc) (And.intro hmcl (And.intro hmc0 (And.intro hmc1 (And.intro hmc2 (And.intro hmc4 (And.intro hicl (And.intro i0 (And.intro i1 (And.intro i2 (And.intro i3 (And.intro i4 (And.intro i5 (And.intro a8 (And.intro a16 (And.intro a32 (And.intro (b2_zero B8) (And.intro (b2_zero B16) (And.intro (b2_zero B32) (And.intro hr1 hr2))))))))))))))))))))))))
  clear X

  obtain ⟨n2, n11, n12, n13, n14, n16, n17, n20, n21, n22, n23⟩ := hop
  have e16 : B16 = false := by rw [← hB16, bit16]; simp [n12, n13, n16, n17]
  have e32 : B32 = false := by rw [← hB32, bit32]; simp [n21, n22]
  subst e16
  subst e32
  have htop2 : (if slots < frame then slots else frame) = top := by rw [← htop]; unfold insTop; rw [if_neg n2]
  have X := And.intro X0 (And.intro n2 (And.intro n11 (And.intro n12 (And.intro n13 (And.intro n14 (And.intro n16 (And.intro n17 (And.intro n20 (And.intro n21 (And.intro n22 (And.intro n23 htop2)))))))))))
  (refine run ?_; repeat' (first | with_reducible exact trivial | ((with_reducible apply Fork.mk) <;> intro hb) | with_reducible apply Two.mk))
  all_goals
    refine finS hR hC' hcl (.same _ rfl) ⟨rfl, ?_⟩
    clear X X0 v1 v2 v3 c1 c2 hR hC hC' hcl hB hc hG hF a1 a2 a4 a8 a16 a32 hgoal i0 i1 i2 i3 i4 i5 hmc0 hmc1 hmc2 hmc4 hmcl hcl0 hicl hfc5 hfc6 hfcl hr1 hr2 hlm htb hl hn hs hfr hm1 hm2 hm3
    simp only [insOK, lstOK, finOK, htop, hown, hB1, hB2, hB4, hB8, hB16, hB32]
    simp only [resSV]
    congr 1
    generalize slotB B4 top c' = S4 at *
    cases S4 <;> cases B8 <;> simp_all
theorem ins2_ok (G : Gl) (hG : GClosed G) (hF : GF G) (m : Img) (slots frame : Int) (fc : List SV) (code : List Ins) (hfcl : fc.length = 7) (hfc5 : fc[5]? = some (.int .i64 frame)) (hfc6 : fc[6]? = some (.list 6 (insL code))) (i : Ins) (hn : code.length < 1099511627776) (hl : i.l.length < 1099511627776)
    (hm1 : m.cons.length < 1099511627776) (hm2 : m.funcs.length < 1099511627776) (hm3 : m.globals.length < 1099511627776) (hs : 1 ≤ slots ∧ slots ≤ 65536) (hfr : 0 ≤ frame ∧ frame ≤ 65536) (hop : i.op = 2) (c : Nat) (H : List Blk) (hc : H[c]? = some (.cells 0 5 [.agg (chkC m slots)])) :
    ACall Tryd.prog G 68 [.ptr c 0 0 0, .agg fc, .agg i.cells] H (fun r H' => H' = H ∧ r = .bool (insOK m slots frame code.length i)) := by
  have hcl0 := (List.getElem?_eq_some_iff.1 hc).1
  have hmcl : (chkC m slots).length = 5 := rfl
  have hmc0 : (chkC m slots)[0]? = some (.list 4 (consL m.cons)) := rfl
  have hmc1 : (chkC m slots)[1]? = some (.list 7 (funsL m.funcs)) := rfl
  have hmc2 : (chkC m slots)[2]? = some (.list 3 (glbsL m.globals)) := rfl
  have hmc4 : (chkC m slots)[4]? = some (.int .i64 slots) := rfl
  have hgoal : insOK m slots frame code.length i = insOK m slots frame code.length i := rfl
  obtain ⟨op, a, b, c', n, l⟩ := i
  simp only at hop hl
  generalize htop : insTop op slots frame = top
  have htb : -1099511627776 < top ∧ top < 1099511627776 := by subst htop; unfold insTop; (repeat' split) <;> omega
  have hlm : (l.map (SV.int .i64)).length = l.length := by simp
  simp only [insOK, htop] at hgoal
  generalize hmc : chkC m slots = mc at hc hmcl hmc0 hmc1 hmc2 hmc4
  simp only [Ins.cells]
  have hicl : ([.int .i64 op, .int .i64 a, .int .i64 b, .int .i64 c', .int .i64 n, .list 1 (l.map (.int .i64))] : List SV).length = 6 := rfl
  generalize hic : ([.int .i64 op, .int .i64 a, .int .i64 b, .int .i64 c', .int .i64 n, .list 1 (l.map (.int .i64))] : List SV) = ic at hicl
  have i0 : ic[0]? = some (.int .i64 op) := by subst hic; rfl
  have i1 : ic[1]? = some (.int .i64 a) := by subst hic; rfl
  have i2 : ic[2]? = some (.int .i64 b) := by subst hic; rfl
  have i3 : ic[3]? = some (.int .i64 c') := by subst hic; rfl
  have i4 : ic[4]? = some (.int .i64 n) := by subst hic; rfl
  have i5 : ic[5]? = some (.list 1 (l.map (.int .i64))) := by subst hic; rfl
  clear hic hmc
  have c1 := fun n hi H => within_ok G hG n 0 hi H
  have c2 := fun H => of_ok G hG hF op H
  obtain ⟨a1, a2, a4, a8, a16, a32, _⟩ := and_bit op
  generalize hB1 : bitOf 1 op = B1 at a1
  generalize hB2 : bitOf 2 op = B2 at a2
  generalize hB4 : bitOf 4 op = B4 at a4
  generalize hB8 : bitOf 8 op = B8 at a8
  generalize hB16 : bitOf 16 op = B16 at a16
  generalize hB32 : bitOf 32 op = B32 at a32
  generalize hown : ofS op = own at a1 a2 a4 a8 a16 a32 c2
  have v1 : ∀ s, ACallV Tryd.prog G (.fn (.func 78) [] [.ptr (H.length + 2) 0 0 0, .ptr (H.length + 3) 0 0 0]) [.int .i64 1, .int .i64 s] (H ++ [.cells 0 7 [.agg fc], .cells 0 6 [.agg ic], .cells 0 1 [.int .i64 own], .cells 0 1 [.int .i64 top]]) (fun r H' => H' = (H ++ [.cells 0 7 [.agg fc], .cells 0 6 [.agg ic], .cells 0 1 [.int .i64 own], .cells 0 1 [.int .i64 top]]) ∧ r = .bool (slotB B1 top s)) := fun s => ACallV.of (slot_ok G hG own top 1 s B1 (H.length + 2) (H.length + 3) _ (by simp) (by simp) a1 (b2_zero B1).1 htb)
  have v2 : ∀ s, ACallV Tryd.prog G (.fn (.func 78) [] [.ptr (H.length + 2) 0 0 0, .ptr (H.length + 3) 0 0 0]) [.int .i64 2, .int .i64 s] (H ++ [.cells 0 7 [.agg fc], .cells 0 6 [.agg ic], .cells 0 1 [.int .i64 own], .cells 0 1 [.int .i64 top]]) (fun r H' => H' = (H ++ [.cells 0 7 [.agg fc], .cells 0 6 [.agg ic], .cells 0 1 [.int .i64 own], .cells 0 1 [.int .i64 top]]) ∧ r = .bool (slotB B2 top s)) := fun s => ACallV.of (slot_ok G hG own top 2 s B2 (H.length + 2) (H.length + 3) _ (by simp) (by simp) a2 (b2_zero B2).2.1 htb)
  have v3 : ∀ s, ACallV Tryd.prog G (.fn (.func 78) [] [.ptr (H.length + 2) 0 0 0, .ptr (H.length + 3) 0 0 0]) [.int .i64 4, .int .i64 s] (H ++ [.cells 0 7 [.agg fc], .cells 0 6 [.agg ic], .cells 0 1 [.int .i64 own], .cells 0 1 [.int .i64 top]]) (fun r H' => H' = (H ++ [.cells 0 7 [.agg fc], .cells 0 6 [.agg ic], .cells 0 1 [.int .i64 own], .cells 0 1 [.int .i64 top]]) ∧ r = .bool (slotB B4 top s)) := fun s => ACallV.of (slot_ok G hG own top 4 s B4 (H.length + 2) (H.length + 3) _ (by simp) (by simp) a4 (b2_zero B4).2.2.1 htb)
  refine ACall.of_go TB [] tabOK _ Tryd.func68 rfl (by decide) Tryd.ntmps68 (by simp) rfl (by simp only [initEnv, Nat.reduceAdd]; rfl) fun C R' hR hC hcl hB => ?_; have X := noX; have hC' := congrArg List.length hC
  have hr1 : IntKind.i64.min ≤ slots := by simp [IntKind.min, IntKind.signed, IntKind.bits]; omega
  have hr2 : slots ≤ IntKind.i64.max := by simp [IntKind.max, IntKind.signed, IntKind.bits]; omega
  have X0 := And.intro X (And.intro hlm (And.intro hfcl (And.intro hfc5 (And.intro hfc6 (And.intro (getX hc) (And.intro hmcl (And.intro hmc0 (And.intro hmc1 (And.intro hmc2 (And.intro hmc4 (And.intro hicl (And.intro i0 (And.intro i1 (And.intro i2 (And.intro i3 (And.intro i4 (And.intro i5 (And.intro a8 (And.intro a16 (And.intro a32 (And.intro (b2_zero B8) (And.intro (b2_zero B16) (And.intro (b2_zero B32) (And.intro hr1 hr2))))))))))))))))))))))))
  clear X

  subst hop
  have e16 : B16 = false := by rw [← hB16]; decide
  have e32 : B32 = false := by rw [← hB32]; decide
  subst e16
  subst e32
  have htop2 : frame = top := by rw [← htop]; rfl
  have c3 := True.intro
  have X := And.intro X0 htop2
  (refine run ?_; repeat' (first | with_reducible exact trivial | ((with_reducible apply Fork.mk) <;> intro hb) | with_reducible apply Two.mk))
  all_goals
    refine finS hR hC' hcl (.same _ rfl) ⟨rfl, ?_⟩
    clear X X0 v1 v2 v3 c1 c2 c3 hR hC hC' hcl hB hc hG hF a1 a2 a4 a8 a16 a32 hgoal i0 i1 i2 i3 i4 i5 hmc0 hmc1 hmc2 hmc4 hmcl hcl0 hicl hfc5 hfc6 hfcl hr1 hr2 hlm htb hl hn hs hfr hm1 hm2 hm3
    simp only [insOK, lstOK, finOK, htop, hown, hB1, hB2, hB4, hB8, hB16, hB32]
    simp only [resSV]
    congr 1
    generalize slotB B4 top c' = S4 at *
    cases S4 <;> cases B8 <;> simp_all
theorem ins11_ok (G : Gl) (hG : GClosed G) (hF : GF G) (m : Img) (slots frame : Int) (fc : List SV) (code : List Ins) (hfcl : fc.length = 7) (hfc5 : fc[5]? = some (.int .i64 frame)) (hfc6 : fc[6]? = some (.list 6 (insL code))) (i : Ins) (hn : code.length < 1099511627776) (hl : i.l.length < 1099511627776)
    (hm1 : m.cons.length < 1099511627776) (hm2 : m.funcs.length < 1099511627776) (hm3 : m.globals.length < 1099511627776) (hs : 1 ≤ slots ∧ slots ≤ 65536) (hfr : 0 ≤ frame ∧ frame ≤ 65536) (hop : i.op = 11) (c : Nat) (H : List Blk) (hc : H[c]? = some (.cells 0 5 [.agg (chkC m slots)])) :
    ACall Tryd.prog G 68 [.ptr c 0 0 0, .agg fc, .agg i.cells] H (fun r H' => H' = H ∧ r = .bool (insOK m slots frame code.length i)) := by
  have hcl0 := (List.getElem?_eq_some_iff.1 hc).1
  have hmcl : (chkC m slots).length = 5 := rfl
  have hmc0 : (chkC m slots)[0]? = some (.list 4 (consL m.cons)) := rfl
  have hmc1 : (chkC m slots)[1]? = some (.list 7 (funsL m.funcs)) := rfl
  have hmc2 : (chkC m slots)[2]? = some (.list 3 (glbsL m.globals)) := rfl
  have hmc4 : (chkC m slots)[4]? = some (.int .i64 slots) := rfl
  have hgoal : insOK m slots frame code.length i = insOK m slots frame code.length i := rfl
  obtain ⟨op, a, b, c', n, l⟩ := i
  simp only at hop hl
  generalize htop : insTop op slots frame = top
  have htb : -1099511627776 < top ∧ top < 1099511627776 := by subst htop; unfold insTop; (repeat' split) <;> omega
  have hlm : (l.map (SV.int .i64)).length = l.length := by simp
  simp only [insOK, htop] at hgoal
  generalize hmc : chkC m slots = mc at hc hmcl hmc0 hmc1 hmc2 hmc4
  simp only [Ins.cells]
  have hicl : ([.int .i64 op, .int .i64 a, .int .i64 b, .int .i64 c', .int .i64 n, .list 1 (l.map (.int .i64))] : List SV).length = 6 := rfl
  generalize hic : ([.int .i64 op, .int .i64 a, .int .i64 b, .int .i64 c', .int .i64 n, .list 1 (l.map (.int .i64))] : List SV) = ic at hicl
  have i0 : ic[0]? = some (.int .i64 op) := by subst hic; rfl
  have i1 : ic[1]? = some (.int .i64 a) := by subst hic; rfl
  have i2 : ic[2]? = some (.int .i64 b) := by subst hic; rfl
  have i3 : ic[3]? = some (.int .i64 c') := by subst hic; rfl
  have i4 : ic[4]? = some (.int .i64 n) := by subst hic; rfl
  have i5 : ic[5]? = some (.list 1 (l.map (.int .i64))) := by subst hic; rfl
  clear hic hmc
  have c1 := fun n hi H => within_ok G hG n 0 hi H
  have c2 := fun H => of_ok G hG hF op H
  obtain ⟨a1, a2, a4, a8, a16, a32, _⟩ := and_bit op
  generalize hB1 : bitOf 1 op = B1 at a1
  generalize hB2 : bitOf 2 op = B2 at a2
  generalize hB4 : bitOf 4 op = B4 at a4
  generalize hB8 : bitOf 8 op = B8 at a8
  generalize hB16 : bitOf 16 op = B16 at a16
  generalize hB32 : bitOf 32 op = B32 at a32
  generalize hown : ofS op = own at a1 a2 a4 a8 a16 a32 c2
  have v1 : ∀ s, ACallV Tryd.prog G (.fn (.func 78) [] [.ptr (H.length + 2) 0 0 0, .ptr (H.length + 3) 0 0 0]) [.int .i64 1, .int .i64 s] (H ++ [.cells 0 7 [.agg fc], .cells 0 6 [.agg ic], .cells 0 1 [.int .i64 own], .cells 0 1 [.int .i64 top]]) (fun r H' => H' = (H ++ [.cells 0 7 [.agg fc], .cells 0 6 [.agg ic], .cells 0 1 [.int .i64 own], .cells 0 1 [.int .i64 top]]) ∧ r = .bool (slotB B1 top s)) := fun s => ACallV.of (slot_ok G hG own top 1 s B1 (H.length + 2) (H.length + 3) _ (by simp) (by simp) a1 (b2_zero B1).1 htb)
  have v2 : ∀ s, ACallV Tryd.prog G (.fn (.func 78) [] [.ptr (H.length + 2) 0 0 0, .ptr (H.length + 3) 0 0 0]) [.int .i64 2, .int .i64 s] (H ++ [.cells 0 7 [.agg fc], .cells 0 6 [.agg ic], .cells 0 1 [.int .i64 own], .cells 0 1 [.int .i64 top]]) (fun r H' => H' = (H ++ [.cells 0 7 [.agg fc], .cells 0 6 [.agg ic], .cells 0 1 [.int .i64 own], .cells 0 1 [.int .i64 top]]) ∧ r = .bool (slotB B2 top s)) := fun s => ACallV.of (slot_ok G hG own top 2 s B2 (H.length + 2) (H.length + 3) _ (by simp) (by simp) a2 (b2_zero B2).2.1 htb)
  have v3 : ∀ s, ACallV Tryd.prog G (.fn (.func 78) [] [.ptr (H.length + 2) 0 0 0, .ptr (H.length + 3) 0 0 0]) [.int .i64 4, .int .i64 s] (H ++ [.cells 0 7 [.agg fc], .cells 0 6 [.agg ic], .cells 0 1 [.int .i64 own], .cells 0 1 [.int .i64 top]]) (fun r H' => H' = (H ++ [.cells 0 7 [.agg fc], .cells 0 6 [.agg ic], .cells 0 1 [.int .i64 own], .cells 0 1 [.int .i64 top]]) ∧ r = .bool (slotB B4 top s)) := fun s => ACallV.of (slot_ok G hG own top 4 s B4 (H.length + 2) (H.length + 3) _ (by simp) (by simp) a4 (b2_zero B4).2.2.1 htb)
  refine ACall.of_go TB [] tabOK _ Tryd.func68 rfl (by decide) Tryd.ntmps68 (by simp) rfl (by simp only [initEnv, Nat.reduceAdd]; rfl) fun C R' hR hC hcl hB => ?_; have X := noX; have hC' := congrArg List.length hC
  have hr1 : IntKind.i64.min ≤ slots := by simp [IntKind.min, IntKind.signed, IntKind.bits]; omega
  have hr2 : slots ≤ IntKind.i64.max := by simp [IntKind.max, IntKind.signed, IntKind.bits]; omega
  have X0 := And.intro X (And.intro hlm (And.intro hfcl (And.intro hfc5 (And.intro hfc6 (And.intro (getX hc) (And.intro hmcl (And.intro hmc0 (And.intro hmc1 (And.intro hmc2 (And.intro hmc4 (And.intro hicl (And.intro i0 (And.intro i1 (And.intro i2 (And.intro i3 (And.intro i4 (And.intro i5 (And.intro a8 (And.intro a16 (And.intro a32 (And.intro (b2_zero B8) (And.intro (b2_zero B16) (And.intro (b2_zero B32) (And.intro hr1 hr2))))))))))))))))))))))))
  clear X

  subst hop
  have e16 : B16 = false := by rw [← hB16]; decide
  have e32 : B32 = false := by rw [← hB32]; decide
  subst e16
  subst e32
  have htop2 : (if slots < frame then slots else frame) = top := by rw [← htop]; rfl
  have c3 := True.intro
  have X := And.intro X0 htop2
  (refine run ?_; repeat' (first | with_reducible exact trivial | ((with_reducible apply Fork.mk) <;> intro hb) | with_reducible apply Two.mk))
  all_goals
    refine finS hR hC' hcl (.same _ rfl) ⟨rfl, ?_⟩
    clear X X0 v1 v2 v3 c1 c2 c3 hR hC hC' hcl hB hc hG hF a1 a2 a4 a8 a16 a32 hgoal i0 i1 i2 i3 i4 i5 hmc0 hmc1 hmc2 hmc4 hmcl hcl0 hicl hfc5 hfc6 hfcl hr1 hr2 hlm htb hl hn hs hfr hm1 hm2 hm3
    simp only [insOK, lstOK, finOK, htop, hown, hB1, hB2, hB4, hB8, hB16, hB32]
    simp only [resSV]
    congr 1
    generalize slotB B4 top c' = S4 at *
    cases S4 <;> cases B8 <;> simp_all
theorem ins14_ok (G : Gl) (hG : GClosed G) (hF : GF G) (m : Img) (slots frame : Int) (fc : List SV) (code : List Ins) (hfcl : fc.length = 7) (hfc5 : fc[5]? = some (.int .i64 frame)) (hfc6 : fc[6]? = some (.list 6 (insL code))) (i : Ins) (hn : code.length < 1099511627776) (hl : i.l.length < 1099511627776)
    (hm1 : m.cons.length < 1099511627776) (hm2 : m.funcs.length < 1099511627776) (hm3 : m.globals.length < 1099511627776) (hs : 1 ≤ slots ∧ slots ≤ 65536) (hfr : 0 ≤ frame ∧ frame ≤ 65536) (hop : i.op = 14) (c : Nat) (H : List Blk) (hc : H[c]? = some (.cells 0 5 [.agg (chkC m slots)])) :
    ACall Tryd.prog G 68 [.ptr c 0 0 0, .agg fc, .agg i.cells] H (fun r H' => H' = H ∧ r = .bool (insOK m slots frame code.length i)) := by
  have hcl0 := (List.getElem?_eq_some_iff.1 hc).1
  have hmcl : (chkC m slots).length = 5 := rfl
  have hmc0 : (chkC m slots)[0]? = some (.list 4 (consL m.cons)) := rfl
  have hmc1 : (chkC m slots)[1]? = some (.list 7 (funsL m.funcs)) := rfl
  have hmc2 : (chkC m slots)[2]? = some (.list 3 (glbsL m.globals)) := rfl
  have hmc4 : (chkC m slots)[4]? = some (.int .i64 slots) := rfl
  have hgoal : insOK m slots frame code.length i = insOK m slots frame code.length i := rfl
  obtain ⟨op, a, b, c', n, l⟩ := i
  simp only at hop hl
  generalize htop : insTop op slots frame = top
  have htb : -1099511627776 < top ∧ top < 1099511627776 := by subst htop; unfold insTop; (repeat' split) <;> omega
  have hlm : (l.map (SV.int .i64)).length = l.length := by simp
  simp only [insOK, htop] at hgoal
  generalize hmc : chkC m slots = mc at hc hmcl hmc0 hmc1 hmc2 hmc4
  simp only [Ins.cells]
  have hicl : ([.int .i64 op, .int .i64 a, .int .i64 b, .int .i64 c', .int .i64 n, .list 1 (l.map (.int .i64))] : List SV).length = 6 := rfl
  generalize hic : ([.int .i64 op, .int .i64 a, .int .i64 b, .int .i64 c', .int .i64 n, .list 1 (l.map (.int .i64))] : List SV) = ic at hicl
  have i0 : ic[0]? = some (.int .i64 op) := by subst hic; rfl
  have i1 : ic[1]? = some (.int .i64 a) := by subst hic; rfl
  have i2 : ic[2]? = some (.int .i64 b) := by subst hic; rfl
  have i3 : ic[3]? = some (.int .i64 c') := by subst hic; rfl
  have i4 : ic[4]? = some (.int .i64 n) := by subst hic; rfl
  have i5 : ic[5]? = some (.list 1 (l.map (.int .i64))) := by subst hic; rfl
  clear hic hmc
  have c1 := fun n hi H => within_ok G hG n 0 hi H
  have c2 := fun H => of_ok G hG hF op H
  obtain ⟨a1, a2, a4, a8, a16, a32, _⟩ := and_bit op
  generalize hB1 : bitOf 1 op = B1 at a1
  generalize hB2 : bitOf 2 op = B2 at a2
  generalize hB4 : bitOf 4 op = B4 at a4
  generalize hB8 : bitOf 8 op = B8 at a8
  generalize hB16 : bitOf 16 op = B16 at a16
  generalize hB32 : bitOf 32 op = B32 at a32
  generalize hown : ofS op = own at a1 a2 a4 a8 a16 a32 c2
  have v1 : ∀ s, ACallV Tryd.prog G (.fn (.func 78) [] [.ptr (H.length + 2) 0 0 0, .ptr (H.length + 3) 0 0 0]) [.int .i64 1, .int .i64 s] (H ++ [.cells 0 7 [.agg fc], .cells 0 6 [.agg ic], .cells 0 1 [.int .i64 own], .cells 0 1 [.int .i64 top]]) (fun r H' => H' = (H ++ [.cells 0 7 [.agg fc], .cells 0 6 [.agg ic], .cells 0 1 [.int .i64 own], .cells 0 1 [.int .i64 top]]) ∧ r = .bool (slotB B1 top s)) := fun s => ACallV.of (slot_ok G hG own top 1 s B1 (H.length + 2) (H.length + 3) _ (by simp) (by simp) a1 (b2_zero B1).1 htb)
  have v2 : ∀ s, ACallV Tryd.prog G (.fn (.func 78) [] [.ptr (H.length + 2) 0 0 0, .ptr (H.length + 3) 0 0 0]) [.int .i64 2, .int .i64 s] (H ++ [.cells 0 7 [.agg fc], .cells 0 6 [.agg ic], .cells 0 1 [.int .i64 own], .cells 0 1 [.int .i64 top]]) (fun r H' => H' = (H ++ [.cells 0 7 [.agg fc], .cells 0 6 [.agg ic], .cells 0 1 [.int .i64 own], .cells 0 1 [.int .i64 top]]) ∧ r = .bool (slotB B2 top s)) := fun s => ACallV.of (slot_ok G hG own top 2 s B2 (H.length + 2) (H.length + 3) _ (by simp) (by simp) a2 (b2_zero B2).2.1 htb)
  have v3 : ∀ s, ACallV Tryd.prog G (.fn (.func 78) [] [.ptr (H.length + 2) 0 0 0, .ptr (H.length + 3) 0 0 0]) [.int .i64 4, .int .i64 s] (H ++ [.cells 0 7 [.agg fc], .cells 0 6 [.agg ic], .cells 0 1 [.int .i64 own], .cells 0 1 [.int .i64 top]]) (fun r H' => H' = (H ++ [.cells 0 7 [.agg fc], .cells 0 6 [.agg ic], .cells 0 1 [.int .i64 own], .cells 0 1 [.int .i64 top]]) ∧ r = .bool (slotB B4 top s)) := fun s => ACallV.of (slot_ok G hG own top 4 s B4 (H.length + 2) (H.length + 3) _ (by simp) (by simp) a4 (b2_zero B4).2.2.1 htb)
  refine ACall.of_go TB [] tabOK _ Tryd.func68 rfl (by decide) Tryd.ntmps68 (by simp) rfl (by simp only [initEnv, Nat.reduceAdd]; rfl) fun C R' hR hC hcl hB => ?_; have X := noX; have hC' := congrArg List.length hC
  have hr1 : IntKind.i64.min ≤ slots := by simp [IntKind.min, IntKind.signed, IntKind.bits]; omega
  have hr2 : slots ≤ IntKind.i64.max := by simp [IntKind.max, IntKind.signed, IntKind.bits]; omega
  have X0 := And.intro X (And.intro hlm (And.intro hfcl (And.intro hfc5 (And.intro hfc6 (And.intro (getX hc) (And.intro hmcl (And.intro hmc0 (And.intro hmc1 (And.intro hmc2 (And.intro hmc4 (And.intro hicl (And.intro i0 (And.intro i1 (And.intro i2 (And.intro i3 (And.intro i4 (And.intro i5 (And.intro a8 (And.intro a16 (And.intro a32 (And.intro (b2_zero B8) (And.intro (b2_zero B16) (And.intro (b2_zero B32) (And.intro hr1 hr2))))))))))))))))))))))))
  clear X

  subst hop
  have e16 : B16 = false := by rw [← hB16]; decide
  have e32 : B32 = false := by rw [← hB32]; decide
  subst e16
  subst e32
  have htop2 : (if slots < frame then slots else frame) = top := by rw [← htop]; rfl
  have c3 := True.intro
  have X := And.intro X0 htop2
  (refine run ?_; repeat' (first | with_reducible exact trivial | ((with_reducible apply Fork.mk) <;> intro hb) | with_reducible apply Two.mk))
  all_goals
    refine finS hR hC' hcl (.same _ rfl) ⟨rfl, ?_⟩
    clear X X0 v1 v2 v3 c1 c2 c3 hR hC hC' hcl hB hc hG hF a1 a2 a4 a8 a16 a32 hgoal i0 i1 i2 i3 i4 i5 hmc0 hmc1 hmc2 hmc4 hmcl hcl0 hicl hfc5 hfc6 hfcl hr1 hr2 hlm htb hl hn hs hfr hm1 hm2 hm3
    simp only [insOK, lstOK, finOK, htop, hown, hB1, hB2, hB4, hB8, hB16, hB32]
    simp only [resSV]
    congr 1
    generalize slotB B4 top c' = S4 at *
    cases S4 <;> cases B8 <;> simp_all
theorem ins16_ok (G : Gl) (hG : GClosed G) (hF : GF G) (m : Img) (slots frame : Int) (fc : List SV) (code : List Ins) (hfcl : fc.length = 7) (hfc5 : fc[5]? = some (.int .i64 frame)) (hfc6 : fc[6]? = some (.list 6 (insL code))) (i : Ins) (hn : code.length < 1099511627776) (hl : i.l.length < 1099511627776)
    (hm1 : m.cons.length < 1099511627776) (hm2 : m.funcs.length < 1099511627776) (hm3 : m.globals.length < 1099511627776) (hs : 1 ≤ slots ∧ slots ≤ 65536) (hfr : 0 ≤ frame ∧ frame ≤ 65536) (hop : i.op = 16) (c : Nat) (H : List Blk) (hc : H[c]? = some (.cells 0 5 [.agg (chkC m slots)])) :
    ACall Tryd.prog G 68 [.ptr c 0 0 0, .agg fc, .agg i.cells] H (fun r H' => H' = H ∧ r = .bool (insOK m slots frame code.length i)) := by
  have hcl0 := (List.getElem?_eq_some_iff.1 hc).1
  have hmcl : (chkC m slots).length = 5 := rfl
  have hmc0 : (chkC m slots)[0]? = some (.list 4 (consL m.cons)) := rfl
  have hmc1 : (chkC m slots)[1]? = some (.list 7 (funsL m.funcs)) := rfl
  have hmc2 : (chkC m slots)[2]? = some (.list 3 (glbsL m.globals)) := rfl
  have hmc4 : (chkC m slots)[4]? = some (.int .i64 slots) := rfl
  have hgoal : insOK m slots frame code.length i = insOK m slots frame code.length i := rfl
  obtain ⟨op, a, b, c', n, l⟩ := i
  simp only at hop hl
  generalize htop : insTop op slots frame = top
  have htb : -1099511627776 < top ∧ top < 1099511627776 := by subst htop; unfold insTop; (repeat' split) <;> omega
  have hlm : (l.map (SV.int .i64)).length = l.length := by simp
  simp only [insOK, htop] at hgoal
  generalize hmc : chkC m slots = mc at hc hmcl hmc0 hmc1 hmc2 hmc4
  simp only [Ins.cells]
  have hicl : ([.int .i64 op, .int .i64 a, .int .i64 b, .int .i64 c', .int .i64 n, .list 1 (l.map (.int .i64))] : List SV).length = 6 := rfl
  generalize hic : ([.int .i64 op, .int .i64 a, .int .i64 b, .int .i64 c', .int .i64 n, .list 1 (l.map (.int .i64))] : List SV) = ic at hicl
  have i0 : ic[0]? = some (.int .i64 op) := by subst hic; rfl
  have i1 : ic[1]? = some (.int .i64 a) := by subst hic; rfl
  have i2 : ic[2]? = some (.int .i64 b) := by subst hic; rfl
  have i3 : ic[3]? = some (.int .i64 c') := by subst hic; rfl
  have i4 : ic[4]? = some (.int .i64 n) := by subst hic; rfl
  have i5 : ic[5]? = some (.list 1 (l.map (.int .i64))) := by subst hic; rfl
  clear hic hmc
  have c1 := fun n hi H => within_ok G hG n 0 hi H
  have c2 := fun H => of_ok G hG hF op H
  obtain ⟨a1, a2, a4, a8, a16, a32, _⟩ := and_bit op
  generalize hB1 : bitOf 1 op = B1 at a1
  generalize hB2 : bitOf 2 op = B2 at a2
  generalize hB4 : bitOf 4 op = B4 at a4
  generalize hB8 : bitOf 8 op = B8 at a8
  generalize hB16 : bitOf 16 op = B16 at a16
  generalize hB32 : bitOf 32 op = B32 at a32
  generalize hown : ofS op = own at a1 a2 a4 a8 a16 a32 c2
  have v1 : ∀ s, ACallV Tryd.prog G (.fn (.func 78) [] [.ptr (H.length + 2) 0 0 0, .ptr (H.length + 3) 0 0 0]) [.int .i64 1, .int .i64 s] (H ++ [.cells 0 7 [.agg fc], .cells 0 6 [.agg ic], .cells 0 1 [.int .i64 own], .cells 0 1 [.int .i64 top]]) (fun r H' => H' = (H ++ [.cells 0 7 [.agg fc], .cells 0 6 [.agg ic], .cells 0 1 [.int .i64 own], .cells 0 1 [.int .i64 top]]) ∧ r = .bool (slotB B1 top s)) := fun s => ACallV.of (slot_ok G hG own top 1 s B1 (H.length + 2) (H.length + 3) _ (by simp) (by simp) a1 (b2_zero B1).1 htb)
  have v2 : ∀ s, ACallV Tryd.prog G (.fn (.func 78) [] [.ptr (H.length + 2) 0 0 0, .ptr (H.length + 3) 0 0 0]) [.int .i64 2, .int .i64 s] (H ++ [.cells 0 7 [.agg fc], .cells 0 6 [.agg ic], .cells 0 1 [.int .i64 own], .cells 0 1 [.int .i64 top]]) (fun r H' => H' = (H ++ [.cells 0 7 [.agg fc], .cells 0 6 [.agg ic], .cells 0 1 [.int .i64 own], .cells 0 1 [.int .i64 top]]) ∧ r = .bool (slotB B2 top s)) := fun s => ACallV.of (slot_ok G hG own top 2 s B2 (H.length + 2) (H.length + 3) _ (by simp) (by simp) a2 (b2_zero B2).2.1 htb)
  have v3 : ∀ s, ACallV Tryd.prog G (.fn (.func 78) [] [.ptr (H.length + 2) 0 0 0, .ptr (H.length + 3) 0 0 0]) [.int .i64 4, .int .i64 s] (H ++ [.cells 0 7 [.agg fc], .cells 0 6 [.agg ic], .cells 0 1 [.int .i64 own], .cells 0 1 [.int .i64 top]]) (fun r H' => H' = (H ++ [.cells 0 7 [.agg fc], .cells 0 6 [.agg ic], .cells 0 1 [.int .i64 own], .cells 0 1 [.int .i64 top]]) ∧ r = .bool (slotB B4 top s)) := fun s => ACallV.of (slot_ok G hG own top 4 s B4 (H.length + 2) (H.length + 3) _ (by simp) (by simp) a4 (b2_zero B4).2.2.1 htb)
  refine ACall.of_go TB [] tabOK _ Tryd.func68 rfl (by decide) Tryd.ntmps68 (by simp) rfl (by simp only [initEnv, Nat.reduceAdd]; rfl) fun C R' hR hC hcl hB => ?_; have X := noX; have hC' := congrArg List.length hC
  have hr1 : IntKind.i64.min ≤ slots := by simp [IntKind.min, IntKind.signed, IntKind.bits]; omega
  have hr2 : slots ≤ IntKind.i64.max := by simp [IntKind.max, IntKind.signed, IntKind.bits]; omega
  have X0 := And.intro X (And.intro hlm (And.intro hfcl (And.intro hfc5 (And.intro hfc6 (And.intro (getX hc) (And.intro hmcl (And.intro hmc0 (And.intro hmc1 (And.intro hmc2 (And.intro hmc4 (And.intro hicl (And.intro i0 (And.intro i1 (And.intro i2 (And.intro i3 (And.intro i4 (And.intro i5 (And.intro a8 (And.intro a16 (And.intro a32 (And.intro (b2_zero B8) (And.intro (b2_zero B16) (And.intro (b2_zero B32) (And.intro hr1 hr2))))))))))))))))))))))))
  clear X

  subst hop
  have e16 : B16 = true := by rw [← hB16]; decide
  have e32 : B32 = false := by rw [← hB32]; decide
  subst e16
  subst e32
  have htop2 : (if slots < frame then slots else frame) = top := by rw [← htop]; rfl
  have c3 : ACall Tryd.prog G 80 [.list 1 (l.map (.int .i64)), .fn (.func 81) [] [.ptr H.length 0 0 0]] (H ++ [.cells 0 7 [.agg fc], .cells 0 6 [.agg ic], .cells 0 1 [.int .i64 own], .cells 0 1 [.int .i64 top], .cells 0 1 [.fn (.func 79) [] [.ptr H.length 0 0 0]]]) (fun r H' => H' = (H ++ [.cells 0 7 [.agg fc], .cells 0 6 [.agg ic], .cells 0 1 [.int .i64 own], .cells 0 1 [.int .i64 top], .cells 0 1 [.fn (.func 79) [] [.ptr H.length 0 0 0]]]) ∧ r = .bool (l.any fun n => !inR n 0 (frame - 1))) :=
    anyInt_ok G hG _ (fun n => !inR n 0 (frame - 1)) l _ (by omega) (by simp [SV.under, SV.underL]) (fun x hx => ACallV.of (notIn_ok G hG x frame fc H.length _ (by simp) hfcl hfc5 hfr))
  have X := And.intro X0 htop2
  (refine run ?_; repeat' (first | with_reducible exact trivial | ((with_reducible apply Fork.mk) <;> intro hb) | with_reducible apply Two.mk))
  all_goals
    refine finS hR hC' hcl (.same _ rfl) ⟨rfl, ?_⟩
    clear X X0 v1 v2 v3 c1 c2 c3 hR hC hC' hcl hB hc hG hF a1 a2 a4 a8 a16 a32 hgoal i0 i1 i2 i3 i4 i5 hmc0 hmc1 hmc2 hmc4 hmcl hcl0 hicl hfc5 hfc6 hfcl hr1 hr2 hlm htb hl hn hs hfr hm1 hm2 hm3
    simp only [insOK, lstOK, finOK, htop, hown, hB1, hB2, hB4, hB8, hB16, hB32]
    simp only [resSV]
    congr 1
    generalize slotB B4 top c' = S4 at *
    generalize (l.any fun n => !inR n 0 (frame - 1)) = S5 at *
    cases S5 <;> cases S4 <;> cases B8 <;> simp_all
theorem ins17_ok (G : Gl) (hG : GClosed G) (hF : GF G) (m : Img) (slots frame : Int) (fc : List SV) (code : List Ins) (hfcl : fc.length = 7) (hfc5 : fc[5]? = some (.int .i64 frame)) (hfc6 : fc[6]? = some (.list 6 (insL code))) (i : Ins) (hn : code.length < 1099511627776) (hl : i.l.length < 1099511627776)
    (hm1 : m.cons.length < 1099511627776) (hm2 : m.funcs.length < 1099511627776) (hm3 : m.globals.length < 1099511627776) (hs : 1 ≤ slots ∧ slots ≤ 65536) (hfr : 0 ≤ frame ∧ frame ≤ 65536) (hop : i.op = 17) (c : Nat) (H : List Blk) (hc : H[c]? = some (.cells 0 5 [.agg (chkC m slots)])) :
    ACall Tryd.prog G 68 [.ptr c 0 0 0, .agg fc, .agg i.cells] H (fun r H' => H' = H ∧ r = .bool (insOK m slots frame code.length i)) := by
  have hcl0 := (List.getElem?_eq_some_iff.1 hc).1
  have hmcl : (chkC m slots).length = 5 := rfl
  have hmc0 : (chkC m slots)[0]? = some (.list 4 (consL m.cons)) := rfl
  have hmc1 : (chkC m slots)[1]? = some (.list 7 (funsL m.funcs)) := rfl
  have hmc2 : (chkC m slots)[2]? = some (.list 3 (glbsL m.globals)) := rfl
  have hmc4 : (chkC m slots)[4]? = some (.int .i64 slots) := rfl
  have hgoal : insOK m slots frame code.length i = insOK m slots frame code.length i := rfl
  obtain ⟨op, a, b, c', n, l⟩ := i
  simp only at hop hl
  generalize htop : insTop op slots frame = top
  have htb : -1099511627776 < top ∧ top < 1099511627776 := by subst htop; unfold insTop; (repeat' split) <;> omega
  have hlm : (l.map (SV.int .i64)).length = l.length := by simp
  simp only [insOK, htop] at hgoal
  generalize hmc : chkC m slots = mc at hc hmcl hmc0 hmc1 hmc2 hmc4
  simp only [Ins.cells]
  have hicl : ([.int .i64 op, .int .i64 a, .int .i64 b, .int .i64 c', .int .i64 n, .list 1 (l.map (.int .i64))] : List SV).length = 6 := rfl
  generalize hic : ([.int .i64 op, .int .i64 a, .int .i64 b, .int .i64 c', .int .i64 n, .list 1 (l.map (.int .i64))] : List SV) = ic at hicl
  have i0 : ic[0]? = some (.int .i64 op) := by subst hic; rfl
  have i1 : ic[1]? = some (.int .i64 a) := by subst hic; rfl
  have i2 : ic[2]? = some (.int .i64 b) := by subst hic; rfl
  have i3 : ic[3]? = some (.int .i64 c') := by subst hic; rfl
  have i4 : ic[4]? = some (.int .i64 n) := by subst hic; rfl
  have i5 : ic[5]? = some (.list 1 (l.map (.int .i64))) := by subst hic; rfl
  clear hic hmc
  have c1 := fun n hi H => within_ok G hG n 0 hi H
  have c2 := fun H => of_ok G hG hF op H
  obtain ⟨a1, a2, a4, a8, a16, a32, _⟩ := and_bit op
  generalize hB1 : bitOf 1 op = B1 at a1
  generalize hB2 : bitOf 2 op = B2 at a2
  generalize hB4 : bitOf 4 op = B4 at a4
  generalize hB8 : bitOf 8 op = B8 at a8
  generalize hB16 : bitOf 16 op = B16 at a16
  generalize hB32 : bitOf 32 op = B32 at a32
  generalize hown : ofS op = own at a1 a2 a4 a8 a16 a32 c2
  have v1 : ∀ s, ACallV Tryd.prog G (.fn (.func 78) [] [.ptr (H.length + 2) 0 0 0, .ptr (H.length + 3) 0 0 0]) [.int .i64 1, .int .i64 s] (H ++ [.cells 0 7 [.agg fc], .cells 0 6 [.agg ic], .cells 0 1 [.int .i64 own], .cells 0 1 [.int .i64 top]]) (fun r H' => H' = (H ++ [.cells 0 7 [.agg fc], .cells 0 6 [.agg ic], .cells 0 1 [.int .i64 own], .cells 0 1 [.int .i64 top]]) ∧ r = .bool (slotB B1 top s)) := fun s => ACallV.of (slot_ok G hG own top 1 s B1 (H.length + 2) (H.length + 3) _ (by simp) (by simp) a1 (b2_zero B1).1 htb)
  have v2 : ∀ s, ACallV Tryd.prog G (.fn (.func 78) [] [.ptr (H.length + 2) 0 0 0, .ptr (H.length + 3) 0 0 0]) [.int .i64 2, .int .i64 s] (H ++ [.cells 0 7 [.agg fc], .cells 0 6 [.agg ic], .cells 0 1 [.int .i64 own], .cells 0 1 [.int .i64 top]]) (fun r H' => H' = (H ++ [.cells 0 7 [.agg fc], .cells 0 6 [.agg ic], .cells 0 1 [.int .i64 own], .cells 0 1 [.int .i64 top]]) ∧ r = .bool (slotB B2 top s)) := fun s => ACallV.of (slot_ok G hG own top 2 s B2 (H.length + 2) (H.length + 3) _ (by simp) (by simp) a2 (b2_zero B2).2.1 htb)
  have v3 : ∀ s, ACallV Tryd.prog G (.fn (.func 78) [] [.ptr (H.length + 2) 0 0 0, .ptr (H.length + 3) 0 0 0]) [.int .i64 4, .int .i64 s] (H ++ [.cells 0 7 [.agg fc], .cells 0 6 [.agg ic], .cells 0 1 [.int .i64 own], .cells 0 1 [.int .i64 top]]) (fun r H' => H' = (H ++ [.cells 0 7 [.agg fc], .cells 0 6 [.agg ic], .cells 0 1 [.int .i64 own], .cells 0 1 [.int .i64 top]]) ∧ r = .bool (slotB B4 top s)) := fun s => ACallV.of (slot_ok G hG own top 4 s B4 (H.length + 2) (H.length + 3) _ (by simp) (by simp) a4 (b2_zero B4).2.2.1 htb)
  refine ACall.of_go TB [] tabOK _ Tryd.func68 rfl (by decide) Tryd.ntmps68 (by simp) rfl (by simp only [initEnv, Nat.reduceAdd]; rfl) fun C R' hR hC hcl hB => ?_; have X := noX; have hC' := congrArg List.length hC
  have hr1 : IntKind.i64.min ≤ slots := by simp [IntKind.min, IntKind.signed, IntKind.bits]; omega
  have hr2 : slots ≤ IntKind.i64.max := by simp [IntKind.max, IntKind.signed, IntKind.bits]; omega
  have X0 := And.intro X (And.intro hlm (And.intro hfcl (And.intro hfc5 (And.intro hfc6 (And.intro (getX hc) (And.intro hmcl (And.intro hmc0 (And.intro hmc1 (And.intro hmc2 (And.intro hmc4 (And.intro hicl (And.intro i0 (And.intro i1 (And.intro i2 (And.intro i3 (And.intro i4 (And.intro i5 (And.intro a8 (And.intro a16 (And.intro a32 (And.intro (b2_zero B8) (And.intro (b2_zero B16) (And.intro (b2_zero B32) (And.intro hr1 hr2))))))))))))))))))))))))
  clear X

  subst hop
  have e16 : B16 = true := by rw [← hB16]; decide
  have e32 : B32 = false := by rw [← hB32]; decide
  subst e16
  subst e32
  have htop2 : (if slots < frame then slots else frame) = top := by rw [← htop]; rfl
  have c3 : ACall Tryd.prog G 80 [.list 1 (l.map (.int .i64)), .fn (.func 81) [] [.ptr H.length 0 0 0]] (H ++ [.cells 0 7 [.agg fc], .cells 0 6 [.agg ic], .cells 0 1 [.int .i64 own], .cells 0 1 [.int .i64 top], .cells 0 1 [.fn (.func 79) [] [.ptr H.length 0 0 0]]]) (fun r H' => H' = (H ++ [.cells 0 7 [.agg fc], .cells 0 6 [.agg ic], .cells 0 1 [.int .i64 own], .cells 0 1 [.int .i64 top], .cells 0 1 [.fn (.func 79) [] [.ptr H.length 0 0 0]]]) ∧ r = .bool (l.any fun n => !inR n 0 (frame - 1))) :=
    anyInt_ok G hG _ (fun n => !inR n 0 (frame - 1)) l _ (by omega) (by simp [SV.under, SV.underL]) (fun x hx => ACallV.of (notIn_ok G hG x frame fc H.length _ (by simp) hfcl hfc5 hfr))
  have X := And.intro X0 htop2
  (refine run ?_; repeat' (first | with_reducible exact trivial | ((with_reducible apply Fork.mk) <;> intro hb) | with_reducible apply Two.mk))
  all_goals
    refine finS hR hC' hcl (.same _ rfl) ⟨rfl, ?_⟩
    clear X X0 v1 v2 v3 c1 c2 c3 hR hC hC' hcl hB hc hG hF a1 a2 a4 a8 a16 a32 hgoal i0 i1 i2 i3 i4 i5 hmc0 hmc1 hmc2 hmc4 hmcl hcl0 hicl hfc5 hfc6 hfcl hr1 hr2 hlm htb hl hn hs hfr hm1 hm2 hm3
    simp only [insOK, lstOK, finOK, htop, hown, hB1, hB2, hB4, hB8, hB16, hB32]
    simp only [resSV]
    congr 1
    generalize slotB B4 top c' = S4 at *
    generalize (l.any fun n => !inR n 0 (frame - 1)) = S5 at *
    cases S5 <;> cases S4 <;> cases B8 <;> simp_all
theorem ins20_ok (G : Gl) (hG : GClosed G) (hF : GF G) (m : Img) (slots frame : Int) (fc : List SV) (code : List Ins) (hfcl : fc.length = 7) (hfc5 : fc[5]? = some (.int .i64 frame)) (hfc6 : fc[6]? = some (.list 6 (insL code))) (i : Ins) (hn : code.length < 1099511627776) (hl : i.l.length < 1099511627776)
    (hm1 : m.cons.length < 1099511627776) (hm2 : m.funcs.length < 1099511627776) (hm3 : m.globals.length < 1099511627776) (hs : 1 ≤ slots ∧ slots ≤ 65536) (hfr : 0 ≤ frame ∧ frame ≤ 65536) (hop : i.op = 20) (c : Nat) (H : List Blk) (hc : H[c]? = some (.cells 0 5 [.agg (chkC m slots)])) :
    ACall Tryd.prog G 68 [.ptr c 0 0 0, .agg fc, .agg i.cells] H (fun r H' => H' = H ∧ r = .bool (insOK m slots frame code.length i)) := by
  have hcl0 := (List.getElem?_eq_some_iff.1 hc).1
  have hmcl : (chkC m slots).length = 5 := rfl
  have hmc0 : (chkC m slots)[0]? = some (.list 4 (consL m.cons)) := rfl
  have hmc1 : (chkC m slots)[1]? = some (.list 7 (funsL m.funcs)) := rfl
  have hmc2 : (chkC m slots)[2]? = some (.list 3 (glbsL m.globals)) := rfl
  have hmc4 : (chkC m slots)[4]? = some (.int .i64 slots) := rfl
  have hgoal : insOK m slots frame code.length i = insOK m slots frame code.length i := rfl
  obtain ⟨op, a, b, c', n, l⟩ := i
  simp only at hop hl
  generalize htop : insTop op slots frame = top
  have htb : -1099511627776 < top ∧ top < 1099511627776 := by subst htop; unfold insTop; (repeat' split) <;> omega
  have hlm : (l.map (SV.int .i64)).length = l.length := by simp
  simp only [insOK, htop] at hgoal
  generalize hmc : chkC m slots = mc at hc hmcl hmc0 hmc1 hmc2 hmc4
  simp only [Ins.cells]
  have hicl : ([.int .i64 op, .int .i64 a, .int .i64 b, .int .i64 c', .int .i64 n, .list 1 (l.map (.int .i64))] : List SV).length = 6 := rfl
  generalize hic : ([.int .i64 op, .int .i64 a, .int .i64 b, .int .i64 c', .int .i64 n, .list 1 (l.map (.int .i64))] : List SV) = ic at hicl
  have i0 : ic[0]? = some (.int .i64 op) := by subst hic; rfl
  have i1 : ic[1]? = some (.int .i64 a) := by subst hic; rfl
  have i2 : ic[2]? = some (.int .i64 b) := by subst hic; rfl
  have i3 : ic[3]? = some (.int .i64 c') := by subst hic; rfl
  have i4 : ic[4]? = some (.int .i64 n) := by subst hic; rfl
  have i5 : ic[5]? = some (.list 1 (l.map (.int .i64))) := by subst hic; rfl
  clear hic hmc
  have c1 := fun n hi H => within_ok G hG n 0 hi H
  have c2 := fun H => of_ok G hG hF op H
  obtain ⟨a1, a2, a4, a8, a16, a32, _⟩ := and_bit op
  generalize hB1 : bitOf 1 op = B1 at a1
  generalize hB2 : bitOf 2 op = B2 at a2
  generalize hB4 : bitOf 4 op = B4 at a4
  generalize hB8 : bitOf 8 op = B8 at a8
  generalize hB16 : bitOf 16 op = B16 at a16
  generalize hB32 : bitOf 32 op = B32 at a32
  generalize hown : ofS op = own at a1 a2 a4 a8 a16 a32 c2
  have v1 : ∀ s, ACallV Tryd.prog G (.fn (.func 78) [] [.ptr (H.length + 2) 0 0 0, .ptr (H.length + 3) 0 0 0]) [.int .i64 1, .int .i64 s] (H ++ [.cells 0 7 [.agg fc], .cells 0 6 [.agg ic], .cells 0 1 [.int .i64 own], .cells 0 1 [.int .i64 top]]) (fun r H' => H' = (H ++ [.cells 0 7 [.agg fc], .cells 0 6 [.agg ic], .cells 0 1 [.int .i64 own], .cells 0 1 [.int .i64 top]]) ∧ r = .bool (slotB B1 top s)) := fun s => ACallV.of (slot_ok G hG own top 1 s B1 (H.length + 2) (H.length + 3) _ (by simp) (by simp) a1 (b2_zero B1).1 htb)
  have v2 : ∀ s, ACallV Tryd.prog G (.fn (.func 78) [] [.ptr (H.length + 2) 0 0 0, .ptr (H.length + 3) 0 0 0]) [.int .i64 2, .int .i64 s] (H ++ [.cells 0 7 [.agg fc], .cells 0 6 [.agg ic], .cells 0 1 [.int .i64 own], .cells 0 1 [.int .i64 top]]) (fun r H' => H' = (H ++ [.cells 0 7 [.agg fc], .cells 0 6 [.agg ic], .cells 0 1 [.int .i64 own], .cells 0 1 [.int .i64 top]]) ∧ r = .bool (slotB B2 top s)) := fun s => ACallV.of (slot_ok G hG own top 2 s B2 (H.length + 2) (H.length + 3) _ (by simp) (by simp) a2 (b2_zero B2).2.1 htb)
  have v3 : ∀ s, ACallV Tryd.prog G (.fn (.func 78) [] [.ptr (H.length + 2) 0 0 0, .ptr (H.length + 3) 0 0 0]) [.int .i64 4, .int .i64 s] (H ++ [.cells 0 7 [.agg fc], .cells 0 6 [.agg ic], .cells 0 1 [.int .i64 own], .cells 0 1 [.int .i64 top]]) (fun r H' => H' = (H ++ [.cells 0 7 [.agg fc], .cells 0 6 [.agg ic], .cells 0 1 [.int .i64 own], .cells 0 1 [.int .i64 top]]) ∧ r = .bool (slotB B4 top s)) := fun s => ACallV.of (slot_ok G hG own top 4 s B4 (H.length + 2) (H.length + 3) _ (by simp) (by simp) a4 (b2_zero B4).2.2.1 htb)
  refine ACall.of_go TB [] tabOK _ Tryd.func68 rfl (by decide) Tryd.ntmps68 (by simp) rfl (by simp only [initEnv, Nat.reduceAdd]; rfl) fun C R' hR hC hcl hB => ?_; have X := noX; have hC' := congrArg List.length hC
  have hr1 : IntKind.i64.min ≤ slots := by simp [IntKind.min, IntKind.signed, IntKind.bits]; omega
  have hr2 : slots ≤ IntKind.i64.max := by simp [IntKind.max, IntKind.signed, IntKind.bits]; omega
  have X0 := And.intro X (And.intro hlm (And.intro hfcl (And.intro hfc5 (And.intro hfc6 (And.intro (getX hc) (And.intro hmcl (And.intro hmc0 (And.intro hmc1 (And.intro hmc2 (And.intro hmc4 (And.intro hicl (And.intro i0 (And.intro i1 (And.intro i2 (And.intro i3 (And.intro i4 (And.intro i5 (And.intro a8 (And.intro a16 (And.intro a32 (And.intro (b2_zero B8) (And.intro (b2_zero B16) (And.intro (b2_zero B32) (And.intro hr1 hr2))))))))))))))))))))))))
  clear X

  subst hop
  have e16 : B16 = false := by rw [← hB16]; decide
  have e32 : B32 = false := by rw [← hB32]; decide
  subst e16
  subst e32
  have htop2 : (if slots < frame then slots else frame) = top := by rw [← htop]; rfl
  have c3 := True.intro
  have X := And.intro X0 htop2
  (refine run ?_; repeat' (first | with_reducible exact trivial | ((with_reducible apply Fork.mk) <;> intro hb) | with_reducible apply Two.mk))
  all_goals
    refine finS hR hC' hcl (.same _ rfl) ⟨rfl, ?_⟩
    clear X X0 v1 v2 v3 c1 c2 c3 hR hC hC' hcl hB hc hG hF a1 a2 a4 a8 a16 a32 hgoal i0 i1 i2 i3 i4 i5 hmc0 hmc1 hmc2 hmc4 hmcl hcl0 hicl hfc5 hfc6 hfcl hr1 hr2 hlm htb hl hn hs hfr hm1 hm2 hm3
    simp only [insOK, lstOK, finOK, htop, hown, hB1, hB2, hB4, hB8, hB16, hB32]
    simp only [resSV]
    congr 1
    generalize slotB B4 top c' = S4 at *
    cases S4 <;> cases B8 <;> simp_all
theorem ins22_ok (G : Gl) (hG : GClosed G) (hF : GF G) (m : Img) (slots frame : Int) (fc : List SV) (code : List Ins) (hfcl : fc.length = 7) (hfc5 : fc[5]? = some (.int .i64 frame)) (hfc6 : fc[6]? = some (.list 6 (insL code))) (i : Ins) (hn : code.length < 1099511627776) (hl : i.l.length < 1099511627776)
    (hm1 : m.cons.length < 1099511627776) (hm2 : m.funcs.length < 1099511627776) (hm3 : m.globals.length < 1099511627776) (hs : 1 ≤ slots ∧ slots ≤ 65536) (hfr : 0 ≤ frame ∧ frame ≤ 65536) (hop : i.op = 22) (c : Nat) (H : List Blk) (hc : H[c]? = some (.cells 0 5 [.agg (chkC m slots)])) :
    ACall Tryd.prog G 68 [.ptr c 0 0 0, .agg fc, .agg i.cells] H (fun r H' => H' = H ∧ r = .bool (insOK m slots frame code.length i)) := by
  have hcl0 := (List.getElem?_eq_some_iff.1 hc).1
  have hmcl : (chkC m slots).length = 5 := rfl
  have hmc0 : (chkC m slots)[0]? = some (.list 4 (consL m.cons)) := rfl
  have hmc1 : (chkC m slots)[1]? = some (.list 7 (funsL m.funcs)) := rfl
  have hmc2 : (chkC m slots)[2]? = some (.list 3 (glbsL m.globals)) := rfl
  have hmc4 : (chkC m slots)[4]? = some (.int .i64 slots) := rfl
  have hgoal : insOK m slots frame code.length i = insOK m slots frame code.length i := rfl
  obtain ⟨op, a, b, c', n, l⟩ := i
  simp only at hop hl
  generalize htop : insTop op slots frame = top
  have htb : -1099511627776 < top ∧ top < 1099511627776 := by subst htop; unfold insTop; (repeat' split) <;> omega
  have hlm : (l.map (SV.int .i64)).length = l.length := by simp
  simp only [insOK, htop] at hgoal
  generalize hmc : chkC m slots = mc at hc hmcl hmc0 hmc1 hmc2 hmc4
  simp only [Ins.cells]
  have hicl : ([.int .i64 op, .int .i64 a, .int .i64 b, .int .i64 c', .int .i64 n, .list 1 (l.map (.int .i64))] : List SV).length = 6 := rfl
  generalize hic : ([.int .i64 op, .int .i64 a, .int .i64 b, .int .i64 c', .int .i64 n, .list 1 (l.map (.int .i64))] : List SV) = ic at hicl
  have i0 : ic[0]? = some (.int .i64 op) := by subst hic; rfl
  have i1 : ic[1]? = some (.int .i64 a) := by subst hic; rfl
  have i2 : ic[2]? = some (.int .i64 b) := by subst hic; rfl
  have i3 : ic[3]? = some (.int .i64 c') := by subst hic; rfl
  have i4 : ic[4]? = some (.int .i64 n) := by subst hic; rfl
  have i5 : ic[5]? = some (.list 1 (l.map (.int .i64))) := by subst hic; rfl
  clear hic hmc
  have c1 := fun n hi H => within_ok G hG n 0 hi H
  have c2 := fun H => of_ok G hG hF op H
  obtain ⟨a1, a2, a4, a8, a16, a32, _⟩ := and_bit op
  generalize hB1 : bitOf 1 op = B1 at a1
  generalize hB2 : bitOf 2 op = B2 at a2
  generalize hB4 : bitOf 4 op = B4 at a4
  generalize hB8 : bitOf 8 op = B8 at a8
  generalize hB16 : bitOf 16 op = B16 at a16
  generalize hB32 : bitOf 32 op = B32 at a32
  generalize hown : ofS op = own at a1 a2 a4 a8 a16 a32 c2
  have v1 : ∀ s, ACallV Tryd.prog G (.fn (.func 78) [] [.ptr (H.length + 2) 0 0 0, .ptr (H.length + 3) 0 0 0]) [.int .i64 1, .int .i64 s] (H ++ [.cells 0 7 [.agg fc], .cells 0 6 [.agg ic], .cells 0 1 [.int .i64 own], .cells 0 1 [.int .i64 top]]) (fun r H' => H' = (H ++ [.cells 0 7 [.agg fc], .cells 0 6 [.agg ic], .cells 0 1 [.int .i64 own], .cells 0 1 [.int .i64 top]]) ∧ r = .bool (slotB B1 top s)) := fun s => ACallV.of (slot_ok G hG own top 1 s B1 (H.length + 2) (H.length + 3) _ (by simp) (by simp) a1 (b2_zero B1).1 htb)
  have v2 : ∀ s, ACallV Tryd.prog G (.fn (.func 78) [] [.ptr (H.length + 2) 0 0 0, .ptr (H.length + 3) 0 0 0]) [.int .i64 2, .int .i64 s] (H ++ [.cells 0 7 [.agg fc], .cells 0 6 [.agg ic], .cells 0 1 [.int .i64 own], .cells 0 1 [.int .i64 top]]) (fun r H' => H' = (H ++ [.cells 0 7 [.agg fc], .cells 0 6 [.agg ic], .cells 0 1 [.int .i64 own], .cells 0 1 [.int .i64 top]]) ∧ r = .bool (slotB B2 top s)) := fun s => ACallV.of (slot_ok G hG own top 2 s B2 (H.length + 2) (H.length + 3) _ (by simp) (by simp) a2 (b2_zero B2).2.1 htb)
  have v3 : ∀ s, ACallV Tryd.prog G (.fn (.func 78) [] [.ptr (H.length + 2) 0 0 0, .ptr (H.length + 3) 0 0 0]) [.int .i64 4, .int .i64 s] (H ++ [.cells 0 7 [.agg fc], .cells 0 6 [.agg ic], .cells 0 1 [.int .i64 own], .cells 0 1 [.int .i64 top]]) (fun r H' => H' = (H ++ [.cells 0 7 [.agg fc], .cells 0 6 [.agg ic], .cells 0 1 [.int .i64 own], .cells 0 1 [.int .i64 top]]) ∧ r = .bool (slotB B4 top s)) := fun s => ACallV.of (slot_ok G hG own top 4 s B4 (H.length + 2) (H.length + 3) _ (by simp) (by simp) a4 (b2_zero B4).2.2.1 htb)
  refine ACall.of_go TB [] tabOK _ Tryd.func68 rfl (by decide) Tryd.ntmps68 (by simp) rfl (by simp only [initEnv, Nat.reduceAdd]; rfl) fun C R' hR hC hcl hB => ?_; have X := noX; have hC' := congrArg List.length hC
  have hr1 : IntKind.i64.min ≤ slots := by simp [IntKind.min, IntKind.signed, IntKind.bits]; omega
  have hr2 : slots ≤ IntKind.i64.max := by simp [IntKind.max, IntKind.signed, IntKind.bits]; omega
  have X0 := And.intro X (And.intro hlm (And.intro hfcl (And.intro hfc5 (And.intro hfc6 (And.intro (getX hc) (And.intro hmcl (And.intro hmc0 (And.intro hmc1 (And.intro hmc2 (And.intro hmc4 (And.intro hicl (And.intro i0 (And.intro i1 (And.intro i2 (And.intro i3 (And.intro i4 (And.intro i5 (And.intro a8 (And.intro a16 (And.intro a32 (And.intro (b2_zero B8) (And.intro (b2_zero B16) (And.intro (b2_zero B32) (And.intro hr1 hr2))))))))))))))))))))))))
  clear X

  subst hop
  have e16 : B16 = false := by rw [← hB16]; decide
  have e32 : B32 = true := by rw [← hB32]; decide
  subst e16
  subst e32
  have htop2 : (if slots < frame then slots else frame) = top := by rw [← htop]; rfl
  have c3 : ACall Tryd.prog G 80 [.list 1 (l.map (.int .i64)), .fn (.func 82) [] [.ptr (H.length + 4) 0 0 0, .ptr (H.length + 1) 0 0 0]] (H ++ [.cells 0 7 [.agg fc], .cells 0 6 [.agg ic], .cells 0 1 [.int .i64 own], .cells 0 1 [.int .i64 top], .cells 0 1 [.fn (.func 79) [] [.ptr H.length 0 0 0]]]) (fun r H' => H' = (H ++ [.cells 0 7 [.agg fc], .cells 0 6 [.agg ic], .cells 0 1 [.int .i64 own], .cells 0 1 [.int .i64 top], .cells 0 1 [.fn (.func 79) [] [.ptr H.length 0 0 0]]]) ∧ r = .bool (l.any (badP 22 code.length))) :=
    anyInt_ok G hG _ (badP 22 code.length) l _ (by omega) (by simp [SV.under, SV.underL]) (fun x hx => ACallV.of (badP_ok G hG x 22 code fc ic H.length (H.length + 4) (H.length + 1) _ (by simp) hfcl hfc6 (by omega) (by simp) (by simp) hicl i0))
  have X := And.intro X0 htop2
  (refine run ?_; repeat' (first | with_reducible exact trivial | ((with_reducible apply Fork.mk) <;> intro hb) | with_reducible apply Two.mk))
  all_goals
    refine finS hR hC' hcl (.same _ rfl) ⟨rfl, ?_⟩
    clear X X0 v1 v2 v3 c1 c2 c3 hR hC hC' hcl hB hc hG hF a1 a2 a4 a8 a16 a32 hgoal i0 i1 i2 i3 i4 i5 hmc0 hmc1 hmc2 hmc4 hmcl hcl0 hicl hfc5 hfc6 hfcl hr1 hr2 hlm htb hl hn hs hfr hm1 hm2 hm3
    simp only [insOK, lstOK, finOK, htop, hown, hB1, hB2, hB4, hB8, hB16, hB32]
    simp only [resSV]
    congr 1
    generalize slotB B4 top c' = S4 at *
    generalize l.any (badP 22 code.length) = S5 at *
    cases S5 <;> cases S4 <;> cases B8 <;> simp_all
end Go.Proofs.YtihhngjoecgkpaaDoor
end
