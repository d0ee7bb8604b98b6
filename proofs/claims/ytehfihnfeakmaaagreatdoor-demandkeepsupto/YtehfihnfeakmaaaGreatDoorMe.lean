/- A part of the proof: I8, SwL, SwM, SwN, SwO, Sh2, I9, I10, J4, J5, M0, J6a, J6, J7, F0, J8, J9, D2, I11, I12, K8, K9, K10, K2, X1. -/
import Derived.Test.YtehfihnfeakmaaaGreatDoorMd
import Derived.Shelf.Strconv.AtoiErr
import Derived.Shelf.SlMaps.Clone
import Derived.Test.YtehfihnfeakmaaaGreatDoorProg
import Derived.Test.YtehfihnfeakmaaaGreatDoorCards
import Derived.Test.YtehfihnfeakmaaaGreatDoorTie
import Derived.Deep.DeepHandedRow
import Derived.Lib.LaidTab
import Derived.Stop.LaidErr

set_option linter.unusedSimpArgs false
set_option linter.unusedVariables false
section
namespace Go.Proofs.YtehfihnfeakmaaaGreatDoor
open Go
set_option maxRecDepth 10000
set_option maxHeartbeats 4000000
theorem bindersP_len (l : List Bd) : (bindersP l).length ≤ bdsWt l :=
  flat_len (f := fun b : Bd => b.name :: bnds b.e) (w := Bd.wt) rfl (fun _ _ => rfl) fun b _ => by
    have := bndF_len b.e.wt b.e
    have := b.wt_gt
    simp only [List.length_cons, bnds]; omega
theorem bd_wt {l : List Bd} {b : Bd} (h : b ∈ l) : b.e.wt < bdsWt l := by
  induction l with
  | nil => cases h
  | cons x r ih =>
    simp only [bdsWt]
    have := x.wt_gt
    rcases List.mem_cons.1 h with rfl | h
    · omega
    · have := ih h; omega
theorem bindersP_ok (G : Gl) (hG : GClosed G) (cons : List Cn) (binds : List Bd) (H : List Blk) (hw : bdsWt binds < 4294967296) :
    ACall Tryz.prog G 49 [.agg [.list 4 (cnCells cons), .list 9 (bdCells binds)]] H (fun r H' => H' = H ++ [.cells 0 1 ((bindersP binds).map .str)] ∧ r = .sl H.length 0 0 (bindersP binds).length) := by
  have hle := bdsWt_len binds
  obtain ⟨L2, b1, b2, b3, b4⟩ := flat_seq (fun b : Bd => b.name :: bnds b.e) [] binds
  have e0 : bindersP binds = L2 binds.length := by rw [b4, List.nil_append]; rfl
  have hln := bindersP_len binds
  rw [e0] at hln ⊢
  rw [← b4] at b3
  have under_ints := fun n => cnCells_under n cons
  refine ACall.of_go TB [3] tabOK _ Tryz.func49 rfl (by decide) Tryz.ntmps49 (by simp) rfl (by simp only [initEnv, Nat.reduceAdd]; rfl) fun C R' hR hC hcl hB => ?_; have X := noX; have hC' := congrArg List.length hC
  (refine run ?_; repeat' (first | with_reducible exact trivial | ((with_reducible apply Fork.mk) <;> intro hb) | with_reducible apply Two.mk))
  refine go_loop (fun i : Nat => [(3, .sl (H.length + 1) 0 0 (L2 i).length), (7, .list 9 (bdCells binds)), (8, .int .i64 binds.length), (9, .int .i64 i)])
    (fun i => H ++ [.cells 0 2 [.agg [.list 4 (cnCells cons), .list 9 (bdCells binds)]], .cells 0 1 ((L2 i).map .str)]) (fun i => binds.length - i) (fun i => i ≤ binds.length) 0 (Nat.zero_le _) ?_ ?_
  · simp only [b1, List.length_nil, List.map_nil]
    exact wkS (n0 := H.length) [(H.length, 0), (H.length + 1, 0)] hG hB hC' hcl
  rintro K i hi hK
  rcases Nat.lt_or_ge i binds.length with hlt | hge
  · have hpb := bd_wt (List.getElem_mem hlt)
    have c1 := fun H => binders_ok G hG binds[i].e.wt binds[i].e H (Nat.le_refl _) (by omega)
    have e1 := b2 i hlt
    have e2 := b3 (i + 1)
    have e3 := b3 i
    have e4 := bndF_len binds[i].e.wt binds[i].e
    rw [e1, List.length_append] at e2
    simp only [List.length_cons, bnds] at e2 e1
    generalize bndF binds[i].e.wt binds[i].e = l at *
    generalize L2 i = l1 at *
    have X := And.intro noX (show (l1.map SV.str).length = l1.length ∧ (l.map SV.str).length = l.length from ⟨List.length_map .., List.length_map ..⟩)
    (refine run ?_; repeat' (first | with_reducible exact trivial | ((with_reducible apply Fork.mk) <;> intro hb) | with_reducible apply Two.mk))
    refine hK _ _ (i + 1) (by omega) (by omega) ?_
    rw [e1, List.map_append, List.map_cons, show (l1 ++ binds[i].name :: l).length = l1.length + (1 + l.length) from by simp; omega]
    exact wkS (n0 := H.length) [(H.length, 0), (H.length + 1, 0)] hG hB hC' hcl
  obtain rfl : i = binds.length := by omega
  clear hK
  (refine run ?_; repeat' (first | with_reducible exact trivial | ((with_reducible apply Fork.mk) <;> intro hb) | with_reducible apply Two.mk))
  exact finK [(H.length + 1, 0)] (.sl H.length 0 0 (L2 binds.length).length) [.cells 0 1 ((L2 binds.length).map .str)] hR hC' hcl ⟨rfl, rfl⟩
end Go.Proofs.YtehfihnfeakmaaaGreatDoor
end

section
/- Ranging over a map of one's own. -/
namespace Go.Proofs.YtehfihnfeakmaaaGreatDoor
open Go
section
variable {P : Program} {G : Gl} {T : Tab} {own : List Nat} {nt B : Nat} {ρ : Option Nat} {C : Cx} {rs : List ResultVar} {R : SV → List Blk → Prop} {env env2 : Env} {H H' : List Blk} {k : List It}
variable {all r : List Oper} {ty d j dj : Nat} {op : Op} {pos : String} {after : Array Edge} {v : SV}
theorem RepE.length {c : Cx} : ∀ {es : List (SV × SV)} {l : List MapEntry}, RepE c es l → l.length = es.length
  | [], l, h => by simp only [RepE] at h; subst h; rfl
  | (q, x) :: es, l, h => by
    simp only [RepE] at h
    obtain ⟨e, es', _, _, h3, rfl⟩ := h
    simp [RepE.length h3]
structure MapHere (G : Gl) (id bm : Nat) (kd : Option IntKind) : Prop where
  there : ∃ C', G.base = some C' ∧ (∃ es0, C'.H[id]? = some (.map kd es0)) ∧ C'.θ id = some (bm, 0)
theorem MapHere.of {C' : Cx} (hc : HeapOK C') {l : List (Nat × SV)} {id : Nat} {kd : Option IntKind} {es : List (SV × SV)} (h : C'.H[id]? = some (.map kd es)) : ∃ bm, MapHere ⟨l, some C'⟩ id bm kd := by
  obtain ⟨b, ents, clk, h1, _⟩ := hc.blk id _ h
  exact ⟨b, ⟨C', rfl, ⟨es, h⟩, h1⟩⟩
end
end Go.Proofs.YtehfihnfeakmaaaGreatDoor
end

section
/- Weakenings between operations; a nil slice within a block of one's own taken for one of no elements. -/
namespace Go.Proofs.YtehfihnfeakmaaaGreatDoor
open Go
section
variable {P : Program} {G : Gl} {T : Tab} {own : List Nat} {nt B : Nat} {ρ : Option Nat} {C : Cx} {rs : List ResultVar} {R : SV → List Blk → Prop} {env env2 : Env} {H H2 : List Blk} {k : List It}
theorem go_wkO {all l : List Oper} (env2 : Env) (H2 : List Blk) (hw : Wk G nt C ⟨env, H⟩ ⟨env2, H2⟩) (h : (Out P G T own nt ρ C rs R) (.ops all l :: k) .normal env2 H2) : (Out P G T own nt ρ C rs R) (.ops all l :: k) .normal env H := by
  intro hT i c a hf hc hi hg
  obtain ⟨c', e1, e2, e3, e4⟩ := hw c a hc hi hg
  have := h hT i c' a hf e1 e3 e4
  rw [e2] at this
  exact this
theorem go_wkC {x : Code} (env2 : Env) (H2 : List Blk) (hw : Wk G nt C ⟨env, H⟩ ⟨env2, H2⟩) (h : (Out P G T own nt ρ C rs R) (.code x :: k) .normal env2 H2) : (Out P G T own nt ρ C rs R) (.code x :: k) .normal env H := by
  intro c a hc hi hg
  obtain ⟨c', e1, e2, e3, e4⟩ := hw c a hc hi hg
  have := h c' a e1 e3 e4
  rw [e2] at this
  exact this
theorem Wk.trans {s s2 s3 : St} (h1 : Wk G nt C s s2) (h2 : Wk G nt C s2 s3) : Wk G nt C s s3 := by
  intro c a hc hi hg
  obtain ⟨c', e1, e2, e3, e4⟩ := h1 c a hc hi hg
  obtain ⟨c'', f1, f2, f3, f4⟩ := h2 c' a e1 e3 e4
  exact ⟨c'', f1, f2.trans e2, f3, f4⟩
theorem wk_ghost {id g s i j : Nat} {vals fs : List SV} (sz : Nat) (hb : H[id]? = some (.cells g s vals)) (hk : vals[i]? = some (.agg fs)) (hj : fs[j]? = some .nil) :
    Wk G nt C ⟨env, H⟩ ⟨env, H.set id (.cells g s (vals.set i (.agg (fs.set j (.sl H.length 0 0 0))))) ++ [.cells 0 sz []]⟩ := by
  intro c a hc hi hg
  have hc : c.H = H := hc
  subst hc
  have hid : id < c.H.length := (List.getElem?_eq_some_iff.1 hb).1
  obtain ⟨g1, g2⟩ := Cx.fresh hi.heap (w' := c.w) c.w.heap.size (Nat.le_refl _) 0 none (.inl rfl) (.cells 0 sz []) (fun _ _ => rfl) (Nat.le_refl _) rfl rfl rfl (fun _ => .inl ⟨by simp, rfl⟩)
  generalize hc1 : (⟨fun i => if i = c.H.length then none else c.θ i, c.H ++ [.cells 0 sz []], c.w⟩ : Cx) = c1 at g1 g2
  have hH : c1.H = c.H ++ [.cells 0 sz []] := by rw [← hc1]
  have hw : c1.w = c.w := by rw [← hc1]
  have hb1 : c1.H[id]? = some (.cells g s vals) := by rw [hH, List.getElem?_append_left hid]; exact hb
  obtain ⟨t1, t2⟩ := Cx.turn g2 (w' := c1.w) hb1 rfl (B' := .cells g s (vals.set i (.agg (fs.set j (.sl c.H.length 0 0 0))))) (c1.θ id)
    ⟨g, _, rfl, Nat.le_refl _, fun _ => ⟨rfl, by simp⟩, fun b' o' h' => .inr ⟨o', h'⟩⟩ (fun _ _ _ => rfl) (Nat.le_refl _) rfl rfl rfl (fun b cs T fr h => ⟨cs, fr, h, rfl⟩)
    (fun hg => by
      rcases g2.blk id _ hb1 with ⟨h2, h3⟩ | ⟨b, o, cs, Ty, fr, vs, h2, h3, h4, h5, h6, h7⟩
      · rw [h3] at hk; simp at hk
      · refine .inr ⟨b, o, cs, Ty, fr, vs, by simp [h2], h3, h4, ?_, h6, h7⟩
        obtain ⟨u, u1, u2⟩ := h5.get hk
        have u0 := u2
        simp only [Rep] at u2
        obtain ⟨ws, w1, w2, w3⟩ := u2
        obtain ⟨z, z1, z2⟩ := w1.get hj
        simp only [Rep] at z2
        have h8 := h5.grow hg
        have h9 := w1.grow hg
        refine set_same u1 ▸ h8.set i (u := u) ?_
        simp only [Rep]
        refine ⟨ws, ?_, w2, w3⟩
        refine set_same z1 ▸ h9.set j (u := z) ?_
        simp only [Rep]
        have hne : ¬ c.H.length = id := by omega
        refine ⟨by rw [z2]; rfl, ?_⟩
        have hn : (c1.H.set id (.cells g s (vals.set i (.agg (fs.set j (.sl c.H.length 0 0 0))))))[c.H.length]? = some (.cells 0 sz []) := by
          rw [List.getElem?_set_ne (fun e => hne e.symm), hH]; simp
        rw [hn]
        exact .inr ⟨rfl, Nat.le_refl _, none, 0, z2, Nat.le_refl _, Nat.zero_le _, .inl ⟨rfl, .inr (Nat.le_refl _)⟩⟩)
  refine ⟨{ θ := fun i => if i = id then c1.θ id else c1.θ i, H := c1.H.set id (.cells g s (vals.set i (.agg (fs.set j (.sl c.H.length 0 0 0))))), w := c1.w }, ?_, hw, ⟨t2, hi.glob.grow (g1.trans t1), hi.size, fun t' x hx => (hi.env t' x hx).grow (g1.trans t1), hi.defs.grow (g1.trans t1)⟩, (hg.trans g1).trans t1⟩
  show c1.H.set id _ = _
  rw [hH, List.set_append_left _ _ hid]
theorem wk_ghostC {id g s i : Nat} {vals : List SV} (sz : Nat) (hb : H[id]? = some (.cells g s vals)) (hk : vals[i]? = some .nil) :
    Wk G nt C ⟨env, H⟩ ⟨env, H.set id (.cells g s (vals.set i (.sl H.length 0 0 0))) ++ [.cells 0 sz []]⟩ := by
  intro c a hc hi hg
  have hc : c.H = H := hc
  subst hc
  have hid : id < c.H.length := (List.getElem?_eq_some_iff.1 hb).1
  obtain ⟨g1, g2⟩ := Cx.fresh hi.heap (w' := c.w) c.w.heap.size (Nat.le_refl _) 0 none (.inl rfl) (.cells 0 sz []) (fun _ _ => rfl) (Nat.le_refl _) rfl rfl rfl (fun _ => .inl ⟨by simp, rfl⟩)
  generalize hc1 : (⟨fun i => if i = c.H.length then none else c.θ i, c.H ++ [.cells 0 sz []], c.w⟩ : Cx) = c1 at g1 g2
  have hH : c1.H = c.H ++ [.cells 0 sz []] := by rw [← hc1]
  have hw : c1.w = c.w := by rw [← hc1]
  have hb1 : c1.H[id]? = some (.cells g s vals) := by rw [hH, List.getElem?_append_left hid]; exact hb
  obtain ⟨t1, t2⟩ := Cx.turn g2 (w' := c1.w) hb1 rfl (B' := .cells g s (vals.set i (.sl c.H.length 0 0 0))) (c1.θ id)
    ⟨g, _, rfl, Nat.le_refl _, fun _ => ⟨rfl, by simp⟩, fun b' o' h' => .inr ⟨o', h'⟩⟩ (fun _ _ _ => rfl) (Nat.le_refl _) rfl rfl rfl (fun b cs T fr h => ⟨cs, fr, h, rfl⟩)
    (fun hg => by
      rcases g2.blk id _ hb1 with ⟨h2, h3⟩ | ⟨b, o, cs, Ty, fr, vs, h2, h3, h4, h5, h6, h7⟩
      · rw [h3] at hk; simp at hk
      · refine .inr ⟨b, o, cs, Ty, fr, vs, by simp [h2], h3, h4, ?_, h6, h7⟩
        obtain ⟨u, u1, u2⟩ := h5.get hk
        simp only [Rep] at u2
        have h8 := h5.grow hg
        refine set_same u1 ▸ h8.set i (u := u) ?_
        simp only [Rep]
        have hne : ¬ c.H.length = id := by omega
        refine ⟨by rw [u2]; rfl, ?_⟩
        have hn : (c1.H.set id (.cells g s (vals.set i (.sl c.H.length 0 0 0))))[c.H.length]? = some (.cells 0 sz []) := by
          rw [List.getElem?_set_ne (fun e => hne e.symm), hH]; simp
        rw [hn]
        exact .inr ⟨rfl, Nat.le_refl _, none, 0, u2, Nat.le_refl _, Nat.zero_le _, .inl ⟨rfl, .inr (Nat.le_refl _)⟩⟩)
  refine ⟨{ θ := fun i => if i = id then c1.θ id else c1.θ i, H := c1.H.set id (.cells g s (vals.set i (.sl c.H.length 0 0 0))), w := c1.w }, ?_, hw, ⟨t2, hi.glob.grow (g1.trans t1), hi.size, fun t' x hx => (hi.env t' x hx).grow (g1.trans t1), hi.defs.grow (g1.trans t1)⟩, (hg.trans g1).trans t1⟩
  show c1.H.set id _ = _
  rw [hH, List.set_append_left _ _ hid]
end
end Go.Proofs.YtehfihnfeakmaaaGreatDoor
end

section
/- A VERIFIED INTERPRETER over abstract values: what it reckons of a concrete call is what the call does. -/
namespace Go.Proofs.YtehfihnfeakmaaaGreatDoor
open Go
mutual
def SV.same : SV → SV → Bool
  | .undef, y => (match y with | .undef => true | _ => false)
  | .bool a, y => (match y with | .bool b => a == b | _ => false)
  | .int k n, y => (match y with | .int k' n' => decide (k = k') && decide (n = n') | _ => false)
  | .str s, y => (match y with | .str t => decide (s = t) | _ => false)
  | .agg xs, y => (match y with | .agg ys => SV.sames xs ys | _ => false)
  | .nil, y => (match y with | .nil => true | _ => false)
  | .list a xs, y => (match y with | .list b ys => Nat.beq a b && SV.sames xs ys | _ => false)
  | .ptr a b c d, y => (match y with | .ptr a' b' c' d' => Nat.beq a a' && Nat.beq b b' && Nat.beq c c' && Nat.beq d d' | _ => false)
  | .sl a b c d, y => (match y with | .sl a' b' c' d' => Nat.beq a a' && Nat.beq b b' && Nat.beq c c' && Nat.beq d d' | _ => false)
  | .map a, y => (match y with | .map b => Nat.beq a b | _ => false)
  | .nilmap, y => (match y with | .nilmap => true | _ => false)
  | .nilptr, y => (match y with | .nilptr => true | _ => false)
  | .nilfn, y => (match y with | .nilfn => true | _ => false)
  | .ifc a, y => (match y with | .ifc b => a == b | _ => false)
  | .tuple xs, y => (match y with | .tuple ys => SV.sames xs ys | _ => false)
  | .pto x, y => (match y with | .pto z => SV.same x z | _ => false)
  | .fn f xs ys, y => (match f, y with | .func a, .fn (.func b) us vs => Nat.beq a b && SV.sames xs us && SV.sames ys vs | _, _ => false)
  | _, _ => false
def SV.sames : List SV → List SV → Bool
  | [], ys => (match ys with | [] => true | _ => false)
  | x :: xs, ys => (match ys with | y :: ys => SV.same x y && SV.sames xs ys | _ => false)
end
theorem SV.same_both : (∀ x : SV, ∀ y, SV.same x y = true → x = y) ∧ (∀ xs : List SV, ∀ ys, SV.sames xs ys = true → xs = ys) := by
  refine SV.both (fun x h1 h2 h3 h4 h5 h6 y h => ?_) (fun fs ih y h => ?_) (fun n xs ih y h => ?_) (fun x ih y h => ?_) (fun f a b ia ib y h => ?_) (fun xs ih y h => ?_) (fun b clk born kd ks vs i1 i2 y h => ?_) (fun ys h => ?_) (fun x xs ix ixs ys h => ?_)
  · cases x <;> first | (exact (h1 _ rfl).elim) | (exact (h2 _ _ rfl).elim) | (exact (h3 _ rfl).elim) | (exact (h4 _ _ _ rfl).elim) | (exact (h5 _ rfl).elim) | (exact (h6 _ _ _ _ _ _ rfl).elim) | (cases y <;> simp_all [SV.same])
  · cases y <;> simp only [SV.same] at h <;> first | (cases h; done) | (rw [ih _ h])
  · cases y <;> simp only [SV.same, Bool.and_eq_true] at h <;> first | (cases h; done) | (obtain ⟨h1, h2⟩ := h; rw [ih _ h2, Nat.eq_of_beq_eq_true h1])
  · cases y <;> simp only [SV.same] at h <;> first | (cases h; done) | (rw [ih _ h])
  · simp only [SV.same] at h
    split at h
    · simp only [Bool.and_eq_true] at h
      obtain ⟨⟨h1, h2⟩, h3⟩ := h
      rw [Nat.eq_of_beq_eq_true h1, ia _ h2, ib _ h3]
    · cases h
  · cases y <;> simp only [SV.same] at h <;> first | (cases h; done) | (rw [ih _ h])
  · simp [SV.same] at h
  · cases ys with
    | nil => rfl
    | cons => simp [SV.sames] at h
  · cases ys with
    | nil => simp [SV.sames] at h
    | cons y ys => simp only [SV.sames, Bool.and_eq_true] at h; rw [ix _ h.1, ixs _ h.2]
def optSame : Option SV → Option SV → Bool
  | some a, some b => SV.same a b
  | none, none => true
  | _, _ => false
theorem optSame_eq {a b : Option SV} (h : optSame a b = true) : a = b := by
  cases a <;> cases b <;> simp only [optSame] at h <;> first | rfl | (cases h; done) | (rw [SV.same_both.1 _ _ h])
def sameE : List (SV × SV) → List (SV × SV) → Bool
  | [], ys => (match ys with | [] => true | _ => false)
  | (a, b) :: xs, ys => (match ys with | (c, d) :: ys => SV.same a c && SV.same b d && sameE xs ys | _ => false)
theorem sameE_eq : ∀ {xs ys : List (SV × SV)}, sameE xs ys = true → xs = ys
  | [], ys, h => by cases ys with
    | nil => rfl
    | cons => simp [sameE] at h
  | (a, b) :: xs, ys, h => by cases ys with
    | nil => simp [sameE] at h
    | cons y ys =>
      obtain ⟨c, d⟩ := y
      simp only [sameE, Bool.and_eq_true] at h
      rw [SV.same_both.1 _ _ h.1.1, SV.same_both.1 _ _ h.1.2, sameE_eq h.2]
def sameC : List SV → Nat → List SV → Bool
  | [], _, ys => (match ys with | [] => true | _ => false)
  | x :: xs, c, ys => (match ys with
    | [] => false
    | y :: ys => (match c with
      | 0 => bif (bif sameC xs 255 ys then true else false) then SV.same x y else false
      | c + 1 => bif SV.same x y then sameC xs c ys else false))
theorem sameC_eq : ∀ {xs : List SV} {c : Nat} {ys : List SV}, sameC xs c ys = true → xs = ys
  | [], c, ys, h => by
    cases ys with
    | nil => rfl
    | cons => simp [sameC] at h
  | x :: xs, c, ys, h => by
    cases ys with
    | nil => simp [sameC] at h
    | cons y ys =>
      cases c with
      | zero =>
        simp only [sameC] at h
        cases h1 : sameC xs 255 ys with
        | false => rw [h1] at h; cases h
        | true => rw [h1] at h; rw [sameC_eq h1, SV.same_both.1 _ _ h]
      | succ c =>
        simp only [sameC] at h
        cases h1 : SV.same x y with
        | false => rw [h1] at h; cases h
        | true => rw [h1, cond_true] at h; rw [sameC_eq h, SV.same_both.1 _ _ h1]
def SV.flat0 : SV → Bool
  | .bool _ => true
  | .int _ _ => true
  | .str _ => true
  | _ => false
def SV.flat1 : SV → Bool
  | .agg xs => xs.all SV.flat0
  | x => SV.flat0 x
theorem SV.flat0_under {n : Nat} {x : SV} (h : x.flat0 = true) : x.under n = true := by
  cases x <;> first | rfl | (cases h; done)
theorem SV.flat0_underL {n : Nat} : ∀ {xs : List SV}, xs.all SV.flat0 = true → SV.underL n xs = true
  | [], _ => rfl
  | x :: xs, h => by
    simp only [List.all_cons, Bool.and_eq_true] at h
    simp only [SV.underL, SV.flat0_under h.1, SV.flat0_underL h.2, Bool.and_self]
theorem SV.flat1_under {n : Nat} {x : SV} (h : x.flat1 = true) : x.under n = true := by
  cases x <;> first | exact SV.flat0_under h | (simp only [SV.under]; exact SV.flat0_underL h)
def flatC : List SV → Nat → Bool
  | [], _ => true
  | x :: xs, c => (match c with
    | 0 => bif (bif flatC xs 255 then true else false) then x.flat1 else false
    | c + 1 => bif x.flat1 then flatC xs c else false)
theorem flatC_under {n : Nat} : ∀ {xs : List SV} {c : Nat}, flatC xs c = true → SV.underL n xs = true
  | [], c, _ => rfl
  | x :: xs, c, h => by
    cases c with
    | zero =>
      simp only [flatC] at h
      cases h1 : flatC xs 255 with
      | false => rw [h1] at h; cases h
      | true =>
        rw [h1] at h
        simp only [SV.underL, SV.flat1_under (show x.flat1 = true from h), flatC_under h1, Bool.and_self]
    | succ c =>
      simp only [flatC] at h
      cases h1 : x.flat1 with
      | false => rw [h1] at h; cases h
      | true =>
        rw [h1, cond_true] at h
        simp only [SV.underL, SV.flat1_under h1, flatC_under h, Bool.and_self]
def Blk.same : Blk → Blk → Bool
  | .cells g sz xs, y => (match y with | .cells g' sz' ys => Nat.beq g g' && Nat.beq sz sz' && sameC xs 255 ys | _ => false)
  | .map kd es, y => (match y with | .map kd' es' => decide (kd = kd') && sameE es es' | _ => false)
  | .dead, y => (match y with | .dead => true | _ => false)
  | _, _ => false
theorem Blk.same_eq {a b : Blk} (h : Blk.same a b = true) : a = b := by
  cases a with
  | cells g sz xs => cases b with
    | cells g' sz' ys =>
      simp only [Blk.same, Bool.and_eq_true] at h
      rw [Nat.eq_of_beq_eq_true h.1.1, Nat.eq_of_beq_eq_true h.1.2, sameC_eq h.2]
    | _ => simp [Blk.same] at h
  | map kd es => cases b with
    | map kd' es' =>
      simp only [Blk.same, Bool.and_eq_true, decide_eq_true_eq] at h
      rw [h.1, sameE_eq h.2]
    | _ => simp [Blk.same] at h
  | obj o => simp [Blk.same] at h
  | dead => cases b with
    | dead => rfl
    | _ => simp [Blk.same] at h
def sameH : List Blk → List Blk → Bool
  | [], ys => (match ys with | [] => true | _ => false)
  | x :: xs, ys => (match ys with | y :: ys => Blk.same x y && sameH xs ys | _ => false)
theorem sameH_eq : ∀ {xs ys : List Blk}, sameH xs ys = true → xs = ys
  | [], ys, h => by cases ys with
    | nil => rfl
    | cons => simp [sameH] at h
  | x :: xs, ys, h => by cases ys with
    | nil => simp [sameH] at h
    | cons y ys =>
      simp only [sameH, Bool.and_eq_true] at h
      rw [Blk.same_eq h.1, sameH_eq h.2]
abbrev RC := FuncId → List SV → List Blk → Option (SV × List Blk)
def RCok (P : Program) (G : Gl) (call : RC) : Prop := ∀ f xs H x H', call f xs H = some (x, H') → ACall P G f xs H (fun r H2 => H2 = H' ∧ r = x)
def nilq (G : Gl) (T : Tab) (env : Env) (H : List Blk) : Op → Option SV
  | .binOp .eql t x y _ => ob (ev G env x) fun X => ob (ev G env y) fun Y => match Y with
      | .nil => chk (kindT T t = 2) (ob (slLen H X) fun n => bif Nat.beq n 0 then none else some (.bool false))
      | _ => none
  | .binOp .neq t x y _ => ob (ev G env x) fun X => ob (ev G env y) fun Y => match Y with
      | .nil => chk (kindT T t = 2) (ob (slLen H X) fun n => bif Nat.beq n 0 then none else some (.bool true))
      | _ => none
  | _ => none
def lookB : Env → Nat → Option SV
  | [], _ => none
  | (k, v) :: r, t => bif Nat.beq t k then some v else lookB r t
theorem lookB_eq : ∀ (env : Env) (t : Nat), lookB env t = look env t
  | [], _ => rfl
  | (k, v) :: r, t => by
    unfold lookB look
    cases h : Nat.beq t k with
    | true => rw [cond_true, if_pos (Nat.eq_of_beq_eq_true h)]
    | false =>
      rw [cond_false, if_neg (fun e => by rw [e, Nat.beq_refl] at h; cases h)]
      exact lookB_eq r t
def smallE (env : Env) : List Operand → Env
  | [] => []
  | .tmp t :: r => (match lookB env t with
    | some v => (t, v) :: smallE env r
    | none => smallE env r)
  | _ :: r => smallE env r
theorem smallE_sub {env : Env} {t : Nat} {v : SV} : ∀ {l : List Operand}, look (smallE env l) t = some v → look env t = some v
  | [], h => by cases h
  | x :: r, h => by
    cases x with
    | tmp s =>
      unfold smallE at h
      rw [lookB_eq] at h
      cases hs : look env s with
      | none => rw [hs] at h; exact smallE_sub h
      | some u =>
        rw [hs] at h
        have h : (if t = s then some u else look (smallE env r) t) = some v := h
        by_cases e : t = s
        · rw [if_pos e] at h; rw [e, hs]; exact h
        · rw [if_neg e] at h; exact smallE_sub h
    | _ => exact smallE_sub (l := r) h
theorem smallE_look {env : Env} {t : Nat} : ∀ {l : List Operand}, Operand.tmp t ∈ l → look (smallE env l) t = look env t
  | x :: r, h => by
    cases x with
    | tmp s =>
      unfold smallE
      rw [lookB_eq]
      cases hs : look env s with
      | some u =>
        show (if t = s then some u else look (smallE env r) t) = _
        by_cases e : t = s
        · rw [if_pos e, e, hs]
        · rw [if_neg e]
          rcases List.mem_cons.1 h with h | h
          · cases h; exact (e rfl).elim
          · exact smallE_look h
      | none =>
        show look (smallE env r) t = _
        by_cases e : t = s
        · rw [e, hs]
          cases hr : look (smallE env r) s with
          | none => rfl
          | some u => rw [smallE_sub hr] at hs; cases hs
        · rcases List.mem_cons.1 h with h | h
          · cases h; exact (e rfl).elim
          · exact smallE_look h
    | _ =>
      rcases List.mem_cons.1 h with h | h
      · cases h
      · exact smallE_look (l := r) h
theorem smallE_ev {G : Gl} {env : Env} {l : List Operand} {x : Operand} (h : x ∈ l) : ev G (smallE env l) x = ev G env x := by
  cases x with
  | tmp t => exact smallE_look h
  | _ => rfl
def longB (l : List SV) (n : Nat) : Bool := match n with
  | 0 => true
  | n + 1 => match l.drop n with
    | [] => false
    | _ :: _ => true
theorem longB_le {l : List SV} {n : Nat} (h : longB l n = true) : n ≤ l.length := by
  cases n with
  | zero => exact Nat.zero_le _
  | succ n =>
    rcases Nat.lt_or_ge n l.length with h2 | h2
    · exact h2
    · have h3 : (match l.drop n with
        | [] => false
        | _ :: _ => true) = true := h
      rw [List.drop_eq_nil_of_le h2] at h3
      cases h3
def cpQ (G : Gl) (T : Tab) (env : Env) (H : List Blk) : Op → Option (SV × List Blk)
  | .call ⟨.builtin .copy, ⟨[d, s]⟩, ⟨[t, ts]⟩⟩ => ob (elemOf T t) fun e => ob (elemOf T ts) fun _ => ob (ev G env d) fun dv => ob (ev G env s) fun sv => ob (seqOf H sv) fun ys => bb (szOK H e.2.size sv)
      (match dv with
      | .sl id g off len => ob (blkOf H id g) fun b => bb (Nat.beq b.1 e.2.size && Nat.blt 0 e.2.size && longB b.2 (off + len))
          (some (.int .i64 (min ys.length len : Nat), H.set id (.cells g e.2.size (b.2.take off ++ ys.take (min ys.length len) ++ b.2.drop (off + min ys.length len))))) none
      | _ => none) none
  | _ => none
theorem cpQ_lv {G : Gl} {T : Tab} {own : List Nat} {env : Env} {H : List Blk} {dst : Option Nat} {ty : Nat} {op : Op} {r : SV × List Blk} (h : cpQ G T env H op = some r) : lv G T own env H dst ty op = some r := by
  unfold cpQ at h
  split at h
  · obtain ⟨e, h1, h⟩ := ob_eq h
    obtain ⟨e', h2, h⟩ := ob_eq h
    obtain ⟨dv, h3, h⟩ := ob_eq h
    obtain ⟨sv, h4, h⟩ := ob_eq h
    obtain ⟨ys, h5, h⟩ := ob_eq h
    rcases bb_eq h with ⟨h6, h⟩ | ⟨_, h⟩
    · cases dv with
      | sl id g off len =>
        obtain ⟨b, h7, h⟩ := ob_eq h
        rcases bb_eq h with ⟨h8, h⟩ | ⟨_, h⟩
        · simp only [Bool.and_eq_true] at h8
          obtain ⟨⟨a1, a2⟩, a3⟩ := h8
          have a1 := Nat.eq_of_beq_eq_true a1
          have a2 : 0 < e.2.size := by simpa [Nat.blt_eq] using a2
          have a3 := longB_le a3
          rw [← h]
          unfold lv
          simp only [ob, h1, h2, h3, h4, h5, h6, chk, copyV, h7, a1, a2, a3, and_self, if_true, Option.bind_some]
        · cases h
      | _ => cases h
    · cases h
  · cases h
def plainOp (G : Gl) (T : Tab) (own : List Nat) (env : Env) (H : List Blk) (dst : Option Nat) (ty : Nat) (op : Op) : Option (SV × List Blk) :=
  match qv G T own env H dst ty op with
  | some v => some (v, H)
  | none => match cpQ G T env H op with
   | some r => some r
   | none => match lv G T own env H dst ty op with
    | some r => some r
    | none => match lvI G T env H op with
      | some r => some r
      | none => match nilq G T env H op with
        | some v => some (v, H)
        | none => none
def doOp (call : RC) (G : Gl) (T : Tab) (own : List Nat) (env : Env) (H : List Blk) (dst : Option Nat) (ty : Nat) : Op → Option (SV × List Blk)
  | .call ⟨.value f, args, _⟩ => ob (ev G env f) fun fv => ob (evs G env args.toList) fun xs => match fv with
      | .fn (.func g) first cap => call g (first ++ xs ++ cap) H
      | _ => none
  | op => plainOp G T own env H dst ty op
section
variable {P : Program} {G : Gl} {T : Tab} {own : List Nat} {nt : Nat} {C : Cx} {call : RC}
theorem nilq_ok {env : Env} {H : List Blk} {dst : Option Nat} {ty : Nat} {op : Op} {v : SV} {k : SV → List Blk → Prop} (h : nilq G T env H op = some v) (hk : k v H) : exOp P G T own env H dst ty op k := by
  unfold nilq at h
  split at h
  · obtain ⟨X, h1, h⟩ := ob_eq h
    obtain ⟨Y, h2, h⟩ := ob_eq h
    split at h
    · obtain ⟨h3, h⟩ := chk_eq h
      obtain ⟨n, h4, h⟩ := ob_eq h
      cases hn : Nat.beq n 0 with
      | true => rw [hn] at h; cases h
      | false =>
        rw [hn] at h
        cases h
        refine exOp_nilq (eq := true) h1 h2 h3 h4 (fun e => ?_) hk
        subst e
        cases hn
    · cases h
  · obtain ⟨X, h1, h⟩ := ob_eq h
    obtain ⟨Y, h2, h⟩ := ob_eq h
    split at h
    · obtain ⟨h3, h⟩ := chk_eq h
      obtain ⟨n, h4, h⟩ := ob_eq h
      cases hn : Nat.beq n 0 with
      | true => rw [hn] at h; cases h
      | false =>
        rw [hn] at h
        cases h
        refine exOp_nilq (eq := false) h1 h2 h3 h4 (fun e => ?_) hk
        subst e
        cases hn
    · cases h
  · cases h
theorem plainOp_ok {env : Env} {H H' : List Blk} {dst : Option Nat} {ty : Nat} {op : Op} {v : SV} {k : SV → List Blk → Prop} (h : plainOp G T own env H dst ty op = some (v, H')) (hk : k v H') : exOp P G T own env H dst ty op k := by
  unfold plainOp at h
  split at h
  · rename_i hq; cases h; exact qv_ok hq hk
  · split at h
    · rename_i hq; cases h; exact lv_ok (cpQ_lv hq) hk
    split at h
    · rename_i hq; cases h; exact lv_ok hq hk
    · split at h
      · rename_i hq; cases h; exact lvI_ok hq hk
      · split at h
        · rename_i hq; cases h; exact nilq_ok hq hk
        · cases h
theorem doOp_ok (hc : RCok P G call) {env : Env} {H H' : List Blk} {dst : Option Nat} {ty : Nat} {op : Op} {v : SV} {k : SV → List Blk → Prop} (h : doOp call G T own env H dst ty op = some (v, H')) (hk : k v H') : exOp P G T own env H dst ty op k := by
  unfold doOp at h
  split at h
  · obtain ⟨fv, h1, h⟩ := ob_eq h
    obtain ⟨xs, h2, h⟩ := ob_eq h
    split at h
    · refine ⟨_, h1, xs, h2, ACallV.of ((hc _ _ _ _ _ h).mono ?_)⟩
      rintro r H2 ⟨rfl, rfl⟩
      exact hk
    · cases h
  · exact plainOp_ok h hk
theorem doOp_okS (hc : RCok P G call) {env : Env} {H H' : List Blk} {dst : Option Nat} {ty : Nat} {op : Op} {v : SV} {k : SV → List Blk → Prop} (h : doOp call G T own (smallE env (opds op)) H dst ty op = some (v, H')) (hk : k v H') : exOp P G T own env H dst ty op k := by
  rw [← exOp_congrO (env := smallE env (opds op)) (fun x hx => smallE_ev hx)]
  exact doOp_ok hc h hk
def putD (nt : Nat) (d : Option Nat) (x : SV) (env : Env) : Option Env := match d with
  | some d => bif Nat.blt d nt then some ((d, x) :: env) else none
  | none => some env
theorem putD_ok {d : Option Nat} {x : SV} {env env' : Env} {k : Env → Prop} (h : putD nt d x env = some env') (hk : k env') : putK nt d x env k := by
  cases d with
  | none => cases h; exact hk
  | some d =>
    unfold putD at h
    cases hb : Nat.blt d nt with
    | true => simp only [hb, cond_true, Option.some.injEq] at h; subst h; exact ⟨by simpa [Nat.blt_eq] using hb, hk⟩
    | false => simp only [hb, cond_false] at h; cases h
end
section
variable (call : RC) (G : Gl) (T : Tab) (own : List Nat) (nt : Nat)
def gOp (all : List Oper) (o : Oper) (env : Env) (H : List Blk) : Option (SV × List Blk) :=
  match o.guard with
  | none => doOp call G T own (smallE env (opds o.op)) H o.dst o.type o.op
  | some (j, want) => ob ((all[j]?).bind (·.dst)) fun dj => ob (lookB env dj) fun v => ob (asG v) fun b => bb (b == some want) (doOp call G T own (smallE env (opds o.op)) H o.dst o.type o.op) (some (.undef, H))
def evOps (all : List Oper) : List Oper → Env → List Blk → Option (Env × List Blk)
  | [], env, H => some (env, H)
  | o :: r, env, H => match gOp call G T own all o env H with
    | some (x, H') => (match putD nt o.dst x env with
      | some env' => evOps all r env' H'
      | none => none)
    | none => none
def agB (all : List Oper) (env : Env) (H : List Blk) : List Nat → Bool
  | [] => true
  | i :: r => (match all[i]? with
    | some o => optSame (qg G T own all o env H) ((o.dst).bind (look env))
    | none => false) && agB all env H r
def dstsOf (all : List Oper) : List Nat := all.filterMap (·.dst)
def sameOn (e1 e2 : Env) : List Nat → Bool
  | [] => true
  | t :: r => optSame (lookB e1 t) (lookB e2 t) && sameOn e1 e2 r
end
section
variable {P : Program} {G : Gl} {T : Tab} {own : List Nat} {nt : Nat} {C : Cx} {call : RC} {ρ : Option Nat}
theorem gOp_exG (hc : RCok P G call) {all : List Oper} {o : Oper} {env : Env} {H H' : List Blk} {x : SV} {k : SV → List Blk → Prop} (h : gOp call G T own all o env H = some (x, H')) (hk : k x H') : exG P G T own all o env H k := by
  unfold gOp at h
  unfold exG
  cases hgd : o.guard with
  | none =>
    simp only [hgd] at h
    exact doOp_okS hc h hk
  | some jw =>
    obtain ⟨j, want⟩ := jw
    simp only [hgd] at h
    obtain ⟨dj, h1, h⟩ := ob_eq h
    obtain ⟨v, h2, h⟩ := ob_eq h
    rw [lookB_eq] at h2
    obtain ⟨b, h3, h⟩ := ob_eq h
    refine ⟨dj, h1, v, h2, b, h3, fun e => ?_, fun e => ?_⟩
    · rw [e] at h; exact doOp_okS hc h hk
    · rw [e] at h; cases h; exact hk
theorem evOps_ok (hc : RCok P G call) {all : List Oper} : ∀ (l : List Oper) {env env' : Env} {H H' : List Blk} {k : Env → List Blk → Prop}, evOps call G T own nt all l env H = some (env', H') → k env' H' → exOps P G T own nt all l env H k
  | [], env, env', H, H', k, h, hk => by cases h; exact hk
  | o :: r, env, env', H, H', k, h, hk => by
    unfold evOps at h
    split at h
    · rename_i x H1 hg
      split at h
      · rename_i env1 hp
        have ih := evOps_ok hc r h hk
        unfold gOp at hg
        unfold exOps
        cases hgd : o.guard with
        | none =>
          simp only [hgd] at hg
          exact doOp_okS (k := fun x H' => putK nt o.dst x env fun env' => exOps P G T own nt all r env' H' k) hc hg (putD_ok hp ih)
        | some jw =>
          obtain ⟨j, want⟩ := jw
          simp only [hgd] at hg
          obtain ⟨dj, h1, hg⟩ := ob_eq hg
          obtain ⟨v, h2, hg⟩ := ob_eq hg
          rw [lookB_eq] at h2
          obtain ⟨b, h3, hg⟩ := ob_eq hg
          refine ⟨dj, h1, v, h2, b, h3, fun e => ?_, fun e => ?_⟩
          · rw [e] at hg; exact doOp_okS (k := fun x H' => putK nt o.dst x env fun env' => exOps P G T own nt all r env' H' k) hc hg (putD_ok hp ih)
          · rw [e] at hg; cases hg; exact putD_ok hp ih
      · cases h
    · cases h
theorem agB_ok {all : List Oper} {env : Env} {H : List Blk} : ∀ {l : List Nat}, agB G T own all env H l = true → AgAll G T own all env H l
  | [], _ => trivial
  | i :: r, h => by
    unfold agB at h
    rw [Bool.and_eq_true] at h
    obtain ⟨h1, h2⟩ := h
    split at h1
    · rename_i o ho
      exact ⟨⟨o, ho, optSame_eq h1⟩, agB_ok h2⟩
    · cases h1
theorem dr_doneK {all : List Oper} {n m : Nat} {ex : List Nat} {env : Env} {H : List Blk} {K : Env → List Blk → Prop} (hm : Nat.ble all.length m = true) (h : K env H) : (DrP P G T own all) (n + 1) m ex env H K := fun L hL => by
  have hall : ∀ i o, all[i]? = some o → i ∈ L := fun i o ho => (hL i).2 (LP_iff.2 (.inl (by
    have h1 := (List.getElem?_eq_some_iff.1 ho).1
    have h2 := Nat.le_of_ble_eq_true hm
    omega)))
  exact .inr ⟨fun i o ho hn => (hn (hall i o ho)).elim, .inl ⟨hall, h⟩⟩
theorem Dr.up {all : List Oper} {K : Env → List Blk → Prop} : ∀ (n : Nat) {L : List Nat} {env : Env} {H : List Blk}, Dr P G T own all n L env H K → Dr P G T own all (n + 1) L env H K
  | 0, _, _, _, h => h.elim
  | n + 1, L, env, H, h => by
    rcases h with ⟨i, o, v, h1, h2, h3, h4, h5, h6⟩ | ⟨h1, h2⟩
    · exact .inl ⟨i, o, v, h1, h2, h3, h4, h5, Dr.up n h6⟩
    · refine .inr ⟨h1, ?_⟩
      rcases h2 with h2 | ⟨h2, h3⟩
      · exact .inl h2
      · exact .inr ⟨h2, fun j o a1 a2 a3 => exG_mono (fun x H' hx => ⟨hx.1, Dr.up n hx.2⟩) (h3 j o a1 a2 a3)⟩
theorem DrP.le {all : List Oper} {m : Nat} {ex : List Nat} {env : Env} {H : List Blk} {K : Env → List Blk → Prop} {n n' : Nat} (hn : n ≤ n') (h : DrP P G T own all n m ex env H K) : DrP P G T own all n' m ex env H K := by
  induction hn with
  | refl => exact h
  | step _ ih => exact fun L hL => Dr.up _ (ih L hL)
theorem DrP.monoK {all : List Oper} {m : Nat} {ex : List Nat} {env : Env} {H : List Blk} {K K' : Env → List Blk → Prop} {n : Nat} (hk : ∀ e h, K e h → K' e h) (h : DrP P G T own all n m ex env H K) : DrP P G T own all n m ex env H K' := by
  have key : ∀ (n : Nat) {L : List Nat} {env : Env} {H : List Blk}, Dr P G T own all n L env H K → Dr P G T own all n L env H K' := by
    intro n
    induction n with
    | zero => intro L env H h; exact h.elim
    | succ n ih =>
      intro L env H h
      rcases h with ⟨i, o, v, h1, h2, h3, h4, h5, h6⟩ | ⟨h1, h2⟩
      · exact .inl ⟨i, o, v, h1, h2, h3, h4, h5, ih h6⟩
      · refine .inr ⟨h1, ?_⟩
        rcases h2 with ⟨h2, h3⟩ | ⟨h2, h3⟩
        · exact .inl ⟨h2, hk _ _ h3⟩
        · exact .inr ⟨h2, fun j o a1 a2 a3 => exG_mono (fun x H' hx => ⟨hx.1, ih hx.2⟩) (h3 j o a1 a2 a3)⟩
  exact fun L hL => key n (h L hL)
theorem mem_dsts {all : List Oper} {i : Nat} {o : Oper} (ho : all[i]? = some o) {d : Nat} (hd : o.dst = some d) : d ∈ dstsOf all :=
  List.mem_filterMap.2 ⟨o, List.mem_of_getElem? ho, hd⟩
theorem putE_look {all : List Oper} {i : Nat} {o : Oper} (ho : all[i]? = some o) {x : SV} {env : Env} {t : Nat} (ht : t ∉ dstsOf all) : look (putE o.dst x env) t = look env t := by
  cases hd : o.dst with
  | none => rfl
  | some d =>
    show (if t = d then some x else look env t) = look env t
    rw [if_neg (fun e => ht (by rw [e]; exact mem_dsts ho hd))]
theorem sameOn_look {e1 e2 : Env} : ∀ {l : List Nat}, sameOn e1 e2 l = true → ∀ t ∈ l, look e1 t = look e2 t
  | t :: r, h, s, hs => by
    simp only [sameOn, Bool.and_eq_true] at h
    rcases List.mem_cons.1 hs with rfl | hs
    · have := optSame_eq h.1
      rwa [lookB_eq, lookB_eq] at this
    · exact sameOn_look h.2 s hs
theorem common {P : Nat → Nat → Prop} (hP : ∀ j n n', n ≤ n' → P n j → P n' j) : ∀ (l : List Nat), (∀ j ∈ l, ∃ N, P N j) → ∃ N, ∀ j ∈ l, P N j
  | [], _ => ⟨0, fun _ h => by cases h⟩
  | j :: r, h => by
    obtain ⟨N1, h1⟩ := h j (List.mem_cons_self ..)
    obtain ⟨N2, h2⟩ := common hP r (fun j hj => h j (List.mem_cons_of_mem _ hj))
    refine ⟨max N1 N2, fun j' hj' => ?_⟩
    rcases List.mem_cons.1 hj' with rfl | hj'
    · exact hP _ _ _ (Nat.le_max_left ..) h1
    · exact hP _ _ _ (Nat.le_max_right ..) (h2 j' hj')
end
def evB (G : Gl) (env : Env) : Operand → Option SV
  | .tmp t => lookB env t
  | x => ev G env x
theorem evB_eq {G : Gl} {env : Env} (x : Operand) : evB G env x = ev G env x := by
  cases x with
  | tmp t => exact lookB_eq env t
  | _ => rfl
def ded : List Nat → Env → Env
  | _, [] => []
  | seen, (t, x) :: r => bif memN t seen then ded seen r else (t, x) :: ded (t :: seen) r
theorem ded_look : ∀ (env : Env) (seen : List Nat) (t : Nat) (x : SV), look (ded seen env) t = some x → t ∉ seen ∧ look env t = some x
  | [], seen, t, x, h => by cases h
  | (s, y) :: r, seen, t, x, h => by
    unfold ded at h
    cases hm : memN s seen with
    | true =>
      rw [hm, cond_true] at h
      obtain ⟨h1, h2⟩ := ded_look r seen t x h
      refine ⟨h1, ?_⟩
      unfold look
      rw [if_neg (fun e => h1 (by rw [e]; exact memN_iff.1 hm))]
      exact h2
    | false =>
      rw [hm, cond_false] at h
      unfold look at h ⊢
      by_cases e : t = s
      · rw [if_pos e] at h ⊢
        refine ⟨fun hi => ?_, h⟩
        rw [e] at hi
        rw [memN_iff.2 hi] at hm
        cases hm
      · rw [if_neg e] at h ⊢
        obtain ⟨h1, h2⟩ := ded_look r (s :: seen) t x h
        exact ⟨fun hi => h1 (List.mem_cons_of_mem _ hi), h2⟩
section
variable (call : RC) (G : Gl) (T : Tab) (own : List Nat) (nt : Nat)
end
section
variable {P : Program} {G : Gl} {T : Tab} {own : List Nat} {nt : Nat} {C : Cx} {call : RC} {ρ : Option Nat}
end
def frzVL (f : SV → Option SV) : List SV → Option (List SV)
  | [] => some []
  | x :: r => match f x with
    | some y => (match frzVL f r with
      | some ys => some (y :: ys)
      | none => none)
    | none => none
def frzV (H : List Blk) (n : Nat) : Nat → SV → Option SV
  | 0, _ => none
  | d + 1, x => bif x.under n then some x else match x with
    | .agg fs => (match frzVL (frzV H n d) fs with
      | some ys => some (.agg ys)
      | none => none)
    | .tuple fs => (match frzVL (frzV H n d) fs with
      | some ys => some (.tuple ys)
      | none => none)
    | .list sz fs => (match frzVL (frzV H n d) fs with
      | some ys => some (.list sz ys)
      | none => none)
    | .sl id g off len => bif Nat.ble n id then (match H[id]? with
      | some (.cells g' sz vals) => bif Nat.beq g g' then (match frzVL (frzV H n d) ((vals.drop off).take len) with
        | some ys => some (.list sz ys)
        | none => none) else none
      | _ => none) else none
    | _ => none
theorem frzVL_ok {H : List Blk} {n : Nat} {f : SV → Option SV} (hf : ∀ x y, f x = some y → Frz H n [] x y) : ∀ {xs ys : List SV}, frzVL f xs = some ys → FrzL H n [] xs ys
  | [], ys, h => by cases h; exact .nil
  | x :: r, ys, h => by
    unfold frzVL at h
    split at h
    · rename_i y hy
      split at h
      · rename_i zs hzs
        cases h
        exact .cons _ _ _ _ (hf _ _ hy) (frzVL_ok hf hzs)
      · cases h
    · cases h
theorem frzV_ok {H : List Blk} {n : Nat} : ∀ (d : Nat) (x y : SV), frzV H n d x = some y → Frz H n [] x y
  | 0, x, y, h => by cases h
  | d + 1, x, y, h => by
    unfold frzV at h
    cases hu : x.under n with
    | true => rw [hu, cond_true] at h; cases h; exact .same _ hu
    | false =>
      rw [hu, cond_false] at h
      cases x with
      | agg fs =>
        simp only at h
        split at h
        · rename_i ys hy; cases h; exact .agg _ _ (frzVL_ok (frzV_ok d) hy)
        · cases h
      | tuple fs =>
        simp only at h
        split at h
        · rename_i ys hy; cases h; exact .tuple _ _ (frzVL_ok (frzV_ok d) hy)
        · cases h
      | list sz fs =>
        simp only at h
        split at h
        · rename_i ys hy; cases h; exact .list _ _ _ (frzVL_ok (frzV_ok d) hy)
        · cases h
      | sl id g off len =>
        simp only at h
        cases hb : Nat.ble n id with
        | false => rw [hb] at h; cases h
        | true =>
          rw [hb, cond_true] at h
          split at h
          · rename_i g' sz vals hH
            cases hg : Nat.beq g g' with
            | false => rw [hg] at h; cases h
            | true =>
              rw [hg, cond_true] at h
              have hg := Nat.eq_of_beq_eq_true hg
              subst hg
              split at h
              · rename_i ys hy; cases h; exact .sl _ _ _ _ _ _ _ hH (Nat.le_of_ble_eq_true hb) (by simp) (frzVL_ok (frzV_ok d) hy)
              · cases h
          · cases h
      | _ => cases h
def Blk.underB (n : Nat) : Blk → Bool
  | .cells _ _ vals => bif longB vals 1000 then flatC vals 255 else SV.underL n vals
  | b => b.under n
theorem Blk.underB_under {n : Nat} {b : Blk} (h : b.underB n = true) : b.under n = true := by
  cases b with
  | cells g sz vals =>
    simp only [Blk.underB] at h
    cases h1 : longB vals 1000 with
    | true => rw [h1, cond_true] at h; exact flatC_under h
    | false => rw [h1, cond_false] at h; exact h
  | _ => exact h
def gcR (n0 : Nat) (x : SV) (H' : List Blk) : SV × List Blk := bif Nat.ble n0 H'.length && (H'.take n0).all (·.underB n0) then (match frzV H' n0 12 x with
  | some y => (y, H'.take n0)
  | none => (x, H')) else (x, H')
theorem gcR_fin {C : Cx} {H' : List Blk} {x : SV} {n0 : Nat} (hC : C.H.length = n0) : Fin C H' x (fun r H2 => H2 = (gcR n0 x H').2 ∧ r = (gcR n0 x H').1) := by
  unfold gcR
  cases hb : (Nat.ble n0 H'.length && (H'.take n0).all (·.underB n0)) with
  | false => exact Fin.same ⟨rfl, rfl⟩
  | true =>
    simp only [cond_true]
    simp only [Bool.and_eq_true] at hb
    obtain ⟨h1, h3⟩ := hb
    have hlen : (H'.take n0).length = n0 := by rw [List.length_take]; exact Nat.min_eq_left (Nat.le_of_ble_eq_true h1)
    have hcl : closed (H'.take n0) := fun B hB => by rw [hlen]; exact Blk.underB_under (List.all_eq_true.1 h3 B hB)
    cases hy : frzV H' n0 12 x with
    | none => exact Fin.same ⟨rfl, rfl⟩
    | some y =>
      have hfz : Frz (H'.take n0 ++ H'.drop n0) n0 [] x y := by rw [List.take_append_drop]; exact frzV_ok _ _ _ hy
      have key : Fin C (H'.take n0 ++ H'.drop n0) x (fun r H2 => H2 = H'.take n0 ∧ r = y) := Fin.tellN (fun _ _ h => h) hlen hC hcl hfz ⟨rfl, rfl⟩
      rwa [List.take_append_drop] at key
section
variable (P : Program) (G : Gl) (T : Tab) (ow : FuncId → List Nat) (gc : FuncId → Bool) (ov : RC) (fuel : Nat)
end
theorem ACall.lift {P : Program} {G0 G : Gl} {f : FuncId} {b : Bool} (C0 : Cx) (hb : G0.base = some C0) (hb2 : G.base = some C0) (h0 : C0.H = []) (hG : GClosed G0) (hs : ∀ p ∈ G0.l, p ∈ G.l) (h : ACall P G0 f [] [] (fun r _ => r = .bool b)) (H : List Blk) : ACall P G f [] H (fun r H' => H' = H ∧ r = .bool b) := by
  refine ⟨h.1, fun c vs hH hc hg hv => ?_⟩
  subst hH
  have h00 := Cx.cut (θ := c.θ) (H := []) (X := c.H) (w := c.w) hc (fun B hB => by cases hB)
  have hg0 : GOK G0 ⟨c.θ, [], c.w⟩ := ⟨fun p hp => (Rep.cut_both (θ := c.θ) (H := []) (X := c.H) (w := c.w)).1 _ _ (hg.1 p (hs p hp)) (hG p hp), fun C1 e => by
    rw [hb] at e
    cases e
    exact h00.2 C0 (by rw [h0]; exact Nat.le_refl _) (hg.2 C0 hb2)⟩
  have hv0 : RepL ⟨c.θ, [], c.w⟩ [] vs := hv
  refine (h.2 ⟨c.θ, [], c.w⟩ vs rfl h00.1 hg0 hv0).mono ?_
  rintro e w' ⟨v, x, c', e1, e2, e3, e4, e5, e6⟩
  subst e2
  have hold : ∀ k, k < c.w.heap.size → c'.w.heap[k]? = c.w.heap[k]? := fun k hk => e6.old k hk (fun ⟨id, o, ⟨B, hB, _⟩, _⟩ => by cases hB)
  obtain ⟨g1, g2⟩ := Cx.world hc (w' := c'.w) hold e6.size e6.os e6.tape e6.output
  exact ⟨v, x, { c with w := c'.w }, e1, rfl, ⟨rfl, e3⟩, g2, by rw [e3] at e5 ⊢; exact e5, g1⟩
end Go.Proofs.YtehfihnfeakmaaaGreatDoor
end

section
/- Contracts of the shelf told of abstract heaps: a map's copy; a call one of whose answers is not looked at. -/
namespace Go.Proofs.YtehfihnfeakmaaaGreatDoor
open Go
theorem ACall.of_clone {P : Program} {G : Gl} {f : FuncId} (hf : ∃ fn, P.funcs[f]? = some fn ∧ (fn.name == "runtime.NumGoroutine") = false ∧ fn.body.isNone = false)
    (hc : ∀ (b : Nat) (es : Array MapEntry) (clock : Nat) (w : World), w.heap[b]? = some (.map es clock) → Calls P f #[.map (some b)] w fun e w' => e = .returned (.map (some w.heap.size)) ∧ w' = w.alloc (.map es clock))
    (id : Nat) (H : List Blk) (kd : Option IntKind) (es : List (SV × SV)) (hH : H[id]? = some (.map kd es)) : ACall P G f [.map id] H (fun r H' => H' = H ++ [.map kd es] ∧ r = .map H.length) := by
  refine ⟨hf, fun c vs e1 hh hG hv => ?_⟩
  subst e1
  obtain ⟨v, us, hv1, hv2, rfl⟩ := RepL.cons_iff.1 hv
  rw [RepL.nil_iff.1 hv2]
  simp only [Rep, hH] at hv1
  obtain ⟨_, b, hθ, rfl⟩ := hv1
  obtain ⟨b', ents, clk, h1, h2, h3, h4, h5⟩ := hh.blk id _ hH
  rw [hθ] at h1; cases h1
  refine (callsIn_wide (n := 0)).2 ?_
  refine (hc b ents clk c.w h2).mono ?_
  rintro e w' ⟨rfl, rfl⟩
  have hnew : (c.w.alloc (.map ents clk)).heap[c.w.heap.size]? = some (.map ents clk) := heap_alloc_new c.w _
  obtain ⟨g1, g2⟩ := Cx.fresh hh (w' := c.w.alloc (.map ents clk)) c.w.heap.size (Nat.le_refl _) 0 (some (c.w.heap.size, 0)) (.inr rfl) (.map kd es) (fun b hb => Go.RowKit.Below.heap_alloc _ _ b hb) (by simp) rfl rfl rfl (fun hg => ⟨c.w.heap.size, ents, clk, by simp, hnew, RepE.grow hg _ _ h3, h4, h5⟩)
  refine ⟨.map (some c.w.heap.size), .map c.H.length, _, rfl, rfl, ⟨rfl, rfl⟩, g2, ?_, g1⟩
  simp only [Rep]
  refine ⟨rfl, ?_⟩
  simp
theorem ACall.of_opaque {P : Program} {G : Gl} {f : FuncId} {s : Str} {k : IntKind} {n : Int} (hn : k.min ≤ n ∧ n ≤ k.max) (hf : ∃ fn, P.funcs[f]? = some fn ∧ (fn.name == "runtime.NumGoroutine") = false ∧ fn.body.isNone = false)
    (hc : ∀ c : Cx, GOK G c → Calls P f #[.string ⟨⟨s⟩⟩] c.w fun e w' => ∃ v, e = .returned (.tuple #[.int k n, v]) ∧ v.oneCell' = true ∧ Go.RowKit.Below c.w.heap.size c.w w')
    (H : List Blk) : ACall P G f [.str s] H (fun r H' => H' = H ++ [.dead] ∧ r = .tuple [.int k n, .ptr H.length 0 0 0]) := by
  refine ⟨hf, fun c vs e1 hh hG hv => ?_⟩
  subst e1
  obtain ⟨v, us, hv1, hv2, rfl⟩ := RepL.cons_iff.1 hv
  rw [RepL.nil_iff.1 hv2]
  simp only [Rep] at hv1
  obtain ⟨rfl, hs⟩ := hv1
  refine (callsIn_wide (n := 0)).2 ?_
  refine (hc c hG).mono ?_
  rintro e w' ⟨v, rfl, hv, hb⟩
  obtain ⟨g1, g2⟩ := Cx.fresh hh (w' := w') w'.heap.size hb.size 0 none (.inl rfl) .dead (fun b h => hb.block b h) hb.size hb.os hb.tape hb.output (fun _ => trivial)
  refine ⟨.tuple #[.int k n, v], .tuple [.int k n, .ptr c.H.length 0 0 0], _, rfl, rfl, ⟨rfl, rfl⟩, g2, ?_, g1⟩
  simp only [Rep]
  refine ⟨[.int k n, v], RepL.mk_cons ?_ (RepL.mk_cons ?_ RepL.mk_nil), rfl⟩
  · simp only [Rep]; exact ⟨trivial, hn⟩
  · simp only [Rep]
    refine ⟨hv, ?_⟩
    simp
end Go.Proofs.YtehfihnfeakmaaaGreatDoor
end

section
/- strconv.Atoi at what is no numeral, and maps.Clone: the shelf's contracts laid at this seat in plain words (the first printed by lay-plain.mjs). -/
namespace Go.Proofs
open Go.Shelf
def Tryz.laysC172_ren : Go.Shelf.Ren := ⟨fun | 172 => 81 | 244 => 124 | 245 => 125 | 247 => 148 | 279 => 149 | 280 => 150 | 281 => 151 | 282 => 152 | 287 => 162 | 316 => 163 | 171 => 82 | 205 => 164 | 321 => 170 | 322 => 171 | 243 => 126 | 246 => 153 | 283 => 165 | 284 => 166 | 285 => 167 | 286 => 168 | 129 => 140 | 317 => 172 | 318 => 173 | 319 => 174 | 320 => 175 | 337 => 176 | 338 => 177 | n => n, fun | 9 => 9 | 3 => 3 | 75 => 116 | 76 => 117 | 4 => 4 | 5 => 5 | 167 => 170 | 37 => 171 | 0 => 0 | 85 => 172 | 2 => 2 | 168 => 174 | 53 => 165 | 175 => 186 | 46 => 135 | 210 => 190 | 127 => 199 | 145 => 202 | 143 => 200 | 21 => 21 | 171 => 192 | 173 => 194 | 212 => 204 | 51 => 163 | 20 => 20 | 213 => 205 | 232 => 206 | 233 => 207 | 80 => 208 | n => n, fun | 15 => 0 | 16 => 1 | 17 => 2 | 18 => 3 | 19 => 4 | n => n⟩
theorem Tryz.laysC172 : Go.Proofs.LaysC.n172 Tryz.prog Tryz.laysC172_ren := {
  mixed := by kernel_rfl
  f129 := Tryz.func140.trans (congrArg some (by kernel_rfl))
  f171 := Tryz.func82.trans (congrArg some (by kernel_rfl))
  f172 := Tryz.func81.trans (congrArg some (by kernel_rfl))
  f205 := Tryz.func164.trans (congrArg some (by kernel_rfl))
  f243 := Tryz.func126.trans (congrArg some (by kernel_rfl))
  f244 := Tryz.func124.trans (congrArg some (by kernel_rfl))
  f245 := Tryz.func125.trans (congrArg some (by kernel_rfl))
  f246 := Tryz.func153.trans (congrArg some (by kernel_rfl))
  f247 := Tryz.func148.trans (congrArg some (by kernel_rfl))
  f279 := Tryz.func149.trans (congrArg some (by kernel_rfl))
  f280 := Tryz.func150.trans (congrArg some (by kernel_rfl))
  f281 := Tryz.func151.trans (congrArg some (by kernel_rfl))
  f282 := Tryz.func152.trans (congrArg some (by kernel_rfl))
  f283 := Tryz.func165.trans (congrArg some (by kernel_rfl))
  f284 := Tryz.func166.trans (congrArg some (by kernel_rfl))
  f285 := Tryz.func167.trans (congrArg some (by kernel_rfl))
  f286 := Tryz.func168.trans (congrArg some (by kernel_rfl))
  f287 := Tryz.func162.trans (congrArg some (by kernel_rfl))
  f316 := Tryz.func163.trans (congrArg some (by kernel_rfl))
  f317 := Tryz.func172.trans (congrArg some (by kernel_rfl))
  f318 := Tryz.func173.trans (congrArg some (by kernel_rfl))
  f319 := Tryz.func174.trans (congrArg some (by kernel_rfl))
  f320 := Tryz.func175.trans (congrArg some (by kernel_rfl))
  f321 := Tryz.func170.trans (congrArg some (by kernel_rfl))
  f322 := Tryz.func171.trans (congrArg some (by kernel_rfl))
  f337 := Tryz.func176.trans (congrArg some (by kernel_rfl))
  f338 := Tryz.func177.trans (congrArg some (by kernel_rfl))
  t0 := Tryz.underlying0
  a0 := Tryz.isAgg0
  z0 := Tryz.sizeOf0
  v0 := Tryz.zeroValue0
  t2 := Tryz.underlying2
  a2 := Tryz.isAgg2
  z2 := Tryz.sizeOf2
  v2 := Tryz.zeroValue2
  t3 := Tryz.underlying3
  a3 := Tryz.isAgg3
  z3 := Tryz.sizeOf3
  v3 := Tryz.zeroValue3
  t4 := Tryz.underlying4
  a4 := Tryz.isAgg4
  z4 := Tryz.sizeOf4
  v4 := Tryz.zeroValue4
  t5 := Tryz.underlying5
  a5 := Tryz.isAgg5
  z5 := Tryz.sizeOf5
  v5 := Tryz.zeroValue5
  t9 := Tryz.underlying9
  a9 := Tryz.isAgg9
  z9 := Tryz.sizeOf9
  v9 := Tryz.zeroValue9
  t20 := Tryz.underlying20
  a20 := Tryz.isAgg20
  z20 := Tryz.sizeOf20
  v20 := Tryz.zeroValue20
  t21 := Tryz.underlying21
  a21 := Tryz.isAgg21
  z21 := Tryz.sizeOf21
  v21 := Tryz.zeroValue21
  t37 := Tryz.underlying171
  a37 := Tryz.isAgg171
  z37 := Tryz.sizeOf171
  v37 := Tryz.zeroValue171
  t46 := Tryz.underlying135
  a46 := Tryz.isAgg135
  z46 := Tryz.sizeOf135
  v46 := Tryz.zeroValue135
  t51 := Tryz.underlying163
  a51 := Tryz.isAgg163
  z51 := Tryz.sizeOf163
  v51 := Tryz.zeroValue163
  t53 := Tryz.underlying165
  a53 := Tryz.isAgg165
  z53 := Tryz.sizeOf165
  v53 := Tryz.zeroValue165
  t75 := Tryz.underlying116
  a75 := Tryz.isAgg116
  z75 := Tryz.sizeOf116
  v75 := Tryz.zeroValue116
  t76 := Tryz.underlying117
  a76 := Tryz.isAgg117
  z76 := Tryz.sizeOf117
  v76 := Tryz.zeroValue117
  t85 := Tryz.underlying172
  a85 := Tryz.isAgg172
  z85 := Tryz.sizeOf172
  v85 := Tryz.zeroValue172
  t127 := Tryz.underlying199
  a127 := Tryz.isAgg199
  z127 := Tryz.sizeOf199
  v127 := Tryz.zeroValue199
  t143 := Tryz.underlying200
  a143 := Tryz.isAgg200
  z143 := Tryz.sizeOf200
  v143 := Tryz.zeroValue200
  t145 := Tryz.underlying202
  a145 := Tryz.isAgg202
  z145 := Tryz.sizeOf202
  v145 := Tryz.zeroValue202
  t167 := Tryz.underlying170
  a167 := Tryz.isAgg170
  z167 := Tryz.sizeOf170
  v167 := Tryz.zeroValue170
  t168 := Tryz.underlying174
  a168 := Tryz.isAgg174
  z168 := Tryz.sizeOf174
  v168 := Tryz.zeroValue174
  t171 := Tryz.underlying192
  a171 := Tryz.isAgg192
  z171 := Tryz.sizeOf192
  v171 := Tryz.zeroValue192
  t173 := Tryz.underlying194
  a173 := Tryz.isAgg194
  z173 := Tryz.sizeOf194
  v173 := Tryz.zeroValue194
  t175 := Tryz.underlying186
  a175 := Tryz.isAgg186
  z175 := Tryz.sizeOf186
  v175 := Tryz.zeroValue186
  t210 := Tryz.underlying190
  a210 := Tryz.isAgg190
  z210 := Tryz.sizeOf190
  v210 := Tryz.zeroValue190
  t212 := Tryz.underlying204
  a212 := Tryz.isAgg204
  z212 := Tryz.sizeOf204
  v212 := Tryz.zeroValue204
  t213 := Tryz.underlying205
  a213 := Tryz.isAgg205
  z213 := Tryz.sizeOf205
  t232 := Tryz.underlying206
  a232 := Tryz.isAgg206
  z232 := Tryz.sizeOf206
  v232 := Tryz.zeroValue206
  t233 := Tryz.underlying207
  a233 := Tryz.isAgg207
  z233 := Tryz.sizeOf207
  v233 := Tryz.zeroValue207
  g15 := by kernel_rfl
  g16 := by kernel_rfl
  g17 := by kernel_rfl
  g18 := by kernel_rfl
  g19 := by kernel_rfl
  t80 := Tryz.underlying208
  a80 := Tryz.isAgg208
  z80 := Tryz.sizeOf208
  v80 := Tryz.zeroValue208
  i0 := by kernel_rfl
  i2 := by kernel_rfl
  i3 := by kernel_rfl
  i4 := by kernel_rfl
  i5 := by kernel_rfl
  i9 := by kernel_rfl
  i20 := by kernel_rfl
  i21 := by kernel_rfl
  i37 := by kernel_rfl
  i46 := by kernel_rfl
  i51 := by kernel_rfl
  i53 := by kernel_rfl
  i75 := by kernel_rfl
  i76 := by kernel_rfl
  i80 := by kernel_rfl
  i85 := by kernel_rfl
  i127 := by kernel_rfl
  i143 := by kernel_rfl
  i145 := by kernel_rfl
  i167 := by kernel_rfl
  i168 := by kernel_rfl
  i171 := by kernel_rfl
  i173 := by kernel_rfl
  i175 := by kernel_rfl
  i210 := by kernel_rfl
  i212 := by kernel_rfl
  i232 := by kernel_rfl
  i233 := by kernel_rfl
  m15 := by kernel_rfl
  m16 := by kernel_rfl
  m17 := by kernel_rfl
  m18 := by kernel_rfl
  m19 := by kernel_rfl
  c0 := by kernel_rfl
  c2 := by kernel_rfl
  c3 := by kernel_rfl
  c4 := by kernel_rfl
  c5 := by kernel_rfl
  c9 := by kernel_rfl
  c20 := by kernel_rfl
  c21 := by kernel_rfl
  c37 := by kernel_rfl
  c46 := by kernel_rfl
  c51 := by kernel_rfl
  c53 := by kernel_rfl
  c75 := by kernel_rfl
  c76 := by kernel_rfl
  c80 := by kernel_rfl
  c85 := by kernel_rfl
  c127 := by kernel_rfl
  c143 := by kernel_rfl
  c145 := by kernel_rfl
  c167 := by kernel_rfl
  c168 := by kernel_rfl
  c171 := by kernel_rfl
  c173 := by kernel_rfl
  c175 := by kernel_rfl
  c210 := by kernel_rfl
  c212 := by kernel_rfl
  c213 := by kernel_rfl
  c232 := by kernel_rfl
  c233 := by kernel_rfl }
open Go.RowKit in
theorem Tryz.strconv_Atoi_err (s : ByteArray) (hl : s.size ≤ 18) (h : Lib.atoi s.data.toList = none) (ev : Value) (w : World) (hv : w.cell? ⟨0, 0, none⟩ = some ev) (hev : ev = .nilIface ∨ ∃ te pe, ev = .iface te pe) :
    Calls Tryz.prog 81 #[.string s] w fun e w' => ∃ N, e = .returned (.tuple #[.int .i64 0, .iface 174 (.pointer (some ⟨N, 0, none⟩))]) ∧ w.heap.size ≤ N ∧ w'.heap[N]? = some (.cells #[.string ⟨#[65, 116, 111, 105]⟩, .string s, ev] 190 (0, 0)) ∧ Below w.heap.size w w' := Any.strconv_Atoi_err Tryz.laysC172 s hl h ev w hv hev
def Tryz.laysW5_ren : Go.Shelf.Ren := ⟨fun | 5 => 52 | 7 => 107 | n => n, fun | 23 => 85 | 25 => 9 | n => n, fun | n => n⟩
theorem Tryz.laysW5 : SlLaysW.n5 Tryz.prog Tryz.laysW5_ren := {
  mixed := by kernel_rfl
  f5 := ⟨ "maps.Clone[map[string]int,string,int]", by decide, by kernel_rfl⟩
  f7 := Tryz.func107
  t4 := Tryz.underlying4
  a4 := Tryz.isAgg4
  z4 := Tryz.sizeOf4
  v4 := Tryz.zeroValue4
  t20 := Tryz.underlying20
  a20 := Tryz.isAgg20
  z20 := Tryz.sizeOf20
  v20 := Tryz.zeroValue20
  t23 := Tryz.underlying85
  a23 := Tryz.isAgg85
  z23 := Tryz.sizeOf85
  v23 := Tryz.zeroValue85 }
theorem Tryz.maps_Clone (b : Nat) (es : Array MapEntry) (clock : Nat) (w : World) (hb : w.heap[b]? = some (.map es clock)) :
    Calls Tryz.prog 52 #[.map (some b)] w fun e w' => e = .returned (.map (some w.heap.size)) ∧ w' = w.alloc (.map es clock) := AnyW.maps_Clone Tryz.laysW5 b es clock w hb
end Go.Proofs
end

section
namespace Go.Proofs.YtehfihnfeakmaaaGreatDoor
open Go
set_option maxRecDepth 10000
set_option maxHeartbeats 4000000
theorem Bd.sv_eq (b : Bd) : b.sv = .agg (.str b.name :: b.e.cells) := congrArg SV.agg b.cells_eq
theorem every1_ok (G : Gl) (hG : GClosed G) (fid : FuncId) (fi ca : List SV) (p : Ex → Bool) (m : Nat) (hm : m < 549755813888) (b : Bd) (H : List Blk) (ib : Nat) (hb0 : b.e.wt ≤ m) (hib : H[ib]? = some (.cells 0 1 [.fn (.func fid) fi ca])) (hfu : (SV.fn (.func fid) fi ca).under H.length = true) (hy : AnsV G fid fi ca p H m) :
    ACall Tryz.prog G 47 [b.sv, .ptr ib 0 0 0] H (fun r H' => H' = H ∧ r = .bool (!allS p b.e)) := by
  have hlt2 : ib < H.length := (List.getElem?_eq_some_iff.1 hib).1
  have c1 := fun L => allP_ok G hG fid fi ca p m hm b.e (H ++ L) hb0 ((SV.below_mono_both (by simp)).1 _ hfu) (hy.app L)
  rw [b.sv_eq]
  refine ACall.of_go TB [] tabOK _ Tryz.func47 rfl (by decide) Tryz.ntmps47 (by simp) rfl (by simp only [initEnv, Nat.reduceAdd]; rfl) fun C R' hR hC hcl hB => ?_; have X := noX; have hC' := congrArg List.length hC
  have X := And.intro X (fun L => (show (H ++ L)[ib]? = some (.cells 0 1 [.fn (.func fid) fi ca]) by rw [get_old hlt2]; exact hib))
  (refine run ?_; repeat' (first | with_reducible exact trivial | ((with_reducible apply Fork.mk) <;> intro hb) | with_reducible apply Two.mk))
  exact finS (n0 := H.length) hR hC' hcl (.same _ rfl) ⟨rfl, rfl⟩
theorem every_ok (G : Gl) (hG : GClosed G) (fid : FuncId) (fi ca : List SV) (p : Ex → Bool) (cons : List Cn) (binds : List Bd) (hw : bdsWt binds < 549755813888) (H : List Blk) (pb : Nat) (hpb : H[pb]? = some (.cells 0 2 [.agg [.list 4 (cnCells cons), .list 9 (bdCells binds)]])) (hfu : (SV.fn (.func fid) fi ca).under H.length = true) (hy : AnsV G fid fi ca p H (bdsWt binds)) :
    ACall Tryz.prog G 45 [.fn (.func fid) fi ca, .ptr pb 0 0 0] H (fun r H' => H' = H ∧ r = .bool (binds.all fun b => allS p b.e)) := by
  have hlt2 : pb < H.length := (List.getElem?_eq_some_iff.1 hpb).1
  have hle := bdsWt_len binds
  have c1 := anyBd_ok G hG (.fn (.func 47) [] [.ptr H.length 0 0 0]) (fun b => !allS p b.e) binds (H ++ [.cells 0 1 [.fn (.func fid) fi ca]]) (by omega) (by simp [SV.under, SV.underL])
    (fun b hb => ACallV.of (first := []) (args := [b.sv]) (cap := [.ptr H.length 0 0 0]) (every1_ok G hG fid fi ca p (bdsWt binds) hw b _ H.length (Nat.le_of_lt (bd_wt hb)) (by simp) ((SV.below_mono_both (by simp)).1 _ hfu) (hy.app _)))
  have e1 : (!(binds.any fun b => !allS p b.e)) = binds.all fun b => allS p b.e := by rw [List.all_eq_not_any_not]
  rw [← e1]
  refine ACall.of_go TB [] tabOK _ Tryz.func45 rfl (by decide) Tryz.ntmps45 (by simp) rfl (by simp only [initEnv, Nat.reduceAdd]; rfl) fun C R' hR hC hcl hB => ?_; have X := noX; have hC' := congrArg List.length hC
  have X := And.intro X (fun L => (show (H ++ L)[pb]? = some (.cells 0 2 [.agg [.list 4 (cnCells cons), .list 9 (bdCells binds)]]) by rw [get_old hlt2]; exact hpb))
  (refine run ?_; repeat' (first | with_reducible exact trivial | ((with_reducible apply Fork.mk) <;> intro hb) | with_reducible apply Two.mk))
  exact finS (n0 := H.length) hR hC' hcl (.same _ rfl) ⟨rfl, rfl⟩
theorem bound_ok (G : Gl) (hG : GClosed G) (t : List (Str × Int)) (ht : ∀ s, 0 ≤ cntB t s ∧ cntB t s ≤ 1) (b : Bd) (hw : b.e.wt < 549755813888) (H : List Blk) (vb tb : Nat) (hvb : H[vb]? = some (.cells 0 1 [.map tb])) (htb : H[tb]? = some (.map none (esB t))) :
    ACall Tryz.prog G 51 [b.sv, .ptr vb 0 0 0] H (fun r H' => H' = H ∧ r = .bool (bndS t b)) := by
  have l1 : vb < H.length := (List.getElem?_eq_some_iff.1 hvb).1
  have l2 : tb < H.length := (List.getElem?_eq_some_iff.1 htb).1
  rw [b.sv_eq]
  have c1 : ACall Tryz.prog G 52 [.map tb] (H ++ [.cells 0 9 [.agg (.str b.name :: b.e.cells)], .map none []]) (fun r H' => H' = H ++ [.cells 0 9 [.agg (.str b.name :: b.e.cells)], .map none [], .map none (esB t)] ∧ r = .map (H.length + 2)) :=
    (ACall.of_clone (G := G) ⟨_, Tryz.func52, by decide, rfl⟩ (fun b es clock w hb => Tryz.maps_Clone b es clock w hb) tb (H ++ [.cells 0 9 [.agg (.str b.name :: b.e.cells)], .map none []]) none (esB t) (by rw [get_old l2]; exact htb)).mono (by rintro r H' ⟨rfl, rfl⟩; simp)
  have hcall := unbound_ok G hG b.e.wt b.e (Nat.le_refl _) hw (H ++ [.cells 0 9 [.agg (.str b.name :: b.e.cells)], .map none [], .map none (esB t)]) (H.length + 2) (H.length + 1) (t, []) (by simp) (by simp [esO]) (by omega) (fun s => by have := ht s; simp only; omega)
  refine ACall.of_go TB [] tabOK _ Tryz.func51 rfl (by decide) Tryz.ntmps51 (by simp) rfl (by simp only [initEnv, Nat.reduceAdd]; rfl) fun C R' hR hC hcl hB => ?_; have X := noX; have hC' := congrArg List.length hC
  have X := And.intro X (fun L => (show (H ++ L)[vb]? = some (.cells 0 1 [.map tb]) by rw [get_old l1]; exact hvb))
  (refine run ?_; repeat' (first | with_reducible exact trivial | ((with_reducible apply Fork.mk) <;> intro hb) | with_reducible apply Two.mk))
  refine xcallS hcall ?_
  rintro r H' rfl
  simp only [UH, set_app, List.set_cons_succ, List.set_cons_zero]
  have hul := unb_len b.e.wt b.e (t, [])
  have ebn : bndS t b = decide ((unbF b.e.wt b.e (t, [])).2.length = 0) := rfl
  generalize hst : unbF b.e.wt b.e (t, []) = st at *
  have hul2 : st.2.length ≤ 9223372036854775807 := by simp only [List.length_nil] at hul; omega
  have e3 : (esO st.2).length = st.2.length := by simp [esO]
  have X := And.intro X e3
  (refine run ?_; repeat' (first | with_reducible exact trivial | ((with_reducible apply Fork.mk) <;> intro hb) | with_reducible apply Two.mk))
  refine finS (n0 := H.length) hR hC' hcl (.same _ rfl) ⟨rfl, ?_⟩
  rw [ebn]
  exact congrArg SV.bool (decide_eq_decide.2 (by omega))
theorem bound4_ok (G : Gl) (hG : GClosed G) (t : List (Str × Int)) (ht : ∀ s, 0 ≤ cntB t s ∧ cntB t s ≤ 1) (b : Bd) (hw : b.e.wt < 549755813888) (H : List Blk) (fb vb tb : Nat) (hfb : H[fb]? = some (.cells 0 1 [.fn (.func 51) [] [.ptr vb 0 0 0]])) (hvb : H[vb]? = some (.cells 0 1 [.map tb])) (htb : H[tb]? = some (.map none (esB t))) :
    ACall Tryz.prog G 58 [b.sv, .ptr fb 0 0 0] H (fun r H' => H' = H ∧ r = .bool (!bndS t b)) := by
  have l0 : fb < H.length := (List.getElem?_eq_some_iff.1 hfb).1
  have l1 : vb < H.length := (List.getElem?_eq_some_iff.1 hvb).1
  have l2 : tb < H.length := (List.getElem?_eq_some_iff.1 htb).1
  have hb := bound_ok G hG t ht b hw (H ++ [.cells 0 9 [.agg (.str b.name :: b.e.cells)]]) vb tb (by rw [get_old l1]; exact hvb) (by rw [get_old l2]; exact htb)
  rw [b.sv_eq] at *
  have v1 := ACallV.of (first := []) (args := [.agg (.str b.name :: b.e.cells)]) (cap := [.ptr vb 0 0 0]) hb
  refine ACall.of_go TB [] tabOK _ Tryz.func58 rfl (by decide) Tryz.ntmps58 (by simp) rfl (by simp only [initEnv, Nat.reduceAdd]; rfl) fun C R' hR hC hcl hB => ?_; have X := noX; have hC' := congrArg List.length hC
  have X := And.intro X (fun L => (show (H ++ L)[fb]? = some (.cells 0 1 [.fn (.func 51) [] [.ptr vb 0 0 0]]) by rw [get_old l0]; exact hfb))
  (refine run ?_; repeat' (first | with_reducible exact trivial | ((with_reducible apply Fork.mk) <;> intro hb) | with_reducible apply Two.mk))
  exact finS (n0 := H.length) hR hC' hcl (.same _ rfl) ⟨rfl, rfl⟩
theorem known_ok (G : Gl) (hG : GClosed G) (H : List Blk) (lb mb vb : Nat) (cs : List Cn) (hl : LintAt H lb mb cs) (hvb : H[vb]? = some (.cells 0 1 [.ptr lb 0 0 0])) :
    ACall Tryz.prog G 53 [.ptr vb 0 0 0] H (fun r H' => H' = H ∧ r = .bool (knoS cs)) := by
  have l0 : vb < H.length := (List.getElem?_eq_some_iff.1 hvb).1
  have l1 := (List.getElem?_eq_some_iff.1 hl.l).1
  have l2 := (List.getElem?_eq_some_iff.1 hl.m).1
  refine ACall.of_go TB [] tabOK _ Tryz.func53 rfl (by decide) Tryz.ntmps53 (by simp) rfl (by simp only [initEnv, Nat.reduceAdd]; rfl) fun C R' hR hC hcl hB => ?_; have X := noX; have hC' := congrArg List.length hC
  have hvx := fun L => (show (H ++ L)[vb]? = some (.cells 0 1 [.ptr lb 0 0 0]) by rw [get_old l0]; exact hvb)
  (refine run ?_; repeat' (first | with_reducible exact trivial | ((with_reducible apply Fork.mk) <;> intro hb) | with_reducible apply Two.mk))
  refine go_loop (fun i : Nat => [(0, .ptr vb 0 0 0), (8, .agg [.str [80, 114, 105, 109, 46, 70, 97, 108, 115, 101], .int .i64 0, .int .i64 0, .int .i64 2, .str [80, 114, 105, 109, 46, 84, 114, 117, 101], .int .i64 0, .int .i64 1, .int .i64 2, .str [80, 114, 105, 109, 46, 40, 41], .int .i64 0, .int .i64 0, .int .i64 1, .str [80, 114, 105, 109, 46, 66, 111, 120], .int .i64 1, .int .i64 0, .int .i64 1]), (9, .int .i64 i)]) (fun _ => H ++ []) (fun i => 4 - i) (fun i => i ≤ 4 ∧ (kno4.take i).all (fun c => decide (getCn cs c.name = c)) = true) 0 ⟨by omega, rfl⟩ ?_ ?_
  · simp only [List.append_nil]
    exact Wk.sub (by simp [subEnv, look])
  rintro K i ⟨hi, ho⟩ hK
  have h5 : i = 0 ∨ i = 1 ∨ i = 2 ∨ i = 3 ∨ i = 4 := by omega
  rcases h5 with rfl | rfl | rfl | rfl | rfl
  · have hz := cn_zero cs [80, 114, 105, 109, 46, 70, 97, 108, 115, 101]
    by_cases hq : getCn cs [80, 114, 105, 109, 46, 70, 97, 108, 115, 101] = (⟨[80, 114, 105, 109, 46, 70, 97, 108, 115, 101], 0, 0, 2⟩ : Cn)
    · rw [hq] at hz
      have X := And.intro X (And.intro hl.X (And.intro hvx hz))
      (refine run ?_; repeat' (first | with_reducible exact trivial | ((with_reducible apply Fork.mk) <;> intro hb) | with_reducible apply Two.mk))
      refine hK _ _ 1 (by omega) ⟨by omega, ?_⟩ ?_
      · simp only [kno4, List.take_succ_cons, List.take_zero, List.all_cons, List.all_nil, Bool.and_true, Bool.and_eq_true, decide_eq_true_eq] at ho ⊢
        simp_all
      · exact wkS (n0 := H.length) [] hG hB hC' hcl
    · have hf : knoS cs = false := by rw [knoS, List.all_eq_false]; exact ⟨(⟨[80, 114, 105, 109, 46, 70, 97, 108, 115, 101], 0, 0, 2⟩ : Cn), by simp [kno4], by simpa using hq⟩
      rw [hf] at hR
      generalize getCn cs [80, 114, 105, 109, 46, 70, 97, 108, 115, 101] = q at *
      obtain ⟨n1, n2, n3, n4⟩ := q
      have X := And.intro X (And.intro hl.X (And.intro hvx hz))
      (refine run ?_; repeat' (first | with_reducible exact trivial | ((with_reducible apply Fork.mk) <;> intro hb) | with_reducible apply Two.mk))
      · exact finS (n0 := H.length) hR hC' hcl (.same _ rfl) ⟨rfl, rfl⟩
      · exfalso; apply hq; simp_all
  · have hz := cn_zero cs [80, 114, 105, 109, 46, 84, 114, 117, 101]
    by_cases hq : getCn cs [80, 114, 105, 109, 46, 84, 114, 117, 101] = (⟨[80, 114, 105, 109, 46, 84, 114, 117, 101], 0, 1, 2⟩ : Cn)
    · rw [hq] at hz
      have X := And.intro X (And.intro hl.X (And.intro hvx hz))
      (refine run ?_; repeat' (first | with_reducible exact trivial | ((with_reducible apply Fork.mk) <;> intro hb) | with_reducible apply Two.mk))
      refine hK _ _ 2 (by omega) ⟨by omega, ?_⟩ ?_
      · simp only [kno4, List.take_succ_cons, List.take_zero, List.all_cons, List.all_nil, Bool.and_true, Bool.and_eq_true, decide_eq_true_eq] at ho ⊢
        simp_all
      · exact wkS (n0 := H.length) [] hG hB hC' hcl
    · have hf : knoS cs = false := by rw [knoS, List.all_eq_false]; exact ⟨(⟨[80, 114, 105, 109, 46, 84, 114, 117, 101], 0, 1, 2⟩ : Cn), by simp [kno4], by simpa using hq⟩
      rw [hf] at hR
      generalize getCn cs [80, 114, 105, 109, 46, 84, 114, 117, 101] = q at *
      obtain ⟨n1, n2, n3, n4⟩ := q
      have X := And.intro X (And.intro hl.X (And.intro hvx hz))
      (refine run ?_; repeat' (first | with_reducible exact trivial | ((with_reducible apply Fork.mk) <;> intro hb) | with_reducible apply Two.mk))
      · exact finS (n0 := H.length) hR hC' hcl (.same _ rfl) ⟨rfl, rfl⟩
      · exfalso; apply hq; simp_all
  · have hz := cn_zero cs [80, 114, 105, 109, 46, 40, 41]
    by_cases hq : getCn cs [80, 114, 105, 109, 46, 40, 41] = (⟨[80, 114, 105, 109, 46, 40, 41], 0, 0, 1⟩ : Cn)
    · rw [hq] at hz
      have X := And.intro X (And.intro hl.X (And.intro hvx hz))
      (refine run ?_; repeat' (first | with_reducible exact trivial | ((with_reducible apply Fork.mk) <;> intro hb) | with_reducible apply Two.mk))
      refine hK _ _ 3 (by omega) ⟨by omega, ?_⟩ ?_
      · simp only [kno4, List.take_succ_cons, List.take_zero, List.all_cons, List.all_nil, Bool.and_true, Bool.and_eq_true, decide_eq_true_eq] at ho ⊢
        simp_all
      · exact wkS (n0 := H.length) [] hG hB hC' hcl
    · have hf : knoS cs = false := by rw [knoS, List.all_eq_false]; exact ⟨(⟨[80, 114, 105, 109, 46, 40, 41], 0, 0, 1⟩ : Cn), by simp [kno4], by simpa using hq⟩
      rw [hf] at hR
      generalize getCn cs [80, 114, 105, 109, 46, 40, 41] = q at *
      obtain ⟨n1, n2, n3, n4⟩ := q
      have X := And.intro X (And.intro hl.X (And.intro hvx hz))
      (refine run ?_; repeat' (first | with_reducible exact trivial | ((with_reducible apply Fork.mk) <;> intro hb) | with_reducible apply Two.mk))
      · exact finS (n0 := H.length) hR hC' hcl (.same _ rfl) ⟨rfl, rfl⟩
      · exfalso; apply hq; simp_all
  · have hz := cn_zero cs [80, 114, 105, 109, 46, 66, 111, 120]
    by_cases hq : getCn cs [80, 114, 105, 109, 46, 66, 111, 120] = (⟨[80, 114, 105, 109, 46, 66, 111, 120], 1, 0, 1⟩ : Cn)
    · rw [hq] at hz
      have X := And.intro X (And.intro hl.X (And.intro hvx hz))
      (refine run ?_; repeat' (first | with_reducible exact trivial | ((with_reducible apply Fork.mk) <;> intro hb) | with_reducible apply Two.mk))
      refine hK _ _ 4 (by omega) ⟨by omega, ?_⟩ ?_
      · simp only [kno4, List.take_succ_cons, List.take_zero, List.all_cons, List.all_nil, Bool.and_true, Bool.and_eq_true, decide_eq_true_eq] at ho ⊢
        simp_all
      · exact wkS (n0 := H.length) [] hG hB hC' hcl
    · have hf : knoS cs = false := by rw [knoS, List.all_eq_false]; exact ⟨(⟨[80, 114, 105, 109, 46, 66, 111, 120], 1, 0, 1⟩ : Cn), by simp [kno4], by simpa using hq⟩
      rw [hf] at hR
      generalize getCn cs [80, 114, 105, 109, 46, 66, 111, 120] = q at *
      obtain ⟨n1, n2, n3, n4⟩ := q
      have X := And.intro X (And.intro hl.X (And.intro hvx hz))
      (refine run ?_; repeat' (first | with_reducible exact trivial | ((with_reducible apply Fork.mk) <;> intro hb) | with_reducible apply Two.mk))
      · exact finS (n0 := H.length) hR hC' hcl (.same _ rfl) ⟨rfl, rfl⟩
      · exfalso; apply hq; simp_all
  · have ho : knoS cs = true := ho
    rw [ho] at hR
    (refine run ?_; repeat' (first | with_reducible exact trivial | ((with_reducible apply Fork.mk) <;> intro hb) | with_reducible apply Two.mk))
    exact finS (n0 := H.length) hR hC' hcl (.same _ rfl) ⟨rfl, rfl⟩
end Go.Proofs.YtehfihnfeakmaaaGreatDoor
end

section
namespace Go.Proofs.YtehfihnfeakmaaaGreatDoor
open Go
set_option maxRecDepth 10000
set_option maxHeartbeats 4000000
theorem dedNs_le (l : List Str) : ∀ m, (dedNs l m).length ≤ m
  | 0 => Nat.le_refl _
  | m + 1 => by
    rw [dedNs]
    have := dedNs_le l m
    split
    · omega
    · rw [List.length_append, List.length_singleton]; omega
theorem cellsQ {H : List Blk} {id g sz : Nat} {vs0 : List SV} (h : H[id]? = some (.cells g sz vs0)) :
    ∃ Q : List SV → List Blk, Q vs0 = H ∧ (∀ vs, Q vs = H.set id (.cells g sz vs)) ∧ (∀ vs, (Q vs).length = H.length) ∧
      ((∀ vs, (Q vs)[id]? = some (.cells g sz vs)) ∧ (∀ vs L, (Q vs ++ L)[id]? = some (.cells g sz vs)) ∧ (∀ vs ws, (Q vs).set id (.cells g sz ws) = Q ws) ∧ (∀ vs ws L, (Q vs ++ L).set id (.cells g sz ws) = Q ws ++ L)) ∧ (closed H → ∀ vs, SV.underL H.length vs = true → closed (Q vs)) := by
  have hl := (List.getElem?_eq_some_iff.1 h).1
  refine ⟨fun vs => H.set id (.cells g sz vs), set_same h, fun vs => rfl, fun vs => by simp, ⟨fun vs => List.getElem?_set_self hl, fun vs L => ?_, fun vs ws => List.set_set .., fun vs ws L => ?_⟩, fun hc vs hv => hc.set hv⟩
  · rw [List.getElem?_append_left (by simpa using hl)]; exact List.getElem?_set_self hl
  · rw [set_old (by simpa using hl), List.set_set]
theorem compact_ok (G : Gl) (hG : GClosed G) (l : List Str) (H : List Blk) (id g : Nat) (hid : H[id]? = some (.cells g 1 (l.map .str))) (hl : l.length < 1099511627776) :
    ACall Tryz.prog G 56 [.sl id g 0 l.length] H (fun r H' => ∃ vs, (H' = H.set id (.cells g 1 vs) ∧ r = .sl id g 0 (dedS l).length) ∧ vs.length = l.length ∧ SV.underL H.length vs = true) := by
  obtain ⟨Q, q0, qd, hlen, qx, qc⟩ := cellsQ hid
  have li := (List.getElem?_eq_some_iff.1 hid).1
  have hlm : (l.map SV.str).length = l.length := List.length_map ..
  simp only [← qd]
  have hu : ∀ xs : List Str, SV.underL H.length (xs.map SV.str) = true := fun xs => SV.underL_map fun _ _ => rfl
  rw [← q0]
  refine ACall.of_go TB [] tabOK _ Tryz.func56 rfl (by decide) Tryz.ntmps56 (by simp) rfl (by simp only [initEnv, Nat.reduceAdd]; rfl) fun C R' hR hC hcl hB => ?_; have X := noX; have hC' := congrArg List.length hC
  have hC' := hC'.trans (hlen _)
  rw [hlen] at hR
  have hcls : ∀ vs, SV.underL H.length vs = true → closed (Q vs) := fun vs => qc (q0 ▸ hcl) vs
  generalize H.length = n0 at *
  have X := And.intro X (And.intro qx hlm)
  (refine run ?_; repeat' (first | with_reducible exact trivial | ((with_reducible apply Fork.mk) <;> intro hb) | with_reducible apply Two.mk))
  · rename_i hb
    have e : (dedS l).length = l.length := by
      match l, hb with
      | [], _ => rfl
      | [x], _ => rfl
      | x :: y :: r, h => simp only [List.length_cons] at h; omega
    exact Fin.out hR ⟨_, ⟨rfl, by rw [e]; rfl⟩, hlm, hu l⟩
  have hn2 : 2 ≤ l.length := by omega
  refine go_loop (fun m : Nat => [(0, .sl id g 0 l.length), (2, .nil), (3, .int .i64 ((m + 1 : Nat) : Int))]) (fun _ => Q (l.map .str) ++ []) (fun m => l.length - m) (fun m => m + 1 ≤ l.length ∧ dedNs l (m + 1) = l.take (m + 1)) 0 ⟨by omega, ?_⟩ ?_ ?_
  · match l, hn2 with
    | x :: r, _ => simp [dedNs]
  · rw [List.append_nil]
    exact Wk.sub (by simp [subEnv, look])
  rintro K m ⟨hm, hd⟩ hK
  rcases Nat.lt_or_ge (m + 1) l.length with hlt | hge
  · have hm0 : m < l.length := by omega
    have e1 : (l.map SV.str)[m + 1]? = some (.str l[m + 1]) := by simp [hlt]
    have e2 : (l.map SV.str)[m]? = some (.str l[m]) := by simp [hm0]
    have hmi : ((m + 1 : Nat) : Int) - 1 = (m : Int) := by omega
    have g1 : l.getD (m + 1) [] = l[m + 1] := by rw [List.getD_eq_getElem?_getD, List.getElem?_eq_getElem hlt]; rfl
    have g0 : l.getD m [] = l[m] := by rw [List.getD_eq_getElem?_getD, List.getElem?_eq_getElem hm0]; rfl
    have hds : dedNs l (m + 2) = if l[m + 1] = l[m] then dedNs l (m + 1) else dedNs l (m + 1) ++ [l[m + 1]] := by
      rw [dedNs, Nat.add_sub_cancel, g1, g0]
      by_cases h : l[m + 1] = l[m]
      · rw [if_pos ⟨by omega, h⟩, if_pos h]
      · rw [if_neg (fun q => h q.2), if_neg h]
    have ht := List.take_succ_eq_append_getElem hlt
    generalize l[m + 1] = x1 at *
    generalize l[m] = x0 at *
    have X := And.intro X (And.intro e1 (And.intro e2 hmi))
    (refine run ?_; repeat' (first | with_reducible exact trivial | ((with_reducible apply Fork.mk) <;> intro hb) | with_reducible apply Two.mk))
    · rw [if_pos hb] at hds
      have hJ0 : (dedNs l (m + 2)).length = m + 1 := by rw [hds, hd, List.length_take]; omega
      refine go_loop (fun a : Nat × List Str => [(0, .sl id g 0 l.length), (3, .int .i64 ((dedNs l (m + 1 + (a.1 + 1))).length : Int)), (4, .sl id g (m + 1) (l.length - (m + 1))), (5, .int .i64 ((a.1 + 1 : Nat) : Int))]) (fun a => Q (a.2.map .str) ++ []) (fun a => l.length - a.1)
        (fun a => (m + 1 + (a.1 + 1) ≤ l.length ∧ a.2.length = l.length) ∧ (∀ i, m + 1 + a.1 ≤ i → a.2[i]? = l[i]?) ∧ (dedNs l (m + 1 + (a.1 + 1))).length ≤ m + 1 + a.1) (0, l) ⟨⟨by omega, rfl⟩, fun i _ => rfl, by simp only [Nat.zero_add]; rw [show dedNs l (m + 1 + 1) = dedNs l (m + 2) from rfl, hJ0]; omega⟩ ?_ ?_
      · simp only [Nat.zero_add]
        rw [show dedNs l (m + 1 + 1) = dedNs l (m + 2) from rfl, hJ0]
        exact wkS (n0 := n0) [] hG hB hC' (hcls _ (hu l))
      clear hK X
      rintro K2 ⟨a, xs⟩ ⟨⟨ha1, ha2⟩, ha4, ha5⟩ hK2
      simp only at ha1 ha2 ha4 ha5
      dsimp only
      have ha2' : (xs.map SV.str).length = l.length := by rw [List.length_map, ha2]
      have hJn := hds
      rcases Nat.lt_or_ge (m + 1 + (a + 1)) l.length with hl2 | hl2
      · have f1 := ha4 (m + 1 + (a + 1)) (by omega)
        have f2 := ha4 (m + 1 + a) (by omega)
        have hl3 : m + 1 + a < l.length := by omega
        rw [List.getElem?_eq_getElem hl2] at f1
        rw [List.getElem?_eq_getElem hl3] at f2
        have g1 : l.getD (m + 1 + (a + 1)) [] = l[m + 1 + (a + 1)] := by rw [List.getD_eq_getElem?_getD, List.getElem?_eq_getElem hl2]; rfl
        have g0 : l.getD (m + 1 + a) [] = l[m + 1 + a] := by rw [List.getD_eq_getElem?_getD, List.getElem?_eq_getElem hl3]; rfl
        have hds : dedNs l (m + 1 + (a + 1 + 1)) = if l[m + 1 + (a + 1)] = l[m + 1 + a] then dedNs l (m + 1 + (a + 1)) else dedNs l (m + 1 + (a + 1)) ++ [l[m + 1 + (a + 1)]] := by
          rw [show m + 1 + (a + 1 + 1) = (m + 1 + (a + 1)) + 1 from rfl, dedNs, show m + 1 + (a + 1) - 1 = m + 1 + a by omega, g1, g0]
          by_cases h : l[m + 1 + (a + 1)] = l[m + 1 + a]
          · rw [if_pos ⟨by omega, h⟩, if_pos h]
          · rw [if_neg (fun q => h q.2), if_neg h]
        clear hJn
        generalize l[m + 1 + (a + 1)] = x1 at *
        generalize l[m + 1 + a] = x0 at *
        generalize hJ : (dedNs l (m + 1 + (a + 1))).length = J at *
        have q1 : ((l.length - (m + 1) : Nat) : Int) = (l.length : Int) - (m + 1) := by omega
        have q2 : ((a + 1 : Nat) : Int) - 1 = (a : Int) := by omega
        have hJl : J < xs.length := by omega
        obtain ⟨y, hy⟩ : ∃ y, xs[J]? = some y := ⟨_, List.getElem?_eq_getElem hJl⟩
        have f1' : (xs.map SV.str)[m + (1 + (a + 1))]? = some (.str x1) := by rw [← Nat.add_assoc, List.getElem?_map, f1]; rfl
        have f2' : (xs.map SV.str)[m + (1 + a)]? = some (.str x0) := by rw [← Nat.add_assoc, List.getElem?_map, f2]; rfl
        have hy' : (xs.map SV.str)[J]? = some (.str y) := by rw [List.getElem?_map, hy]; rfl
        have hset : (xs.map SV.str).set J (.str x1) = (xs.set J x1).map SV.str := by rw [List.map_set]
        have X := And.intro noX (And.intro qx (And.intro f1' (And.intro f2' (And.intro q2 (And.intro ha2' (And.intro hy' hset))))))
        (refine run ?_; repeat' (first | with_reducible exact trivial | ((with_reducible apply Fork.mk) <;> intro hb) | with_reducible apply Two.mk))
        · rw [if_neg hb] at hds
          have hJ2 : (dedNs l (m + 1 + (a + 1 + 1))).length = J + 1 := by rw [hds, List.length_append, hJ]; rfl
          refine hK2 _ _ (a + 1, xs.set J x1) (by simp only; omega) ⟨⟨by simp only; omega, by simpa using ha2⟩, fun i hi => ?_, by simp only [hJ2]; omega⟩ ?_
          · simp only at hi
            rw [List.getElem?_set_ne (by omega)]
            exact ha4 i (by omega)
          · simp only [hJ2]
            exact wkS (n0 := n0) [] hG hB hC' (hcls _ (hu _))
        · rw [if_pos (by simpa using hb)] at hds
          have hJ2 : (dedNs l (m + 1 + (a + 1 + 1))).length = J := by rw [hds, hJ]
          refine hK2 _ _ (a + 1, xs) (by simp only; omega) ⟨⟨by simp only; omega, ha2⟩, fun i hi => ha4 i (by simp only at hi; omega), by simp only [hJ2]; omega⟩ ?_
          simp only [hJ2]
          exact wkS (n0 := n0) [] hG hB hC' (hcls _ (hu _))
      · have hml : m + 1 + (a + 1) = l.length := by omega
        have he : dedS l = dedNs l (m + 1 + (a + 1)) := by rw [dedS, hml]
        have hq : ((l.length - (m + 1) : Nat) : Int) = ((a + 1 : Nat) : Int) := by omega
        have hJ3 : (dedNs l (m + 1 + (a + 1))).length ≤ l.length := by omega
        rw [he] at hR
        generalize (dedNs l (m + 1 + (a + 1))).length = J at *
        clear hK2
        have X := And.intro noX (And.intro qx (And.intro ha2' (And.intro hq (Int.lt_irrefl ((a + 1 : Nat) : Int)))))
        (refine run ?_; repeat' (first | with_reducible exact trivial | ((with_reducible apply Fork.mk) <;> intro hb) | with_reducible apply Two.mk))
        have hul : SV.underL n0 (List.take J (xs.map SV.str) ++ (List.replicate (l.length - J) (SV.str []) ++ List.drop (J + (l.length - J)) (xs.map SV.str))) = true := by
          rw [SV.underL_append, SV.underL_append, SV.underL_replicate rfl, ← List.map_take, ← List.map_drop, hu, hu]; rfl
        exact finS (n0 := n0) hR hC' (hcls _ hul) (.same _ (by simpa [SV.under, resSV] using li)) ⟨_, ⟨rfl, rfl⟩, by simp only [List.length_append, List.length_take, List.length_replicate, List.length_drop, List.length_map]; omega, hul⟩
    · rw [if_neg hb, hd, ← ht] at hds
      exact hK _ _ (m + 1) (by omega) ⟨by omega, hds⟩ (wkS (n0 := n0) [] hG hB hC' (hcls _ (hu l)))
  · have hml : m + 1 = l.length := by omega
    clear hK
    (refine run ?_; repeat' (first | with_reducible exact trivial | ((with_reducible apply Fork.mk) <;> intro hb) | with_reducible apply Two.mk))
    have e : dedS l = l := by rw [dedS, ← hml, hd, hml, List.take_length]
    exact finS (n0 := n0) hR hC' (hcls _ (hu l)) (.same _ (by simpa [SV.under, resSV] using li)) ⟨_, ⟨rfl, by rw [e]; rfl⟩, hlm, hu l⟩
end Go.Proofs.YtehfihnfeakmaaaGreatDoor
end

section
namespace Go.Proofs.YtehfihnfeakmaaaGreatDoor
open Go
set_option maxRecDepth 10000
set_option maxHeartbeats 4000000
theorem junk_get {l j : List Str} {i : Nat} (h : i < l.length) : ((l ++ j).map SV.str)[i]? = some (.str l[i]) := by
  rw [List.getElem?_map, List.getElem?_append_left h, List.getElem?_eq_getElem h]; rfl
theorem index_sl (G : Gl) (hG : GClosed G) (l j : List Str) (v : Str) (H : List Blk) (id g : Nat) (hid : H[id]? = some (.cells g 1 ((l ++ j).map .str))) (hl : l.length < 1099511627776) :
    ACall Tryz.prog G 145 [.sl id g 0 l.length, .str v] H (fun r H' => H' = H ∧ r = .int .i64 (idxFrom 0 l v)) := by
  have key : ∀ (l : List Str) (i n : Nat), i ≤ l.length → v ∉ l.take i → idxFrom n l v = idxFrom (n + i) (l.drop i) v := by
    intro l
    induction l with
    | nil => intro i n hi _; have : i = 0 := by simpa using hi
             subst this; rfl
    | cons x r ih =>
      intro i n hi hv
      cases i with
      | zero => rfl
      | succ i =>
        rw [List.take_succ_cons, List.mem_cons] at hv
        have hx : ¬ v = x := fun e => hv (.inl e)
        rw [idxFrom, if_neg (by first | exact hx | exact fun e => hx e.symm), ih i (n + 1) (by simpa using hi) (fun h => hv (.inr h)), List.drop_succ_cons]
        congr 1; omega
  refine ACall.of_go TB [] tabOK _ Tryz.func145 rfl (by decide) Tryz.ntmps145 (by simp) rfl (by simp only [initEnv, Nat.reduceAdd]; rfl) fun C R' hR hC hcl hB => ?_; have X := noX; have hC' := congrArg List.length hC
  have X := And.intro X hid
  (refine run ?_; repeat' (first | with_reducible exact trivial | ((with_reducible apply Fork.mk) <;> intro hb) | with_reducible apply Two.mk))
  refine go_loop (fun i : Nat => [(0, .sl id g 0 l.length), (1, .str v), (7, .int .i64 l.length), (8, .int .i64 i)]) (fun _ => H) (fun i => l.length - i) (fun i => i ≤ l.length ∧ v ∉ l.take i) 0 ⟨Nat.zero_le _, by simp⟩ (Wk.sub (by simp [subEnv, look])) ?_
  rintro K i ⟨hi, hno⟩ hK
  rcases Nat.lt_or_ge i l.length with hlt | hge
  · have e1 := junk_get (j := j) hlt
    have X := And.intro X e1
    (refine run ?_; repeat' (first | with_reducible exact trivial | ((with_reducible apply Fork.mk) <;> intro hb) | with_reducible apply Two.mk))
    · refine Fin.out hR ⟨rfl, ?_⟩
      rw [key l i 0 hi hno, List.drop_eq_getElem_cons hlt, idxFrom, if_pos (by first | exact hb | exact hb.symm), Nat.zero_add]; rfl
    · refine hK _ _ (i + 1) (by omega) ⟨by omega, ?_⟩ (Wk.sub (by simp [subEnv, look]))
      rw [List.take_succ_eq_append_getElem hlt, List.mem_append, List.mem_singleton]
      exact fun h => h.elim hno hb
  · obtain rfl : i = l.length := by omega
    clear hK
    have X := And.intro X (Int.lt_irrefl (l.length : Int))
    (refine run ?_; repeat' (first | with_reducible exact trivial | ((with_reducible apply Fork.mk) <;> intro hb) | with_reducible apply Two.mk))
    refine Fin.out hR ⟨rfl, ?_⟩
    rw [key l l.length 0 hi hno, List.drop_length]; rfl
theorem contains_sl (G : Gl) (hG : GClosed G) (l j : List Str) (v : Str) (H : List Blk) (id g : Nat) (hid : H[id]? = some (.cells g 1 ((l ++ j).map .str))) (hl : l.length < 1099511627776) :
    ACall Tryz.prog G 119 [.sl id g 0 l.length, .str v] H (fun r H' => H' = H ∧ r = .bool (decide (v ∈ l))) := by
  refine ACall.of_go TB [] tabOK _ Tryz.func119 rfl (by decide) Tryz.ntmps119 (by simp) rfl (by simp only [initEnv, Nat.reduceAdd]; rfl) fun C R' hR hC hcl hB => ?_; have X := noX; have hC' := congrArg List.length hC
  (refine run ?_; repeat' (first | with_reducible exact trivial | ((with_reducible apply Fork.mk) <;> intro hb) | with_reducible apply Two.mk))
  refine callS (index_sl G hG l j v H id g hid hl) ?_
  rintro r H' ⟨rfl, rfl⟩
  (refine run ?_; repeat' (first | with_reducible exact trivial | ((with_reducible apply Fork.mk) <;> intro hb) | with_reducible apply Two.mk))
  refine Fin.out hR ⟨rfl, ?_⟩
  rcases idxFrom_ge l v 0 with h | h
  · simp [h.1, h.2, resSV]
  · simp only [h.2, decide_true, SV.bool.injEq, decide_eq_true_eq, resSV]; omega
theorem indexF_sl (G : Gl) (hG : GClosed G) (f : SV) (p : Str → Bool) (l j : List Str) (H : List Blk) (id g : Nat) (hid : H[id]? = some (.cells g 1 ((l ++ j).map .str))) (hl : l.length < 1099511627776) (hfu : f.under H.length = true)
    (hf : ∀ n, ACallV Tryz.prog G f [.str n] H (fun r H' => H' = H ∧ r = .bool (p n))) :
    ACall Tryz.prog G 115 [.sl id g 0 l.length, f] H (fun r H' => H' = H ∧ r = .int .i64 (match l.findIdx? p with | some i => (i : Int) | none => -1)) := by
  refine ACall.of_go TB [] tabOK _ Tryz.func115 rfl (by decide) Tryz.ntmps115 (by simp) rfl (by simp only [initEnv, Nat.reduceAdd]; rfl) fun C R' hR hC hcl hB => ?_; have X := noX; have hC' := congrArg List.length hC
  have X := And.intro X hid
  (refine run ?_; repeat' (first | with_reducible exact trivial | ((with_reducible apply Fork.mk) <;> intro hb) | with_reducible apply Two.mk))
  refine go_loop (fun i : Nat => [(0, .sl id g 0 l.length), (1, f), (7, .int .i64 l.length), (8, .int .i64 i)]) (fun _ => H) (fun i => l.length - i) (fun i => i ≤ l.length ∧ ∀ x ∈ l.take i, p x = false) 0 ⟨Nat.zero_le _, by simp⟩ (Wk.sub (by simp [subEnv, look])) ?_
  rintro K i ⟨hi, hno⟩ hK
  rcases Nat.lt_or_ge i l.length with hlt | hge
  · have e1 := junk_get (j := j) hlt
    have X := And.intro X e1
    (refine run ?_; repeat' (first | with_reducible exact trivial | ((with_reducible apply Fork.mk) <;> intro hb) | with_reducible apply Two.mk))
    refine callV (hf l[i]) ?_
    rintro r H' ⟨rfl, rfl⟩
    cases hb : p l[i]
    · (refine run ?_; repeat' (first | with_reducible exact trivial | ((with_reducible apply Fork.mk) <;> intro hb) | with_reducible apply Two.mk))
      refine hK _ _ (i + 1) (by omega) ⟨by omega, ?_⟩ (Wk.sub (by simp [subEnv, look]))
      rw [List.take_succ_eq_append_getElem hlt]
      intro x hx
      rcases List.mem_append.1 hx with hx | hx
      · exact hno x hx
      · rw [List.mem_singleton.1 hx]; exact hb
    · have hfi : l.findIdx? p = some i := by
        rw [List.findIdx?_eq_some_iff_getElem]
        refine ⟨hlt, hb, fun j hj => ?_⟩
        have := hno (l[j]'(by omega)) (by rw [List.mem_take_iff_getElem]; exact ⟨j, by omega, rfl⟩)
        simp [this]
      (refine run ?_; repeat' (first | with_reducible exact trivial | ((with_reducible apply Fork.mk) <;> intro hb) | with_reducible apply Two.mk))
      exact Fin.out hR ⟨rfl, by simp only [resSV, hfi]⟩
  · obtain rfl : i = l.length := by omega
    clear hK
    have X := And.intro X (Int.lt_irrefl (l.length : Int))
    (refine run ?_; repeat' (first | with_reducible exact trivial | ((with_reducible apply Fork.mk) <;> intro hb) | with_reducible apply Two.mk))
    have hfi : l.findIdx? p = none := by rw [List.findIdx?_eq_none_iff]; rw [List.take_length] at hno; exact hno
    exact Fin.out hR ⟨rfl, by simp only [resSV, hfi]⟩
theorem takeWhile_find (p : Str → Bool) : ∀ l : List Str, (match l.findIdx? p with | some i => l.take i | none => l) = l.takeWhile (fun n => !p n) ∧ (∀ i, l.findIdx? p = some i → i = (l.takeWhile (fun n => !p n)).length)
  | [] => ⟨rfl, fun i h => by simp at h⟩
  | x :: r => by
    have ih := takeWhile_find p r
    rw [List.findIdx?_cons, List.takeWhile_cons]
    cases hx : p x
    · simp only [Bool.not_false, if_true, Bool.false_eq_true, if_false]
      cases hr : r.findIdx? p with
      | none => rw [hr] at ih; refine ⟨by simp only [Option.map_none]; rw [← ih.1], fun i h => by simp at h⟩
      | some i =>
        rw [hr] at ih
        refine ⟨by simp only [Option.map_some, List.take_succ_cons]; rw [← ih.1], fun k h => ?_⟩
        simp only [Option.map_some, Option.some.injEq] at h
        rw [List.length_cons, ← ih.2 i rfl, h]
    · simp
theorem until1_ok (G : Gl) (hG : GClosed G) (names : List Str) (hn : names.length < 1099511627776) (v : Str) (H : List Blk) (nb : Nat) (hnb : H[nb]? = some (.cells 0 1 [.list 1 (names.map .str)])) :
    ACall Tryz.prog G 116 [.str v, .ptr nb 0 0 0] H (fun r H' => H' = H ∧ r = .bool (decide (v ∈ names))) := by
  refine ACall.of_go TB [] tabOK _ Tryz.func116 rfl (by decide) Tryz.ntmps116 (by simp) rfl (by simp only [initEnv, Nat.reduceAdd]; rfl) fun C R' hR hC hcl hB => ?_; have X := noX; have hC' := congrArg List.length hC
  have c1 := fun H => contains_list G names v H (by omega)
  have X := And.intro X hnb
  (refine run ?_; repeat' (first | with_reducible exact trivial | ((with_reducible apply Fork.mk) <;> intro hb) | with_reducible apply Two.mk))
  exact Fin.out hR ⟨rfl, rfl⟩
theorem until_ok (G : Gl) (hG : GClosed G) (l j names : List Str) (H : List Blk) (id g : Nat) (hid : H[id]? = some (.cells g 1 ((l ++ j).map .str))) (hl : l.length < 1099511627776) (hn : names.length < 1099511627776) :
    ACall Tryz.prog G 66 [.sl id g 0 l.length, .list 1 (names.map .str)] H (fun r H' => H' = H ∧ r = .sl id g 0 (untilF l names).length) := by
  have li := (List.getElem?_eq_some_iff.1 hid).1
  have hix := indexF_sl G hG (.fn (.func 116) [] [.ptr H.length 0 0 0]) (fun n => decide (n ∈ names)) l j (H ++ [.cells 0 1 [.list 1 (names.map .str)]]) id g (by rw [get_old li]; exact hid) hl (by simp [SV.under, SV.underL])
    (fun n => ACallV.of (first := []) (args := [.str n]) (cap := [.ptr H.length 0 0 0]) (until1_ok G hG names hn n _ H.length (by simp)))
  have htk := takeWhile_find (fun n => decide (n ∈ names)) l
  have hun : untilF l names = l.takeWhile (fun n => !decide (n ∈ names)) := rfl
  have hjl : ((l ++ j).map SV.str).length = l.length + j.length := by simp
  have hidx := fun L => (show (H ++ L)[id]? = some (.cells g 1 ((l ++ j).map .str)) by rw [get_old li]; exact hid)
  refine ACall.of_go TB [] tabOK _ Tryz.func66 rfl (by decide) Tryz.ntmps66 (by simp) rfl (by simp only [initEnv, Nat.reduceAdd]; rfl) fun C R' hR hC hcl hB => ?_; have X := noX; have hC' := congrArg List.length hC
  have X := And.intro X (And.intro hidx hjl)
  (refine run ?_; repeat' (first | with_reducible exact trivial | ((with_reducible apply Fork.mk) <;> intro hb) | with_reducible apply Two.mk))
  refine callS hix ?_
  rintro r H' ⟨rfl, rfl⟩
  cases hr : l.findIdx? (fun n => decide (n ∈ names)) with
  | none =>
    rw [hr] at htk
    have e : untilF l names = l := by rw [hun, ← htk.1]
    simp only
    (refine run ?_; repeat' (first | with_reducible exact trivial | ((with_reducible apply Fork.mk) <;> intro hb) | with_reducible apply Two.mk))
    exact finS (n0 := H.length) hR hC' hcl (.same _ (by simpa [SV.under, resSV] using li)) ⟨rfl, by rw [e]; rfl⟩
  | some i =>
    have e := htk.2 i hr
    rw [← hun] at e
    have hil : i < l.length := by
      obtain ⟨h1, _⟩ := List.findIdx?_eq_some_iff_getElem.1 hr
      exact h1
    simp only
    (refine run ?_; repeat' (first | with_reducible exact trivial | ((with_reducible apply Fork.mk) <;> intro hb) | with_reducible apply Two.mk))
    exact finS (n0 := H.length) hR hC' hcl (.same _ (by simpa [SV.under, resSV] using li)) ⟨rfl, by rw [← e]; rfl⟩
end Go.Proofs.YtehfihnfeakmaaaGreatDoor
end

section
namespace Go.Proofs.YtehfihnfeakmaaaGreatDoor
open Go
set_option maxRecDepth 10000
set_option maxHeartbeats 4000000
theorem filter_snoc (p : Str → Bool) (l : List Str) (x : Str) : (l ++ [x]).filter p = l.filter p ++ if p x then [x] else [] := by
  rw [List.filter_append, List.filter_cons]; rfl
theorem delete_ok (G : Gl) (hG : GClosed G) (f : SV) (p : Str → Bool) (l j : List Str) (H : List Blk) (id g : Nat) (hid : H[id]? = some (.cells g 1 ((l ++ j).map .str))) (hl : l.length < 1099511627776) (hfu : f.under H.length = true)
    (hf : ∀ (n : Str) (vs : List SV), ACallV Tryz.prog G f [.str n] (H.set id (.cells g 1 vs)) (fun r H' => H' = H.set id (.cells g 1 vs) ∧ r = .bool (p n))) :
    ACall Tryz.prog G 117 [.sl id g 0 l.length, f] H (fun r H' => ∃ j' : List Str, H' = H.set id (.cells g 1 ((l.filter (fun n => !p n) ++ j').map .str)) ∧ r = .sl id g 0 (l.filter (fun n => !p n)).length) := by
  have li := (List.getElem?_eq_some_iff.1 hid).1
  obtain ⟨Q, q0, qd, hlen, qx, qc⟩ := cellsQ hid
  simp only [← qd] at hf ⊢
  have hidx := fun n => hf n ((l ++ j).map .str)
  have hix := indexF_sl G hG f p l j (Q ((l ++ j).map .str)) id g (qx.1 _) hl (by rw [hlen]; exact hfu) hidx
  rw [← q0]
  refine ACall.of_go TB [] tabOK _ Tryz.func117 rfl (by decide) Tryz.ntmps117 (by simp) rfl (by simp only [initEnv, Nat.reduceAdd]; rfl) fun C R' hR hC hcl hB => ?_; have X := noX; have hC' := congrArg List.length hC
  have hC' := hC'.trans (hlen _)
  have hcls : ∀ xs : List Str, closed (Q (xs.map .str)) := fun xs => qc (q0 ▸ hcl) _ (SV.underL_map fun _ _ => rfl)
  generalize H.length = n0 at *
  have X := And.intro X qx
  (refine run ?_; repeat' (first | with_reducible exact trivial | ((with_reducible apply Fork.mk) <;> intro hb) | with_reducible apply Two.mk))
  refine callS hix ?_
  rintro r H' ⟨rfl, rfl⟩
  cases hr : l.findIdx? p with
  | none =>
    simp only
    (refine run ?_; repeat' (first | with_reducible exact trivial | ((with_reducible apply Fork.mk) <;> intro hb) | with_reducible apply Two.mk))
    have e : l.filter (fun n => !p n) = l := by
      rw [List.filter_eq_self]
      intro x hx
      rw [List.findIdx?_eq_none_iff] at hr
      simp [hr x hx]
    exact Fin.out hR ⟨j, by rw [e], by rw [e]; rfl⟩
  | some i0 =>
    obtain ⟨hi0, hpi, hno⟩ := List.findIdx?_eq_some_iff_getElem.1 hr
    simp only
    have hne : ¬ (i0 : Int) = -1 := by omega
    have X := And.intro X hne
    (refine run ?_; repeat' (first | with_reducible exact trivial | ((with_reducible apply Fork.mk) <;> intro hb) | with_reducible apply Two.mk))
    have hf0 : (l.take (i0 + 1)).filter (fun n => !p n) = l.take i0 := by
      rw [List.take_succ_eq_append_getElem hi0, filter_snoc, hpi]
      simp only [Bool.not_true, Bool.false_eq_true, if_false, List.append_nil]
      rw [List.filter_eq_self]
      intro x hx
      obtain ⟨q, hq, rfl⟩ := List.mem_take_iff_getElem.1 hx
      have := hno q (by omega)
      simpa using this
    have hfl0 : ((l.take (i0 + 1)).filter (fun n => !p n)).length = i0 := by rw [hf0, List.length_take]; omega
    refine go_loop (fun a : Nat × List Str => [(0, .sl id g 0 l.length), (1, f), (5, .int .i64 (((l.take a.1).filter (fun n => !p n)).length : Int)), (6, .int .i64 (a.1 : Int))]) (fun a => Q (a.2.map .str) ++ []) (fun a => l.length - a.1)
      (fun a => (a.1 ≤ l.length ∧ a.2.length = l.length + j.length) ∧ (∀ q, a.1 ≤ q → a.2[q]? = (l ++ j)[q]?) ∧ ((l.take a.1).filter (fun n => !p n)).length < a.1 ∧ a.2.take ((l.take a.1).filter (fun n => !p n)).length = (l.take a.1).filter (fun n => !p n)) (i0 + 1, l ++ j) ⟨⟨by simp only; omega, by simp⟩, fun q _ => rfl, by simp only; omega, ?_⟩ ?_ ?_
    · simp only
      rw [hfl0, hf0, List.take_append_of_le_length (by omega)]
    · simp only [List.append_nil, hfl0]
      exact Wk.sub (by simp [subEnv, look])
    clear X
    rintro K ⟨m, xs⟩ ⟨⟨hm, hxl⟩, hxs, hlt0, htk⟩ hK
    simp only at hm hxl hxs hlt0 htk
    dsimp only
    have hxl' : (xs.map SV.str).length = l.length + j.length := by rw [List.length_map, hxl]
    rcases Nat.lt_or_ge m l.length with hlt | hge
    · have ht := List.take_succ_eq_append_getElem hlt
      have hfs := filter_snoc (fun n => !p n) (l.take m) l[m]
      rw [← ht] at hfs
      have f1 := hxs m (Nat.le_refl _)
      rw [List.getElem?_append_left hlt, List.getElem?_eq_getElem hlt] at f1
      have f1' : (xs.map SV.str)[m]? = some (.str l[m]) := by rw [List.getElem?_map, f1]; rfl
      have hcall := hf l[m] (xs.map .str)
      generalize l[m] = x at *
      generalize hF : ((l.take m).filter (fun n => !p n)).length = F at *
      have hFx : F < xs.length := by omega
      obtain ⟨y, hy⟩ : ∃ y, xs[F]? = some y := ⟨_, List.getElem?_eq_getElem hFx⟩
      have hy' : (xs.map SV.str)[F]? = some (.str y) := by rw [List.getElem?_map, hy]; rfl
      have hset : (xs.map SV.str).set F (.str x) = (xs.set F x).map SV.str := by rw [List.map_set]
      have X := And.intro noX (And.intro qx (And.intro f1' (And.intro hy' (And.intro hxl' hset))))
      rw [List.append_nil]
      (refine run ?_; repeat' (first | with_reducible exact trivial | ((with_reducible apply Fork.mk) <;> intro hb) | with_reducible apply Two.mk))
      refine callV hcall ?_
      rintro r H' ⟨rfl, rfl⟩
      cases hpx : p x
      · simp only [hpx, Bool.not_false, if_true] at hfs
        have hF2 : ((l.take (m + 1)).filter (fun n => !p n)).length = F + 1 := by rw [hfs, List.length_append, hF]; rfl
        (refine run ?_; repeat' (first | with_reducible exact trivial | ((with_reducible apply Fork.mk) <;> intro hb) | with_reducible apply Two.mk))
        refine hK _ _ (m + 1, xs.set F x) (by simp only; omega) ⟨⟨by simp only; omega, by simpa using hxl⟩, fun q hq => ?_, by simp only [hF2]; omega, ?_⟩ ?_
        · simp only at hq
          rw [List.getElem?_set_ne (by omega)]
          exact hxs q (by omega)
        · show (xs.set F x).take ((l.take (m + 1)).filter (fun n => !p n)).length = (l.take (m + 1)).filter (fun n => !p n)
          rw [hF2, hfs, List.take_succ_eq_append_getElem (by simpa using hFx), List.getElem_set_self, List.take_set_of_le (Nat.le_refl _), htk]
        · simp only [hF2]
          rw [List.append_nil]
          exact Wk.sub (by simp [subEnv, look])
      · simp only [hpx, Bool.not_true, Bool.false_eq_true, if_false, List.append_nil] at hfs
        have hF2 : ((l.take (m + 1)).filter (fun n => !p n)).length = F := by rw [hfs, hF]
        (refine run ?_; repeat' (first | with_reducible exact trivial | ((with_reducible apply Fork.mk) <;> intro hb) | with_reducible apply Two.mk))
        refine hK _ _ (m + 1, xs) (by simp only; omega) ⟨⟨by simp only; omega, hxl⟩, fun q hq => hxs q (by simp only at hq; omega), by simp only [hF2]; omega, ?_⟩ ?_
        · show xs.take ((l.take (m + 1)).filter (fun n => !p n)).length = (l.take (m + 1)).filter (fun n => !p n)
          rw [hF2, hfs]; exact htk
        · simp only [hF2]
          rw [List.append_nil]
          exact Wk.sub (by simp [subEnv, look])
    · obtain rfl : m = l.length := by omega
      rw [List.take_length] at *
      clear hK
      generalize hF : (l.filter (fun n => !p n)).length = F at *
      have X := And.intro noX (And.intro qx (And.intro hxl' (Int.lt_irrefl (l.length : Int))))
      rw [List.append_nil]
      (refine run ?_; repeat' (first | with_reducible exact trivial | ((with_reducible apply Fork.mk) <;> intro hb) | with_reducible apply Two.mk))
      refine Fin.out hR ⟨List.replicate (l.length - F) [] ++ xs.drop (F + (l.length - F)), congrArg Q ?_, rfl⟩
      rw [← htk, List.map_append, List.map_append, List.map_take, List.map_drop, List.map_replicate]
theorem joinF_snoc (l more : List Str) (x : Str) : joinF l (more ++ [x]) = putO (joinF l more) x := by rw [joinF, List.foldl_append]; rfl
theorem joinF_len (l more : List Str) : (joinF l more).length ≤ l.length + more.length := by
  induction more generalizing l with
  | nil => exact Nat.le_refl _
  | cons x r ih =>
    rw [joinF, List.foldl_cons, ← joinF]
    have := ih (putO l x)
    have := putO_len l x
    simp only [List.length_cons]; omega
theorem join_ok (G : Gl) (hG : GClosed G) (l j more : List Str) (H : List Blk) (id g : Nat) (hid : H[id]? = some (.cells g 1 ((l ++ j).map .str))) (hl : l.length + more.length < 1099511627776) :
    ACall Tryz.prog G 113 [.sl id g 0 l.length, .list 1 (more.map .str)] H (fun r H' => ∃ g', H' = H.set id (.cells g' 1 ((joinF l more).map .str)) ∧ r = .sl id g' 0 (joinF l more).length) := by
  have li := (List.getElem?_eq_some_iff.1 hid).1
  obtain ⟨Q, qd⟩ : ∃ Q : Nat → List Str → List Blk, ∀ g xs, H.set id (.cells g 1 (xs.map .str)) = Q g xs := ⟨fun g xs => H.set id (.cells g 1 (xs.map .str)), fun _ _ => rfl⟩
  have hlen : ∀ g xs, (Q g xs).length = H.length := fun g xs => by rw [← qd, List.length_set]
  have qx1 : ∀ g xs, (Q g xs)[id]? = some (.cells g 1 (xs.map .str)) := fun g xs => by rw [← qd]; exact List.getElem?_set_self li
  have qx2 : ∀ g xs b x, (Q g xs).set id (.cells b 1 (xs.map .str ++ [.str x])) = Q b (xs ++ [x]) := fun g xs b x => by rw [← qd, List.set_set, ← qd, List.map_append]; rfl
  simp only [qd]
  refine ACall.of_go TB [] tabOK _ Tryz.func113 rfl (by decide) Tryz.ntmps113 (by simp) rfl (by simp only [initEnv, Nat.reduceAdd]; rfl) fun C R' hR hC hcl hB => ?_; have X := noX; have hC' := congrArg List.length hC
  refine go_trunc (t := 0) hid rfl (by simp) ?_
  rw [Nat.zero_add, List.map_append, List.take_left' (List.length_map ..), qd]
  have X := And.intro X (And.intro qx1 qx2)
  (refine run ?_; repeat' (first | with_reducible exact trivial | ((with_reducible apply Fork.mk) <;> intro hb) | with_reducible apply Two.mk))
  refine go_loop (fun a : Nat × Nat => [(0, .sl id a.2 0 (joinF l (more.take a.1)).length), (7, .list 1 (more.map .str)), (8, .int .i64 more.length), (9, .int .i64 a.1)]) (fun a => Q a.2 (joinF l (more.take a.1))) (fun a => more.length - a.1) (fun a => a.1 ≤ more.length) (0, g + 1) (Nat.zero_le _) (Wk.sub (by simp [subEnv, look, joinF])) ?_
  rintro K ⟨i, g1⟩ hi hK
  simp only at hi
  dsimp only
  rcases Nat.lt_or_ge i more.length with hlt | hge
  · have ht := List.take_succ_eq_append_getElem hlt
    have hs := joinF_snoc l (more.take i) more[i]
    rw [← ht] at hs
    have hjl := joinF_len l (more.take i)
    rw [List.length_take] at hjl
    have hidj : (Q g1 (joinF l (more.take i)))[id]? = some (.cells g1 1 ((joinF l (more.take i) ++ []).map .str)) := by rw [List.append_nil]; exact qx1 _ _
    have c1 := contains_sl G hG (joinF l (more.take i)) [] more[i] (Q g1 (joinF l (more.take i))) id g1 hidj (by omega)
    have hme : (more.map SV.str)[i]? = some (.str more[i]) := by simp [hlt]
    generalize more[i] = x at *
    generalize joinF l (more.take i) = J at *
    have hml : (J.map SV.str).length = J.length := List.length_map ..
    by_cases hx : x ∈ J
    · rw [decide_eq_true hx] at c1
      have hs' : joinF l (more.take (i + 1)) = J := by rw [hs, putO, if_pos hx]
      have X := And.intro noX (And.intro qx1 (And.intro qx2 (And.intro hme hml)))
      (refine run ?_; repeat' (first | with_reducible exact trivial | ((with_reducible apply Fork.mk) <;> intro hb) | with_reducible apply Two.mk))
      refine hK _ _ (i + 1, g1) (by simp only; omega) (by simp only; omega) ?_
      simp only [hs']
      exact Wk.sub (by simp [subEnv, look])
    · rw [decide_eq_false hx] at c1
      have hs' : joinF l (more.take (i + 1)) = J ++ [x] := by rw [hs, putO, if_neg hx]
      have X := And.intro noX (And.intro qx1 (And.intro qx2 (And.intro hme hml)))
      (refine run ?_; repeat' (first | with_reducible exact trivial | ((with_reducible apply Fork.mk) <;> intro hb) | with_reducible apply Two.mk))
      refine hK _ _ (i + 1, g1 + 1) (by simp only; omega) (by simp only; omega) ?_
      simp only [hs', List.length_append, List.length_singleton]
      exact Wk.sub (by simp [subEnv, look])
  · obtain rfl : i = more.length := by omega
    clear hK
    rw [List.take_length]
    have X := And.intro noX (Int.lt_irrefl (more.length : Int))
    (refine run ?_; repeat' (first | with_reducible exact trivial | ((with_reducible apply Fork.mk) <;> intro hb) | with_reducible apply Two.mk))
    exact Fin.out hR ⟨g1, rfl, rfl⟩
end Go.Proofs.YtehfihnfeakmaaaGreatDoor
end

section
namespace Go.Proofs.YtehfihnfeakmaaaGreatDoor
open Go
theorem ACall.fin {P : Program} {G : Gl} {f : FuncId} {args : List SV} {H : List Blk} {R R' : SV → List Blk → Prop} (h : ACall P G f args H R)
    (hf : ∀ C x H', C.H = H → closed H → R x H' → Fin C H' x R') : ACall P G f args H R' :=
  ⟨h.1, fun c vs h1 h2 h3 h4 => (h.2 c vs h1 h2 h3 h4).mono fun e w' ⟨v, x, c', a1, a2, a3, a4, a5, a6⟩ =>
    let ⟨c2, y, b1, b2, b3, b4, b5⟩ := hf c x c'.H h1 (h1 ▸ h2.closed) a3 c' v rfl a4 a5 a6
    ⟨v, y, c2, a1, b1.trans a2, b2, b3, b4, b5⟩⟩
theorem ACall.frz {P : Program} {G : Gl} {f : FuncId} {args : List SV} {H : List Blk} {sz : Nat} {vs : List SV} {n : Nat} (hu : SV.underL H.length vs = true) (hn : vs.length = n)
    (h : ACall P G f args H (fun r H' => H' = H ++ [.cells 0 sz vs] ∧ r = .sl H.length 0 0 n)) : ACall P G f args H (fun r H' => H' = H ∧ r = .list sz vs) :=
  h.fin fun C x H' h1 hcl hr => by
    obtain ⟨rfl, rfl⟩ := hr
    exact Fin.tellN (n0 := H.length) (R0 := fun r H' => H' = H ∧ r = .list sz vs) (fun _ _ h => h) rfl (by rw [h1]) hcl (Frz.sf (g := 0) (sz := sz) (vals := vs) (List.getElem?_concat_length ..) (Nat.le_refl _) (by simp) (by rw [List.drop_zero, List.take_of_length_le (by omega)]) hu) ⟨rfl, rfl⟩
end Go.Proofs.YtehfihnfeakmaaaGreatDoor
end

section
namespace Go.Proofs.YtehfihnfeakmaaaGreatDoor
open Go
set_option maxRecDepth 10000
set_option maxHeartbeats 4000000
theorem nodup_le : ∀ (l L : List Str), l.Nodup → (∀ x ∈ l, x ∈ L) → l.length ≤ L.length
  | [], L, _, _ => Nat.zero_le _
  | x :: r, L, h, hs => by
    obtain ⟨a, b, rfl⟩ := List.append_of_mem (hs x (List.mem_cons_self ..))
    rw [List.nodup_cons] at h
    have := nodup_le r (a ++ b) h.2 (fun y hy => by
      have := hs y (List.mem_cons_of_mem _ hy)
      rw [List.mem_append, List.mem_cons] at this
      rw [List.mem_append]
      rcases this with h1 | h1 | h1
      · exact .inl h1
      · exact absurd (h1 ▸ hy) h.1
      · exact .inr h1)
    simp only [List.length_append, List.length_cons] at this ⊢
    omega
theorem flat_lenE {f : Ex → List Str} : ∀ {l : List Ex}, (∀ x ∈ l, (f x).length ≤ x.wt) → (l.flatMap f).length ≤ (l.map Ex.wt).sum
  | [], _ => by simp
  | x :: r, h => by
    have h2 := flat_lenE (l := r) (fun y hy => h y (List.mem_cons_of_mem _ hy))
    have h3 := h x (List.mem_cons_self ..)
    rw [List.flatMap_cons, List.length_append, List.map_cons, List.sum_cons]
    omega
theorem vrs_len : ∀ (m : Nat) (e : Ex), (vrsF m e).length ≤ e.wt
  | 0, e => Nat.zero_le _
  | m + 1, e => by
    have h1 := parts_wt e
    have h2 := flat_lenE (f := vrsF m) (l := e.parts) fun x _ => vrs_len m x
    rw [vrsF, List.length_append]
    split
    · simp only [List.length_singleton]; omega
    · simp only [List.length_nil]; omega
theorem vrs_part {m : Nat} {e p : Ex} (hp : p ∈ e.parts) {s : Str} (hs : s ∈ vrsF m p) : s ∈ vrsF (m + 1) e := by
  rw [vrsF, List.mem_append]
  exact .inr (List.mem_flatMap.2 ⟨p, hp, hs⟩)
theorem fst_vrs (sim : Ex → Bool) (k : List Od) (s : Str) : ∀ (m : Nat) (e : Ex), s ∈ fstF sim k m e → s ∈ vrsF m e
  | 0, e, h => by cases h
  | m + 1, .mk kd nm nn op names subs binds alts, h => by
    have ih := fst_vrs sim k s m
    have hin : ∀ {x : Ex}, x ∈ (Ex.mk kd nm nn op names subs binds alts).parts → s ∈ fstF sim k m x → s ∈ vrsF (m + 1) (.mk kd nm nn op names subs binds alts) := fun hx hs => vrs_part hx (ih _ hs)
    rw [Ex.parts_mk] at hin
    have hsb : ∀ {x : Ex}, x ∈ subs → s ∈ fstF sim k m x → s ∈ vrsF (m + 1) (.mk kd nm nn op names subs binds alts) := fun hx hs => hin (List.mem_append_left _ hx) hs
    rw [fstF] at h
    split at h
    · rename_i hk
      have h := List.mem_singleton.1 h
      rw [vrsF, if_pos hk, h]
      exact List.mem_append_left _ (List.mem_singleton.2 rfl)
    · have h : s ∈ (match subs with | [] => [] | t :: r => (if kd = 8 then (if 0 < r.length ∧ 1 ≤ op ∧ op ≤ 8 then rowF (fstF sim k m) sim [] (subs.take 2) else fstF sim k m t) else if kd = 4 then (if (callO k (.mk kd nm nn op names subs binds alts)).2 then rowF (fstF sim k m) sim [] (argsF subs (callO k (.mk kd nm nn op names subs binds alts)).1.nums) else fstF sim k m t) else if kd = 5 then untilF (fstF sim k m t) (binds.map Bd.name) else if kd = 6 then chcF (fstF sim k m) sim nm t alts else [] : List Str)) := h
      cases hs0 : subs with
      | nil => rw [hs0] at h; cases h
      | cons t r =>
        have hm : t ∈ subs := by rw [hs0]; exact List.mem_cons_self ..
        rw [← hs0]
        simp only [hs0] at h
        rw [← hs0] at h
        split at h
        · split at h
          · rcases rowF_mem _ _ _ _ h with h | ⟨x, h1, h2⟩
            · cases h
            · exact hsb (List.mem_of_mem_take h1) h2
          · exact hsb hm h
        · split at h
          · split at h
            · rcases rowF_mem _ _ _ _ h with h | ⟨x, h1, h2⟩
              · cases h
              · exact hsb (argsF_mem _ _ h1) h2
            · exact hsb hm h
          · split at h
            · exact hsb hm (mem_untilF h).1
            · split at h
              · unfold chcF at h
                split at h
                · rcases mem_joinF.1 h with h | h
                  · exact hsb hm h
                  · obtain ⟨a, h1, h2⟩ := (comA_sub _ _ _ (fun e => fst_nodup sim k m e) alts).2 s h
                    have h3 := (mem_untilF h2).1
                    rw [List.mem_filter] at h3
                    exact hin (List.mem_append_right _ (List.mem_append_right _ (List.mem_map.2 ⟨a, h1, rfl⟩))) h3.1
                · exact hsb hm h
              · cases h
theorem fst_len (sim : Ex → Bool) (k : List Od) (m : Nat) (e : Ex) : (fstF sim k m e).length ≤ e.wt :=
  Nat.le_trans (nodup_le _ _ (fst_nodup sim k m e) fun s hs => fst_vrs sim k s m e hs) (vrs_len m e)
end Go.Proofs.YtehfihnfeakmaaaGreatDoor
end

section
namespace Go.Proofs.YtehfihnfeakmaaaGreatDoor
open Go
set_option maxRecDepth 10000
set_option maxHeartbeats 4000000
def FstC (G : Gl) (k : List Od) (m : Nat) : Prop := ∀ (e : Ex) (kb : Nat) (H : List Blk), e.wt ≤ m → e.wt < 4294967296 → H[kb]? = some (.map none (esD k)) →
  ACall Tryz.prog G 27 [.map kb, e.sv] H (fun r H' => ∃ j : List Str, H' = H ++ [.cells 0 1 ((fstF simS k m e ++ j).map .str)] ∧ r = .sl H.length 0 0 (fstF simS k m e).length)
theorem fst_list {G : Gl} {k : List Od} {m : Nat} (hrec : FstC G k m) (e : Ex) (kb : Nat) (H : List Blk) (he : e.wt ≤ m) (hw : e.wt < 4294967296) (hkb : H[kb]? = some (.map none (esD k))) :
    ACall Tryz.prog G 27 [.map kb, e.sv] H (fun r H' => H' = H ∧ r = .list 1 ((fstF simS k m e).map .str)) :=
  (hrec e kb H he hw hkb).fin fun C x H' h1 hcl hr => by
    obtain ⟨j, rfl, rfl⟩ := hr
    exact Fin.tellN (n0 := H.length) (R0 := fun r H' => H' = H ∧ r = .list 1 ((fstF simS k m e).map .str)) (fun _ _ h => h) rfl (by rw [h1]) hcl
      (Frz.sf (g := 0) (sz := 1) (vals := (fstF simS k m e ++ j).map .str) (List.getElem?_concat_length ..) (Nat.le_refl _) (by simp) (by rw [List.drop_zero, List.map_append, List.take_left' (List.length_map ..)]) (SV.underL_map fun _ _ => rfl)) ⟨rfl, rfl⟩
theorem row_ok (G : Gl) (hG : GClosed G) (k : List Od) (m : Nat) (hrec : FstC G k m) (es : List Ex) (hes : ∀ x ∈ es, x.wt ≤ m ∧ x.wt < 4294967296) (hel : es.length < 1099511627776) (L : List Str) (hL : L.length < 549755813888) (hsub : ∀ x ∈ es, ∀ s ∈ fstF simS k m x, s ∈ L) (kb : Nat) (H : List Blk) (hkb : H[kb]? = some (.map none (esD k))) :
    ACall Tryz.prog G 64 [.map kb, .list 8 (exCells es)] H (fun r H' => H' = H ++ [.cells 0 1 ((rowF (fstF simS k m) simS [] es).map .str)] ∧ r = .sl H.length 0 0 (rowF (fstF simS k m) simS [] es).length) := by
  have lk := (List.getElem?_eq_some_iff.1 hkb).1
  have hkx := fun L => (show (H ++ L)[kb]? = some (.map none (esD k)) by rw [get_old lk]; exact hkb)
  have hnd := fun e => fst_nodup simS k m e
  have hfl := fun e => fst_len simS k m e
  generalize hRR : rowF (fstF simS k m) simS [] es = RR
  refine ACall.of_go TB [5] tabOK _ Tryz.func64 rfl (by decide) Tryz.ntmps64 (by simp) rfl (by simp only [initEnv, Nat.reduceAdd]; rfl) fun C R' hR hC hcl hB => ?_; have X := noX; have hC' := congrArg List.length hC
  (refine run ?_; repeat' (first | with_reducible exact trivial | ((with_reducible apply Fork.mk) <;> intro hb) | with_reducible apply Two.mk))
  refine go_loop (fun a : Nat × List Str => [(0, .map kb), (5, .sl H.length 0 0 a.2.length), (8, .list 8 (exCells es)), (9, .int .i64 es.length), (10, .int .i64 a.1)]) (fun a => H ++ [.cells 0 1 (a.2.map .str)]) (fun a => es.length - a.1)
    (fun a => a.1 ≤ es.length ∧ rowF (fstF simS k m) simS a.2 (es.drop a.1) = RR ∧ a.2.Nodup ∧ ∀ s ∈ a.2, s ∈ L) (0, []) ⟨Nat.zero_le _, hRR, List.nodup_nil, fun s h => by cases h⟩ ?_ ?_
  · simp only [List.length_nil, List.map_nil]
    exact wkS (n0 := H.length) [(H.length, 0)] hG hB hC' hcl
  rintro K ⟨i, out⟩ ⟨hi, hro, hon, hoL⟩ hK
  simp only at hi hro hon hoL
  dsimp only
  have hol := nodup_le out L hon hoL
  rcases Nat.lt_or_ge i es.length with hlt | hge
  · have hx := hes es[i] (List.getElem_mem hlt)
    have c1 := fun L => fst_list hrec es[i] kb (H ++ L) hx.1 hx.2 (hkx L)
    have c2 := fun H => simpleS_ok G hG es[i] hx.2 H
    rw [List.drop_eq_getElem_cons hlt, rowF] at hro
    have hsx := hsub es[i] (List.getElem_mem hlt)
    have hfx := hfl es[i]
    have hxi : es[i]? = some es[i] := List.getElem?_eq_getElem hlt
    generalize es[i] = x at *
    have hjl := joinF_len out (fstF simS k m x)
    have hjn := joinF_nodup (more := fstF simS k m x) hon
    have hjL : ∀ s ∈ joinF out (fstF simS k m x), s ∈ L := fun s hs => (mem_joinF.1 hs).elim (hoL s) (hsx s)
    generalize fstF simS k m x = F at *
    have X := And.intro noX (And.intro hkx hxi)
    (refine run ?_; repeat' (first | with_reducible exact trivial | ((with_reducible apply Fork.mk) <;> intro hb) | with_reducible apply Two.mk))
    refine callS (join_ok G hG out [] F _ H.length 0 (by simp) (by omega)) ?_
    rintro r H' ⟨g', rfl, rfl⟩
    simp only [set_app0, List.set_cons_zero]
    generalize joinF out F = J at *
    (refine run ?_; repeat' (first | with_reducible exact trivial | ((with_reducible apply Fork.mk) <;> intro hb) | with_reducible apply Two.mk))
    · have hro : J = RR := by rw [if_neg (by simpa using hb)] at hro; exact hro
      subst hro
      exact finK [(H.length, 0)] (.sl H.length 0 0 J.length) [.cells 0 1 (J.map .str)] hR hC' hcl ⟨rfl, rfl⟩
    · rw [if_pos (by simpa using hb)] at hro
      refine hK _ _ (i + 1, J) (by simp only; omega) ⟨by simp only; omega, hro, hjn, hjL⟩ ?_
      dsimp only
      exact wkS (n0 := H.length) [(H.length, 0)] hG hB hC' hcl
  obtain rfl : i = es.length := by omega
  clear hK
  rw [List.drop_length] at hro
  have hro : out = RR := hro
  subst hro
  have X := And.intro noX (Int.lt_irrefl (es.length : Int))
  (refine run ?_; repeat' (first | with_reducible exact trivial | ((with_reducible apply Fork.mk) <;> intro hb) | with_reducible apply Two.mk))
  exact finK [(H.length, 0)] (.sl H.length 0 0 out.length) [.cells 0 1 (out.map .str)] hR hC' hcl ⟨rfl, rfl⟩
end Go.Proofs.YtehfihnfeakmaaaGreatDoor
end

section
namespace Go.Proofs.YtehfihnfeakmaaaGreatDoor
open Go
set_option maxRecDepth 10000
set_option maxHeartbeats 4000000
theorem lcp_self : ∀ a : List Str, lcp a a = a
  | [] => by simp [lcp]
  | x :: a => by rw [lcp, if_pos rfl, lcp_self a]
theorem lcp_take : ∀ (a b : List Str) (n : Nat), a.take n = b.take n → n ≤ a.length → n ≤ b.length → (∀ (h1 : n < a.length) (h2 : n < b.length), ¬ a[n] = b[n]) → lcp a b = a.take n
  | [], b, n, _, h, _, _ => by simp [lcp]
  | x :: a, [], n, _, _, h, _ => by
    have : n = 0 := by simpa using h
    subst this; simp [lcp]
  | x :: a, y :: b, 0, _, _, _, h => by
    have := h (by simp) (by simp)
    rw [lcp, if_neg (by simpa using this)]; rfl
  | x :: a, y :: b, n + 1, ht, h1, h2, h3 => by
    rw [List.take_succ_cons, List.take_succ_cons, List.cons.injEq] at ht
    rw [lcp, if_pos ht.1, lcp_take a b n ht.2 (by simpa using h1) (by simpa using h2) (fun q1 q2 => by have := h3 (by simpa using q1) (by simpa using q2); simpa using this), List.take_succ_cons]
theorem comF_snoc (f : Ex → List Str) (nm : Str) (out : List Str) (a : Al) : ∀ (l : List Al) (c : List Str), comF f nm out c (l ++ [a]) = lcp (comF f nm out c l) (altF f nm out a)
  | [], c => rfl
  | b :: r, c => by rw [List.cons_append, comF, comF]; exact comF_snoc f nm out a r _
theorem comA_snoc (f : Ex → List Str) (nm : Str) (out : List Str) (l : List Al) (a : Al) : comA f nm out (l ++ [a]) = lcp (if l.length = 0 then altF f nm out a else comA f nm out l) (altF f nm out a) := by
  cases l with
  | nil => rw [List.length_nil, if_pos rfl, lcp_self]; rfl
  | cons b r => rw [List.cons_append, comA, comA, comF_snoc, if_neg (by simp)]
theorem untilF_pre (l names : List Str) : l.take (untilF l names).length = untilF l names := by
  induction l with
  | nil => rfl
  | cons x r ih =>
    rw [untilF, List.takeWhile_cons]
    split
    · rw [List.length_cons, List.take_succ_cons]
      congr 1
    · rfl
theorem untilF_len (l names : List Str) : (untilF l names).length ≤ l.length := (List.takeWhile_sublist _).length_le
theorem comA_len {f : Ex → List Str} {nm : Str} {out : List Str} {B : Nat} : ∀ (l : List Al), (∀ a ∈ l, (f a.body).length ≤ B) → (comA f nm out l).length ≤ B
  | [], _ => Nat.zero_le _
  | a :: r, h => by
    have h1 := (comF_sub f nm out r (altF f nm out a)).length_le
    have h2 := untilF_len ((f a.body).filter fun n => !(decide (n = nm) || decide (n ∈ out))) a.names
    have h3 : ((f a.body).filter fun n => !(decide (n = nm) || decide (n ∈ out))).length ≤ (f a.body).length := List.length_filter_le ..
    have h4 := h a (List.mem_cons_self ..)
    rw [comA]
    unfold altF at h1 ⊢
    omega
theorem choice1_ok (G : Gl) (hG : GClosed G) {kd : Int} {nm : Str} {nn op : Int} {names : List Str} {subs : List Ex} {binds : List Bd} {alts : List Al} (out j : List Str) (ho : out.length < 1099511627776) (n : Str) (H : List Blk) (eb ob oid og : Nat)
    (h1 : H[eb]? = some (.cells 0 8 [.agg [.int .i64 kd, .str nm, .int .i64 nn, .int .i64 op, .list 1 (names.map .str), .list 8 (exCells subs), .list 9 (bdCells binds), .list 12 (alCells alts)]])) (h2 : H[ob]? = some (.cells 0 1 [.sl oid og 0 out.length])) (h3 : H[oid]? = some (.cells og 1 ((out ++ j).map .str))) :
    ACall Tryz.prog G 118 [.str n, .ptr eb 0 0 0, .ptr ob 0 0 0] H (fun r H' => H' = H ∧ r = .bool (decide (n = nm) || decide (n ∈ out))) := by
  have c1 := contains_sl G hG out j n H oid og h3 ho
  refine ACall.of_go TB [] tabOK _ Tryz.func118 rfl (by decide) Tryz.ntmps118 (by simp) rfl (by simp only [initEnv, Nat.reduceAdd]; rfl) fun C R' hR hC hcl hB => ?_; have X := noX; have hC' := congrArg List.length hC
  have X := And.intro X (And.intro h1 h2)
  (refine run ?_; repeat' (first | with_reducible exact trivial | ((with_reducible apply Fork.mk) <;> intro hb) | with_reducible apply Two.mk))
  all_goals (refine Fin.out hR ⟨rfl, ?_⟩; simp_all [resSV])
theorem choice_ok (G : Gl) (hG : GClosed G) (k : List Od) (m : Nat) (hrec : FstC G k m) (nm : Str) (kd nn op : Int) (names : List Str) (s : Ex) (rs : List Ex) (binds : List Bd) (alts : List Al) (hw : (Ex.mk kd nm nn op names (s :: rs) binds alts).wt ≤ m + 1) (hw0 : (Ex.mk kd nm nn op names (s :: rs) binds alts).wt < 4294967296) (kb : Nat) (H : List Blk) (hkb : H[kb]? = some (.map none (esD k))) :
    ACall Tryz.prog G 67 [.map kb, (Ex.mk kd nm nn op names (s :: rs) binds alts).sv] H (fun r H' => ∃ j : List Str, H' = H ++ [.cells 0 1 ((chcF (fstF simS k m) simS nm s alts ++ j).map .str)] ∧ r = .sl H.length 0 0 (chcF (fstF simS k m) simS nm s alts).length) := by
  have lk := (List.getElem?_eq_some_iff.1 hkb).1
  have hkx := fun L => (show (H ++ L)[kb]? = some (.map none (esD k)) by rw [get_old lk]; exact hkb)
  have hle := Ex.wt_lens kd nm nn op names (s :: rs) binds alts
  have hpw : ∀ p ∈ (Ex.mk kd nm nn op names (s :: rs) binds alts).parts, p.wt ≤ m ∧ p.wt < 4294967296 := fun p hp => by have := Ex.wt_parts hp; exact ⟨by omega, by omega⟩
  rw [Ex.parts_mk] at hpw
  have hs := hpw s (by simp)
  have hs0 : (s :: rs)[0]? = some s := rfl
  have hsl : 0 < (s :: rs).length := by simp
  generalize hS : s :: rs = subs at *
  have hfl := fst_len simS k m s
  have hcf : chcF (fstF simS k m) simS nm s alts = if simS s then joinF (fstF simS k m s) (comA (fstF simS k m) nm (fstF simS k m s) alts) else fstF simS k m s := rfl
  rw [hcf]
  have c2 := fun H => simpleS_ok G hG s hs.2 H
  have hfirst := fun L => hrec s kb (H ++ L) hs.1 hs.2 (hkx L)
  generalize hF : fstF simS k m s = F at *
  refine ACall.of_go TB [] tabOK _ Tryz.func67 rfl (by decide) Tryz.ntmps67 (by simp) rfl (by simp only [initEnv, Nat.reduceAdd]; rfl) fun C R' hR hC hcl hB => ?_; have X := noX; have hC' := congrArg List.length hC
  have X := And.intro X (And.intro hkx hs0)
  (refine run ?_; repeat' (first | with_reducible exact trivial | ((with_reducible apply Fork.mk) <;> intro hb) | with_reducible apply Two.mk))
  refine callS (hfirst _) ?_
  rintro r H' ⟨j0, rfl, rfl⟩
  simp only [List.append_assoc, List.cons_append, List.nil_append, List.length_append, List.length_cons, List.length_nil, List.length_set, X, Nat.reduceAdd]
  cases hsim : simS s
  · rw [hsim] at c2
    simp only [hsim, Bool.false_eq_true, if_false] at hR
    (refine run ?_; repeat' (first | with_reducible exact trivial | ((with_reducible apply Fork.mk) <;> intro hb) | with_reducible apply Two.mk))
    exact finK [(H.length + 1, 0)] (.sl H.length 0 0 F.length) [.cells 0 1 ((F ++ j0).map .str)] hR hC' hcl ⟨j0, rfl, rfl⟩
  rw [hsim] at c2
  simp only [hsim, if_true] at hR
  (refine run ?_; repeat' (first | with_reducible exact trivial | ((with_reducible apply Fork.mk) <;> intro hb) | with_reducible apply Two.mk))
  refine go_loop (fun i : Nat => [(0, .map kb), (3, .ptr H.length 0 0 0), (5, .ptr (H.length + 2) 0 0 0), (6, .list 1 ((comA (fstF simS k m) nm F (alts.take i)).map .str)), (25, .list 12 (alCells alts)), (26, .int .i64 alts.length), (27, .int .i64 i)]) (fun i => H ++ [.cells 0 8 [.agg [.int .i64 kd, .str nm, .int .i64 nn, .int .i64 op, .list 1 (names.map .str), .list 8 (exCells subs), .list 9 (bdCells binds), .list 12 (alCells alts)]], .cells 0 1 ((F ++ j0).map .str), .cells 0 1 [.sl (H.length + 1) 0 0 F.length]]) (fun i => alts.length - i) (fun i => i ≤ alts.length) 0 (Nat.zero_le _) ?_ ?_
  · simp only [List.take_zero, show comA (fstF simS k m) nm F [] = [] from rfl, List.map_nil]
    exact wkS (n0 := H.length) [(H.length, 0), (H.length + 1, 0), (H.length + 2, 0)] hG hB hC' hcl
  rintro K i hi hK
  rcases Nat.lt_or_ge i alts.length with hlt | hge
  · have ht := List.take_succ_eq_append_getElem hlt
    have hcs := comA_snoc (fstF simS k m) nm F (alts.take i) alts[i]
    rw [← ht, List.length_take, Nat.min_eq_left (by omega)] at hcs
    have hab := hpw alts[i].body (List.mem_append_right _ (List.mem_append_right _ (List.mem_map.2 ⟨_, List.getElem_mem hlt, rfl⟩)))
    have hfa := fun L => hrec alts[i].body kb (H ++ L) hab.1 hab.2 (hkx L)
    have hfal := fst_len simS k m alts[i].body
    have han : alts[i].names.length < 4294967296 := by have := Al.names_lt (kd := kd) (nm := nm) (nn := nn) (op := op) (names := names) (subs := subs) (binds := binds) hlt; omega
    have hal : altF (fstF simS k m) nm F alts[i] = untilF ((fstF simS k m alts[i].body).filter fun n => !(decide (n = nm) || decide (n ∈ F))) alts[i].names := rfl
    rw [hal] at hcs
    have hcw := comA_len (f := fstF simS k m) (nm := nm) (out := F) (B := 4294967295) (alts.take i) (fun a ha => by
      have h1 := fst_len simS k m a.body
      have h2 := (hpw a.body (List.mem_append_right _ (List.mem_append_right _ (List.mem_map.2 ⟨a, List.mem_of_mem_take ha, rfl⟩)))).2
      omega)
    generalize hF2 : fstF simS k m alts[i].body = F2 at *
    have hlen2 := untilF_len (F2.filter fun n => !(decide (n = nm) || decide (n ∈ F))) alts[i].names
    have hfl2 : (F2.filter fun n => !(decide (n = nm) || decide (n ∈ F))).length ≤ F2.length := List.length_filter_le ..
    generalize hc0 : comA (fstF simS k m) nm F (alts.take i) = c at *
    have X := And.intro noX hkx
    (refine run ?_; repeat' (first | with_reducible exact trivial | ((with_reducible apply Fork.mk) <;> intro hb) | with_reducible apply Two.mk))
    refine xcallS (hfa _) ?_
    rintro r H' ⟨j1, rfl, rfl⟩
    simp only [List.append_assoc, List.cons_append, List.nil_append, List.length_append, List.length_cons, List.length_nil, List.length_set, X, Nat.reduceAdd]
    (refine run ?_; repeat' (first | with_reducible exact trivial | ((with_reducible apply Fork.mk) <;> intro hb) | with_reducible apply Two.mk))
    refine xcallS (delete_ok G hG (.fn (.func 118) [] [.ptr H.length 0 0 0, .ptr (H.length + 2) 0 0 0]) (fun n => decide (n = nm) || decide (n ∈ F)) F2 j1 _ (H.length + 4) 0 (by simp) (by omega) (by simp [SV.under, SV.underL]) (fun n vs => ACallV.of (first := []) (args := [.str n]) (cap := [.ptr H.length 0 0 0, .ptr (H.length + 2) 0 0 0])
      (choice1_ok G hG (kd := kd) (nn := nn) (op := op) (names := names) (subs := subs) (binds := binds) (alts := alts) F j0 (by omega) n _ H.length (H.length + 2) (H.length + 1) 0 (by simp [set_app]) (by simp [set_app]) (by simp [set_app])))) ?_
    rintro r H' ⟨j2, rfl, rfl⟩
    simp only [set_app, List.set_cons_succ, List.set_cons_zero]
    (refine run ?_; repeat' (first | with_reducible exact trivial | ((with_reducible apply Fork.mk) <;> intro hb) | with_reducible apply Two.mk))
    generalize hfilt : F2.filter (fun n => !(decide (n = nm) || decide (n ∈ F))) = fl at *
    refine xcallS (until_ok G hG fl j2 alts[i].names _ (H.length + 4) 0 (by simp) (by omega) (by omega)) ?_
    rintro r H' ⟨rfl, rfl⟩
    have htk : ((fl ++ j2).map SV.str).take (untilF fl alts[i].names).length = (untilF fl alts[i].names).map SV.str := by
      rw [← List.map_take, List.take_append_of_le_length hlen2, untilF_pre]
    have hul : (untilF fl alts[i].names).length ≤ (fl ++ j2).length := by rw [List.length_append]; omega
    generalize hu : untilF fl alts[i].names = u at *
    (refine runC ?_; repeat' (first | with_reducible exact trivial | ((with_reducible apply Fork.mk) <;> intro hb) | with_reducible apply Two.mk))
    refine go_trunc (t := 9) (id := H.length + 4) (by rw [get_app]; rfl) rfl (by simpa using hul) ?_
    simp only [Nat.zero_add, htk, set_app, List.set_cons_succ, List.set_cons_zero]
    refine go_cut (fun _ : Unit => [(0, .map kb), (3, .ptr H.length 0 0 0), (5, .ptr (H.length + 2) 0 0 0), (6, .list 1 ((if i = 0 then u else c).map .str)), (9, .list 1 (u.map .str)), (25, .list 12 (alCells alts)), (26, .int .i64 alts.length), (27, .int .i64 i)]) (fun _ => H ++ [.cells 0 8 [.agg [.int .i64 kd, .str nm, .int .i64 nn, .int .i64 op, .list 1 (names.map .str), .list 8 (exCells subs), .list 9 (bdCells binds), .list 12 (alCells alts)]], .cells 0 1 ((F ++ j0).map .str), .cells 0 1 [.sl (H.length + 1) 0 0 F.length]]) (fun _ => True) (fun K2 hK2 => ?_) (fun _ _ => ?_)
    · have X := noX
      (refine run ?_; repeat' (first | with_reducible exact trivial | ((with_reducible apply Fork.mk) <;> intro hb) | with_reducible apply Two.mk))
      · refine hK2 _ _ () trivial ?_
        rw [if_pos (by omega)]
        exact wkS (n0 := H.length) [(H.length, 0), (H.length + 1, 0), (H.length + 2, 0)] hG hB hC' hcl
      · refine hK2 _ _ () trivial ?_
        rw [if_neg (by omega)]
        exact wkS (n0 := H.length) [(H.length, 0), (H.length + 1, 0), (H.length + 2, 0)] hG hB hC' hcl
    have hcl2 : (if i = 0 then u else c).length < 4294967296 := by
      split
      · omega
      · omega
    generalize (if i = 0 then u else c) = c1 at *
    have X := noX
    (refine run ?_; repeat' (first | with_reducible exact trivial | ((with_reducible apply Fork.mk) <;> intro hb) | with_reducible apply Two.mk))
    refine go_loop (fun n : Nat => [(0, .map kb), (3, .ptr H.length 0 0 0), (5, .ptr (H.length + 2) 0 0 0), (6, .list 1 (c1.map .str)), (9, .list 1 (u.map .str)), (10, .int .i64 n), (25, .list 12 (alCells alts)), (26, .int .i64 alts.length), (27, .int .i64 i)]) (fun _ => H ++ [.cells 0 8 [.agg [.int .i64 kd, .str nm, .int .i64 nn, .int .i64 op, .list 1 (names.map .str), .list 8 (exCells subs), .list 9 (bdCells binds), .list 12 (alCells alts)]], .cells 0 1 ((F ++ j0).map .str), .cells 0 1 [.sl (H.length + 1) 0 0 F.length]]) (fun n => c1.length - n) (fun n => n ≤ c1.length ∧ n ≤ u.length ∧ c1.take n = u.take n) 0 ⟨Nat.zero_le _, Nat.zero_le _, rfl⟩ ?_ ?_
    · exact wkS (n0 := H.length) [(H.length, 0), (H.length + 1, 0), (H.length + 2, 0)] hG hB hC' hcl
    rintro K2 n ⟨hn1, hn2, hnt⟩ hK2
    have hmm : IntKind.i64.min ≤ (u.length : Int) ∧ (u.length : Int) ≤ IntKind.i64.max := ⟨by show (-9223372036854775808 : Int) ≤ _; omega, by show _ ≤ (9223372036854775807 : Int); omega⟩
    by_cases hb1 : n < c1.length ∧ n < u.length
    · have hmin : (n : Int) < (if (u.length : Int) < (c1.length : Int) then (u.length : Int) else (c1.length : Int)) := by split <;> omega
      have g1 : (c1.map SV.str)[n]? = some (.str c1[n]) := by simp [hb1.1]
      have g2 : (u.map SV.str)[n]? = some (.str u[n]) := by simp [hb1.2]
      have X := And.intro noX (And.intro hmm (And.intro hmin (And.intro g1 g2)))
      (refine run ?_; repeat' (first | with_reducible exact trivial | ((with_reducible apply Fork.mk) <;> intro hb) | with_reducible apply Two.mk))
      · have he : c1[n] = u[n] := by simpa using hb
        refine hK2 _ _ (n + 1) (by omega) ⟨by omega, by omega, by rw [List.take_succ_eq_append_getElem hb1.1, List.take_succ_eq_append_getElem hb1.2, hnt, he]⟩ ?_
        exact wkS (n0 := H.length) [(H.length, 0), (H.length + 1, 0), (H.length + 2, 0)] hG hB hC' hcl
      · have he : ¬ c1[n] = u[n] := by simpa using hb
        have hlc := lcp_take c1 u n hnt hn1 hn2 (fun _ _ => he)
        refine hK _ _ (i + 1) (by omega) (by omega) ?_
        rw [hcs, hlc, Nat.sub_zero, ← List.map_take]
        exact wkS (n0 := H.length) [(H.length, 0), (H.length + 1, 0), (H.length + 2, 0)] hG hB hC' hcl
    · have hmin : ¬ (n : Int) < (if (u.length : Int) < (c1.length : Int) then (u.length : Int) else (c1.length : Int)) := by split <;> omega
      have X := And.intro noX (And.intro hmm hmin)
      (refine run ?_; repeat' (first | with_reducible exact trivial | ((with_reducible apply Fork.mk) <;> intro hb) | with_reducible apply Two.mk))
      have hlc := lcp_take c1 u n hnt hn1 hn2 (fun q1 q2 => absurd ⟨q1, q2⟩ hb1)
      refine hK _ _ (i + 1) (by omega) (by omega) ?_
      rw [hcs, hlc, Nat.sub_zero, ← List.map_take]
      exact wkS (n0 := H.length) [(H.length, 0), (H.length + 1, 0), (H.length + 2, 0)] hG hB hC' hcl
  obtain rfl : i = alts.length := by omega
  clear hK
  rw [List.take_length]
  have hcw := comA_len (f := fstF simS k m) (nm := nm) (out := F) (B := 4294967295) alts (fun a ha => by
    have h1 := fst_len simS k m a.body
    have h2 := (hpw a.body (List.mem_append_right _ (List.mem_append_right _ (List.mem_map.2 ⟨a, ha, rfl⟩)))).2
    omega)
  generalize comA (fstF simS k m) nm F alts = c at *
  have X := And.intro noX (Int.lt_irrefl (alts.length : Int))
  (refine run ?_; repeat' (first | with_reducible exact trivial | ((with_reducible apply Fork.mk) <;> intro hb) | with_reducible apply Two.mk))
  refine callS (join_ok G hG F j0 c _ (H.length + 1) 0 (by simp) (by omega)) ?_
  rintro r H' ⟨g', rfl, rfl⟩
  simp only [set_app, List.set_cons_succ, List.set_cons_zero]
  generalize joinF F c = J at *
  (refine run ?_; repeat' (first | with_reducible exact trivial | ((with_reducible apply Fork.mk) <;> intro hb) | with_reducible apply Two.mk))
  exact finK [(H.length + 1, 0)] (.sl H.length 0 0 J.length) [.cells 0 1 (J.map .str)] hR hC' hcl ⟨[], by rw [List.append_nil], rfl⟩
end Go.Proofs.YtehfihnfeakmaaaGreatDoor
end

section
namespace Go.Proofs.YtehfihnfeakmaaaGreatDoor
open Go
section
variable {P : Program} {G : Gl} {T : Tab} {own : List Nat} {nt B : Nat} {ρ : Option Nat} {C : Cx} {rs : List ResultVar} {R : SV → List Blk → Prop} {env env2 : Env} {H X KB : List Blk} {k : List It}
theorem frzG {p : Prop} (h : p := by repeat' (first | exact FrzL.nil | (refine FrzL.cons _ _ _ _ ?_ ?_) | (apply Frz.same; exact undS) | (apply Frz.ks 3 rfl; (· exact hbS); (· omega); (· omega); (· omega); (· omega)) | (apply Frz.ks 4 rfl; (· exact hbS); (· omega); (· omega); (· omega); (· omega)) | (apply Frz.ks 5 rfl; (· exact hbS); (· omega); (· omega); (· omega); (· omega)) | (apply Frz.ks 6 rfl; (· exact hbS); (· omega); (· omega); (· omega); (· omega)) | (apply Frz.ks 7 rfl; (· exact hbS); (· omega); (· omega); (· omega); (· omega)) | fail)) : p := h
theorem wkF (ks : Keep) {n0 : Nat} (hG : GClosed G) (hB : Based G C.H.length) (hC : C.H.length = n0) (hcl : closed H) (hn : H.length = n0 := by first | rfl | (simp; done) | exact hlen _)
    (hk : KeepB (H ++ X) n0 ks ks KB := by
      repeat' (first | exact KeepB.nil | (apply KeepB.c; (· exact hbS); (· omega); (· first | omega | (simp <;> omega)); (· first | (apply FrzL.same; exact undS) | (refine FrzL.cons _ _ _ _ ?_ FrzL.nil; apply Frz.agg; exact frzG) | exact frzLS)) | exact frzS))
    (hd : (ks.map (·.1)).Nodup := by first | rfl | decide | simp)
    (he : subEnvF (H ++ X) n0 ks env2 env := by
      repeat' (first | exact True.intro | (refine And.intro ⟨_, rfl, ?_⟩ ?_) | (apply Frz.fn; (· exact frzLS); (· exact frzLS)) | (apply Frz.kp 5 rfl; (· exact hbS); (· omega); (· omega); (· omega)) | (apply Frz.kp 6 rfl; (· exact hbS); (· omega); (· omega); (· omega)) | (apply Frz.kp 7 rfl; (· exact hbS); (· omega); (· omega); (· omega)) | exact frzS)) : Wk G nt C ⟨env, H ++ X⟩ ⟨env2, H ++ KB⟩ := Wk.keepN ks hG hB hn hC hcl hk hd he
end
end Go.Proofs.YtehfihnfeakmaaaGreatDoor
end

section
namespace Go.Proofs.YtehfihnfeakmaaaGreatDoor
open Go
set_option maxRecDepth 10000
set_option maxHeartbeats 4000000
theorem exCells_take (l : List Ex) (n : Nat) : (exCells l).take n = exCells (l.take n) := by simp [exCells_map, List.map_take]
theorem exCells_snoc2 (l : List Ex) (x : Ex) : exCells l ++ [.agg x.cells] = exCells (l ++ [x]) := by simp [exCells_map]; rfl
def argA (subs : List Ex) (l : List Int) : List Ex := l.map fun n => subs.getD (n.toNat + 1) noEx
theorem argA_snoc (subs : List Ex) (l : List Int) (n : Int) : argA subs (l ++ [n]) = argA subs l ++ [subs.getD (n.toNat + 1) noEx] := by simp [argA]
theorem first_ok (G : Gl) (hG : GClosed G) (k : List Od) (hkn : ∀ s, (getOd k s).nums.length < 4294967296) : ∀ m, FstC G k m
  | 0, e, kb, H, h, _, _ => absurd e.wt_pos (by omega)
  | m + 1, e, kb, H, hm, hw0, hkb => by
    have hrec := first_ok G hG k hkn m
    obtain ⟨kd, nm, nn, op, names, subs, binds, alts⟩ := e
    have lk := (List.getElem?_eq_some_iff.1 hkb).1
    have hkx := fun L => (show (H ++ L)[kb]? = some (.map none (esD k)) by rw [get_old lk]; exact hkb)
    have hle := Ex.wt_lens kd nm nn op names subs binds alts
    by_cases h1 : kd = 1
    · have ef : fstF simS k (m + 1) (.mk kd nm nn op names subs binds alts) = [nm] := if_pos h1
      rw [ef]
      refine ACall.of_go TB [4, 18] tabOK _ Tryz.func27 rfl (by decide) Tryz.ntmps27 (by simp) rfl (by simp only [initEnv, Nat.reduceAdd]; rfl) fun C R' hR hC hcl hB => ?_; have X := noX; have hC' := congrArg List.length hC
      (refine runC ?_; repeat' (first | with_reducible exact trivial | ((with_reducible apply Fork.mk) <;> intro hb) | with_reducible apply Two.mk))
      refine go_condDT rfl h1 ?_
      (refine run ?_; repeat' (first | with_reducible exact trivial | ((with_reducible apply Fork.mk) <;> intro hb) | with_reducible apply Two.mk))
      exact finK [(H.length + 2, 0)] (.sl H.length 0 0 1) [.cells 0 1 [.str nm]] hR hC' hcl ⟨[], rfl, rfl⟩
    rcases subs with _ | ⟨s, rs⟩
    · have ef : fstF simS k (m + 1) (.mk kd nm nn op names [] binds alts) = [] := if_neg h1
      rw [ef]
      refine ACall.of_go TB [4] tabOK _ Tryz.func27 rfl (by decide) Tryz.ntmps27 (by simp) rfl (by simp only [initEnv, Nat.reduceAdd]; rfl) fun C R' hR hC hcl hB => ?_; have X := noX; have hC' := congrArg List.length hC
      (refine runC ?_; repeat' (first | with_reducible exact trivial | ((with_reducible apply Fork.mk) <;> intro hb) | with_reducible apply Two.mk))
      refine go_condDF rfl h1 ?_
      (refine run ?_; repeat' (first | with_reducible exact trivial | ((with_reducible apply Fork.mk) <;> intro hb) | with_reducible apply Two.mk))
      exact finK [(H.length + 2, 0)] (.sl H.length 0 0 0) [.cells 0 1 []] hR hC' hcl ⟨[], rfl, rfl⟩
    have ef : fstF simS k (m + 1) (.mk kd nm nn op names (s :: rs) binds alts) = if kd = 8 then (if 0 < rs.length ∧ 1 ≤ op ∧ op ≤ 8 then rowF (fstF simS k m) simS [] ((s :: rs).take 2) else fstF simS k m s)
      else if kd = 4 then (if (callO k (.mk kd nm nn op names (s :: rs) binds alts)).2 then rowF (fstF simS k m) simS [] (argsF (s :: rs) (callO k (.mk kd nm nn op names (s :: rs) binds alts)).1.nums) else fstF simS k m s)
      else if kd = 5 then untilF (fstF simS k m s) (binds.map Bd.name) else if kd = 6 then chcF (fstF simS k m) simS nm s alts else [] := if_neg h1
    have hpw : ∀ p ∈ (Ex.mk kd nm nn op names (s :: rs) binds alts).parts, p.wt ≤ m ∧ p.wt < 4294967296 := fun p hp => by have := Ex.wt_parts hp; exact ⟨by omega, by omega⟩
    have hpt := Ex.parts_mk kd nm nn op names (s :: rs) binds alts
    have hvl := vrs_len (m + 1) (.mk kd nm nn op names (s :: rs) binds alts)
    have hvs : ∀ x ∈ s :: rs, ∀ t ∈ fstF simS k m x, t ∈ vrsF (m + 1) (.mk kd nm nn op names (s :: rs) binds alts) := fun x hx t ht => vrs_part (by rw [hpt]; exact List.mem_append_left _ hx) (fst_vrs _ _ _ _ _ ht)
    have hsw : ∀ x ∈ s :: rs, x.wt ≤ m ∧ x.wt < 4294967296 := fun x hx => hpw x (by rw [hpt]; exact List.mem_append_left _ hx)
    have hs := hsw s (List.mem_cons_self ..)
    have hs0 : (s :: rs)[0]? = some s := rfl
    have hlr : (s :: rs).length = rs.length + 1 := rfl
    have hch := fun L => choice_ok G hG k m hrec nm kd nn op names s rs binds alts hm hw0 kb (H ++ L) (hkx L)
    have c1 := fun L => call_ok G hG k kb (H ++ L) (hkx L) (.mk kd nm nn op names (s :: rs) binds alts) hw0
    generalize hE : vrsF (m + 1) (.mk kd nm nn op names (s :: rs) binds alts) = V at *
    generalize hCO : callO k (.mk kd nm nn op names (s :: rs) binds alts) = co at *
    have hnb : co.1.nums.length < 4294967296 := by
      rw [← hCO]
      unfold callO
      simp only [Ex.subs]
      split
      · show ([] : List Int).length < _; simp
      · exact hkn _
    clear hpt
    generalize hS : s :: rs = subs at *
    have hz0 : ¬ (subs.length : Int) = 0 := by omega
    have hfirst := fun L => hrec s kb (H ++ L) hs.1 hs.2 (hkx L)
    rw [ef]
    by_cases h8 : kd = 8
    · rw [if_pos h8]
      by_cases hop : 0 < rs.length ∧ 1 ≤ op ∧ op ≤ 8
      · rw [if_pos hop]
        have q1 : (1 : Int) < (subs.length : Int) := by omega
        have q2 := hop.2.1
        have q3 := hop.2.2
        refine ACall.of_go TB [4] tabOK _ Tryz.func27 rfl (by decide) Tryz.ntmps27 (by simp) rfl (by simp only [initEnv, Nat.reduceAdd]; rfl) fun C R' hR hC hcl hB => ?_; have X := noX; have hC' := congrArg List.length hC
        (refine runC ?_; repeat' (first | with_reducible exact trivial | ((with_reducible apply Fork.mk) <;> intro hb) | with_reducible apply Two.mk))
        refine go_condDF rfl h1 ?_
        have X := And.intro noX (And.intro hkx (And.intro hs0 (And.intro hz0 (And.intro q1 (And.intro q2 (And.intro q3 (exCells_take subs 2)))))))
        (refine run ?_; repeat' (first | with_reducible exact trivial | ((with_reducible apply Fork.mk) <;> intro hb) | with_reducible apply Two.mk))
        refine callS (row_ok G hG k m hrec (subs.take 2) (fun x hx => hsw x (List.mem_of_mem_take hx)) (by rw [List.length_take]; omega) V (by omega) (fun x hx t ht => hvs x (List.mem_of_mem_take hx) t ht) kb _ (hkx _)) ?_
        rintro r H' ⟨rfl, rfl⟩
        simp only [List.append_assoc, List.cons_append, List.nil_append, List.length_append, List.length_cons, List.length_nil, List.length_set, X, Nat.reduceAdd]
        generalize rowF (fstF simS k m) simS [] (subs.take 2) = R at *
        (refine run ?_; repeat' (first | with_reducible exact trivial | ((with_reducible apply Fork.mk) <;> intro hb) | with_reducible apply Two.mk))
        exact finK [(H.length + 2, 0)] (.sl H.length 0 0 R.length) [.cells 0 1 (R.map .str)] hR hC' hcl ⟨[], by rw [List.append_nil], rfl⟩
      · rw [if_neg hop]
        have q : (decide ((1 : Int) < (subs.length : Int)) && decide (1 ≤ op) && decide (op ≤ 8)) = false := by
          rw [Bool.eq_false_iff]
          intro h
          simp only [Bool.and_eq_true, decide_eq_true_eq] at h
          exact hop ⟨by omega, h.1.2, h.2⟩
        refine ACall.of_go TB [4] tabOK _ Tryz.func27 rfl (by decide) Tryz.ntmps27 (by simp) rfl (by simp only [initEnv, Nat.reduceAdd]; rfl) fun C R' hR hC hcl hB => ?_; have X := noX; have hC' := congrArg List.length hC
        (refine runC ?_; repeat' (first | with_reducible exact trivial | ((with_reducible apply Fork.mk) <;> intro hb) | with_reducible apply Two.mk))
        refine go_condDF rfl h1 ?_
        have X := And.intro noX (And.intro hkx (And.intro hs0 hz0))
        (refine run ?_; repeat' (first | with_reducible exact trivial | ((with_reducible apply Fork.mk) <;> intro hb) | with_reducible apply Two.mk))
        · rw [q] at hb; cases hb
        refine callS (hfirst _) ?_
        rintro r H' ⟨j0, rfl, rfl⟩
        simp only [List.append_assoc, List.cons_append, List.nil_append, List.length_append, List.length_cons, List.length_nil, List.length_set, X, Nat.reduceAdd]
        (refine run ?_; repeat' (first | with_reducible exact trivial | ((with_reducible apply Fork.mk) <;> intro hb) | with_reducible apply Two.mk))
        exact finK [(H.length + 2, 0)] (.sl H.length 0 0 (fstF simS k m s).length) [.cells 0 1 ((fstF simS k m s ++ j0).map .str)] hR hC' hcl ⟨j0, rfl, rfl⟩
    rw [if_neg h8]
    by_cases h4 : kd = 4
    · rw [if_pos h4]
      cases hc2 : co.2
      · rw [if_neg Bool.false_ne_true]
        rw [hc2] at c1
        refine ACall.of_go TB [4] tabOK _ Tryz.func27 rfl (by decide) Tryz.ntmps27 (by simp) rfl (by simp only [initEnv, Nat.reduceAdd]; rfl) fun C R' hR hC hcl hB => ?_; have X := noX; have hC' := congrArg List.length hC
        (refine runC ?_; repeat' (first | with_reducible exact trivial | ((with_reducible apply Fork.mk) <;> intro hb) | with_reducible apply Two.mk))
        refine go_condDF rfl h1 ?_
        have X := And.intro noX (And.intro hkx (And.intro hs0 hz0))
        (refine run ?_; repeat' (first | with_reducible exact trivial | ((with_reducible apply Fork.mk) <;> intro hb) | with_reducible apply Two.mk))
        refine callS (hfirst _) ?_
        rintro r H' ⟨j0, rfl, rfl⟩
        simp only [List.append_assoc, List.cons_append, List.nil_append, List.length_append, List.length_cons, List.length_nil, List.length_set, X, Nat.reduceAdd]
        (refine run ?_; repeat' (first | with_reducible exact trivial | ((with_reducible apply Fork.mk) <;> intro hb) | with_reducible apply Two.mk))
        exact finK [(H.length + 3, 0)] (.sl H.length 0 0 (fstF simS k m s).length) [.cells 0 1 ((fstF simS k m s ++ j0).map .str)] hR hC' hcl ⟨j0, rfl, rfl⟩
      rw [if_pos rfl]
      rw [hc2] at c1
      have hcc : co.1.cells = [.str co.1.name, .int .i64 co.1.arity, .list 1 (intL co.1.nums)] := rfl
      rw [hcc] at c1
      have hargs : ∀ i, i ≤ co.1.nums.length → (∀ x ∈ co.1.nums.take i, ¬ (x < 0 ∨ (subs.length : Int) - 1 ≤ x)) → argsF subs co.1.nums = argA subs (co.1.nums.take i) ++ argsF subs (co.1.nums.drop i) := fun i => by
        generalize co.1.nums = ns
        induction i generalizing ns with
        | zero => intro _ _; rfl
        | succ i ih =>
          intro hi hx
          cases ns with
          | nil => simp at hi
          | cons n r =>
            rw [List.take_succ_cons, argsF, if_neg (hx n (by simp)), List.drop_succ_cons, ih r (by simpa using hi) (fun x hxx => hx x (by simp [hxx]))]
            rfl
      have hAm : ∀ i, (∀ x ∈ co.1.nums.take i, ¬ (x < 0 ∨ (subs.length : Int) - 1 ≤ x)) → ∀ x ∈ argA subs (co.1.nums.take i), x ∈ subs := fun i hx x hm => by
        obtain ⟨n, hn, rfl⟩ := List.mem_map.1 hm
        have h := hx n hn
        have hlt : n.toNat + 1 < subs.length := by omega
        rw [List.getD_eq_getElem?_getD, List.getElem?_eq_getElem hlt]
        exact List.getElem_mem hlt
      refine ACall.of_go TB [4, 7] tabOK _ Tryz.func27 rfl (by decide) Tryz.ntmps27 (by simp) rfl (by simp only [initEnv, Nat.reduceAdd]; rfl) fun C R' hR hC hcl hB => ?_; have X := noX; have hC' := congrArg List.length hC
      (refine runC ?_; repeat' (first | with_reducible exact trivial | ((with_reducible apply Fork.mk) <;> intro hb) | with_reducible apply Two.mk))
      refine go_condDF rfl h1 ?_
      have X := And.intro noX (And.intro hkx (And.intro hs0 hz0))
      (refine run ?_; repeat' (first | with_reducible exact trivial | ((with_reducible apply Fork.mk) <;> intro hb) | with_reducible apply Two.mk))
      refine go_loop (fun i : Nat => [(0, .map kb), (3, .ptr H.length 0 0 0), (7, .sl (H.length + 1) 0 0 i), (69, .list 1 (intL co.1.nums)), (70, .int .i64 co.1.nums.length), (71, .int .i64 i)]) (fun i => H ++ [.cells 0 8 [.agg [.int .i64 kd, .str nm, .int .i64 nn, .int .i64 op, .list 1 (names.map .str), .list 8 (exCells subs), .list 9 (bdCells binds), .list 12 (alCells alts)]], .cells 0 8 (exCells (argA subs (co.1.nums.take i)))]) (fun i => co.1.nums.length - i)
        (fun i => i ≤ co.1.nums.length ∧ ∀ x ∈ co.1.nums.take i, ¬ (x < 0 ∨ (subs.length : Int) - 1 ≤ x)) 0 ⟨Nat.zero_le _, by simp⟩ ?_ ?_
      · simp only [List.take_zero, argA, List.map_nil, exCells]
        exact wkS (n0 := H.length) [(H.length, 0), (H.length + 3, 0)] hG hB hC' hcl
      rintro K i ⟨hi, hx⟩ hK
      have hA := hAm i hx
      have hargi := hargs i hi hx
      have hAl : (argA subs (co.1.nums.take i)).length = i := by simp only [argA, List.length_map, List.length_take]; omega
      have hAt : List.take i (exCells (argA subs (co.1.nums.take i))) = exCells (argA subs (co.1.nums.take i)) := List.take_of_length_le (by rw [exCells_len, hAl]; exact Nat.le_refl _)
      have hel : (exCells (argA subs (co.1.nums.take i))).length = i := by rw [exCells_len, hAl]
      have hun : SV.underL H.length (List.take i (exCells (argA subs (co.1.nums.take i)))) = true := by rw [hAt]; exact exCells_under _ _
      rcases Nat.lt_or_ge i co.1.nums.length with hlt | hge
      · have g1 : (intL co.1.nums)[i]? = some (.int .i64 co.1.nums[i]) := by simp [intL, hlt]
        have ht := List.take_succ_eq_append_getElem hlt
        rw [List.drop_eq_getElem_cons hlt, argsF] at hargi
        generalize co.1.nums[i] = n at *
        by_cases hbad : n < 0 ∨ (subs.length : Int) - 1 ≤ n
        · rw [if_pos hbad, List.append_nil] at hargi
          have hend := hargi.symm
          have hbb : (decide (n < 0) || decide ((subs.length : Int) - 1 ≤ n)) = true := by
            rw [Bool.or_eq_true, decide_eq_true_eq, decide_eq_true_eq]; exact hbad
          rcases hbad with hneg | hbig
          · have X := And.intro noX (And.intro hkx (And.intro g1 hneg))
            (refine runC ?_; repeat' (first | with_reducible exact trivial | ((with_reducible apply Fork.mk) <;> intro hb) | with_reducible apply Two.mk))
            refine go_condDT rfl (by omega) ?_
            (refine runC ?_; repeat' (first | with_reducible exact trivial | ((with_reducible apply Fork.mk) <;> intro hb) | with_reducible apply Two.mk))
            refine go_condT (by first | rfl | (simp [look, pk]; done)) ?_
            refine go_wkC [(0, .map kb), (3, .ptr H.length 0 0 0), (7, .list 8 (List.take i (exCells (argA subs (co.1.nums.take i)))))] (H ++ [.cells 0 8 [.agg [.int .i64 kd, .str nm, .int .i64 nn, .int .i64 op, .list 1 (names.map .str), .list 8 (exCells subs), .list 9 (bdCells binds), .list 12 (alCells alts)]]]) (wkS (n0 := H.length) [(H.length, 0)] hG hB hC' hcl) ?_
            rw [hAt]
            have X := And.intro noX hkx
            (refine run ?_; repeat' (first | with_reducible exact trivial | ((with_reducible apply Fork.mk) <;> intro hb) | with_reducible apply Two.mk))
            refine callS (row_ok G hG k m hrec (argA subs (co.1.nums.take i)) (fun x hx => hsw x (hA x hx)) (by rw [hAl]; omega) V (by omega) (fun x hx t ht => hvs x (hA x hx) t ht) kb _ (hkx _)) ?_
            rintro r H' ⟨rfl, rfl⟩
            simp only [List.append_assoc, List.cons_append, List.nil_append, List.length_append, List.length_cons, List.length_nil, List.length_set, X, Nat.reduceAdd]
            rw [hend]
            generalize rowF (fstF simS k m) simS [] (argsF subs co.1.nums) = R at *
            (refine run ?_; repeat' (first | with_reducible exact trivial | ((with_reducible apply Fork.mk) <;> intro hb) | with_reducible apply Two.mk))
            exact finK [(H.length + 1, 0)] (.sl H.length 0 0 R.length) [.cells 0 1 (R.map .str)] hR hC' hcl ⟨[], by rw [List.append_nil], rfl⟩
          · by_cases hneg : n < 0
            · exfalso; omega
            have X := And.intro noX (And.intro hkx (And.intro g1 (And.intro hneg hbig)))
            (refine runC ?_; repeat' (first | with_reducible exact trivial | ((with_reducible apply Fork.mk) <;> intro hb) | with_reducible apply Two.mk))
            refine go_condDT rfl (by omega) ?_
            (refine runC ?_; repeat' (first | with_reducible exact trivial | ((with_reducible apply Fork.mk) <;> intro hb) | with_reducible apply Two.mk))
            refine go_condT (by first | rfl | (simp [look, pk]; done)) ?_
            refine go_wkC [(0, .map kb), (3, .ptr H.length 0 0 0), (7, .list 8 (List.take i (exCells (argA subs (co.1.nums.take i)))))] (H ++ [.cells 0 8 [.agg [.int .i64 kd, .str nm, .int .i64 nn, .int .i64 op, .list 1 (names.map .str), .list 8 (exCells subs), .list 9 (bdCells binds), .list 12 (alCells alts)]]]) (wkS (n0 := H.length) [(H.length, 0)] hG hB hC' hcl) ?_
            rw [hAt]
            have X := And.intro noX hkx
            (refine run ?_; repeat' (first | with_reducible exact trivial | ((with_reducible apply Fork.mk) <;> intro hb) | with_reducible apply Two.mk))
            refine callS (row_ok G hG k m hrec (argA subs (co.1.nums.take i)) (fun x hx => hsw x (hA x hx)) (by rw [hAl]; omega) V (by omega) (fun x hx t ht => hvs x (hA x hx) t ht) kb _ (hkx _)) ?_
            rintro r H' ⟨rfl, rfl⟩
            simp only [List.append_assoc, List.cons_append, List.nil_append, List.length_append, List.length_cons, List.length_nil, List.length_set, X, Nat.reduceAdd]
            rw [hend]
            generalize rowF (fstF simS k m) simS [] (argsF subs co.1.nums) = R at *
            (refine run ?_; repeat' (first | with_reducible exact trivial | ((with_reducible apply Fork.mk) <;> intro hb) | with_reducible apply Two.mk))
            exact finK [(H.length + 1, 0)] (.sl H.length 0 0 R.length) [.cells 0 1 (R.map .str)] hR hC' hcl ⟨[], by rw [List.append_nil], rfl⟩
        · have hneg : ¬ n < 0 := fun h => hbad (.inl h)
          have hbig : ¬ (subs.length : Int) - 1 ≤ n := fun h => hbad (.inr h)
          have hnn : (n + 1).toNat = n.toNat + 1 := by omega
          have hlt2 : n.toNat + 1 < subs.length := by omega
          have hg2 : subs[n.toNat + 1]? = some subs[n.toNat + 1] := List.getElem?_eq_getElem hlt2
          have hsn : argA subs (co.1.nums.take (i + 1)) = argA subs (co.1.nums.take i) ++ [subs[n.toNat + 1]] := by
            rw [ht, argA_snoc, List.getD_eq_getElem?_getD, hg2]; rfl
          have hec := exCells_snoc2 (argA subs (co.1.nums.take i)) subs[n.toNat + 1]
          rw [← hsn] at hec
          generalize subs[n.toNat + 1] = x at *
          have X := And.intro noX (And.intro hkx (And.intro g1 (And.intro hneg (And.intro hbig (And.intro hnn (And.intro hg2 (And.intro hec (And.intro hel hAl))))))))
          (refine runC ?_; repeat' (first | with_reducible exact trivial | ((with_reducible apply Fork.mk) <;> intro hb) | with_reducible apply Two.mk))
          refine go_condDT rfl (by omega) ?_
          (refine runC ?_; repeat' (first | with_reducible exact trivial | ((with_reducible apply Fork.mk) <;> intro hb) | with_reducible apply Two.mk))
          refine go_condF (by first | rfl | (simp [look, pk]; done)) ?_
          (refine run ?_; repeat' (first | with_reducible exact trivial | ((with_reducible apply Fork.mk) <;> intro hb) | with_reducible apply Two.mk))
          refine hK _ _ (i + 1) (by omega) ⟨by omega, fun y hy => ?_⟩ ?_
          · rw [ht] at hy
            rcases List.mem_append.1 hy with hy | hy
            · exact hx y hy
            · rw [List.mem_singleton.1 hy]; exact hbad
          · exact wkS (n0 := H.length) [(H.length, 0), (H.length + 1, 0)] hG hB hC' hcl
      · obtain hil : i = co.1.nums.length := by omega
        have hend : argA subs (co.1.nums.take i) = argsF subs co.1.nums := by rw [hargi, hil, List.drop_length]; simp [argsF]
        clear hK
        have X := And.intro noX hkx
        (refine runC ?_; repeat' (first | with_reducible exact trivial | ((with_reducible apply Fork.mk) <;> intro hb) | with_reducible apply Two.mk))
        refine go_condDF rfl (by omega) ?_
        refine go_wkC [(0, .map kb), (3, .ptr H.length 0 0 0), (7, .list 8 (List.take i (exCells (argA subs (co.1.nums.take i)))))] (H ++ [.cells 0 8 [.agg [.int .i64 kd, .str nm, .int .i64 nn, .int .i64 op, .list 1 (names.map .str), .list 8 (exCells subs), .list 9 (bdCells binds), .list 12 (alCells alts)]]]) (wkS (n0 := H.length) [(H.length, 0)] hG hB hC' hcl) ?_
        rw [hAt]
        have X := And.intro noX hkx
        (refine run ?_; repeat' (first | with_reducible exact trivial | ((with_reducible apply Fork.mk) <;> intro hb) | with_reducible apply Two.mk))
        refine callS (row_ok G hG k m hrec (argA subs (co.1.nums.take i)) (fun x hx => hsw x (hA x hx)) (by rw [hAl]; omega) V (by omega) (fun x hx t ht => hvs x (hA x hx) t ht) kb _ (hkx _)) ?_
        rintro r H' ⟨rfl, rfl⟩
        simp only [List.append_assoc, List.cons_append, List.nil_append, List.length_append, List.length_cons, List.length_nil, List.length_set, X, Nat.reduceAdd]
        rw [hend]
        generalize rowF (fstF simS k m) simS [] (argsF subs co.1.nums) = R at *
        (refine run ?_; repeat' (first | with_reducible exact trivial | ((with_reducible apply Fork.mk) <;> intro hb) | with_reducible apply Two.mk))
        exact finK [(H.length + 1, 0)] (.sl H.length 0 0 R.length) [.cells 0 1 (R.map .str)] hR hC' hcl ⟨[], by rw [List.append_nil], rfl⟩
    rw [if_neg h4]
    by_cases h5 : kd = 5
    · rw [if_pos h5]
      have hnl : ∀ i, i ≤ binds.length → ((((binds.take i).map Bd.name).map SV.str)).length = i := fun i hi => by simp only [List.length_map, List.length_take]; omega
      have hut := hsw
      refine ACall.of_go TB [4, 10] tabOK _ Tryz.func27 rfl (by decide) Tryz.ntmps27 (by simp) rfl (by simp only [initEnv, Nat.reduceAdd]; rfl) fun C R' hR hC hcl hB => ?_; have X := noX; have hC' := congrArg List.length hC
      (refine runC ?_; repeat' (first | with_reducible exact trivial | ((with_reducible apply Fork.mk) <;> intro hb) | with_reducible apply Two.mk))
      refine go_condDF rfl h1 ?_
      have X := And.intro noX (And.intro hkx (And.intro hs0 hz0))
      (refine run ?_; repeat' (first | with_reducible exact trivial | ((with_reducible apply Fork.mk) <;> intro hb) | with_reducible apply Two.mk))
      refine go_loop (fun i : Nat => [(0, .map kb), (3, .ptr H.length 0 0 0), (10, .sl (H.length + 1) 0 0 i), (101, .list 9 (bdCells binds)), (102, .int .i64 binds.length), (103, .int .i64 i)]) (fun i => H ++ [.cells 0 8 [.agg [.int .i64 kd, .str nm, .int .i64 nn, .int .i64 op, .list 1 (names.map .str), .list 8 (exCells subs), .list 9 (bdCells binds), .list 12 (alCells alts)]], .cells 0 1 (((binds.take i).map Bd.name).map SV.str)]) (fun i => binds.length - i) (fun i => i ≤ binds.length) 0 (Nat.zero_le _) ?_ ?_
      · simp only [List.take_zero, List.map_nil]
        exact wkS (n0 := H.length) [(H.length, 0), (H.length + 2, 0)] hG hB hC' hcl
      rintro K i hi hK
      have hni := hnl i hi
      rcases Nat.lt_or_ge i binds.length with hlt | hge
      · have ht := List.take_succ_eq_append_getElem hlt
        have hsn : ((binds.take i).map Bd.name).map SV.str ++ [SV.str binds[i].name] = ((binds.take (i + 1)).map Bd.name).map SV.str := by rw [ht, List.map_append, List.map_append]; rfl
        have X := And.intro noX (And.intro hkx (And.intro hni hsn))
        (refine run ?_; repeat' (first | with_reducible exact trivial | ((with_reducible apply Fork.mk) <;> intro hb) | with_reducible apply Two.mk))
        refine hK _ _ (i + 1) (by omega) (by omega) ?_
        exact wkS (n0 := H.length) [(H.length, 0), (H.length + 1, 0)] hG hB hC' hcl
      · have hil : i = binds.length := by omega
        clear hK
        have hAt : List.take i (((binds.take i).map Bd.name).map SV.str) = (binds.map Bd.name).map SV.str := by rw [List.take_of_length_le (by omega), hil, List.take_length]
        have hun : SV.underL H.length (List.take i (((binds.take i).map Bd.name).map SV.str)) = true := by rw [hAt]; exact strs_under _ _
        have X := And.intro noX hkx
        (refine runC ?_; repeat' (first | with_reducible exact trivial | ((with_reducible apply Fork.mk) <;> intro hb) | with_reducible apply Two.mk))
        refine go_condDF rfl (by omega) ?_
        refine go_wkC [(0, .map kb), (3, .ptr H.length 0 0 0), (10, .list 1 (List.take i (((binds.take i).map Bd.name).map SV.str)))] (H ++ [.cells 0 8 [.agg [.int .i64 kd, .str nm, .int .i64 nn, .int .i64 op, .list 1 (names.map .str), .list 8 (exCells subs), .list 9 (bdCells binds), .list 12 (alCells alts)]]]) (wkS (n0 := H.length) [(H.length, 0)] hG hB hC' hcl) ?_
        rw [hAt]
        have X := And.intro noX (And.intro hkx (And.intro hs0 hz0))
        (refine run ?_; repeat' (first | with_reducible exact trivial | ((with_reducible apply Fork.mk) <;> intro hb) | with_reducible apply Two.mk))
        refine callS (hfirst _) ?_
        rintro r H' ⟨j0, rfl, rfl⟩
        simp only [List.append_assoc, List.cons_append, List.nil_append, List.length_append, List.length_cons, List.length_nil, List.length_set, X, Nat.reduceAdd]
        (refine run ?_; repeat' (first | with_reducible exact trivial | ((with_reducible apply Fork.mk) <;> intro hb) | with_reducible apply Two.mk))
        have hfl := fst_len simS k m s
        refine callS (until_ok G hG (fstF simS k m s) j0 (binds.map Bd.name) _ (H.length + 1) 0 (by simp) (by omega) (by rw [List.length_map]; omega)) ?_
        rintro r H' ⟨rfl, rfl⟩
        have hj : fstF simS k m s ++ j0 = untilF (fstF simS k m s) (binds.map Bd.name) ++ ((fstF simS k m s).drop (untilF (fstF simS k m s) (binds.map Bd.name)).length ++ j0) := by
          rw [← List.append_assoc]
          congr 1
          conv => lhs; rw [← List.take_append_drop (untilF (fstF simS k m s) (binds.map Bd.name)).length (fstF simS k m s)]
          rw [untilF_pre]
        rw [hj]
        (refine run ?_; repeat' (first | with_reducible exact trivial | ((with_reducible apply Fork.mk) <;> intro hb) | with_reducible apply Two.mk))
        exact finK [(H.length + 1, 0)] (.sl H.length 0 0 (untilF (fstF simS k m s) (binds.map Bd.name)).length) [.cells 0 1 ((untilF (fstF simS k m s) (binds.map Bd.name) ++ ((fstF simS k m s).drop (untilF (fstF simS k m s) (binds.map Bd.name)).length ++ j0)).map .str)] hR hC' hcl ⟨_, rfl, rfl⟩
    rw [if_neg h5]
    by_cases h6 : kd = 6
    · rw [if_pos h6]
      refine ACall.of_go TB [4] tabOK _ Tryz.func27 rfl (by decide) Tryz.ntmps27 (by simp) rfl (by simp only [initEnv, Nat.reduceAdd]; rfl) fun C R' hR hC hcl hB => ?_; have X := noX; have hC' := congrArg List.length hC
      (refine runC ?_; repeat' (first | with_reducible exact trivial | ((with_reducible apply Fork.mk) <;> intro hb) | with_reducible apply Two.mk))
      refine go_condDF rfl h1 ?_
      have X := And.intro noX (And.intro hkx (And.intro hs0 hz0))
      (refine run ?_; repeat' (first | with_reducible exact trivial | ((with_reducible apply Fork.mk) <;> intro hb) | with_reducible apply Two.mk))
      refine callS (hch _) ?_
      rintro r H' ⟨j0, rfl, rfl⟩
      simp only [List.append_assoc, List.cons_append, List.nil_append, List.length_append, List.length_cons, List.length_nil, List.length_set, X, Nat.reduceAdd]
      generalize chcF (fstF simS k m) simS nm s alts = R at *
      (refine run ?_; repeat' (first | with_reducible exact trivial | ((with_reducible apply Fork.mk) <;> intro hb) | with_reducible apply Two.mk))
      exact finK [(H.length + 2, 0)] (.sl H.length 0 0 R.length) [.cells 0 1 ((R ++ j0).map .str)] hR hC' hcl ⟨j0, rfl, rfl⟩
    · rw [if_neg h6]
      refine ACall.of_go TB [4] tabOK _ Tryz.func27 rfl (by decide) Tryz.ntmps27 (by simp) rfl (by simp only [initEnv, Nat.reduceAdd]; rfl) fun C R' hR hC hcl hB => ?_; have X := noX; have hC' := congrArg List.length hC
      (refine runC ?_; repeat' (first | with_reducible exact trivial | ((with_reducible apply Fork.mk) <;> intro hb) | with_reducible apply Two.mk))
      refine go_condDF rfl h1 ?_
      have X := And.intro noX (And.intro hkx (And.intro hs0 hz0))
      (refine run ?_; repeat' (first | with_reducible exact trivial | ((with_reducible apply Fork.mk) <;> intro hb) | with_reducible apply Two.mk))
      exact finK [(H.length + 2, 0)] (.sl H.length 0 0 0) [.cells 0 1 []] hR hC' hcl ⟨[], rfl, rfl⟩
theorem knF_len {l : List Od} {B : Nat} (h : ∀ o ∈ l, o.nums.length < B) (hB : 0 < B) (s : Str) : (getOd l s).nums.length < B := by
  unfold getOd
  induction l with
  | nil => exact hB
  | cons o r ih =>
    rw [findOd]
    split
    · exact h o (List.mem_cons_self ..)
    · exact ih fun x hx => h x (List.mem_cons_of_mem _ hx)
theorem knoF_mem : ∀ (r k : List Od) {o : Od}, o ∈ knoF k r → o ∈ k ∨ o ∈ r
  | [], k, o, h => .inl h
  | x :: r, k, o, h => by
    rw [knoF] at h
    split at h
    · exact (knoF_mem r k h).elim .inl fun h => .inr (List.mem_cons_of_mem _ h)
    · rcases knoF_mem r _ h with h | h
      · rcases List.mem_append.1 h with h | h
        · exact .inl h
        · exact .inr (by rw [List.mem_singleton.1 h]; exact List.mem_cons_self ..)
      · exact .inr (List.mem_cons_of_mem _ h)
end Go.Proofs.YtehfihnfeakmaaaGreatDoor
end

section
namespace Go.Proofs.YtehfihnfeakmaaaGreatDoor
open Go
theorem dedNs_adj (l : List Str) : ∀ m, (dedNs l m).length = m → ∀ i, i + 1 < m → l.getD (i + 1) [] ≠ l.getD i []
  | 0, _, i, h => by omega
  | m + 1, hm, i, h => by
    have h1 := dedNs_le l m
    rw [dedNs] at hm
    split at hm
    · omega
    · rename_i hc
      rw [List.length_append, List.length_singleton] at hm
      rcases Nat.lt_or_ge (i + 1) m with h2 | h2
      · exact dedNs_adj l m (by omega) i h2
      · obtain rfl : m = i + 1 := by omega
        intro he
        exact hc ⟨by omega, by simpa using he⟩
theorem sortS_le (l : List Str) {i j : Nat} (hj : j < (sortS l).length) (hij : i < j) : (sortS l)[i] ≤ (sortS l)[j] := by
  have tr : ∀ a b c : List UInt8, (decide (a ≤ b)) = true → (decide (b ≤ c)) = true → (decide (a ≤ c)) = true := fun a b c h1 h2 => by simp only [decide_eq_true_eq] at *; exact List.le_trans h1 h2
  have to : ∀ a b : List UInt8, (decide (a ≤ b) || decide (b ≤ a)) = true := fun a b => by simp only [Bool.or_eq_true, decide_eq_true_eq]; exact List.le_total a b
  have h1 : (sortS l).Pairwise (fun x y : List UInt8 => (decide (x ≤ y)) = true) := List.pairwise_mergeSort tr to _
  exact of_decide_eq_true (List.pairwise_iff_getElem.1 h1 i j (by omega) hj hij)
theorem sorted_nodup (l : List Str) (h : (dedS (sortS l)).length = l.length) : l.Nodup := by
  have hl : (sortS l).length = l.length := sortS_len _
  rw [dedS, ← hl] at h
  refine (sortS_perm _).nodup_iff.1 (List.pairwise_iff_getElem.2 fun i j hi hj hij he => ?_)
  have hadj := dedNs_adj (sortS l) _ h i (by omega)
  apply hadj
  rw [List.getD_eq_getElem?_getD, List.getD_eq_getElem?_getD, List.getElem?_eq_getElem (show i + 1 < (sortS l).length by omega), List.getElem?_eq_getElem hi]
  simp only [Option.getD_some]
  have h1 := sortS_le l (i := i) (j := i + 1) (by omega) (by omega)
  rcases Nat.lt_or_ge (i + 1) j with h2 | h2
  · have h3 := sortS_le l hj h2
    rw [← he] at h3
    exact List.le_antisymm h3 h1
  · obtain rfl : j = i + 1 := by omega
    exact he.symm
theorem binds_nodup {l : List Bd} (h : (bindersP l).Nodup) : (l.map Bd.name).Nodup := by
  have : (l.map Bd.name).Sublist (bindersP l) := by
    clear h
    induction l with
    | nil => exact List.Sublist.refl _
    | cons b r ih =>
      show (b.name :: r.map Bd.name).Sublist ((b.name :: bnds b.e) ++ bindersP r)
      rw [List.cons_append]
      exact (ih.trans (List.sublist_append_right _ _)).cons_cons _
  exact this.nodup h
structure Lint0 (p : Pg) : Prop where
  shp : ∀ b ∈ p.binds, allS shpC b.e = true
  cons : okCns [] p.cons = true
  names : (bindersP p.binds).Nodup
  scope : ∀ b ∈ p.binds, bndS (topB p.binds) b = true
  know : knoS p.cons = true
  full : ∀ b ∈ p.binds, allS (fulS p.cons) b.e = true
  alts : ∀ b ∈ p.binds, allS (chsS p.cons) b.e = true
theorem lint0 {p : Pg} (h : lintS p = 0) : Lint0 p := by
  unfold lintS at h
  split at h
  · cases h
  split at h
  · cases h
  split at h
  · cases h
  rename_i h3
  split at h
  · cases h
  rename_i h4
  split at h
  · cases h
  rename_i h5
  split at h
  · cases h
  rename_i h6
  split at h
  · cases h
  rename_i h7
  split at h
  · cases h
  rename_i h8
  simp only [Bool.not_eq_true', Bool.not_eq_false, Bool.and_eq_true, List.all_eq_true] at h3 h4 h6 h7 h8
  refine ⟨h3, by simpa using h4, ?_, h6, h7.1, h7.2, h8⟩
  unfold badNames at h5
  simp only [Bool.or_eq_true, not_or, decide_eq_true_eq, Decidable.not_not] at h5
  exact sorted_nodup _ h5.2
theorem lint_lam {p : Pg} (h : lintS p = 0) {b : Bd} (hb : b ∈ p.binds) (hk : b.e.kind = 3) : b.e.subs.length = 1 := by
  have h1 := (lint0 h).shp b hb
  rw [allS_eq, Bool.and_eq_true] at h1
  have h2 := h1.1
  generalize b.e = e at *
  obtain ⟨kd, nm, nn, op, names, subs, binds, alts⟩ := e
  obtain rfl : kd = 3 := hk
  simp only [shpC, Ex.kind, oddS, Bool.and_eq_true] at h2
  simp at h2
  simp only [Ex.subs]
  omega
end Go.Proofs.YtehfihnfeakmaaaGreatDoor
end

section
namespace Go.Proofs.YtehfihnfeakmaaaGreatDoor
open Go
set_option maxRecDepth 10000
set_option maxHeartbeats 4000000
def DepC (G : Gl) (m : Nat) : Prop := ∀ (e : Ex) (H : List Blk), e.wt ≤ m → ACall Tryz.prog G 44 [e.sv] H (fun r H' => H' = H ∧ r = .int .i64 (depF m e))
theorem max_nat (n d : Nat) : (if (n : Int) < (d : Int) then (d : Int) else (n : Int)) = ((max n d : Nat) : Int) := by
  split <;> omega
theorem depth1_ok (G : Gl) (hG : GClosed G) (m : Nat) (hm : m < 4294967296) (hrec : DepC G m) (p : Ex) (H : List Blk) (n nb : Nat) (hp : p.wt ≤ m) (h1 : H[nb]? = some (szC n)) (hn : n < 4294967296) :
    ACall Tryz.prog G 101 [p.sv, .ptr nb 0 0 0] H (fun r H' => H' = H.set nb (szC (max n (depF m p) : Nat)) ∧ r = .bool true) := by
  have hlt : nb < H.length := (List.getElem?_eq_some_iff.1 h1).1
  have hd := depF_le m p
  have c1 := fun H => hrec p H hp
  generalize depF m p = d at *
  refine ACall.of_go TB [] tabOK _ Tryz.func101 rfl (by decide) Tryz.ntmps101 (by simp) rfl (by simp only [initEnv, Nat.reduceAdd]; rfl) fun C R' hR hC hcl hB => ?_; have X := noX; have hC' := congrArg List.length hC
  have X := And.intro h1 (show IntKind.i64.min ≤ (d : Int) ∧ (d : Int) ≤ IntKind.i64.max from ⟨by show (-9223372036854775808 : Int) ≤ _; omega, by show _ ≤ (9223372036854775807 : Int); omega⟩)
  unfold szC at X
  (refine run ?_; repeat' (first | with_reducible exact trivial | ((with_reducible apply Fork.mk) <;> intro hb) | with_reducible apply Two.mk))
  rw [max_nat]
  exact Fin.tellN (n0 := H.length) hR (by simp) hC' (hcl.set rfl) (.same _ rfl) ⟨rfl, rfl⟩
theorem maxL_take (l : List Nat) (i : Nat) (h : i < l.length) : maxL (l.take (i + 1)) = max (maxL (l.take i)) l[i] := by
  rw [List.take_succ_eq_append_getElem h, maxL_app]
theorem depth_ok (G : Gl) (hG : GClosed G) : ∀ m, m < 4294967296 → DepC G m
  | 0, _, e, _, h => absurd e.wt_pos (by omega)
  | m + 1, hm2, e, H, hm => by
    have hrec := depth_ok G hG m (by omega)
    have hmx : ∀ i, maxL ((e.parts.map (depF m)).take i) ≤ m := fun i => maxL_le fun x hx => by
      obtain ⟨p, _, rfl⟩ := List.mem_map.1 (List.mem_of_mem_take hx)
      exact depF_le m p
    refine ACall.of_go TB [] tabOK _ Tryz.func44 rfl (by decide) Tryz.ntmps44 (by simp) rfl (by simp only [initEnv, Nat.reduceAdd]; rfl) fun C R' hR hC hcl hB => ?_; have X := noX; have hC' := congrArg List.length hC
    have heach := each_ok G hG e (by omega) (.fn (.func 101) [] [.ptr (H.length + 1) 0 0 0]) (fun i => H ++ [.cells 0 8 [.agg e.cells], szC (maxL ((e.parts.map (depF m)).take i) : Nat)]) (H.length + 2) (fun i => by simp) (by simp [SV.under, SV.underL])
      (fun h i => by
        have := h.set (id := H.length + 1) (b := szC (maxL ((e.parts.map (depF m)).take i) : Nat)) rfl
        simpa using this) (fun i p X hp => by
        have hpw := Ex.wt_parts (List.mem_of_getElem? hp)
        have hlp := (List.getElem?_eq_some_iff.1 hp)
        have hli : i < (e.parts.map (depF m)).length := by simpa using hlp.1
        have hnx := maxL_take (e.parts.map (depF m)) i hli
        have hget : (e.parts.map (depF m))[i] = depF m p := by simp [hlp.2]
        rw [hget] at hnx
        have hi := hmx i
        refine ACallV.of (first := []) (args := [p.sv]) (cap := [.ptr (H.length + 1) 0 0 0]) ((depth1_ok G hG m (by omega) hrec p _ (maxL ((e.parts.map (depF m)).take i)) (H.length + 1) (by omega) (by simp) (by omega)).mono ?_)
        rintro r H' ⟨rfl, rfl⟩
        refine ⟨?_, rfl⟩
        rw [hnx]
        simp)
    have h0 : maxL ((e.parts.map (depF m)).take 0) = 0 := rfl
    have hall : maxL ((e.parts.map (depF m)).take e.parts.length) = maxL (e.parts.map (depF m)) := by
      rw [List.take_of_length_le (by simp)]
    simp only [szC, h0, hall] at heach
    have hmm := hmx e.parts.length
    rw [hall] at hmm
    unfold depF at hR
    generalize maxL (e.parts.map (depF m)) = d at *
    (refine run ?_; repeat' (first | with_reducible exact trivial | ((with_reducible apply Fork.mk) <;> intro hb) | with_reducible apply Two.mk))
    refine callS heach ?_
    rintro r H' ⟨rfl, rfl⟩
    (refine run ?_; repeat' (first | with_reducible exact trivial | ((with_reducible apply Fork.mk) <;> intro hb) | with_reducible apply Two.mk))
    exact Fin.tellN (n0 := H.length) hR (by simp) hC' hcl (.same _ rfl) ⟨rfl, by simp only [resSV]; rfl⟩
end Go.Proofs.YtehfihnfeakmaaaGreatDoor
end

section
namespace Go.Proofs.YtehfihnfeakmaaaGreatDoor
open Go
set_option maxRecDepth 10000
set_option maxHeartbeats 4000000
theorem clone_sl (G : Gl) (hG : GClosed G) (l : List Str) (H : List Blk) (id g : Nat) (hid : H[id]? = some (.cells g 1 (l.map .str))) (hl : l.length < 1099511627776) :
    ACall Tryz.prog G 57 [.sl id g 0 l.length] H (fun r H' => H' = H ++ [.cells 0 1 (l.map .str)] ∧ r = .sl H.length 0 0 l.length) := by
  have li := (List.getElem?_eq_some_iff.1 hid).1
  have hlm : (l.map SV.str).length = l.length := List.length_map ..
  have ht : List.take l.length (l.map SV.str) = l.map SV.str := List.take_of_length_le (by omega)
  refine ACall.of_go TB [2,5] tabOK _ Tryz.func57 rfl (by decide) Tryz.ntmps57 (by simp) rfl (by simp only [initEnv, Nat.reduceAdd]; rfl) fun C R' hR hC hcl hB => ?_; have X := noX; have hC' := congrArg List.length hC
  have X := And.intro X (And.intro hid (And.intro hlm ht))
  (refine runO ?_; repeat' (first | with_reducible exact trivial | ((with_reducible apply Fork.mk) <;> intro hb) | with_reducible apply Two.mk))
  · obtain rfl : l = [] := List.length_eq_zero_iff.1 hb
    exact finK [(H.length + 1, 0)] (.sl H.length 0 0 0) [.cells 0 1 []] hR hC' hcl ⟨rfl, rfl⟩
  · exact finK [(H.length + 1, 0)] (.sl H.length 0 0 l.length) [.cells 0 1 (l.map .str)] hR hC' hcl ⟨rfl, rfl⟩
theorem top_cnt : ∀ (l : List Bd) (t : List (Str × Int)), (∀ s, 0 ≤ cntB t s ∧ cntB t s ≤ 1) → ∀ s, 0 ≤ cntB (l.foldl (fun t b => setB t b.name 1) t) s ∧ cntB (l.foldl (fun t b => setB t b.name 1) t) s ≤ 1
  | [], t, h => h
  | b :: r, t, h => by
    rw [List.foldl_cons]
    refine top_cnt r _ fun s => ?_
    rw [cnt_set]
    split
    · omega
    · exact h s
theorem topB_cnt (l : List Bd) (s : Str) : 0 ≤ cntB (topB l) s ∧ cntB (topB l) s ≤ 1 := top_cnt l [] (fun s => by simp [cntB]) s
theorem topB_snoc (l : List Bd) (b : Bd) : setSV (esB (topB l)) (.str b.name) (.int .i64 1) = esB (topB (l ++ [b])) := by
  rw [setSV_esB, topB, topB, List.foldl_append]; rfl
theorem sizeP_snoc (l : List Bd) (b : Bd) : sizeP (l ++ [b]) = sizeP l + b.e.size := by simp [sizeP]
theorem depP_snoc (l : List Bd) (b : Bd) : depP (l ++ [b]) = max (depP l) (dep b.e) := by rw [depP, List.map_append, List.map_cons, List.map_nil, maxL_app]; rfl
theorem sizeP_le : ∀ l : List Bd, sizeP l ≤ bdsWt l
  | [] => Nat.le_refl _
  | b :: r => by
    have h1 := sizeP_le r
    have h2 := size_le_wt b.e.wt b.e (Nat.le_refl _)
    have h3 := b.wt_gt
    simp only [sizeP, List.map_cons, List.sum_cons, bdsWt] at *
    omega
theorem bdsWt_take (l : List Bd) (i : Nat) : bdsWt (l.take i) ≤ bdsWt l := by
  induction l generalizing i with
  | nil => simp
  | cons b r ih =>
    cases i with
    | zero => simp [bdsWt]
    | succ i => simp only [List.take_succ_cons, bdsWt]; have := ih i; omega
theorem dep_le (e : Ex) : dep e ≤ e.wt := depF_le _ _
theorem depP_le (l : List Bd) : depP l ≤ bdsWt l := maxL_le fun x hx => by
  obtain ⟨b, hb, rfl⟩ := List.mem_map.1 hx
  have := dep_le b.e
  have := bd_wt hb
  omega
end Go.Proofs.YtehfihnfeakmaaaGreatDoor
end

section
namespace Go.Proofs.YtehfihnfeakmaaaGreatDoor
open Go
set_option maxRecDepth 10000
set_option maxHeartbeats 4000000
theorem lint_ok (G : Gl) (hG : GClosed G) (p : Pg) (H : List Blk) (hw : bdsWt p.binds < 4294967295) (hcn : p.cons.length < 1099511627776) :
    ACall Tryz.prog G 19 [p.sv] H (fun r H' => H' = H ∧ r = .int .i64 (lintS p)) := by
  obtain ⟨cons, binds⟩ := p
  simp only at hw hcn
  rw [show (Pg.mk cons binds).sv = .agg [.list 4 (cnCells cons), .list 9 (bdCells binds)] from rfl]
  have hle := bdsWt_len binds
  have hszl := fun i => Nat.le_trans (sizeP_le (binds.take i)) (bdsWt_take binds i)
  have hdpl := fun i => Nat.le_trans (depP_le (binds.take i)) (bdsWt_take binds i)
  have under_ints := fun n => cnCells_under n cons
  generalize hS : lintS ⟨cons, binds⟩ = S
  refine ACall.of_go TB [] tabOK _ Tryz.func19 rfl (by decide) Tryz.ntmps19 (by simp) rfl (by simp only [initEnv, Nat.reduceAdd]; rfl) fun C R' hR hC hcl hB => ?_; have X := noX; have hC' := congrArg List.length hC
  (refine run ?_; repeat' (first | with_reducible exact trivial | ((with_reducible apply Fork.mk) <;> intro hb) | with_reducible apply Two.mk))
  refine go_loop (fun i : Nat => [(1, .ptr H.length 0 0 0), (2, .int .i64 0), (3, .int .i64 (sizeP (binds.take i) : Int)), (4, .int .i64 (depP (binds.take i) : Int)), (16, .list 9 (bdCells binds)), (17, .int .i64 binds.length), (18, .int .i64 i)])
    (fun i => H ++ [.cells 0 2 [.agg [.list 4 (cnCells cons), .list 9 (bdCells binds)]]]) (fun i => binds.length - i) (fun i => i ≤ binds.length) 0 (Nat.zero_le _) ?_ ?_
  · simp only [List.take_zero, show sizeP [] = 0 from rfl, show depP [] = 0 from rfl]
    exact wkS (n0 := H.length) [(H.length, 0)] hG hB hC' hcl
  rintro K i hi hK
  rcases Nat.lt_or_ge i binds.length with hlt | hge
  · have hpb := bd_wt (List.getElem_mem hlt)
    have hsw := size_le_wt binds[i].e.wt binds[i].e (Nat.le_refl _)
    have c1 := fun H => size_ok G hG binds[i].e H (by omega) (by omega)
    have c2 : ∀ H, ACall Tryz.prog G 44 [binds[i].e.sv] H (fun r H' => H' = H ∧ r = .int .i64 (dep binds[i].e)) := fun H => depth_ok G hG binds[i].e.wt (by omega) binds[i].e H (Nat.le_refl _)
    have hdw := dep_le binds[i].e
    have ht := List.take_succ_eq_append_getElem hlt
    have e1 : sizeP (binds.take (i + 1)) = sizeP (binds.take i) + binds[i].e.size := by rw [ht, sizeP_snoc]
    have e2 : depP (binds.take (i + 1)) = max (depP (binds.take i)) (dep binds[i].e) := by rw [ht, depP_snoc]
    have h1 := hszl i
    have h2 := hszl (i + 1)
    have h3 := hdpl i
    have hmx := max_nat (depP (binds.take i)) (dep binds[i].e)
    generalize binds[i].e.size = sz at *
    generalize sizeP (binds.take i) = s0 at *
    generalize depP (binds.take i) = d0 at *
    generalize dep binds[i].e = d1 at *
    have X := And.intro noX (And.intro hmx (show IntKind.i64.min ≤ (d1 : Int) ∧ (d1 : Int) ≤ IntKind.i64.max from ⟨by show (-9223372036854775808 : Int) ≤ _; omega, by show _ ≤ (9223372036854775807 : Int); omega⟩))
    (refine run ?_; repeat' (first | with_reducible exact trivial | ((with_reducible apply Fork.mk) <;> intro hb) | with_reducible apply Two.mk))
    refine hK _ _ (i + 1) (by omega) (by omega) ?_
    rw [e1, e2]
    exact wkS (n0 := H.length) [(H.length, 0)] hG hB hC' hcl
  obtain rfl : i = binds.length := by omega
  clear hK
  simp only [List.take_length]
  have X := And.intro noX (Int.lt_irrefl (binds.length : Int))
  have hfc : (100000 : Int) < (sizeP binds : Int) ↔ 100000 < sizeP binds := by omega
  have hfd : (1000 : Int) < (depP binds : Int) ↔ 1000 < depP binds := by omega
  (refine run ?_; repeat' (first | with_reducible exact trivial | ((with_reducible apply Fork.mk) <;> intro hb) | with_reducible apply Two.mk))
  · have e : lintS ⟨cons, binds⟩ = 3 := if_pos (hfc.1 hb)
    rw [← hS, e] at hR
    exact finS (n0 := H.length) hR hC' hcl (.same _ rfl) ⟨rfl, rfl⟩
  · have q1 : ¬ (100000 : Int) < (sizeP binds : Int) := by assumption
    have e : lintS ⟨cons, binds⟩ = 4 := (if_neg (fun h => q1 (hfc.2 h))).trans (if_pos (hfd.1 hb))
    rw [← hS, e] at hR
    exact finS (n0 := H.length) hR hC' hcl (.same _ rfl) ⟨rfl, rfl⟩
  have q1 : ¬ 100000 < sizeP binds := fun h => absurd (hfc.2 h) (by assumption)
  have q2 : ¬ 1000 < depP binds := fun h => hb (hfd.2 h)
  clear hfc hfd hb
  refine callS (bindersP_ok G hG cons binds _ (by omega)) ?_
  rintro r H' ⟨rfl, rfl⟩
  simp only [List.append_assoc, List.cons_append, List.nil_append, List.length_append, List.length_cons, List.length_nil, List.length_set, X, Nat.reduceAdd]
  have hbl := bindersP_len binds
  (refine run ?_; repeat' (first | with_reducible exact trivial | ((with_reducible apply Fork.mk) <;> intro hb) | with_reducible apply Two.mk))
  refine callS (sort_strs G (H.length + 4) 0 (bindersP binds) _ (by simp) (by omega)) ?_
  rintro r H' ⟨rfl, rfl⟩
  simp only [set_app, List.set_cons_succ, List.set_cons_zero]
  have hnl : (sortS (bindersP binds)).length = (bindersP binds).length := sortS_len _
  rw [← hnl]
  generalize hNM : sortS (bindersP binds) = nm at *
  (refine run ?_; repeat' (first | with_reducible exact trivial | ((with_reducible apply Fork.mk) <;> intro hb) | with_reducible apply Two.mk))
  refine go_loop (fun i : Nat => [(1, .ptr H.length 0 0 0), (7, .fn (.func 45) [] [.ptr H.length 0 0 0]), (8, .ptr (H.length + 3) 0 0 0), (9, .sl (H.length + 4) 0 0 nm.length), (10, .ptr (H.length + 6) 0 0 0), (49, .list 9 (bdCells binds)), (50, .int .i64 binds.length), (51, .int .i64 i)])
    (fun i => H ++ [.cells 0 2 [.agg [.list 4 (cnCells cons), .list 9 (bdCells binds)]], .map none [], .cells 0 1 [.agg [.map (H.length + 1)]], .cells 0 1 [.ptr (H.length + 2) 0 0 0], .cells 0 1 (nm.map .str), .map none (esB (topB (binds.take i))), .cells 0 1 [.map (H.length + 5)]]) (fun i => binds.length - i) (fun i => i ≤ binds.length) 0 (Nat.zero_le _) ?_ ?_
  · exact wkF (n0 := H.length) [(H.length, 0), (H.length + 1, 0), (H.length + 2, 0), (H.length + 3, 0), (H.length + 4, 0), (H.length + 5, 0), (H.length + 6, 0)] hG hB hC' hcl
  rintro K i hi hK
  rcases Nat.lt_or_ge i binds.length with hlt | hge
  · have ht := List.take_succ_eq_append_getElem hlt
    have hsn := topB_snoc (binds.take i) binds[i]
    rw [← ht] at hsn
    have X := And.intro noX hsn
    (refine run ?_; repeat' (first | with_reducible exact trivial | ((with_reducible apply Fork.mk) <;> intro hb) | with_reducible apply Two.mk))
    refine hK _ _ (i + 1) (by omega) (by omega) ?_
    exact wkF (n0 := H.length) [(H.length, 0), (H.length + 1, 0), (H.length + 2, 0), (H.length + 3, 0), (H.length + 4, 0), (H.length + 5, 0), (H.length + 6, 0)] hG hB hC' hcl
  obtain rfl : i = binds.length := by omega
  clear hK
  simp only [List.take_length]
  have X := And.intro noX (Int.lt_irrefl (binds.length : Int))
  (refine run ?_; repeat' (first | with_reducible exact trivial | ((with_reducible apply Fork.mk) <;> intro hb) | with_reducible apply Two.mk))
  have hwb : ∀ x : Ex, x.wt ≤ bdsWt binds → x.wt < 549755813888 := fun x hx => by omega
  refine callV (ACallV.of (first := []) (args := [.fn (.func 54) [] []]) (cap := [.ptr H.length 0 0 0]) (every_ok G hG 54 [] [] shpC cons binds (by omega) _ H.length (by simp) rfl
    (fun x hx X => ACallV.of (first := []) (args := [x.sv]) (cap := []) (shaped_ok G hG x (hwb x hx) _)))) ?_
  rintro r H' ⟨rfl, rfl⟩
  cases q3 : (binds.all fun b => allS shpC b.e)
  · (refine run ?_; repeat' (first | with_reducible exact trivial | ((with_reducible apply Fork.mk) <;> intro hb) | with_reducible apply Two.mk))
    have e : lintS ⟨cons, binds⟩ = 120 := by unfold lintS; rw [if_neg q1, if_neg q2, if_pos (by rw [q3]; rfl)]
    rw [← hS, e] at hR
    exact finS (n0 := H.length) hR hC' hcl (.same _ rfl) ⟨rfl, rfl⟩
  (refine run ?_; repeat' (first | with_reducible exact trivial | ((with_reducible apply Fork.mk) <;> intro hb) | with_reducible apply Two.mk))
  refine callS (made_ok G hG _ (H.length + 2) (H.length + 1) cons (by simp) (by simp) hcn) ?_
  rintro r H' ⟨l, ⟨rfl, rfl⟩, hl⟩
  simp only [set_app, List.set_cons_succ, List.set_cons_zero]
  cases q4 : okCns [] cons
  · (refine run ?_; repeat' (first | with_reducible exact trivial | ((with_reducible apply Fork.mk) <;> intro hb) | with_reducible apply Two.mk))
    have e : lintS ⟨cons, binds⟩ = 121 := by unfold lintS; rw [if_neg q1, if_neg q2, if_neg (by rw [q3]; exact Bool.false_ne_true), if_pos (by rw [q4]; rfl)]
    rw [← hS, e] at hR
    exact finS (n0 := H.length) hR hC' hcl (.same _ rfl) ⟨rfl, rfl⟩
  obtain rfl := hl q4
  (refine run ?_; repeat' (first | with_reducible exact trivial | ((with_reducible apply Fork.mk) <;> intro hb) | with_reducible apply Two.mk))
  · have q5 : badNames binds = true := by
      unfold badNames
      rw [hNM, ← hnl, List.getD_eq_getElem?_getD, List.getElem?_eq_getElem (by omega)]
      simp only [Option.getD_some, eqS, hb, decide_true, Bool.and_true, Bool.or_eq_true, decide_eq_true_eq]
      exact .inl (by omega)
    have e : lintS ⟨l, binds⟩ = 122 := by unfold lintS; rw [if_neg q1, if_neg q2, if_neg (by rw [q3]; exact Bool.false_ne_true), if_neg (by rw [q4]; exact Bool.false_ne_true), if_pos q5]
    rw [← hS, e] at hR
    exact finS (n0 := H.length) hR hC' hcl (.same _ rfl) ⟨rfl, rfl⟩
  all_goals
    have q50 : (decide (0 < (bindersP binds).length) && eqS ((sortS (bindersP binds)).getD 0 []) []) = false := by
      first
      | (rw [show decide (0 < (bindersP binds).length) = false from decide_eq_false (by omega)]; rfl)
      | (rw [hNM, List.getD_eq_getElem?_getD, List.getElem?_eq_getElem (by omega)]; simp only [Option.getD_some, eqS, hb, decide_false, Bool.and_false])
    refine callS (clone_sl G hG nm _ (H.length + 4) 0 (by simp) (by omega)) ?_
    rintro r H' ⟨rfl, rfl⟩
    simp only [List.append_assoc, List.cons_append, List.nil_append, List.length_append, List.length_cons, List.length_nil, List.length_set, X, Nat.reduceAdd]
    (refine run ?_; repeat' (first | with_reducible exact trivial | ((with_reducible apply Fork.mk) <;> intro hb) | with_reducible apply Two.mk))
    refine callS (compact_ok G hG nm _ (H.length + 8) 0 (by simp) (by omega)) ?_
    rintro r H' ⟨vs, ⟨rfl, rfl⟩, hvl, hvu⟩
    simp only [set_app, List.set_cons_succ, List.set_cons_zero]
    have hbn : badNames binds = decide ((dedS nm).length ≠ nm.length) := by
      unfold badNames
      rw [q50, hNM, Bool.false_or, hnl]
    by_cases hdn : (dedS nm).length = nm.length
    rotate_left
    · have hdi : ¬ ((dedS nm).length : Int) = (nm.length : Int) := by omega
      (refine run ?_; repeat' (first | with_reducible exact trivial | ((with_reducible apply Fork.mk) <;> intro hb) | with_reducible apply Two.mk))
      have q5 : badNames binds = true := by rw [hbn]; exact decide_eq_true hdn
      have e : lintS ⟨l, binds⟩ = 122 := by unfold lintS; rw [if_neg q1, if_neg q2, if_neg (by rw [q3]; exact Bool.false_ne_true), if_neg (by rw [q4]; exact Bool.false_ne_true), if_pos q5]
      rw [← hS, e] at hR
      exact finS (n0 := H.length) hR hC' hcl (.same _ rfl) ⟨rfl, rfl⟩
    have q5 : badNames binds = false := by rw [hbn]; exact decide_eq_false (fun h => h hdn)
    rw [hdn]
    have hany : (binds.any fun b => !bndS (topB binds) b) = !(binds.all (bndS (topB binds))) := by rw [List.all_eq_not_any_not, Bool.not_not]
    (refine run ?_; repeat' (first | with_reducible exact trivial | ((with_reducible apply Fork.mk) <;> intro hb) | with_reducible apply Two.mk))
    refine callS (anyBd_ok G hG (.fn (.func 58) [] [.ptr (H.length + 7) 0 0 0]) (fun b => !bndS (topB binds) b) binds _ (by omega) (by simp [SV.under, SV.underL]) (fun b hb => ACallV.of (first := []) (args := [b.sv]) (cap := [.ptr (H.length + 7) 0 0 0])
      (bound4_ok G hG (topB binds) (topB_cnt binds) b (hwb _ (Nat.le_of_lt (bd_wt hb))) _ (H.length + 7) (H.length + 6) (H.length + 5) (by simp) (by simp) (by simp)))) ?_
    rintro r H' ⟨rfl, rfl⟩
    rw [hany]
    cases q6 : binds.all (bndS (topB binds))
    · (refine run ?_; repeat' (first | with_reducible exact trivial | ((with_reducible apply Fork.mk) <;> intro hb) | with_reducible apply Two.mk))
      have e : lintS ⟨l, binds⟩ = 123 := by unfold lintS; rw [if_neg q1, if_neg q2, if_neg (by rw [q3]; exact Bool.false_ne_true), if_neg (by rw [q4]; exact Bool.false_ne_true), if_neg (by rw [q5]; exact Bool.false_ne_true), if_pos (by rw [q6]; rfl)]
      rw [← hS, e] at hR
      exact finS (n0 := H.length) hR hC' hcl (.same _ rfl) ⟨rfl, rfl⟩
    (refine run ?_; repeat' (first | with_reducible exact trivial | ((with_reducible apply Fork.mk) <;> intro hb) | with_reducible apply Two.mk))
    refine callV (ACallV.of (first := []) (args := []) (cap := [.ptr (H.length + 3) 0 0 0]) (known_ok G hG _ (H.length + 2) (H.length + 1) (H.length + 3) l ⟨by simp, by simp⟩ (by simp))) ?_
    rintro r H' ⟨rfl, rfl⟩
    cases q7 : knoS l
    · (refine run ?_; repeat' (first | with_reducible exact trivial | ((with_reducible apply Fork.mk) <;> intro hb) | with_reducible apply Two.mk))
      have e : lintS ⟨l, binds⟩ = 124 := by unfold lintS; rw [if_neg q1, if_neg q2, if_neg (by rw [q3]; exact Bool.false_ne_true), if_neg (by rw [q4]; exact Bool.false_ne_true), if_neg (by rw [q5]; exact Bool.false_ne_true), if_neg (by rw [q6]; exact Bool.false_ne_true), if_pos (by rw [q7]; rfl)]
      rw [← hS, e] at hR
      exact finS (n0 := H.length) hR hC' hcl (.same _ rfl) ⟨rfl, rfl⟩
    (refine run ?_; repeat' (first | with_reducible exact trivial | ((with_reducible apply Fork.mk) <;> intro hb) | with_reducible apply Two.mk))
    refine callV (ACallV.of (first := []) (args := [.fn (.func 59) [.ptr (H.length + 2) 0 0 0] []]) (cap := [.ptr H.length 0 0 0]) (every_ok G hG 59 [.ptr (H.length + 2) 0 0 0] [] (fulS l) l binds (by omega) _ H.length (by simp) (by simp [SV.under, SV.underL])
      (fun x hx X => ACallV.of (first := [.ptr (H.length + 2) 0 0 0]) (args := [x.sv]) (cap := []) (full_ok G hG _ (H.length + 2) (H.length + 1) l ⟨by simp, by simp⟩ x (hwb x hx))))) ?_
    rintro r H' ⟨rfl, rfl⟩
    cases q8 : (binds.all fun b => allS (fulS l) b.e)
    · (refine run ?_; repeat' (first | with_reducible exact trivial | ((with_reducible apply Fork.mk) <;> intro hb) | with_reducible apply Two.mk))
      have e : lintS ⟨l, binds⟩ = 124 := by unfold lintS; rw [if_neg q1, if_neg q2, if_neg (by rw [q3]; exact Bool.false_ne_true), if_neg (by rw [q4]; exact Bool.false_ne_true), if_neg (by rw [q5]; exact Bool.false_ne_true), if_neg (by rw [q6]; exact Bool.false_ne_true), if_pos (by rw [q7, q8]; rfl)]
      rw [← hS, e] at hR
      exact finS (n0 := H.length) hR hC' hcl (.same _ rfl) ⟨rfl, rfl⟩
    (refine run ?_; repeat' (first | with_reducible exact trivial | ((with_reducible apply Fork.mk) <;> intro hb) | with_reducible apply Two.mk))
    refine callV (ACallV.of (first := []) (args := [.fn (.func 60) [.ptr (H.length + 2) 0 0 0] []]) (cap := [.ptr H.length 0 0 0]) (every_ok G hG 60 [.ptr (H.length + 2) 0 0 0] [] (chsS l) l binds (by omega) _ H.length (by simp) (by simp [SV.under, SV.underL])
      (fun x hx X => ACallV.of (first := [.ptr (H.length + 2) 0 0 0]) (args := [x.sv]) (cap := []) (chosen_ok G hG _ (H.length + 2) (H.length + 1) l ⟨by simp, by simp⟩ x (hwb x hx))))) ?_
    rintro r H' ⟨rfl, rfl⟩
    cases q9 : (binds.all fun b => allS (chsS l) b.e)
    · (refine run ?_; repeat' (first | with_reducible exact trivial | ((with_reducible apply Fork.mk) <;> intro hb) | with_reducible apply Two.mk))
      have e : lintS ⟨l, binds⟩ = 125 := by unfold lintS; rw [if_neg q1, if_neg q2, if_neg (by rw [q3]; exact Bool.false_ne_true), if_neg (by rw [q4]; exact Bool.false_ne_true), if_neg (by rw [q5]; exact Bool.false_ne_true), if_neg (by rw [q6]; exact Bool.false_ne_true), if_neg (by rw [q7, q8]; exact Bool.false_ne_true), if_pos (by rw [q9]; rfl)]
      rw [← hS, e] at hR
      exact finS (n0 := H.length) hR hC' hcl (.same _ rfl) ⟨rfl, rfl⟩
    by_cases qm : cntB (topB binds) mainN = 0
    · have qm' : cntB (topB binds) [77, 97, 105, 110, 46, 109, 97, 105, 110] = 0 := qm
      have X := And.intro noX qm'
      (refine run ?_; repeat' (first | with_reducible exact trivial | ((with_reducible apply Fork.mk) <;> intro hb) | with_reducible apply Two.mk))
      have e : lintS ⟨l, binds⟩ = 126 := by unfold lintS; rw [if_neg q1, if_neg q2, if_neg (by rw [q3]; exact Bool.false_ne_true), if_neg (by rw [q4]; exact Bool.false_ne_true), if_neg (by rw [q5]; exact Bool.false_ne_true), if_neg (by rw [q6]; exact Bool.false_ne_true), if_neg (by rw [q7, q8]; exact Bool.false_ne_true), if_neg (by rw [q9]; exact Bool.false_ne_true), if_pos qm]
      rw [← hS, e] at hR
      exact finS (n0 := H.length) hR hC' hcl (.same _ rfl) ⟨rfl, rfl⟩
    · have qm' : ¬ cntB (topB binds) [77, 97, 105, 110, 46, 109, 97, 105, 110] = 0 := qm
      have X := noX
      (refine run ?_; repeat' (first | with_reducible exact trivial | ((with_reducible apply Fork.mk) <;> intro hb) | with_reducible apply Two.mk))
      have e : lintS ⟨l, binds⟩ = 0 := by unfold lintS; rw [if_neg q1, if_neg q2, if_neg (by rw [q3]; exact Bool.false_ne_true), if_neg (by rw [q4]; exact Bool.false_ne_true), if_neg (by rw [q5]; exact Bool.false_ne_true), if_neg (by rw [q6]; exact Bool.false_ne_true), if_neg (by rw [q7, q8]; exact Bool.false_ne_true), if_neg (by rw [q9]; exact Bool.false_ne_true), if_neg qm]
      rw [← hS, e] at hR
      exact finS (n0 := H.length) hR hC' hcl (.same _ rfl) ⟨rfl, rfl⟩
end Go.Proofs.YtehfihnfeakmaaaGreatDoor
end

section
namespace Go.Proofs.YtehfihnfeakmaaaGreatDoor
open Go
set_option maxRecDepth 10000
set_option maxHeartbeats 4000000
def fstS (k : List Od) (e : Ex) : List Str := fstF simS k e.wt e
def numsF (names : List Str) : List Str → List Int
  | [] => []
  | n :: r => if n ∈ names then idxFrom 0 names n :: numsF names r else []
def lamsB (l : List Bd) : List Bd := l.filter fun b => decide (b.e.kind = 3)
def bodyE (e : Ex) : Ex := e.subs.getD 0 noEx
def ordO (b : Bd) (nums : List Int) : Od := ⟨b.name, b.e.names.length, nums⟩
def ordN (lams : List Bd) (k : List Od) : List Od := lams.map fun b => ordO b (numsF b.e.names (fstS k (bodyE b.e)))
def ordI (lams : List Bd) : Nat → List Od
  | 0 => lams.map fun b => ordO b []
  | n + 1 => ordN lams (knoF [] (ordI lams n))
def ordsS (p : Pg) : List Od := ordI (lamsB p.binds) 20
theorem ordN_len (lams : List Bd) (k : List Od) : (ordN lams k).length = lams.length := by simp [ordN]
theorem ordI_len (lams : List Bd) : ∀ n, (ordI lams n).length = lams.length
  | 0 => by simp [ordI]
  | n + 1 => by rw [ordI, ordN_len]
theorem ordI_get (lams : List Bd) (n : Nat) {i : Nat} (h : i < lams.length) : ∃ nums, (ordI lams n)[i]? = some (ordO lams[i] nums) := by
  cases n with
  | zero => exact ⟨[], by simp [ordI, h]⟩
  | succ n => exact ⟨_, by simp only [ordI, ordN, List.getElem?_map, List.getElem?_eq_getElem h, Option.map_some]; rfl⟩
theorem ordI_fix {lams : List Bd} {n : Nat} (h : ordI lams (n + 1) = ordI lams n) : ∀ m, n ≤ m → ordI lams m = ordI lams n
  | 0, hm => by obtain rfl : n = 0 := by omega
                rfl
  | m + 1, hm => by
    rcases Nat.eq_or_lt_of_le hm with he | hlt
    · rw [← he]
    · rw [ordI, ordI_fix h m (by omega), ← ordI, h]
theorem numsF_len (names : List Str) : ∀ l, (numsF names l).length ≤ l.length
  | [] => Nat.le_refl _
  | n :: r => by
    rw [numsF]
    split
    · simp only [List.length_cons]; have := numsF_len names r; omega
    · simp
theorem idx_lt : ∀ (l : List Str) (v : Str) (i : Nat), v ∈ l → (i : Int) ≤ idxFrom i l v ∧ idxFrom i l v < i + l.length
  | [], v, i, h => by cases h
  | x :: r, v, i, h => by
    rw [idxFrom]
    split
    · simp only [List.length_cons]; omega
    · rename_i hne
      have hr : v ∈ r := (List.mem_cons.1 h).elim (fun e => absurd e (by first | exact hne | exact fun q => hne q.symm)) id
      have := idx_lt r v (i + 1) hr
      simp only [List.length_cons]
      omega
theorem idx_get : ∀ (l : List Str) (v : Str) (i : Nat), v ∈ l → l[(idxFrom i l v - i).toNat]? = some v
  | [], v, i, h => by cases h
  | x :: r, v, i, h => by
    rw [idxFrom]
    split
    · rename_i he; rw [Int.sub_self]; simp [he]
    · rename_i hne
      have hr : v ∈ r := (List.mem_cons.1 h).elim (fun e => absurd e (by first | exact hne | exact fun q => hne q.symm)) id
      have h1 := idx_lt r v (i + 1) hr
      have h2 := idx_get r v (i + 1) hr
      have e : (idxFrom (i + 1) r v - (i : Int)).toNat = (idxFrom (i + 1) r v - ((i + 1 : Nat) : Int)).toNat + 1 := by omega
      rw [e, List.getElem?_cons_succ]
      exact h2
theorem idx_inj {l : List Str} {v w : Str} (hv : v ∈ l) (hw : w ∈ l) (h : idxFrom 0 l v = idxFrom 0 l w) : v = w := by
  have h1 := idx_get l v 0 hv
  have h2 := idx_get l w 0 hw
  rw [h, h2] at h1
  exact (Option.some.inj h1).symm
theorem numsF_mem (names : List Str) : ∀ (l : List Str) {n : Int}, n ∈ numsF names l → ∃ s ∈ l, s ∈ names ∧ n = idxFrom 0 names s
  | [], n, h => by cases h
  | s :: r, n, h => by
    rw [numsF] at h
    split at h
    · rename_i hs
      rcases List.mem_cons.1 h with rfl | h
      · exact ⟨s, List.mem_cons_self .., hs, rfl⟩
      · obtain ⟨t, h1, h2⟩ := numsF_mem names r h
        exact ⟨t, List.mem_cons_of_mem _ h1, h2⟩
    · cases h
theorem numsF_nodup (names : List Str) : ∀ (l : List Str), l.Nodup → (numsF names l).Nodup
  | [], _ => List.nodup_nil
  | s :: r, h => by
    rw [numsF]
    rw [List.nodup_cons] at h
    split
    · rename_i hs
      rw [List.nodup_cons]
      refine ⟨fun hm => ?_, numsF_nodup names r h.2⟩
      obtain ⟨t, h1, h2, h3⟩ := numsF_mem names r hm
      have := idx_inj hs h2 h3
      exact h.1 (this ▸ h1)
    · exact List.nodup_nil
def OdOK (o : Od) : Prop := (∀ n ∈ o.nums, 0 ≤ n ∧ n < o.arity) ∧ o.nums.Nodup
theorem ords_ok (p : Pg) : ∀ o ∈ ordsS p, OdOK o := by
  intro o ho
  rw [ordsS, ordI, ordN] at ho
  obtain ⟨b, _, rfl⟩ := List.mem_map.1 ho
  refine ⟨fun n hn => ?_, numsF_nodup _ _ (fst_nodup _ _ _ _)⟩
  obtain ⟨s, _, h2, rfl⟩ := numsF_mem _ _ hn
  have := idx_lt b.e.names s 0 h2
  simp only [ordO]
  omega
theorem numsF_go (names : List Str) : ∀ (l : List Str) (i : Nat), (∀ s ∈ l.take i, s ∈ names) → i ≤ l.length → numsF names l = (l.take i).map (idxFrom 0 names) ++ numsF names (l.drop i)
  | l, 0, _, _ => rfl
  | [], i + 1, _, h => by simp at h
  | s :: r, i + 1, h, hi => by
    rw [numsF, if_pos (h s (by simp)), numsF_go names r i (fun t ht => h t (by simp [ht])) (by simpa using hi)]
    rfl
def esX (l : List Bd) : List (SV × SV) := l.map fun b => (.str b.name, .agg b.e.cells)
theorem setSV_esX : ∀ (l : List Bd) (b : Bd), b.name ∉ l.map Bd.name → setSV (esX l) (.str b.name) (.agg b.e.cells) = esX (l ++ [b])
  | [], c, _ => rfl
  | d :: r, c, h => by
    simp only [List.map_cons, List.mem_cons, not_or] at h
    simp only [esX, List.map_cons, setSV, SV.keyEq, List.cons_append, beq_eq_false_iff_ne.2 h.1, if_false, Bool.false_eq_true]
    rw [show setSV (List.map _ r) (.str c.name) _ = _ from setSV_esX r c h.2]
    rfl
theorem findSV_esX : ∀ (l : List Bd), (l.map Bd.name).Nodup → ∀ i (h : i < l.length), findSV (esX l) (.str l[i].name) = some (.agg l[i].e.cells)
  | [], _, i, h => by simp at h
  | d :: r, hn, i, h => by
    simp only [List.map_cons, List.nodup_cons] at hn
    cases i with
    | zero => simp [esX, findSV, SV.keyEq]
    | succ i =>
      have hi : i < r.length := by simpa using h
      have hne : ¬ r[i].name = d.name := fun e => hn.1 (e ▸ List.mem_map.2 ⟨_, List.getElem_mem hi, rfl⟩)
      have := findSV_esX r hn.2 i hi
      simp only [esX, List.map_cons, findSV, SV.keyEq, List.getElem_cons_succ, beq_eq_false_iff_ne.2 hne, if_false, Bool.false_eq_true] at this ⊢
      exact this
theorem esX_under (n : Nat) : ∀ l : List Bd, belowE n (esX l) = true
  | [] => rfl
  | p :: l => by simp only [esX, List.map_cons, belowE, SV.under, Ex.cells_under, Bool.and_self, Bool.true_and]; exact esX_under n l
theorem odCells_snoc (l : List Od) (o : Od) : odCells l ++ [.agg [.str o.name, .int .i64 o.arity, .list 1 (intL o.nums)]] = odCells (l ++ [o]) := by simp [odCells, Od.sv, Od.cells]
theorem odCells_set (l : List Od) (i : Nat) (o : Od) : (odCells l).set i (.agg [.str o.name, .int .i64 o.arity, .list 1 (intL o.nums)]) = odCells (l.set i o) := by simp [odCells, List.map_set, Od.sv, Od.cells]
theorem intL_snoc (l : List Int) (n : Int) : intL l ++ [.int .i64 n] = intL (l ++ [n]) := by simp [intL]
end Go.Proofs.YtehfihnfeakmaaaGreatDoor
end

section
namespace Go.Proofs.YtehfihnfeakmaaaGreatDoor
open Go
set_option maxRecDepth 10000
set_option maxHeartbeats 4000000
theorem knowing_sl (G : Gl) (hG : GClosed G) (l : List Od) (hl : l.length < 1099511627776) (H : List Blk) (id g : Nat) (hid : H[id]? = some (.cells g 3 (odCells l))) :
    ACall Tryz.prog G 26 [.sl id g 0 l.length] H (fun r H' => H' = H ++ [.map none (esD (knoF [] l))] ∧ r = .map H.length) := by
  have esB_under := esD_under
  have li := (List.getElem?_eq_some_iff.1 hid).1
  have hidx := fun L => (show (H ++ L)[id]? = some (.cells g 3 (odCells l)) by rw [get_old li]; exact hid)
  refine ACall.of_go TB [] tabOK _ Tryz.func26 rfl (by decide) Tryz.ntmps26 (by simp) rfl (by simp only [initEnv, Nat.reduceAdd]; rfl) fun C R' hR hC hcl hB => ?_; have X := noX; have hC' := congrArg List.length hC
  have X := And.intro noX hid
  (refine run ?_; repeat' (first | with_reducible exact trivial | ((with_reducible apply Fork.mk) <;> intro hb) | with_reducible apply Two.mk))
  refine go_loop (fun i : Nat => [(3, .map H.length), (9, .sl id g 0 l.length), (10, .int .i64 l.length), (11, .int .i64 i)]) (fun i => H ++ [.map none (esD (knoF [] (l.take i)))]) (fun i => l.length - i) (fun i => i ≤ l.length) 0 (Nat.zero_le _) ?_ ?_
  · exact wkS (n0 := H.length) [(H.length, 0)] hG hB hC' hcl
  rintro K i hi hK
  rcases Nat.lt_or_ge i l.length with hlt | hge
  · have ht := List.take_succ_eq_append_getElem hlt
    have hk := knoF_snoc (l.take i) l[i]
    rw [← ht] at hk
    have hset := setSV_esD (knoF [] (l.take i)) l[i]
    have hz := od_zero (knoF [] (l.take i)) l[i].name
    have hh := esD_has (knoF [] (l.take i)) l[i].name
    cases hf : findOd (knoF [] (l.take i)) l[i].name with
    | none =>
      have hs2 := hset hf
      rw [hf] at hk hh
      have hk : knoF [] (l.take (i + 1)) = knoF [] (l.take i) ++ [l[i]] := hk
      have hh : (findSV (esD (knoF [] (l.take i))) (.str l[i].name)).isSome = false := hh
      rw [← hk] at hs2
      have X := And.intro noX (And.intro hidx (And.intro hz (And.intro hh hs2)))
      (refine run ?_; repeat' (first | with_reducible exact trivial | ((with_reducible apply Fork.mk) <;> intro hb) | with_reducible apply Two.mk))
      exact hK _ _ (i + 1) (by omega) (by omega) (wkS (n0 := H.length) [(H.length, 0)] hG hB hC' hcl)
    | some o =>
      rw [hf] at hk hh
      have hk : knoF [] (l.take (i + 1)) = knoF [] (l.take i) := hk
      have hh : (findSV (esD (knoF [] (l.take i))) (.str l[i].name)).isSome = true := hh
      have X := And.intro noX (And.intro hidx (And.intro hz hh))
      (refine run ?_; repeat' (first | with_reducible exact trivial | ((with_reducible apply Fork.mk) <;> intro hb) | with_reducible apply Two.mk))
      refine hK _ _ (i + 1) (by omega) (by omega) ?_
      rw [hk]
      exact wkS (n0 := H.length) [(H.length, 0)] hG hB hC' hcl
  obtain rfl : i = l.length := by omega
  clear hK
  simp only [List.take_length]
  have X := And.intro noX (Int.lt_irrefl (l.length : Int))
  (refine run ?_; repeat' (first | with_reducible exact trivial | ((with_reducible apply Fork.mk) <;> intro hb) | with_reducible apply Two.mk))
  exact finK [(H.length, 0)] (.map H.length) [.map none (esD (knoF [] l))] hR hC' hcl ⟨rfl, rfl⟩
end Go.Proofs.YtehfihnfeakmaaaGreatDoor
end

section
namespace Go.Proofs.YtehfihnfeakmaaaGreatDoor
open Go
set_option maxRecDepth 10000
set_option maxHeartbeats 4000000
theorem equal_ls (G : Gl) (hG : GClosed G) (a b : List Int) (ha : a.length < 1099511627776) (hb0 : b.length < 1099511627776) (H : List Blk) :
    ACall Tryz.prog G 29 [.list 1 (intL a), .list 1 (intL b)] H (fun r H' => H' = H ∧ r = .bool (decide (a = b))) := by
  by_cases hl : a.length = b.length
  rotate_left
  · have hli : ¬ (a.length : Int) = (b.length : Int) := by omega
    have e : decide (a = b) = false := decide_eq_false (fun h => hl (by rw [h]))
    rw [e]
    refine ACall.of_go TB [] tabOK _ Tryz.func29 rfl (by decide) Tryz.ntmps29 (by simp) rfl (by simp only [initEnv, Nat.reduceAdd]; rfl) fun C R' hR hC hcl hB => ?_; have X := noX; have hC' := congrArg List.length hC
    have X := And.intro X hli
    (refine run ?_; repeat' (first | with_reducible exact trivial | ((with_reducible apply Fork.mk) <;> intro hb) | with_reducible apply Two.mk))
    exact Fin.out hR ⟨rfl, rfl⟩
  have hli : (a.length : Int) = (b.length : Int) := by omega
  refine ACall.of_go TB [] tabOK _ Tryz.func29 rfl (by decide) Tryz.ntmps29 (by simp) rfl (by simp only [initEnv, Nat.reduceAdd]; rfl) fun C R' hR hC hcl hB => ?_; have X := noX; have hC' := congrArg List.length hC
  have X := And.intro X hli
  (refine run ?_; repeat' (first | with_reducible exact trivial | ((with_reducible apply Fork.mk) <;> intro hb) | with_reducible apply Two.mk))
  refine go_loop (fun i : Nat => [(0, .list 1 (intL a)), (1, .list 1 (intL b)), (12, .int .i64 b.length), (13, .int .i64 i)]) (fun _ => H) (fun i => b.length - i) (fun i => i ≤ b.length ∧ a.take i = b.take i) 0 ⟨Nat.zero_le _, rfl⟩ (Wk.sub (by simp [subEnv, look])) ?_
  rintro K i ⟨hi, hti⟩ hK
  rcases Nat.lt_or_ge i b.length with hlt | hge
  · have hlt2 : i < a.length := by omega
    have g1 : (intL a)[i]? = some (.int .i64 a[i]) := by simp [intL, hlt2]
    have g2 : (intL b)[i]? = some (.int .i64 b[i]) := by simp [intL, hlt]
    have X := And.intro noX (And.intro g1 g2)
    (refine run ?_; repeat' (first | with_reducible exact trivial | ((with_reducible apply Fork.mk) <;> intro hb) | with_reducible apply Two.mk))
    · have hne : ¬ a[i] = b[i] := by simpa using hb
      have e : decide (a = b) = false := decide_eq_false (fun h => hne (by subst h; rfl))
      rw [e] at hR
      exact Fin.out hR ⟨rfl, rfl⟩
    · have he : a[i] = b[i] := by simpa using hb
      refine hK _ _ (i + 1) (by omega) ⟨by omega, by rw [List.take_succ_eq_append_getElem hlt2, List.take_succ_eq_append_getElem hlt, hti, he]⟩ (Wk.sub (by simp [subEnv, look]))
  · obtain rfl : i = b.length := by omega
    clear hK
    have e : decide (a = b) = true := decide_eq_true (by rw [List.take_of_length_le (by omega), List.take_length] at hti; exact hti)
    rw [e] at hR
    have X := And.intro noX (Int.lt_irrefl (b.length : Int))
    (refine run ?_; repeat' (first | with_reducible exact trivial | ((with_reducible apply Fork.mk) <;> intro hb) | with_reducible apply Two.mk))
    exact Fin.out hR ⟨rfl, rfl⟩
theorem Orders_bad (G : Gl) (hG : GClosed G) (p : Pg) (H : List Blk) (hw : bdsWt p.binds < 4294967295) (hcn : p.cons.length < 1099511627776) (hne : ¬ lintS p = 0) :
    ACall Tryz.prog G 8 [p.sv] H (fun r H' => H' = H ∧ r = .tuple [.list 3 [], .int .i64 (lintS p)]) := by
  have c1 := fun H => lint_ok G hG p H hw hcn
  generalize lintS p = S at *
  obtain ⟨cons, binds⟩ := p
  rw [show (Pg.mk cons binds).sv = .agg [.list 4 (cnCells cons), .list 9 (bdCells binds)] from rfl] at *
  refine ACall.of_go TB [5, 14] tabOK _ Tryz.func8 rfl (by decide) Tryz.ntmps8 (by simp) rfl (by simp only [initEnv, Nat.reduceAdd]; rfl) fun C R' hR hC hcl hB => ?_; have X := noX; have hC' := congrArg List.length hC
  have X := And.intro noX hne
  (refine run ?_; repeat' (first | with_reducible exact trivial | ((with_reducible apply Fork.mk) <;> intro hb) | with_reducible apply Two.mk))
  exact Fin.tellN (n0 := H.length) hR rfl hC' hcl (.tuple _ _ (.cons _ _ _ _ (.nil _) (.cons _ _ _ _ (.same _ rfl) .nil))) ⟨rfl, rfl⟩
theorem lamsB_snoc (l : List Bd) (b : Bd) : lamsB (l ++ [b]) = if b.e.kind = 3 then lamsB l ++ [b] else lamsB l := by
  rw [lamsB, List.filter_append, ← lamsB, List.filter_cons]
  by_cases h : b.e.kind = 3
  · simp [h]
  · simp [h]
theorem lamsB_names {l : List Bd} (h : (l.map Bd.name).Nodup) : ((lamsB l).map Bd.name).Nodup := ((List.filter_sublist (p := fun b : Bd => decide (b.e.kind = 3)) (l := l)).map Bd.name).nodup h
theorem body_wt {e : Ex} (h : e.subs.length = 1) : ∃ x, e.subs = [x] ∧ bodyE e = x ∧ x.wt < e.wt := by
  obtain ⟨kd, nm, nn, op, names, subs, binds, alts⟩ := e
  simp only [Ex.subs] at h
  obtain ⟨x, rfl⟩ := List.length_eq_one_iff.1 h
  exact ⟨x, rfl, rfl, Ex.wt_parts (by rw [Ex.parts_mk]; simp)⟩
theorem ordI_nums {lams : List Bd} (h : ∀ b ∈ lams, b.e.subs.length = 1 ∧ b.e.wt < 4294967295) (n : Nat) : ∀ o ∈ ordI lams n, o.nums.length < 4294967296 := by
  intro o ho
  cases n with
  | zero => obtain ⟨b, _, rfl⟩ := List.mem_map.1 ho; show ([] : List Int).length < _; simp
  | succ n =>
    obtain ⟨b, hb, rfl⟩ := List.mem_map.1 ho
    obtain ⟨h1, h2⟩ := h b hb
    obtain ⟨x, _, q2, q3⟩ := body_wt h1
    have h3 := numsF_len b.e.names (fstS (knoF [] (ordI lams n)) (bodyE b.e))
    have h4 := fst_len simS (knoF [] (ordI lams n)) (bodyE b.e).wt (bodyE b.e)
    rw [q2] at h3 h4
    unfold fstS at h3
    simp only [ordO, q2, fstS]
    omega
theorem Orders_ok (G : Gl) (hG : GClosed G) (p : Pg) (H : List Blk) (hw : bdsWt p.binds < 4294967295) (hcn : p.cons.length < 1099511627776) (h0 : lintS p = 0) :
    ACall Tryz.prog G 8 [p.sv] H (fun r H' => H' = H ∧ r = .tuple [.list 3 (odCells (ordsS p)), .int .i64 0]) := by
  have c1 := fun H => lint_ok G hG p H hw hcn
  rw [h0] at c1
  have hnn := binds_nodup (lint0 h0).names
  have hlam := fun b hb hk => lint_lam h0 (b := b) hb hk
  obtain ⟨cons, binds⟩ := p
  have hos : ordsS ⟨cons, binds⟩ = ordI (lamsB binds) 20 := rfl
  rw [hos]
  clear h0 hos
  simp only at hw hcn hnn hlam
  have hle := bdsWt_len binds
  rw [show (Pg.mk cons binds).sv = .agg [.list 4 (cnCells cons), .list 9 (bdCells binds)] from rfl] at *
  have esB_under := esX_under
  have esO_under := esD_under
  have under_ints := odCells_under
  refine ACall.of_go TB [5, 14] tabOK _ Tryz.func8 rfl (by decide) Tryz.ntmps8 (by simp) rfl (by simp only [initEnv, Nat.reduceAdd]; rfl) fun C R' hR hC hcl hB => ?_; have X := noX; have hC' := congrArg List.length hC
  (refine run ?_; repeat' (first | with_reducible exact trivial | ((with_reducible apply Fork.mk) <;> intro hb) | with_reducible apply Two.mk))
  refine go_loop (fun i : Nat => [(5, .sl H.length 0 0 (lamsB (binds.take i)).length), (6, .map (H.length + 1)), (25, .list 9 (bdCells binds)), (26, .int .i64 binds.length), (27, .int .i64 i)]) (fun i => H ++ [.cells 0 3 (odCells ((lamsB (binds.take i)).map fun b => ordO b [])), .map none (esX (lamsB (binds.take i)))]) (fun i => binds.length - i) (fun i => i ≤ binds.length) 0 (Nat.zero_le _) ?_ ?_
  · simp only [List.take_zero, show lamsB [] = [] from rfl, List.map_nil, List.length_nil, show odCells [] = [] from rfl]
    exact wkS (n0 := H.length) [(H.length + 1, 0), (H.length + 2, 0)] hG hB hC' hcl
  rintro K i hi hK
  rcases Nat.lt_or_ge i binds.length with hlt | hge
  · have ht := List.take_succ_eq_append_getElem hlt
    have hsn := lamsB_snoc (binds.take i) binds[i]
    rw [← ht] at hsn
    have hbi : binds[i]? = some binds[i] := List.getElem?_eq_getElem hlt
    have hnew : binds[i].name ∉ (lamsB (binds.take i)).map Bd.name := by
      have h1 : ((binds.take (i + 1)).map Bd.name).Nodup := ((List.take_sublist (i + 1) binds).map Bd.name).nodup hnn
      rw [ht, List.map_append, List.map_singleton, List.nodup_append] at h1
      intro hm
      obtain ⟨b, hb, e⟩ := List.mem_map.1 hm
      exact h1.2.2 _ (List.mem_map.2 ⟨b, (List.mem_filter.1 hb).1, e⟩) _ (List.mem_singleton.2 rfl) rfl
    have hset := setSV_esX (lamsB (binds.take i)) binds[i] hnew
    have hodl : (odCells ((lamsB (binds.take i)).map fun b => ordO b [])).length = (lamsB (binds.take i)).length := by simp [odCells]
    have hll : (lamsB (binds.take i)).length ≤ binds.length := Nat.le_trans (List.length_filter_le ..) (by rw [List.length_take]; omega)
    have hsnc := odCells_snoc ((lamsB (binds.take i)).map fun b => ordO b []) (ordO binds[i] [])
    generalize binds[i] = b at *
    obtain ⟨nm, e⟩ := b
    obtain ⟨kd, n2, nn, op, names, subs, bs, als⟩ := e
    have q1 : (Bd.mk nm (.mk kd n2 nn op names subs bs als)).name = nm := rfl
    have q2 : (Bd.mk nm (.mk kd n2 nn op names subs bs als)).e.cells = [.int .i64 kd, .str n2, .int .i64 nn, .int .i64 op, .list 1 (names.map .str), .list 8 (exCells subs), .list 9 (bdCells bs), .list 12 (alCells als)] := rfl
    have q3 : (Bd.mk nm (.mk kd n2 nn op names subs bs als)).e.kind = kd := rfl
    rw [q3] at hsn
    rw [q1, q2] at hset
    have q4 : ordO (Bd.mk nm (.mk kd n2 nn op names subs bs als)) [] = ⟨nm, names.length, []⟩ := rfl
    rw [q4] at hsnc
    have hsnc : odCells ((lamsB (binds.take i)).map fun b => ordO b []) ++ [.agg [.str nm, .int .i64 names.length, .list 1 []]] = _ := hsnc
    have X := And.intro noX (And.intro hbi (And.intro q1 (And.intro q2 (And.intro hset (And.intro hodl hsnc)))))
    (refine run ?_; repeat' (first | with_reducible exact trivial | ((with_reducible apply Fork.mk) <;> intro hb) | with_reducible apply Two.mk))
    · rw [if_pos hb] at hsn
      refine hK _ _ (i + 1) (by omega) (by omega) ?_
      rw [hsn, List.map_append, List.length_append, List.length_singleton]
      exact wkS (n0 := H.length) [(H.length, 0), (H.length + 1, 0)] hG hB hC' hcl
    · rw [if_neg hb] at hsn
      refine hK _ _ (i + 1) (by omega) (by omega) ?_
      rw [hsn]
      exact wkS (n0 := H.length) [(H.length, 0), (H.length + 1, 0)] hG hB hC' hcl
  obtain rfl : i = binds.length := by omega
  clear hK
  rw [List.take_length]
  have hln := lamsB_names hnn
  have hlb : ∀ b ∈ lamsB binds, b ∈ binds ∧ b.e.kind = 3 := fun b hb => by
    have := List.mem_filter.1 hb
    exact ⟨this.1, by simpa using this.2⟩
  have hll : (lamsB binds).length ≤ binds.length := List.length_filter_le ..
  have hbw : ∀ b ∈ lamsB binds, b.e.wt < 4294967295 := fun b hb => by have := bd_wt (hlb b hb).1; omega
  have hls : ∀ b ∈ lamsB binds, b.e.subs.length = 1 := fun b hb => hlam b (hlb b hb).1 (hlb b hb).2
  clear hlam hlb
  generalize hLL : lamsB binds = lams at *
  rw [show (lams.map fun b => ordO b []) = ordI lams 0 from rfl]
  have X := And.intro noX (Int.lt_irrefl (binds.length : Int))
  (refine run ?_; repeat' (first | with_reducible exact trivial | ((with_reducible apply Fork.mk) <;> intro hb) | with_reducible apply Two.mk))
  refine go_loop (fun r : Nat => [(5, .sl H.length 0 0 lams.length), (6, .map (H.length + 1)), (51, .int .i64 r)]) (fun r => H ++ [.cells 0 3 (odCells (ordI lams r)), .map none (esX lams)]) (fun r => 20 - r) (fun r => r ≤ 20) 0 (Nat.zero_le _) ?_ ?_
  · exact wkS (n0 := H.length) [(H.length, 0), (H.length + 1, 0)] hG hB hC' hcl
  rintro K r hr hK
  rcases Nat.lt_or_ge r 20 with hlt | hge
  rotate_left
  · obtain rfl : r = 20 := by omega
    clear hK
    have X := noX
    (refine run ?_; repeat' (first | with_reducible exact trivial | ((with_reducible apply Fork.mk) <;> intro hb) | with_reducible apply Two.mk))
    refine Fin.tellN (n0 := H.length) hR rfl hC' hcl (.tuple _ _ (.cons _ _ _ _ ?_ (.cons _ _ _ _ (.same _ rfl) .nil))) ⟨rfl, rfl⟩
    exact Frz.sf (g := 0) (sz := 3) (vals := odCells (ordI lams 20)) (by rw [get_app0]; rfl) (Nat.le_refl _) (by simp) (by rw [List.drop_zero, List.take_of_length_le (by rw [odCells_len, ordI_len]; exact Nat.le_refl _)]) (odCells_under _ _)
  have hol := ordI_len lams r
  have hks := knowing_sl G hG (ordI lams r) (by omega) (H ++ [.cells 0 3 (odCells (ordI lams r)), .map none (esX lams)]) H.length 0 (by rw [get_app0]; rfl)
  rw [hol] at hks
  have hkn := fun s => knF_len (l := knoF [] (ordI lams r)) (B := 4294967296) (fun o ho => (knoF_mem (ordI lams r) [] ho).elim (fun h => by cases h) (fun h => ordI_nums (fun b hb => ⟨hls b hb, hbw b hb⟩) r o h)) (by omega) s
  have hnew : ordI lams (r + 1) = ordN lams (knoF [] (ordI lams r)) := rfl
  generalize hk0 : knoF [] (ordI lams r) = kk at *
  have X := noX
  (refine run ?_; repeat' (first | with_reducible exact trivial | ((with_reducible apply Fork.mk) <;> intro hb) | with_reducible apply Two.mk))
  refine callS hks ?_
  rintro r' H' ⟨rfl, rfl⟩
  simp only [List.append_assoc, List.cons_append, List.nil_append, List.length_append, List.length_cons, List.length_nil, List.length_set, X, Nat.reduceAdd]
  (refine run ?_; repeat' (first | with_reducible exact trivial | ((with_reducible apply Fork.mk) <;> intro hb) | with_reducible apply Two.mk))
  have hnl := ordN_len lams kk
  rw [← hnew] at hnl
  have hng : ∀ i (h : i < lams.length), (ordI lams (r + 1))[i]? = some (ordO lams[i] (numsF lams[i].e.names (fstS kk (bodyE lams[i].e)))) := fun i h => by rw [hnew]; simp [ordN, h]
  have hog := fun i (h : i < lams.length) => ordI_get lams r h
  have hon := ordI_nums (fun b hb => ⟨hls b hb, hbw b hb⟩) r
  have hfix := fun h => ordI_fix (lams := lams) (n := r) h 20 hr
  generalize hNW : ordI lams (r + 1) = new at *
  generalize hOD : ordI lams r = old at *
  have hmix : ∀ i, i ≤ lams.length → (new.take i ++ old.drop i).length = lams.length := fun i hi => by simp only [List.length_append, List.length_take, List.length_drop]; omega
  refine go_loop (fun a : Nat × Bool => [(5, .sl H.length 0 0 lams.length), (6, .map (H.length + 1)), (9, .map (H.length + 2)), (10, .bool a.2), (51, .int .i64 r), (55, .sl H.length 0 0 lams.length), (56, .int .i64 lams.length), (57, .int .i64 a.1)]) (fun a => H ++ [.cells 0 3 (odCells (new.take a.1 ++ old.drop a.1)), .map none (esX lams), .map none (esD kk)]) (fun a => lams.length - a.1) (fun a => a.1 ≤ lams.length ∧ (a.2 = false → new.take a.1 = old.take a.1)) (0, false) ⟨Nat.zero_le _, fun _ => rfl⟩ ?_ ?_
  · simp only [List.take_zero, List.drop_zero, List.nil_append]
    exact wkS (n0 := H.length) [(H.length, 0), (H.length + 1, 0), (H.length + 2, 0)] hG hB hC' hcl
  rintro K3 ⟨i, c⟩ ⟨hi, hc⟩ hK3
  simp only at hi hc
  dsimp only
  rcases Nat.lt_or_ge i lams.length with hlti | hgei
  · obtain ⟨nums0, ho⟩ := hog i hlti
    have hn := hng i hlti
    have hfx := findSV_esX lams hln i hlti
    have hbi := hls lams[i] (List.getElem_mem hlti)
    have hbwi := hbw lams[i] (List.getElem_mem hlti)
    have hmi : (new.take i ++ old.drop i)[i]? = old[i]? := by
      rw [List.getElem?_append_right (by rw [List.length_take]; omega), List.length_take, Nat.min_eq_left (by omega), Nat.sub_self, List.getElem?_drop, Nat.add_zero]
    have hml := hmix i hi
    generalize lams[i] = b at *
    obtain ⟨nm, e⟩ := b
    obtain ⟨x, hx1, hx2, hx3⟩ := body_wt hbi
    obtain ⟨kd, n2, nn, op, names, subs, bs, als⟩ := e
    have hx1 : subs = [x] := hx1
    subst hx1
    have ho : old[i]? = some ⟨nm, names.length, nums0⟩ := ho
    have hn : new[i]? = some ⟨nm, names.length, numsF names (fstS kk x)⟩ := by rw [hn, hx2]; rfl
    rw [ho] at hmi
    have hfx : (findSV (esX lams) (.str nm)).getD (.agg [.int .i64 0, .str [], .int .i64 0, .int .i64 0, .list 1 [], .list 8 [], .list 9 [], .list 12 []]) = .agg [.int .i64 kd, .str n2, .int .i64 nn, .int .i64 op, .list 1 (names.map .str), .list 8 (exCells [x]), .list 9 (bdCells bs), .list 12 (alCells als)] := by
      have hfx : findSV (esX lams) (.str nm) = some _ := hfx
      rw [hfx]; rfl
    have hwx : x.wt < 4294967296 := by have : (Bd.mk nm (Ex.mk kd n2 nn op names [x] bs als)).e.wt < 4294967295 := hbwi; omega
    have hnl2 : names.length < 4294967296 := by have := Ex.wt_lens kd n2 nn op names [x] bs als; have : (Ex.mk kd n2 nn op names [x] bs als).wt < 4294967295 := hbwi; omega
    have hF := first_ok G hG kk hkn x.wt
    have hfl := fst_len simS kk x.wt x
    have hfS : fstF simS kk x.wt x = fstS kk x := rfl
    have hx0 : ([x] : List Ex)[0]? = some x := rfl
    have X := And.intro noX (And.intro hmi (And.intro hfx hx0))
    (refine run ?_; repeat' (first | with_reducible exact trivial | ((with_reducible apply Fork.mk) <;> intro hb) | with_reducible apply Two.mk))
    refine callS (fst_list hF x (H.length + 2) _ (Nat.le_refl _) hwx (by simp)) ?_
    rintro r' H' ⟨rfl, rfl⟩
    rw [hfS] at hfl ⊢
    generalize fstS kk x = F at *
    (refine runB ?_; repeat' (first | with_reducible exact trivial | ((with_reducible apply Fork.mk) <;> intro hb) | with_reducible apply Two.mk))
    have hgo := numsF_go names F
    have hnl3 := numsF_len names F
    generalize hNN : numsF names F = NN at *
    refine go_cut (fun _ : Unit => [(5, .sl H.length 0 0 lams.length), (6, .map (H.length + 1)), (9, .map (H.length + 2)), (10, .bool c), (11, .int .i64 i), (12, .ptr (H.length + 3) 0 0 0), (14, .list 1 (intL NN)), (51, .int .i64 r), (55, .sl H.length 0 0 lams.length), (56, .int .i64 lams.length), (57, .int .i64 i)]) (fun _ => H ++ [.cells 0 3 (odCells (new.take i ++ old.drop i)), .map none (esX lams), .map none (esD kk), .cells 0 3 [.agg [.str nm, .int .i64 names.length, .list 1 (intL nums0)]]]) (fun _ => True) (fun K4 hK4 => ?_) (fun _ _ => ?_)
    · have X := noX
      (refine run ?_; repeat' (first | with_reducible exact trivial | ((with_reducible apply Fork.mk) <;> intro hb) | with_reducible apply Two.mk))
      refine go_loop (fun q : Nat => [(5, .sl H.length 0 0 lams.length), (6, .map (H.length + 1)), (9, .map (H.length + 2)), (10, .bool c), (11, .int .i64 i), (12, .ptr (H.length + 3) 0 0 0), (13, .ptr (H.length + 4) 0 0 0), (14, .sl (H.length + 5) 0 0 q), (51, .int .i64 r), (55, .sl H.length 0 0 lams.length), (56, .int .i64 lams.length), (57, .int .i64 i), (71, .list 1 (F.map .str)), (72, .int .i64 F.length), (73, .int .i64 q)])
        (fun q => H ++ [.cells 0 3 (odCells (new.take i ++ old.drop i)), .map none (esX lams), .map none (esD kk), .cells 0 3 [.agg [.str nm, .int .i64 names.length, .list 1 (intL nums0)]], .cells 0 8 [.agg [.int .i64 kd, .str n2, .int .i64 nn, .int .i64 op, .list 1 (names.map .str), .list 8 (exCells [x]), .list 9 (bdCells bs), .list 12 (alCells als)]], .cells 0 1 (intL ((F.take q).map (idxFrom 0 names)))]) (fun q => F.length - q) (fun q => q ≤ F.length ∧ ∀ s ∈ F.take q, s ∈ names) 0 ⟨Nat.zero_le _, by simp⟩ ?_ ?_
      · simp only [List.take_zero, List.map_nil, intL]
        exact wkS (n0 := H.length) [(H.length, 0), (H.length + 1, 0), (H.length + 2, 0), (H.length + 3, 0), (H.length + 4, 0), (H.length + 5, 0)] hG hB hC' hcl
      rintro K5 q ⟨hq, hqn⟩ hK5
      have hgq := hgo q hqn hq
      have hql : (intL ((F.take q).map (idxFrom 0 names))).length = q := by simp only [intL, List.length_map, List.length_take]; omega
      rcases Nat.lt_or_ge q F.length with hltq | hgeq
      · have gq : (F.map SV.str)[q]? = some (.str F[q]) := by simp [hltq]
        have c2 := fun H => index_list G names F[q] H (by omega)
        have htq := List.take_succ_eq_append_getElem hltq
        rw [List.drop_eq_getElem_cons hltq, numsF] at hgq
        have hix := idxFrom_ge names F[q] 0
        have hisn := intL_snoc ((F.take q).map (idxFrom 0 names)) (idxFrom 0 names F[q])
        generalize F[q] = s at *
        by_cases hsn : s ∈ names
        · have hge0 : ¬ idxFrom 0 names s < 0 := by
            rcases hix with h | h
            · exact absurd hsn h.2
            · omega
          have his2 : intL ((F.take q).map (idxFrom 0 names)) ++ [.int .i64 (idxFrom 0 names s)] = intL ((F.take (q + 1)).map (idxFrom 0 names)) := by rw [hisn, htq, List.map_append]; rfl
          generalize idxFrom 0 names s = at_ at *
          have X := And.intro noX (And.intro gq (And.intro hge0 (And.intro hql his2)))
          (refine run ?_; repeat' (first | with_reducible exact trivial | ((with_reducible apply Fork.mk) <;> intro hb) | with_reducible apply Two.mk))
          refine hK5 _ _ (q + 1) (by omega) ⟨by omega, fun y hy => ?_⟩ ?_
          · rw [htq] at hy
            rcases List.mem_append.1 hy with hy | hy
            · exact hqn y hy
            · rw [List.mem_singleton.1 hy]; exact hsn
          · exact wkS (n0 := H.length) [(H.length, 0), (H.length + 1, 0), (H.length + 2, 0), (H.length + 3, 0), (H.length + 4, 0), (H.length + 5, 0)] hG hB hC' hcl
        · have hlt0 : idxFrom 0 names s < 0 := by
            rcases hix with h | h
            · omega
            · exact absurd h.2 hsn
          rw [if_neg hsn, List.append_nil] at hgq
          have hL : List.take q (intL ((F.take q).map (idxFrom 0 names))) = intL NN := by rw [List.take_of_length_le (by omega), hgq]
          have hun : SV.underL H.length (List.take q (intL ((F.take q).map (idxFrom 0 names)))) = true := by rw [hL]; exact intL_under _ _
          generalize idxFrom 0 names s = at_ at *
          have X := And.intro noX (And.intro gq hlt0)
          (refine run ?_; repeat' (first | with_reducible exact trivial | ((with_reducible apply Fork.mk) <;> intro hb) | with_reducible apply Two.mk))
          refine hK4 _ _ () trivial ?_
          rw [← hL]
          exact wkS (n0 := H.length) [(H.length, 0), (H.length + 1, 0), (H.length + 2, 0), (H.length + 3, 0)] hG hB hC' hcl
      · have hqF : q = F.length := by omega
        rw [show F.drop q = [] from List.drop_eq_nil_of_le hgeq, show numsF names [] = [] from rfl, List.append_nil] at hgq
        have hL : List.take q (intL ((F.take q).map (idxFrom 0 names))) = intL NN := by rw [List.take_of_length_le (by omega), hgq]
        have hun : SV.underL H.length (List.take q (intL ((F.take q).map (idxFrom 0 names)))) = true := by rw [hL]; exact intL_under _ _
        have hni : ¬ (q : Int) < (F.length : Int) := by omega
        have X := And.intro noX hni
        (refine run ?_; repeat' (first | with_reducible exact trivial | ((with_reducible apply Fork.mk) <;> intro hb) | with_reducible apply Two.mk))
        refine hK4 _ _ () trivial ?_
        rw [← hL]
        exact wkS (n0 := H.length) [(H.length, 0), (H.length + 1, 0), (H.length + 2, 0), (H.length + 3, 0)] hG hB hC' hcl
    have hn0l : nums0.length < 4294967296 := hon _ (List.mem_of_getElem? ho)
    have c2 := fun H => equal_ls G hG NN nums0 (by omega) (by omega) H
    have hti := List.take_succ_eq_append_getElem (l := new) (i := i) (by omega)
    have hnE : new[i]'(by omega) = ⟨nm, names.length, NN⟩ := (List.getElem?_eq_some_iff.1 hn).2
    have hoE : old[i]'(by omega) = ⟨nm, names.length, nums0⟩ := (List.getElem?_eq_some_iff.1 ho).2
    have hdi := List.drop_eq_getElem_cons (l := old) (i := i) (by omega)
    have htoi := List.take_succ_eq_append_getElem (l := old) (i := i) (by omega)
    rw [hnE] at hti
    rw [hoE] at hdi htoi
    have hst : (odCells (new.take i ++ old.drop i)).set i (.agg [.str nm, .int .i64 names.length, .list 1 (intL NN)]) = odCells (new.take (i + 1) ++ old.drop (i + 1)) := by
      have h1 := odCells_set (new.take i ++ old.drop i) i ⟨nm, names.length, NN⟩
      simp only at h1
      rw [h1, hdi, hti, List.set_append_right _ _ (by rw [List.length_take]; omega), List.length_take, Nat.min_eq_left (by omega), Nat.sub_self, List.set_cons_zero, List.append_assoc]; rfl
    by_cases heq : NN = nums0
    · have X := And.intro noX (And.intro heq hmi)
      (refine run ?_; repeat' (first | with_reducible exact trivial | ((with_reducible apply Fork.mk) <;> intro hb) | with_reducible apply Two.mk))
      refine hK3 _ _ (i + 1, c) (by simp only; omega) ⟨by simp only; omega, fun hcf => ?_⟩ ?_
      · simp only at hcf ⊢
        rw [hti, htoi, hc hcf, heq]
      · simp only
        rw [show new.take (i + 1) ++ old.drop (i + 1) = new.take i ++ old.drop i from by rw [hti, hdi, heq, List.append_assoc]; rfl]
        exact wkS (n0 := H.length) [(H.length, 0), (H.length + 1, 0), (H.length + 2, 0)] hG hB hC' hcl
    · have X := And.intro noX (And.intro heq (And.intro hmi hst))
      (refine run ?_; repeat' (first | with_reducible exact trivial | ((with_reducible apply Fork.mk) <;> intro hb) | with_reducible apply Two.mk))
      refine hK3 _ _ (i + 1, true) (by simp only; omega) ⟨by simp only; omega, fun hcf => by cases hcf⟩ ?_
      simp only
      exact wkS (n0 := H.length) [(H.length, 0), (H.length + 1, 0), (H.length + 2, 0)] hG hB hC' hcl
  have hin : i = lams.length := by omega
  have hnt : new.take i = new := List.take_of_length_le (by omega)
  have hot : old.take i = old := List.take_of_length_le (by omega)
  have hod : old.drop i = [] := List.drop_eq_nil_of_le (by omega)
  rw [hnt, hod, List.append_nil]
  have hni : ¬ (i : Int) < (lams.length : Int) := by omega
  clear hK3
  cases c
  · have hno : new = old := by have := hc rfl; rwa [hnt, hot] at this
    have X := And.intro noX hni
    (refine run ?_; repeat' (first | with_reducible exact trivial | ((with_reducible apply Fork.mk) <;> intro hb) | with_reducible apply Two.mk))
    rw [hfix (by rw [hno]), ← hno] at hR
    refine Fin.tellN (n0 := H.length) hR rfl hC' hcl (.tuple _ _ (.cons _ _ _ _ ?_ (.cons _ _ _ _ (.same _ rfl) .nil))) ⟨rfl, rfl⟩
    exact Frz.sf (g := 0) (sz := 3) (vals := odCells new) (by rw [get_app0]; rfl) (Nat.le_refl _) (by simp) (by rw [List.drop_zero, List.take_of_length_le (by rw [odCells_len, hnl]; exact Nat.le_refl _)]) (odCells_under _ _)
  · have X := And.intro noX hni
    (refine run ?_; repeat' (first | with_reducible exact trivial | ((with_reducible apply Fork.mk) <;> intro hb) | with_reducible apply Two.mk))
    refine hK _ _ (r + 1) (by omega) (by omega) ?_
    rw [hNW]
    exact wkS (n0 := H.length) [(H.length, 0), (H.length + 1, 0)] hG hB hC' hcl
end Go.Proofs.YtehfihnfeakmaaaGreatDoor
end

section
namespace Go.Proofs.YtehfihnfeakmaaaGreatDoor
open Go
def ErrAt (C0 : Cx) : Prop := C0.H = [] ∧ ∃ ev, C0.w.cell? ⟨0, 0, none⟩ = some ev ∧ (ev = .nilIface ∨ ∃ te pe, ev = .iface te pe)
theorem ErrAt.see {C0 c : Cx} (h : ErrAt C0) (hg : Grow C0 c) : ∃ ev, c.w.cell? ⟨0, 0, none⟩ = some ev ∧ (ev = .nilIface ∨ ∃ te pe, ev = .iface te pe) := by
  obtain ⟨h0, ev, h1, h2⟩ := h
  refine ⟨ev, ?_, h2⟩
  have hlt : 0 < C0.w.heap.size := Lib.lt_of_cell h1
  have hold := hg.old 0 hlt (fun ⟨id, o, ⟨B, hB, _⟩, _⟩ => by rw [h0] at hB; cases hB)
  rw [← h1]
  unfold World.cell?
  rw [hold]
end Go.Proofs.YtehfihnfeakmaaaGreatDoor
end

section
namespace Go.Proofs.YtehfihnfeakmaaaGreatDoor
open Go Go.ChangeShapes Go.WideShapes Go.RowKit
theorem own : ownKnob Tryz.prog.godebug = none := by kernel_rfl
theorem laid : laidOutB Tryz.prog = true := by kernel_rfl
theorem gES : Tryz.prog.globalNamed "strconv.ErrSyntax" = some 0 := by kernel_rfl
theorem gESType : (Tryz.prog.globals[0]?).map (·.type) = some 116 := by kernel_rfl
theorem cells202 : Tryz.prog.cellsOf 202 = 1 := by kernel_rfl
theorem cells9 : Tryz.prog.cellsOf 9 = 1 := by kernel_rfl
theorem star : "*" ++ "errors.errorString" = "*errors.errorString" := by decide
theorem row200 (u : TypeId) (h : Tryz.prog.typeName? 3 u = some "*errors.errorString") : u = 200 :=
  typeName_ptr_named (nm := "errors.errorString") (by rw [star]; kernel_rfl) (by kernel_rfl) (by decide) u (by rw [star]; exact h)
def GB (W : World) : Gl := ⟨[], some (rdC W)⟩
theorem gclosedB (W : World) : GClosed (GB W) := fun p hp => by cases hp
theorem gokB (W : World) : GOK (GB W) (rdC W) := ⟨fun p hp => (by cases hp), fun C0 h => (by cases h; exact Grow.refl _)⟩
theorem errAt {W : World} (h : laidMetH Tryz.prog [("math/bits.deBruijn32tab", Rows.laid_math_bits_deBruijn32tab), ("math/bits.deBruijn64tab", Rows.laid_math_bits_deBruijn64tab), ("internal/strconv.uint64pow10", Rows.laid_internal_strconv_uint64pow10), ("strconv.ErrRange", Rows.laid_strconv_ErrRange), ("strconv.ErrSyntax", Rows.laid_strconv_ErrSyntax)] W) : ErrAt (rdC W) := by
  have h2 : laidMet Tryz.prog [("strconv.ErrSyntax", Rows.laid_strconv_ErrSyntax)] W := laidMet.tail (laidMet.tail (laidMet.tail (laidMet.tail h)))
  obtain ⟨a0, s0, hv0, -, -, -⟩ := laid_sentinel h2 gES gESType Tryz.underlying116 row200 Tryz.underlying200 Tryz.underlying202 rfl rfl Tryz.underlying9 cells202 cells9
  exact ⟨rfl, _, (by have h0 := World.var?_cell gES hv0 0; show W.cell? _ = _; simpa using h0), .inr ⟨_, _, rfl⟩⟩
section
variable {H : Type} {enc : TypeId × Value → H} {W : World} {sp : Nat → Bool}
theorem law_callsG {P : Program} {G : Gl} {f : FuncId} {args : List SV} {vs : List Value} (h : ACall P G f args [] (fun r H' => H' = [] ∧ r = .bool true)) (hg : GOK G (rdC W)) (hv : RepL (rdC W) args vs) {R : World → Prop} (hR : ∀ W', Below W.heap.size W W' → R W') :
    Calls P f vs.toArray W fun e W' => ∃ v, e = .returned v ∧ v = .bool true ∧ R W' := by
  refine (callsIn_wide (n := 0)).1 ((h.2 (rdC W) vs rfl (rdC_ok W) hg hv).mono ?_)
  rintro e w' ⟨v, x, c', rfl, hw, ⟨_, rfl⟩, _, hx, hg⟩
  simp only [Rep] at hx
  exact ⟨v, rfl, hx, hR _ (Grow.below hg hw)⟩
end
def valsOf : DataW Unit → List Value
  | .agg l => l.map fun
    | .lit (.int k n) => .int k n
    | _ => .nilFunc
  | _ => []
def putVals (vs : List Value) : Obj → Obj
  | .cells _ t fr => .cells vs.toArray t fr
  | o => o
noncomputable def laidWorld (os : Os) : World :=
  { World.holding Tryz.prog os ⟨#[], #[], []⟩ with heap := (((((((World.holding Tryz.prog os ⟨#[], #[], []⟩).heap.modify 0 (putVals [.iface 200 (.pointer (some ⟨(World.holding Tryz.prog os ⟨#[], #[], []⟩).heap.size, 0, none⟩))])).modify 1 (putVals [.iface 200 (.pointer (some ⟨(World.holding Tryz.prog os ⟨#[], #[], []⟩).heap.size + 1, 0, none⟩))])).modify 2 (putVals (valsOf Rows.laid_internal_strconv_uint64pow10))).modify 3 (putVals (valsOf Rows.laid_math_bits_deBruijn32tab))).modify 4 (putVals (valsOf Rows.laid_math_bits_deBruijn64tab))).push
      (.cells #[.string ⟨#[105, 110, 118, 97, 108, 105, 100, 32, 115, 121, 110, 116, 97, 120]⟩] 202 (0, 0))).push (.cells #[.string ⟨#[118, 97, 108, 117, 101, 32, 111, 117, 116, 32, 111, 102, 32, 114, 97, 110, 103, 101]⟩] 202 (0, 0)) }
end Go.Proofs.YtehfihnfeakmaaaGreatDoor
end
