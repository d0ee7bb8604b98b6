/- VmNil (teasellaw20): a nil machine answers a result of nothing however many steps it is told to do, has done no step and laid nothing; and an example's machine runs as told. For every input, where the table of instructions' fields is laid as the program's text lays it. -/
import Derived.Test.YthgdcjenoiojeaaGreatDoorMg
import Derived.Shelf.Spec.SlicesGrow
import Derived.Test.YthgdcjenoiojeaaGreatDoorCards
import Derived.Test.YthgdcjenoiojeaaGreatDoorTie
import Derived.Deep.DeepHandedRow
import Derived.Lib.LaidTab

section
namespace Go.Proofs
open Go.Shelf
def Tryz.lays8_ren : Go.Shelf.Ren := ⟨fun | 4 => 51 | n => n, fun | 22 => 41 | 25 => 47 | n => n, fun | n => n⟩
theorem Tryz.lays8 : Lays8.n4 Tryz.prog Tryz.lays8_ren := {
  mixed := by kernel_rfl
  f4 := ⟨ "slices.Grow[[]teasel/api.Word,teasel/api.Word]", by decide, by kernel_rfl⟩
  t0 := Tryz.underlying0
  a0 := Tryz.isAgg0
  z0 := Tryz.sizeOf0
  v0 := Tryz.zeroValue0
  t3 := Tryz.underlying3
  a3 := Tryz.isAgg3
  z3 := Tryz.sizeOf3
  v3 := Tryz.zeroValue3
  t4 := Tryz.underlying4
  a4 := Tryz.isAgg4
  z4 := Tryz.sizeOf4
  v4 := Tryz.zeroValue4
  t9 := Tryz.underlying9
  a9 := Tryz.isAgg9
  z9 := Tryz.sizeOf9
  v9 := Tryz.zeroValue9
  t20 := Tryz.underlying20
  a20 := Tryz.isAgg20
  z20 := Tryz.sizeOf20
  v20 := Tryz.zeroValue20
  t22 := Tryz.underlying41
  a22 := Tryz.isAgg41
  z22 := Tryz.sizeOf41
  v22 := Tryz.zeroValue41 }
namespace YthgdcjenoiojeaaGreatDoor
open Go
set_option linter.unusedVariables false
theorem ACall.of_grow (G : Gl) (n : Nat) (h0 : 0 < n) (hn : n ≤ 1000000) (H : List Blk) : ACall Tryz.prog G 51 [.nil, .int .i64 n] H (fun r H' => H' = H ++ [.cells 0 2 []] ∧ r = .sl H.length 0 0 0) := by
  refine ⟨⟨_, Tryz.func51, by decide, rfl⟩, fun c vs e1 hh hG hv => ?_⟩
  subst e1
  obtain ⟨v, us, hv1, hv2, rfl⟩ := RepL.cons_iff.1 hv
  obtain ⟨v', us', hv3, hv4, rfl⟩ := RepL.cons_iff.1 hv2
  rw [RepL.nil_iff.1 hv4]
  simp only [Rep] at hv1 hv3
  subst hv1
  obtain ⟨rfl, _⟩ := hv3
  obtain ⟨_, info, z, i1, i2, i3, i4, i5, i6⟩ := (show tiOK Tryz.prog 47 t47 from ok47)
  have hb : info.bytes = 16 := i3
  refine (callsIn_wide (n := 0)).2 ?_
  have hsz : info.size = 2 := i2
  have h := Go.Proofs.Any8.slices_Grow_grow Tryz.lays8 info z i1 i4 (by rw [hsz]; decide) none 0 0 n [] c.w (Nat.le_refl _) (by omega) (by rw [Nat.zero_add, hb]; omega) (by omega) (by simp) (fun _ => rfl) (fun a h => by cases h)
  refine h.mono ?_
  rintro e w' ⟨rfl, rfl⟩
  simp only [Nat.zero_add, Nat.sub_zero]
  have hcap := grownCap_ge c.w n 0 (Tryz.lays8_ren.t 25)
  have hcap2 := grownCap_le_maxLen c.w n 0 (Tryz.lays8_ren.t 25) (by unfold maxLen; omega)
  generalize grownCap c.w n 0 (Tryz.lays8_ren.t 25) = cap at hcap hcap2
  have hz : z.cells.size = 2 := i6
  obtain ⟨g1, g2⟩ := new_cells (sz := 2) hh (xs := []) (vs := []) RepL.mk_nil (fun u hu => by cases hu) (#[] ++ Builtin.zeroCells z.cells n ++ Builtin.zeroCells z.cells (cap - n)) (#[] ++ Builtin.zeroCells z.cells n ++ Builtin.zeroCells z.cells (cap - n)).toList (by simp [cellsOf]) (Tryz.lays8_ren.t 25) (0, 0) (.inl rfl) (w0 := c.w.drew) rfl rfl rfl rfl
  refine ⟨_, _, _, rfl, rfl, ⟨rfl, rfl⟩, g2, ?_, g1⟩
  refine rep_sl_add c 2 [] _ _ (Nat.zero_le _) hcap2 (.inr ⟨c.w.heap.size, _, Tryz.lays8_ren.t 25, (0, 0), rfl, rfl, heap_alloc_new c.w.drew _, ?_⟩)
  rw [Array.size_append, Array.size_append, zero_fill hz, zero_fill hz]
  simp only [List.size_toArray, List.length_nil, Nat.zero_add]
  omega
end YthgdcjenoiojeaaGreatDoor
end Go.Proofs
end

section
namespace Go.Proofs.YthgdcjenoiojeaaGreatDoor
open Go
set_option linter.unusedSimpArgs false
set_option linter.unusedVariables false
set_option maxRecDepth 10000
set_option maxHeartbeats 4000000

theorem cloneW_list (G : Gl) (hG : GClosed G) (xs : List SV) (hu0 : ∀ n, SV.underL n xs = true) (H : List Blk) (hl : xs.length < 1000) : ACall Tryz.prog G 32 [.list 2 xs] H (fun r H' => H' = H ++ [.cells 0 2 xs] ∧ r = .sl H.length 0 0 xs.length) := by
  have hu : SV.underL H.length (List.drop 0 xs) = true := hu0 _
  refine ACall.of_go TB [2,5] tabOK _ Tryz.func32 rfl (by decide) Tryz.ntmps32 (by simp) rfl (by simp only [initEnv, Nat.reduceAdd]; rfl) fun C R' hR hC hcl hB => ?_; have X := noX; have hC' := congrArg List.length hC
  (refine runO ?_; repeat' (first | with_reducible exact trivial | ((with_reducible apply Fork.mk) <;> intro hb) | with_reducible apply Two.mk))
  · obtain rfl : xs = [] := List.length_eq_zero_iff.1 hb
    exact finK [(H.length + 1, 0)] (.sl H.length 0 0 0) [.cells 0 2 []] hR hC' hcl ⟨rfl, rfl⟩
  · exact finK [(H.length + 1, 0)] (.sl H.length 0 0 xs.length) [.cells 0 2 xs] hR hC' hcl ⟨rfl, rfl⟩
theorem cloneW_nil (G : Gl) (hG : GClosed G) (H : List Blk) : ACall Tryz.prog G 32 [.nil] H (fun r H' => H' = H ++ [.cells 0 2 []] ∧ r = .sl H.length 0 0 0) := by
  refine ACall.of_go TB [2,5] tabOK _ Tryz.func32 rfl (by decide) Tryz.ntmps32 (by simp) rfl (by simp only [initEnv, Nat.reduceAdd]; rfl) fun C R' hR hC hcl hB => ?_; have X := noX; have hC' := congrArg List.length hC
  (refine runO ?_; repeat' (first | with_reducible exact trivial | ((with_reducible apply Fork.mk) <;> intro hb) | with_reducible apply Two.mk))
  exact finK [(H.length + 1, 0)] (.sl H.length 0 0 0) [.cells 0 2 []] hR hC' hcl ⟨rfl, rfl⟩
theorem cloneW_sl (G : Gl) (hG : GClosed G) (id g off len : Nat) (vals xs : List SV) (H : List Blk) (hH : H[id]? = some (.cells g 2 vals)) (hx : (vals.drop off).take len = xs) (hu0 : ∀ n, SV.underL n xs = true) (hl : xs.length < 1000) : ACall Tryz.prog G 32 [.sl id g off len] H (fun r H' => H' = H ++ [.cells 0 2 xs] ∧ r = .sl H.length 0 0 xs.length) := by
  have hu : SV.underL H.length (List.drop 0 xs) = true := hu0 _
  have hlt : id < H.length := (List.getElem?_eq_some_iff.1 hH).1
  refine ACall.of_go TB [2,5] tabOK _ Tryz.func32 rfl (by decide) Tryz.ntmps32 (by simp) rfl (by simp only [initEnv, Nat.reduceAdd]; rfl) fun C R' hR hC hcl hB => ?_; have X := noX; have hC' := congrArg List.length hC
  have X := And.intro X (And.intro hH hx)
  (refine runO ?_; repeat' (first | with_reducible exact trivial | ((with_reducible apply Fork.mk) <;> intro hb) | with_reducible apply Two.mk))
  · obtain rfl : xs = [] := by rw [← hx, hb]; rfl
    exact finK [(H.length + 1, 0)] (.sl H.length 0 0 0) [.cells 0 2 []] hR hC' hcl ⟨rfl, rfl⟩
  · exact finK [(H.length + 1, 0)] (.sl H.length 0 0 xs.length) [.cells 0 2 xs] hR hC' hcl ⟨rfl, rfl⟩
end Go.Proofs.YthgdcjenoiojeaaGreatDoor
end

section
namespace Go.Proofs.YthgdcjenoiojeaaGreatDoor
open Go
set_option linter.unusedSimpArgs false
set_option linter.unusedVariables false
set_option maxRecDepth 10000
set_option maxHeartbeats 4000000

theorem underL_rep {m : Nat} {x : SV} (h : x.under m = true) : ∀ k, SV.underL m (List.replicate k x) = true
  | 0 => rfl
  | k + 1 => by simp only [List.replicate_succ, SV.underL, h, underL_rep h k, Bool.and_self]
def wz : SV := .agg [.bool false, .int .i64 0]
def hz : SV := .agg [.int .i64 0, .int .i64 0, .int .i64 0, .int .i64 0, .bool false]
def heapA (n y o N : Nat) : SV := .agg [.sl n 0 0 N, .sl (n + 1) 0 0 N, .int .i64 0, .int .i64 0, .int .i64 y, .int .i64 y, .int .i64 y, .int .i64 (y + o), .int .i64 (y + o), .int .i64 (y + o), .int .i64 N, .int .i64 0, .nil]
def heapB (n y o N : Nat) : List Blk := [.cells 0 2 (List.replicate N wz), .cells 0 5 (List.replicate N hz), .cells 0 13 [heapA n y o N]]
theorem heapNew_ok (G : Gl) (hG : GClosed G) (y o N : Nat) (hy : 16 ≤ y) (hy2 : y ≤ 1048576) (ho : 16 ≤ o) (ho2 : o ≤ 1048576) (hN : N = y + 2 * o) (H : List Blk) :
    ACall Tryz.prog G 36 [.int .i64 y, .int .i64 o] H (fun r H' => H' = H ++ heapB H.length y o N ∧ r = .tuple [.ptr (H.length + 2) 0 0 0, .int .i64 0]) := by
  have u1 : SV.underL H.length (List.drop 0 (List.replicate N wz)) = true := underL_rep rfl _
  have u2 : SV.underL H.length (List.drop 0 (List.replicate N hz)) = true := underL_rep rfl _
  have e1 : (y : Int) + 2 * (o : Int) = (N : Int) := by omega
  refine ACall.of_go TB [] tabOK _ Tryz.func36 rfl (by decide) Tryz.ntmps36 (by simp) rfl (by simp only [initEnv, Nat.reduceAdd]; rfl) fun C R' hR hC hcl hB => ?_; have X := noX; have hC' := congrArg List.length hC
  have X := And.intro X (And.intro e1 (And.intro (show ¬ ((y : Int) < 16) from by omega) (And.intro (show ¬ ((1048576 : Int) < (y : Int)) from by omega) (And.intro (show ¬ ((o : Int) < 16) from by omega) (show ¬ ((1048576 : Int) < (o : Int)) from by omega)))))
  (refine run ?_; repeat' (first | with_reducible exact trivial | ((with_reducible apply Fork.mk) <;> intro hb) | with_reducible apply Two.mk))
  · exact finK [(H.length, 0), (H.length + 1, 0), (H.length + 2, 0)] (.tuple [.ptr (H.length + 2) 0 0 0, .int .i64 0]) (heapB H.length y o N) hR hC' hcl ⟨rfl, rfl⟩ (hx := .tuple _ _ (.cons _ _ _ _ (.keepPtr 2 (H.length + 2) 0 0 0 0 13 _ rfl ((get_app ..).trans rfl) (Nat.zero_le _)) (.cons _ _ _ _ (.same _ rfl) .nil)))
  · exact finK [(H.length + 1, 0), (H.length, 0), (H.length + 2, 0)] (.tuple [.ptr (H.length + 2) 0 0 0, .int .i64 0]) (heapB H.length y o N) hR hC' hcl ⟨rfl, rfl⟩ (hx := .tuple _ _ (.cons _ _ _ _ (.keepPtr 2 (H.length + 2) 0 0 0 0 13 _ rfl ((get_app ..).trans rfl) (Nat.zero_le _)) (.cons _ _ _ _ (.same _ rfl) .nil)))
end Go.Proofs.YthgdcjenoiojeaaGreatDoor
end

section
namespace Go.Proofs.YthgdcjenoiojeaaGreatDoor
open Go
set_option linter.unusedSimpArgs false
set_option linter.unusedVariables false
set_option maxRecDepth 100000
set_option maxHeartbeats 4000000

theorem ACall.args {P : Program} {G : Gl} {f : FuncId} {xs ys : List SV} {H : List Blk} {R : SV → List Blk → Prop} (h : ACall P G f ys H R) (hx : ∀ c vs, RepL c xs vs → RepL c ys vs) : ACall P G f xs H R := ⟨h.1, fun c vs h1 h2 h3 h4 => h.2 c vs h1 h2 h3 (hx c vs h4)⟩
/-! ### a nil slice is a list of nothing -/
mutual
def SV.lax : SV → SV → Bool
  | .agg xs, y => (match y with | .agg ys => SV.laxL xs ys | _ => false)
  | .nil, y => (match y with | .nil => true | .list _ ys => (match ys with | [] => true | _ => false) | _ => false)
  | .list a xs, y => (match y with | .list b ys => Nat.beq a b && SV.laxL xs ys | _ => false)
  | .undef, y => SV.same .undef y
  | .bool a, y => SV.same (.bool a) y
  | .int k n, y => SV.same (.int k n) y
  | .str s, y => SV.same (.str s) y
  | _, _ => false
def SV.laxL : List SV → List SV → Bool
  | [], ys => (match ys with | [] => true | _ => false)
  | x :: xs, ys => (match ys with | y :: ys => SV.lax x y && SV.laxL xs ys | _ => false)
end
theorem SV.lax_both (c : Cx) : (∀ x : SV, ∀ y, SV.lax x y = true → ∀ v, Rep c x v → Rep c y v) ∧ (∀ xs : List SV, ∀ ys, SV.laxL xs ys = true → xs.length = ys.length ∧ ∀ vs, RepL c xs vs → RepL c ys vs) := by
  refine SV.both (p := fun x => ∀ y, SV.lax x y = true → ∀ v, Rep c x v → Rep c y v) (q := fun xs => ∀ ys, SV.laxL xs ys = true → xs.length = ys.length ∧ ∀ vs, RepL c xs vs → RepL c ys vs) ?_ ?_ ?_ ?_ ?_ ?_ ?_ ?_ ?_
  · intro x h1 h2 _ _ _ _ y h v hv
    cases x <;> first
      | (exact absurd rfl (h1 _))
      | (exact absurd rfl (h2 _ _))
      | (simp only [SV.lax] at h; rw [← SV.same_both.1 _ _ h]; exact hv)
      | (cases y <;> simp only [SV.lax, Bool.false_eq_true] at h
         · exact hv
         · split at h
           · simp only [Rep] at hv ⊢
             exact ⟨none, 0, hv, Nat.le_refl _, Nat.zero_le _, .inl trivial⟩
           · cases h)
      | (simp [SV.lax] at h; done)
  · intro fs ih y h v hv
    cases y <;> simp only [SV.lax, Bool.false_eq_true] at h
    simp only [Rep] at hv ⊢
    obtain ⟨vs, g1, g2, g3⟩ := hv
    exact ⟨vs, (ih _ h).2 vs g1, g2, g3⟩
  · intro n xs ih y h v hv
    cases y <;> simp only [SV.lax, Bool.false_eq_true, Bool.and_eq_true] at h
    obtain ⟨h1, h2⟩ := h
    have h1 := Nat.eq_of_beq_eq_true h1
    subst h1
    obtain ⟨h3, h4⟩ := ih _ h2
    simp only [Rep] at hv ⊢
    obtain ⟨a, cap, e1, e2, e3, e4⟩ := hv
    rw [h3] at e1 e2
    refine ⟨a, cap, e1, e2, e3, ?_⟩
    rcases e4 with rfl | ⟨b, o, vs, k1, k2, k3⟩
    · left
      exact List.length_eq_zero_iff.1 h3.symm
    · exact .inr ⟨b, o, vs, k1, h4 vs k2, k3⟩
  · intro x _ y h; simp [SV.lax] at h
  · intro f a b _ _ y h; simp [SV.lax] at h
  · intro xs _ y h; simp [SV.lax] at h
  · intro b clk born kd ks vs _ _ y h; simp [SV.lax] at h
  · intro ys h
    cases ys with
    | nil => exact ⟨rfl, fun vs hv => hv⟩
    | cons => simp [SV.laxL] at h
  · intro x xs hx hxs ys h
    cases ys with
    | nil => simp [SV.laxL] at h
    | cons y ys =>
      simp only [SV.laxL, Bool.and_eq_true] at h
      obtain ⟨g1, g2⟩ := hxs ys h.2
      refine ⟨by simp [g1], fun vs hv => ?_⟩
      obtain ⟨u, us, k1, k2, rfl⟩ := RepL.cons_iff.1 hv
      exact RepL.mk_cons (hx y h.1 u k1) (g2 us k2)
theorem ACall.lax {P : Program} {G : Gl} {f : FuncId} {xs ys : List SV} {H : List Blk} {R : SV → List Blk → Prop} (h : ACall P G f ys H R) (hx : SV.laxL xs ys = true) : ACall P G f xs H R := h.args fun c vs hv => ((SV.lax_both c).2 _ _ hx).2 vs hv

/-! ### the machine's own copy of an image -/
theorem encS_ok {m : Img} (h : chkS m 65536 = 0) : encS m = encB m := by unfold encS; rw [if_pos h]
theorem own_ok (G : Gl) (hG : GClosed G) (hF : GF G) (m : Img) (hb : ImgB m) (hj : ImgJ m) (hc : chkS m 65536 = 0) (hl : (encB m).length < 4294967296) (H : List Blk) :
    ACall Tryz.prog G 38 [.agg m.cells] H (fun r H' => H' = H ∧ r = .agg m.cells) := by
  have hml : m.cells.length = 4 := rfl
  have hmu := fun n => Img.cells_under n m
  have c1 : ∀ H, ACall Tryz.prog G 60 [.agg m.cells] H (fun r H' => H' = H ∧ r = .tuple [.str (encB m), .int .i64 0]) := fun H => by
    have := encode_ok G hG hF m hb hj.I (by omega) H
    rwa [encS_ok hc, hc] at this
  have c2 : ∀ H, ACall Tryz.prog G 61 [.str (encB m)] H (fun r H' => H' = H ∧ r = .tuple [.agg m.cells, .int .i64 0]) := fun H => by
    have := decode_ok G hG hF (encB m) hl H
    rwa [dec_enc hj hc] at this
  generalize m.cells = mc at *
  generalize encB m = eb at *
  refine ACall.of_go TB [] tabOK _ Tryz.func38 rfl (by decide) Tryz.ntmps38 (by simp) rfl (by simp only [initEnv, Nat.reduceAdd]; rfl) fun C R' hR hC hcl hB => ?_; have X := noX; have hC' := congrArg List.length hC
  have X := And.intro X hml
  (refine run ?_; repeat' (first | with_reducible exact trivial | ((with_reducible apply Fork.mk) <;> intro hb) | with_reducible apply Two.mk))
  exact finS hR hC' hcl (.same _ (by simp only [resSV, SV.under, hmu])) ⟨rfl, rfl⟩

/-! ### the example's image -/
def con0 : Con := ⟨[80, 114, 105, 109, 46, 70, 97, 108, 115, 101], 0, 0, 2⟩
def con1 : Con := ⟨[80, 114, 105, 109, 46, 84, 114, 117, 101], 0, 1, 2⟩
def con2 : Con := ⟨[80, 114, 105, 109, 46, 40, 41], 0, 0, 1⟩
def con3 : Con := ⟨[80, 114, 105, 109, 46, 66, 111, 120], 1, 0, 1⟩
def smallI1 : Ins := ⟨1, 1, 0, 0, 7, []⟩
def smallI2 : Ins := ⟨12, 1, 0, 0, 3, [1]⟩
def smallI3 : Ins := ⟨19, 0, 1, 0, 0, []⟩
def smallF : Fun := ⟨[109], false, false, 0, 1, 2, [smallI1, smallI2, smallI3]⟩
def smallM : Img := ⟨[con0, con1, con2, con3], [smallF], [⟨1, 0, []⟩], 0⟩
theorem isI_small (n : Int) (h : -1000 ≤ n ∧ n ≤ 1000) : isI n := ⟨by omega, by omega⟩
theorem smallJ : ImgJ smallM := by
  refine ⟨⟨isI_small _ (by decide), fun c hc => ?_⟩, ⟨isI_small _ (by decide), fun f hf => ?_⟩, ⟨isI_small _ (by decide), fun g hg => ?_⟩, isI_small _ (by decide)⟩
  · have : c = con0 ∨ c = con1 ∨ c = con2 ∨ c = con3 := by simpa [smallM] using hc
    rcases this with rfl | rfl | rfl | rfl <;> exact ⟨isI_small _ (by decide), isI_small _ (by decide), isI_small _ (by decide), isI_small _ (by decide)⟩
  · obtain rfl : f = smallF := by simpa [smallM] using hf
    refine ⟨isI_small _ (by decide), isI_small _ (by decide), isI_small _ (by decide), isI_small _ (by decide), isI_small _ (by decide), fun i hi => ?_⟩
    have : i = smallI1 ∨ i = smallI2 ∨ i = smallI3 := by simpa [smallF] using hi
    rcases this with rfl | rfl | rfl <;> exact ⟨isI_small _ (by decide), isI_small _ (by decide), isI_small _ (by decide), isI_small _ (by decide), isI_small _ (by decide), isI_small _ (by decide), fun n hn => by
      first
        | (cases hn; done)
        | (obtain rfl : n = 1 := by simpa [smallI2] using hn
           exact isI_small _ (by decide))⟩
  · obtain rfl : g = ⟨1, 0, []⟩ := by simpa [smallM] using hg
    exact ⟨isI_small _ (by decide), isI_small _ (by decide), isI_small _ (by decide), fun r hr => by cases hr⟩
theorem smallB : ImgB smallM := by
  refine ⟨by decide, by decide, by decide, fun f hf => ?_, fun g hg => ?_⟩
  · obtain rfl : f = smallF := by simpa [smallM] using hf
    refine ⟨by decide, fun i hi => ?_⟩
    have : i = smallI1 ∨ i = smallI2 ∨ i = smallI3 := by simpa [smallF] using hi
    rcases this with rfl | rfl | rfl <;> decide
  · obtain rfl : g = ⟨1, 0, []⟩ := by simpa [smallM] using hg
    decide
theorem small_chk : chkS smallM 65536 = 0 := by decide +kernel
theorem small_len : (encB smallM).length < 4294967296 := by decide +kernel
end Go.Proofs.YthgdcjenoiojeaaGreatDoor
end

section
namespace Go.Proofs.YthgdcjenoiojeaaGreatDoor
open Go
set_option linter.unusedSimpArgs false
set_option linter.unusedVariables false
set_option maxRecDepth 100000
set_option maxHeartbeats 4000000

abbrev smallV : SV := .agg smallM.cells
def ovClone (x : SV) (H : List Blk) : Option (SV × List Blk) := match seqOf H x with
  | some xs => bif SV.underL 0 xs && szOK H 2 x && Nat.blt xs.length 1000 then some (.sl H.length 0 0 xs.length, H ++ [.cells 0 2 xs]) else none
  | none => none
/-- what is known already: a copy of words, room for some words, an empty heap, the example's image checked and copied -/
def ovV : RC := fun f args H => match args with
  | [x] => bif Nat.beq f 32 then ovClone x H
    else bif Nat.beq f 38 then (bif SV.lax x smallV then some (smallV, H) else none)
    else none
  | [x, y] => bif Nat.beq f 51 then (match x, y with
      | .nil, .int .i64 n => (match n with
        | .ofNat (k + 1) => bif Nat.blt k 1000 then some (.sl H.length 0 0 0, H ++ [.cells 0 2 []]) else none
        | _ => none)
      | _, _ => none)
    else bif Nat.beq f 35 then (bif SV.lax x smallV && SV.same y (.int .i64 65536) then some (.int .i64 0, H) else none)
    else bif Nat.beq f 36 then (bif SV.same x (.int .i64 (4096 : Nat)) && SV.same y (.int .i64 (16384 : Nat)) then some (.tuple [.ptr (H.length + 2) 0 0 0, .int .i64 0], H ++ heapB H.length 4096 16384 36864) else none)
    else none
  | _ => none
def owV (f : FuncId) : List Nat := []
def isT : Option (SV × List Blk) → Bool
  | some (.bool true, _) => true
  | _ => false
end Go.Proofs.YthgdcjenoiojeaaGreatDoor
end

section
namespace Go.Proofs.YthgdcjenoiojeaaGreatDoor
open Go
set_option linter.unusedSimpArgs false
set_option linter.unusedVariables false
set_option maxRecDepth 100000
set_option maxHeartbeats 4000000

/-- what such a call leaves behind is forgotten -/
def gcV (f : FuncId) : Bool := Nat.beq f 20 || Nat.beq f 25 || Nat.beq f 41 || Nat.beq f 42 || Nat.beq f 46 || Nat.beq f 50 || Nat.beq f 15 || Nat.beq f 16 || Nat.beq f 17 || Nat.beq f 33 || Nat.beq f 65
theorem awake_run (l : Option Cx) : isT (evF2 Tryz.prog ⟨[(0, fieldsV)], l⟩ TB owV gcV ovV 5000 40 7 [] []) = true := by kernel_rfl
end Go.Proofs.YthgdcjenoiojeaaGreatDoor
end

section
namespace Go.Proofs.YthgdcjenoiojeaaGreatDoor
open Go
set_option linter.unusedSimpArgs false
set_option linter.unusedVariables false
set_option maxRecDepth 100000
set_option maxHeartbeats 4000000

theorem Rep.int_of {c : Cx} {k : IntKind} {n : Int} {v : Value} (h : Rep c (.int k n) v) : Rep c (.int k n) v := h
theorem ovV_ok (G : Gl) (hG : GClosed G) (hF : GF G) : RCok Tryz.prog G ovV := by
  intro f xs H x H' h
  unfold ovV at h
  split at h
  · rename_i y
    cases hf : Nat.beq f 32 with
    | true =>
      rw [hf, cond_true] at h
      have hf := Nat.eq_of_beq_eq_true hf
      subst hf
      unfold ovClone at h
      split at h
      · rename_i zs hs
        cases hc : (SV.underL 0 zs && szOK H 2 y && Nat.blt zs.length 1000) with
        | false => rw [hc] at h; cases h
        | true =>
          rw [hc, cond_true] at h
          cases h
          simp only [Bool.and_eq_true] at hc
          obtain ⟨⟨h1, h2⟩, h3⟩ := hc
          have h3 : zs.length < 1000 := by simpa [Nat.blt_eq] using h3
          have hu : ∀ n, SV.underL n zs = true := fun n => (SV.below_mono_both (Nat.zero_le n)).2 _ h1
          cases y with
          | nil => simp only [seqOf, Option.some.injEq] at hs; subst hs; exact cloneW_nil G hG H
          | list sz ys =>
            simp only [seqOf, Option.some.injEq] at hs
            subst hs
            simp only [szOK, beq_iff_eq] at h2
            subst h2
            exact cloneW_list G hG ys hu H h3
          | sl id g off len =>
            unfold seqOf at hs
            split at hs
            · rename_i sz vals hb
              cases hs
              simp only [szOK, hb, beq_iff_eq] at h2
              subst h2
              have hH : H[id]? = some (.cells g 2 vals) := by
                unfold blkOf at hb
                cases hH : H[id]? with
                | none => rw [hH] at hb; cases hb
                | some B =>
                  rw [hH] at hb
                  cases B with
                  | cells g' sz' vals' =>
                    simp only at hb
                    by_cases hg : g = g'
                    · rw [if_pos hg] at hb; cases hb; rw [hg]
                    · rw [if_neg hg] at hb; cases hb
                  | _ => cases hb
              exact cloneW_sl G hG id g off len vals _ H hH rfl hu h3
            · cases hs
          | _ => cases hs
      · cases h
    | false =>
      rw [hf, cond_false] at h
      cases hf2 : Nat.beq f 38 with
      | false => rw [hf2] at h; cases h
      | true =>
        rw [hf2, cond_true] at h
        have hf2 := Nat.eq_of_beq_eq_true hf2
        subst hf2
        cases hl : SV.lax y smallV with
        | false => rw [hl] at h; cases h
        | true =>
          rw [hl, cond_true] at h
          cases h
          exact (own_ok G hG hF smallM smallB smallJ small_chk small_len H).lax (by simp only [SV.laxL, hl, Bool.and_self])
  · rename_i y z
    cases hf : Nat.beq f 51 with
    | true =>
      rw [hf, cond_true] at h
      have hf := Nat.eq_of_beq_eq_true hf
      subst hf
      split at h
      · rename_i n
        split at h
        · rename_i k
          cases hk : Nat.blt k 1000 with
          | false => rw [hk] at h; cases h
          | true =>
            rw [hk, cond_true] at h
            cases h
            have hk : k < 1000 := by simpa [Nat.blt_eq] using hk
            exact ACall.of_grow G (k + 1) (by omega) (by omega) H
        · cases h
      · cases h
    | false =>
      rw [hf, cond_false] at h
      cases hf2 : Nat.beq f 35 with
      | true =>
        rw [hf2, cond_true] at h
        have hf2 := Nat.eq_of_beq_eq_true hf2
        subst hf2
        cases hl : (SV.lax y smallV && SV.same z (.int .i64 65536)) with
        | false => rw [hl] at h; cases h
        | true =>
          rw [hl, cond_true] at h
          cases h
          rw [Bool.and_eq_true] at hl
          rw [SV.same_both.1 _ _ hl.2]
          have := check_ok G hG hF smallM 65536 smallB H
          rw [small_chk] at this
          exact this.lax (by simp only [SV.laxL, hl.1, SV.lax, SV.same]; decide)
      | false =>
        rw [hf2, cond_false] at h
        cases hf3 : Nat.beq f 36 with
        | false => rw [hf3] at h; cases h
        | true =>
          rw [hf3, cond_true] at h
          have hf3 := Nat.eq_of_beq_eq_true hf3
          subst hf3
          cases hl : (SV.same y (.int .i64 (4096 : Nat)) && SV.same z (.int .i64 (16384 : Nat))) with
          | false => rw [hl] at h; cases h
          | true =>
            rw [hl, cond_true] at h
            cases h
            rw [Bool.and_eq_true] at hl
            rw [SV.same_both.1 _ _ hl.1, SV.same_both.1 _ _ hl.2]
            exact heapNew_ok G hG 4096 16384 36864 (by decide) (by decide) (by decide) (by decide) (by decide) H
  · cases h
theorem names_ok : ∀ (f : FuncId) (fn : Func), Tryz.prog.funcs[f]? = some fn → (fn.name == "runtime.NumGoroutine") = false := by
  intro f fn h
  have hall : (Tryz.prog.funcs.toList.all fun fn => !(fn.name == "runtime.NumGoroutine")) = true := by decide +kernel
  have hm : fn ∈ Tryz.prog.funcs.toList := by
    rw [← Array.getElem?_toList] at h
    exact List.mem_of_getElem? h
  have := List.all_eq_true.1 hall fn hm
  simpa using this
/-- THE EXAMPLE RUNS. -/
theorem awake_ok (C0 : Cx) (h0 : C0.H = []) (H : List Blk) : ACall Tryz.prog ⟨[(0, fieldsV)], some C0⟩ 7 [] H (fun r H' => H' = H ∧ r = .bool true) := by
  have hr := awake_run (some C0)
  have hG : GClosed ⟨[(0, fieldsV)], some C0⟩ := fun p hp => by
    rcases List.mem_cons.1 hp with rfl | hp
    · exact ints_under _ _
    · cases hp
  have hev := evF2_ok (P := Tryz.prog) (G := ⟨[(0, fieldsV)], some C0⟩) (T := TB) (ow := owV) (gc := gcV) (ov := ovV) (fuel := 5000) hG (ovV_ok _ hG rfl) tabOK mixOK names_ok 40
  generalize hE : evF2 Tryz.prog ⟨[(0, fieldsV)], some C0⟩ TB owV gcV ovV 5000 40 7 [] [] = E at hr
  cases E with
  | none => cases hr
  | some r =>
    obtain ⟨v, H1⟩ := r
    cases v with
    | bool b => cases b with
      | false => cases hr
      | true => exact ACall.lift (G0 := ⟨[(0, fieldsV)], some C0⟩) C0 rfl rfl h0 hG (fun p hp => hp) ((hev _ _ _ _ _ hE).mono fun r H2 h => h.2) H
    | _ => cases hr
end Go.Proofs.YthgdcjenoiojeaaGreatDoor
end

section
namespace Go.Proofs.YthgdcjenoiojeaaGreatDoor
open Go
set_option linter.unusedSimpArgs false
set_option linter.unusedVariables false
set_option maxRecDepth 10000
set_option maxHeartbeats 4000000

theorem runNil_ok (G : Gl) (hG : GClosed G) (n : Int) (H : List Blk) : ACall Tryz.prog G 4 [.nilptr, .int .i64 n] H (fun r H' => H' = H ∧ r = .agg [.str [], .int .i64 0, .int .i64 0]) := by
  refine ACall.of_go TB [] tabOK _ Tryz.func4 rfl (by decide) Tryz.ntmps4 (by simp) rfl (by simp only [initEnv, Nat.reduceAdd]; rfl) fun C R' hR hC hcl hB => ?_; have X := noX; have hC' := congrArg List.length hC
  (refine run ?_; repeat' (first | with_reducible exact trivial | ((with_reducible apply Fork.mk) <;> intro hb) | with_reducible apply Two.mk))
  exact finS hR hC' hcl (.same _ rfl) ⟨rfl, rfl⟩
theorem stepsNil_ok (G : Gl) (hG : GClosed G) (H : List Blk) : ACall Tryz.prog G 5 [.nilptr] H (fun r H' => H' = H ∧ r = .int .i64 0) := by
  refine ACall.of_go TB [] tabOK _ Tryz.func5 rfl (by decide) Tryz.ntmps5 (by simp) rfl (by simp only [initEnv, Nat.reduceAdd]; rfl) fun C R' hR hC hcl hB => ?_; have X := noX; have hC' := congrArg List.length hC
  (refine run ?_; repeat' (first | with_reducible exact trivial | ((with_reducible apply Fork.mk) <;> intro hb) | with_reducible apply Two.mk))
  exact Fin.out hR ⟨rfl, rfl⟩
theorem allocsNil_ok (G : Gl) (hG : GClosed G) (H : List Blk) : ACall Tryz.prog G 6 [.nilptr] H (fun r H' => H' = H ∧ r = .int .i64 0) := by
  refine ACall.of_go TB [] tabOK _ Tryz.func6 rfl (by decide) Tryz.ntmps6 (by simp) rfl (by simp only [initEnv, Nat.reduceAdd]; rfl) fun C R' hR hC hcl hB => ?_; have X := noX; have hC' := congrArg List.length hC
  (refine run ?_; repeat' (first | with_reducible exact trivial | ((with_reducible apply Fork.mk) <;> intro hb) | with_reducible apply Two.mk))
  exact Fin.out hR ⟨rfl, rfl⟩
theorem vmNil_ok (C0 : Cx) (h0 : C0.H = []) (n : Int) (H : List Blk) : ACall Tryz.prog ⟨[(0, fieldsV)], some C0⟩ 3 [.int .i64 n] H (fun r H' => H' = H ∧ r = .bool true) := by
  have hG : GClosed ⟨[(0, fieldsV)], some C0⟩ := fun p hp => by
    rcases List.mem_cons.1 hp with rfl | hp
    · exact ints_under _ _
    · cases hp
  have c1 := fun H => runNil_ok _ hG n H
  have c2 := fun H => stepsNil_ok _ hG H
  have c3 := fun H => allocsNil_ok _ hG H
  have c4 := fun H => awake_ok C0 h0 H
  refine ACall.of_go TB [] tabOK _ Tryz.func3 rfl (by decide) Tryz.ntmps3 (by simp) rfl (by simp only [initEnv, Nat.reduceAdd]; rfl) fun C R' hR hC hcl hB => ?_; have X := noX; have hC' := congrArg List.length hC
  (refine run ?_; repeat' (first | with_reducible exact trivial | ((with_reducible apply Fork.mk) <;> intro hb) | with_reducible apply Two.mk))
  exact Fin.out hR ⟨rfl, by simp [resSV]⟩
end Go.Proofs.YthgdcjenoiojeaaGreatDoor
end

section
namespace Go.Proofs.YthgdcjenoiojeaaGreatDoor
open Go Go.ChangeShapes Go.WideShapes Go.RowKit
set_option linter.unusedVariables false
set_option linter.unusedSimpArgs false

/-- the laid table among what the walks may lean on -/
def Gf (W : World) : Gl := ⟨[(0, fieldsV)], some (rdC W)⟩
theorem gclosedF (W : World) : GClosed (Gf W) := by
  intro p hp
  rcases List.mem_cons.1 hp with rfl | hp
  · exact ints_under _ _
  · cases hp
theorem gF (W : World) : GF (Gf W) := rfl
theorem own : ownKnob Tryz.prog.godebug = none := by kernel_rfl
theorem laid : laidOutB Tryz.prog = true := by kernel_rfl
theorem gTab : Tryz.prog.globalNamed "teasel/code.fields" = some 0 := by kernel_rfl
theorem gTabType : (Tryz.prog.globals[0]?).map (·.type) = some 173 := by kernel_rfl
theorem cellsT : Tryz.prog.cellsOf 173 = 27 := by kernel_rfl
theorem cells3 : Tryz.prog.cellsOf 3 = 1 := by kernel_rfl
theorem table {W : World} (h : laidMetH Tryz.prog [("teasel/code.fields", Rows.laid_teasel_code_fields)] W) : Lib.TabIs Tryz.prog W "teasel/code.fields" .i64 fieldsL :=
  Lib.tabIs_of_head (rest := []) gTab gTabType Tryz.underlying173 Tryz.underlying3 cells3 cellsT h
theorem ints_rep {c : Cx} : ∀ (l : List Int), (∀ n ∈ l, IntKind.i64.min ≤ n ∧ n ≤ IntKind.i64.max) → RepL c (l.map (.int .i64)) (l.map fun n => Value.int .i64 n)
  | [], _ => RepL.mk_nil
  | n :: l, h => RepL.mk_cons (by simp only [Rep]; exact ⟨trivial, h n (by simp)⟩) (ints_rep l fun m hm => h m (by simp [hm]))
theorem gok {W : World} (h : laidMetH Tryz.prog [("teasel/code.fields", Rows.laid_teasel_code_fields)] W) : GOK (Gf W) (rdC W) := by
  refine ⟨fun p hp => ?_, fun C0 h0 => (by cases h0; exact Grow.refl _)⟩
  rcases List.mem_cons.1 hp with rfl | hp
  · have ht : ∀ i, i < 27 → W.cell? ⟨0, i, none⟩ = some (.int .i64 (fieldsL.getD i 0)) := fun i hi => (table h).cell gTab i hi
    have h0 := ht 0 (by omega)
    have hsz : 0 < W.heap.size := by
      have : W.heap[0]? ≠ none := fun e => by simp [World.cell?, e] at h0
      simp only [ne_eq, Array.getElem?_eq_none_iff] at this; omega
    simp only [Rep]
    refine ⟨0, 0, .agg (fieldsL.map fun n => Value.int .i64 n).toArray, rfl, ⟨_, ints_rep fieldsL (by decide), ?_, rfl⟩, ?_, ?_, rdC_imm hsz⟩
    · intro u hu; obtain ⟨n, _, rfl⟩ := List.mem_map.1 hu; rfl
    · intro v hv
      obtain ⟨n, _, rfl⟩ := List.mem_map.1 (show v ∈ fieldsL.map fun n => Value.int .i64 n by simpa [Value.cells] using hv)
      rfl
    · intro j v hv
      have hv2 : (fieldsL.map fun n => Value.int .i64 n)[j]? = some v := by simpa [Value.cells] using hv
      rw [List.getElem?_map, Option.map_eq_some_iff] at hv2
      obtain ⟨n, hn, rfl⟩ := hv2
      have hj := (List.getElem?_eq_some_iff.1 hn).1
      show W.cell? ⟨0, 0 + j, none⟩ = _
      rw [Nat.zero_add, ht j hj, List.getD_eq_getElem?_getD, hn]; rfl
  · cases hp

section
variable {H : Type} {enc : TypeId × Value → H} {W : World} {sp : Nat → Bool}
theorem law_callsG {P : Program} {G : Gl} {f : FuncId} {args : List SV} {vs : List Value} (h : ACall P G f args [] (fun r H' => H' = [] ∧ r = .bool true)) (hg : GOK G (rdC W)) (hv : RepL (rdC W) args vs) {R : World → Prop} (hR : ∀ W', Below W.heap.size W W' → R W') :
    Calls P f vs.toArray W fun e W' => ∃ v, e = .returned v ∧ v = .bool true ∧ R W' := by
  refine (callsIn_wide (n := 0)).1 ((h.2 (rdC W) vs rfl (rdC_ok W) hg hv).mono ?_)
  rintro e w' ⟨v, x, c', rfl, hw, ⟨_, rfl⟩, _, hx, hg⟩
  simp only [Rep] at hx
  exact ⟨v, rfl, hx, hR _ (Grow.below hg hw)⟩
end
/-- A WORLD FOR THE WITNESS. -/
noncomputable def laidWorld (os : Os) : World :=
  { World.holding Tryz.prog os ⟨#[], #[], []⟩ with heap := (World.holding Tryz.prog os ⟨#[], #[], []⟩).heap.modify 0 fun
      | .cells _ t frozen => .cells (fieldsL.map fun n => Value.int .i64 n).toArray t frozen
      | o => o }
end Go.Proofs.YthgdcjenoiojeaaGreatDoor
end

section
namespace Go.Proofs.YthgdcjenoiojeaaGreatDoor.vmNil
open Go Go.ChangeShapes Go.WideShapes Go.RowKit
set_option linter.unusedVariables false

set_option maxRecDepth 100000 in
theorem contract (H : Type) (enc : TypeId × Value → H) (W : World) (base : Nat) (args : Array Value) (ds gs : List (DataW H)) (before : List MemPlace)
    (hval : ∀ (j : Nat) t v, Tryz.f3.params[j]? = some t → args[j]? = some v → Value.okWide Tryz.prog W .any base t v)
    (hW : DataW.Whole enc Tryz.prog Tryz.f3.params.toList Rows.vmNilSpec.vars false W args.toList ds gs before) (hL : laidMetH Tryz.prog Rows.vmNilRow.laid W) :
    Calls Tryz.prog 3 args W fun e W' => ∃ v, e = .returned v ∧ Rows.vmNilSpec.post enc Tryz.prog Tryz.f3 false true false false W args v W' := by
  have hW' := hW
  obtain ⟨p, q, hA0, hV, rfl, hfz, hnd⟩ := hW
  have hA : DataW.TrodAll enc Tryz.prog W 0 (fun _ => true) true Tryz.f3.params.toList args.toList ds p := hA0
  rw [Tryz.params3] at hA hval
  obtain ⟨v0, vs0, d0, ds0, p0, q0, hargs, rfl, rfl, h0, r0⟩ := trodAll_cons hA
  obtain ⟨rfl, rfl, rfl⟩ := trodAll_nil r0
  obtain rfl : args = #[v0] := by cases args; simp_all
  obtain ⟨rfl, rfl⟩ := trodVars_none hV
  obtain ⟨n, rfl, rfl, rfl, hn⟩ := open_int Tryz.underlying3 (hval 0 3 v0 (by simp) (by simp)) h0
  refine (law_callsG (args := [.int .i64 n]) (vs := [.int .i64 n]) (vmNil_ok (rdC W) rfl n []) (gok hL) ?_ (fun W' => law_post laid rfl hW' ?_ rfl (by kernel_rfl) rfl rfl rfl)).mono ?_
  · refine RepL.mk_cons ?_ RepL.mk_nil
    simp only [Rep]; exact ⟨trivial, wf_range hn⟩
  · intro t ht
    rw [Tryz.params3] at ht
    simp only [List.mem_cons, List.not_mem_nil, or_false] at ht
    subst ht
    exact ⟨by kernel_rfl, of_decide_eq_true (by kernel_rfl)⟩
  · rintro _ W' ⟨v, rfl, rfl, hp⟩
    exact ⟨_, rfl, hp⟩

theorem laid_met (os : Os) : laidMet Tryz.prog Rows.vmNilRow.laid ((laidWorld os).forCall (fun _ _ => 0) ⟨#[], #[.int .i64 0], []⟩).memory :=
  laidMet_of_run' 8 (by kernel_rfl) (by kernel_rfl)
theorem reads (os : Os) {H : Type} (enc : TypeId × Value → H) : ∃ places, DataW.whole enc Tryz.prog ((laidWorld os).forCall (fun _ _ => 0) ⟨#[], #[.int .i64 0], []⟩).memory Tryz.f3.params.toList Rows.vmNilSpec.vars false #[Value.int .i64 0].toList 8 = some ([.lit (.int .i64 0)], [], places) :=
  ⟨[], by kernel_rfl⟩
set_option maxRecDepth 100000 in
theorem lifted (os : Os) (started : os.Started) (H : Type) (enc : TypeId × Value → H) (F : Stop.Interp) :
    ReturnsInHanded {} Tryz.checked os 3 .any ((OpenSpec.ofChange Rows.vmNilSpec).preRow enc Tryz.prog Tryz.f3 Rows.vmNilRow.domain false Rows.vmNilRow.laid) (((OpenSpec.ofChange Rows.vmNilSpec).at F).post enc Tryz.prog Tryz.f3 false true false false) := by
  obtain ⟨places, hx⟩ := reads os enc
  refine returnsInHanded_of_row (C := Tryz.checked) (s := OpenSpec.ofChange Rows.vmNilSpec) own started (by kernel_rfl) Tryz.func3
    (witness_row_at (enc := enc) (C := Tryz.checked) false (laidWorld os) #[.int .i64 0] rfl (by kernel_rfl) (by kernel_rfl) (by kernel_rfl)
      (OpenSpec.preRow_of_cond 8 hx (by kernel_rfl) (fun k hk => by cases hk) (by kernel_rfl) (laid_met os))) ?_
  intro W base args ds gs before hval hW _ _ _ hL _ _
  exact contract H enc W base args ds gs before hval hW hL
theorem said : Rows.VmNilSaid :=
  OpenClaim.holds_of_cond 3 Tryz.f3 rfl rfl rfl rfl rfl rfl rfl ⟨rfl, rfl, rfl, rfl, rfl⟩ rfl rfl rfl rfl rfl (by kernel_rfl) Tryz.func3 (by kernel_rfl)
    (of_decide_eq_true (by kernel_rfl)) (by unfold Func.isWrapper; first | (rw [if_pos (by decide +kernel)]; kernel_rfl) | (rw [if_neg (by decide +kernel)]; exact ⟨rfl, rfl⟩))
    (fun os started H enc _ F => by rw [OpenClaim.pre_eq_preRow]; exact lifted os started H enc F)
theorem plain (f : FuncId) (fn : Func) (hf : Tryz.pinned.checked.prog.funcNamed "teasel/teasellaw20.VmNil" = some f) (hfn : Tryz.pinned.checked.prog.funcs[f]? = some fn) :
    false = Tryz.pinned.checked.prog.looks [] ∧ ∀ (j : Nat) t, fn.params[j]? = some t → Tryz.pinned.checked.prog.wantsStandIn t = false := by
  obtain rfl : f = 3 := Option.some.inj ((show Tryz.prog.funcNamed "teasel/teasellaw20.VmNil" = some 3 by kernel_rfl).symm.trans hf) |>.symm
  obtain rfl : fn = Tryz.f3 := (Option.some.inj (Tryz.func3.symm.trans hfn)).symm
  refine ⟨by kernel_rfl, fun j t ht => ?_⟩
  rw [Tryz.params3] at ht
  have hm := Array.mem_of_getElem? ht
  obtain rfl : t = 3 := by simpa using hm
  exact (show Tryz.prog.wantsStandIn 3 = false by kernel_rfl)
theorem proved : Rows.VmNilCardSaid :=
  Claim7.holds_tied_plain_at .later [] _ _ _ _ said (fun _ h => by cases h) (by kernel_rfl) (fun _ h => by cases h) vmNil_row_tie rfl ⟨rfl, rfl⟩ (by kernel_rfl) rfl plain (by kernel_rfl)
end Go.Proofs.YthgdcjenoiojeaaGreatDoor.vmNil
end
