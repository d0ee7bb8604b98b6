/- A part of the proof: Sh3, Q1, X5, X3, X4, N3, E1, N4, N5, S6, S7, K11, SwP, SwQ, K1, S1, S2, S3, S4, U3, L0. -/
import Derived.Test.YtehfihnfeakmaaaGreatDoorMe
import Derived.Shelf.LaysM
import Derived.Shelf.Strconv.Itoa3
import Derived.Shelf.Strconv.AtoiAll
import Derived.Test.YtehfihnfeakmaaaGreatDoorProg
import Derived.Lib.SmallJoins
import Derived.Lib.AppendIntMem
import Derived.Lib.AtoiTie
import Derived.Lib.ItoaMem

set_option linter.unusedSimpArgs false
set_option linter.unusedVariables false
section
/- strconv.Itoa and strconv.Atoi at every argument: the shelf's contracts laid at this seat in plain words (printed by lay-plain.mjs). -/
namespace Go.Proofs
open Go.Shelf
def Tryz.laysM171_ren : Go.Shelf.Ren := ⟨fun | 171 => 82 | 243 => 126 | 246 => 153 | 283 => 165 | 284 => 166 | 285 => 167 | 286 => 168 | 129 => 140 | 317 => 172 | 318 => 173 | 319 => 174 | 320 => 175 | 337 => 176 | 338 => 177 | n => n, fun | 3 => 3 | 9 => 9 | 2 => 2 | 4 => 4 | 171 => 192 | 0 => 0 | 53 => 165 | 37 => 171 | 5 => 5 | 173 => 194 | 212 => 204 | 51 => 163 | 20 => 20 | 213 => 205 | 46 => 135 | 232 => 206 | 233 => 207 | n => n, fun | 17 => 2 | 18 => 3 | 19 => 4 | n => n⟩
theorem Tryz.laysM171 : Go.Proofs.LaysM.n171 Tryz.prog Tryz.laysM171_ren := {
  mixed := by kernel_rfl
  f129 := Tryz.func140.trans (congrArg some (by kernel_rfl))
  f171 := Tryz.func82.trans (congrArg some (by kernel_rfl))
  f243 := Tryz.func126.trans (congrArg some (by kernel_rfl))
  f246 := Tryz.func153.trans (congrArg some (by kernel_rfl))
  f283 := Tryz.func165.trans (congrArg some (by kernel_rfl))
  f284 := Tryz.func166.trans (congrArg some (by kernel_rfl))
  f285 := Tryz.func167.trans (congrArg some (by kernel_rfl))
  f286 := Tryz.func168.trans (congrArg some (by kernel_rfl))
  f317 := Tryz.func172.trans (congrArg some (by kernel_rfl))
  f318 := Tryz.func173.trans (congrArg some (by kernel_rfl))
  f319 := Tryz.func174.trans (congrArg some (by kernel_rfl))
  f320 := Tryz.func175.trans (congrArg some (by kernel_rfl))
  f337 := Tryz.func176.trans (congrArg some (by kernel_rfl))
  f338 := Tryz.func177.trans (congrArg some (by kernel_rfl))
  t0 := Tryz.underlying0
  a0 := Tryz.isAgg0
  z0 := Tryz.sizeOf0
  v0 := Tryz.zeroValue0
  t2 := Tryz.underlying2
  a2 := Tryz.isAgg2
  z2 := Tryz.sizeOf2
  v2 := Tryz.zeroValue2
  t3 := Tryz.underlying3
  a3 := Tryz.isAgg3
  z3 := Tryz.sizeOf3
  v3 := Tryz.zeroValue3
  t4 := Tryz.underlying4
  a4 := Tryz.isAgg4
  z4 := Tryz.sizeOf4
  v4 := Tryz.zeroValue4
  t5 := Tryz.underlying5
  a5 := Tryz.isAgg5
  z5 := Tryz.sizeOf5
  v5 := Tryz.zeroValue5
  t9 := Tryz.underlying9
  a9 := Tryz.isAgg9
  z9 := Tryz.sizeOf9
  v9 := Tryz.zeroValue9
  t20 := Tryz.underlying20
  a20 := Tryz.isAgg20
  z20 := Tryz.sizeOf20
  v20 := Tryz.zeroValue20
  t37 := Tryz.underlying171
  a37 := Tryz.isAgg171
  z37 := Tryz.sizeOf171
  v37 := Tryz.zeroValue171
  t46 := Tryz.underlying135
  a46 := Tryz.isAgg135
  z46 := Tryz.sizeOf135
  v46 := Tryz.zeroValue135
  t51 := Tryz.underlying163
  a51 := Tryz.isAgg163
  z51 := Tryz.sizeOf163
  v51 := Tryz.zeroValue163
  t53 := Tryz.underlying165
  a53 := Tryz.isAgg165
  z53 := Tryz.sizeOf165
  v53 := Tryz.zeroValue165
  t171 := Tryz.underlying192
  a171 := Tryz.isAgg192
  z171 := Tryz.sizeOf192
  v171 := Tryz.zeroValue192
  t173 := Tryz.underlying194
  a173 := Tryz.isAgg194
  z173 := Tryz.sizeOf194
  v173 := Tryz.zeroValue194
  t212 := Tryz.underlying204
  a212 := Tryz.isAgg204
  z212 := Tryz.sizeOf204
  v212 := Tryz.zeroValue204
  t213 := Tryz.underlying205
  a213 := Tryz.isAgg205
  z213 := Tryz.sizeOf205
  t232 := Tryz.underlying206
  a232 := Tryz.isAgg206
  z232 := Tryz.sizeOf206
  v232 := Tryz.zeroValue206
  t233 := Tryz.underlying207
  a233 := Tryz.isAgg207
  z233 := Tryz.sizeOf207
  v233 := Tryz.zeroValue207
  g17 := by kernel_rfl
  g18 := by kernel_rfl
  g19 := by kernel_rfl
  i0 := by kernel_rfl
  i2 := by kernel_rfl
  i3 := by kernel_rfl
  i4 := by kernel_rfl
  i5 := by kernel_rfl
  i9 := by kernel_rfl
  i20 := by kernel_rfl
  i37 := by kernel_rfl
  i46 := by kernel_rfl
  i51 := by kernel_rfl
  i53 := by kernel_rfl
  i171 := by kernel_rfl
  i173 := by kernel_rfl
  i212 := by kernel_rfl
  i232 := by kernel_rfl
  i233 := by kernel_rfl
  m17 := by kernel_rfl
  m18 := by kernel_rfl
  m19 := by kernel_rfl }
open Go.RowKit Go.Sort Go.Lib in
theorem Tryz.strconv_Itoa (n : Int) (h0 : -9223372036854775808 ≤ n) (h1 : n ≤ 9223372036854775807) (w : World) (htab : Lib.TabIs Tryz.prog w "internal/strconv.uint64pow10" .u64 Lib.pow10Tab) :
    Calls Tryz.prog 82 #[.int .i64 n] w fun e w' => e = .returned (.string ⟨(Lib.itoa n).toArray⟩) ∧ ∃ k os, w' = grow (w.drewN k) os := Any.strconv_Itoa Tryz.laysM171 n h0 h1 w htab
open Go.RowKit Go.Sort Go.Lib in
theorem Tryz.strconv_Atoi_ok (s : ByteArray) (hmax : s.size ≤ 9223372036854775806) (v : Int) (h : Lib.atoiAll s.data.toList = .ok v) (w : World) :
    Calls Tryz.prog 81 #[.string s] w fun e w' => e = .returned (.tuple #[.int .i64 v, .nilIface]) ∧ (w' = w ∨ ∃ t, w' = Lib.bytesWorld w 5 t) := Any.strconv_Atoi_ok Tryz.laysC172 s hmax v h w
open Go.RowKit Go.Sort Go.Lib in
theorem Tryz.strconv_Atoi_bad (s : ByteArray) (hlim : s.size ≤ 281474976710656) (h : Lib.atoiAll s.data.toList = Lib.atoiAll []) (ev : Value) (w : World) (hv : w.cell? ⟨0, 0, none⟩ = some ev) (hev : ev = .nilIface ∨ ∃ te pe, ev = .iface te pe) :
    Calls Tryz.prog 81 #[.string s] w fun e w' => ∃ N, e = .returned (.tuple #[.int .i64 0, .iface 174 (.pointer (some ⟨N, 0, none⟩))]) ∧ w.heap.size ≤ N ∧ w'.heap[N]? = some (.cells #[.string ⟨#[65, 116, 111, 105]⟩, .string s, ev] 190 (0, 0)) ∧ Below w.heap.size w w' := Any.strconv_Atoi_syntax Tryz.laysC172 s hlim h ev w hv hev
open Go.RowKit Go.Sort Go.Lib in
theorem Tryz.strconv_Atoi_range (s : ByteArray) (hlim : s.size ≤ 281474976710656) (h : Lib.atoiAll s.data.toList = .range) (ev : Value) (w : World) (hv : w.cell? ⟨1, 0, none⟩ = some ev) (hev : ev = .nilIface ∨ ∃ te pe, ev = .iface te pe) :
    Calls Tryz.prog 81 #[.string s] w fun e w' => ∃ N, e = .returned (.tuple #[.int .i64 (Lib.atoiSat s.data.toList), .iface 174 (.pointer (some ⟨N, 0, none⟩))]) ∧ w.heap.size ≤ N ∧ w'.heap[N]? = some (.cells #[.string ⟨#[65, 116, 111, 105]⟩, .string s, ev] 190 (0, 0)) ∧ Below w.heap.size w w' := Any.strconv_Atoi_range Tryz.laysC172 s hlim h ev w hv hev
end Go.Proofs
end

section
namespace Go.Proofs.YtehfihnfeakmaaaGreatDoor
open Go
set_option maxRecDepth 10000
set_option maxHeartbeats 4000000
structure LibAt (C0 : Cx) : Prop where
  h : C0.H = []
  es : ∃ ev, C0.w.cell? ⟨0, 0, none⟩ = some ev ∧ (ev = .nilIface ∨ ∃ te pe, ev = .iface te pe)
  er : ∃ ev, C0.w.cell? ⟨1, 0, none⟩ = some ev ∧ (ev = .nilIface ∨ ∃ te pe, ev = .iface te pe)
  tab : Lib.TabIs Tryz.prog C0.w "internal/strconv.uint64pow10" .u64 Lib.pow10Tab
theorem see_cell {C0 c : Cx} (h0 : C0.H = []) (hg : Grow C0 c) {k : Nat} {v : Value} (h : C0.w.cell? ⟨k, 0, none⟩ = some v) : c.w.cell? ⟨k, 0, none⟩ = some v := by
  have hlt : k < C0.w.heap.size := Lib.lt_of_cell h
  have hold := hg.old k hlt (fun ⟨id, o, ⟨B, hB, _⟩, _⟩ => by rw [h0] at hB; cases hB)
  rw [← h]
  unfold World.cell?
  rw [hold]
theorem see_tab {C0 c : Cx} (h0 : C0.H = []) (hg : Grow C0 c) {n : String} {k : IntKind} {zs : List Int} (h : Lib.TabIs Tryz.prog C0.w n k zs) : Lib.TabIs Tryz.prog c.w n k zs := by
  unfold Lib.TabIs World.var? at h ⊢
  cases hg2 : Tryz.prog.globalNamed n with
  | none => rw [hg2] at h; cases h
  | some g =>
    rw [hg2] at h
    simp only [Option.bind_some] at h ⊢
    split at h
    · rename_i cs T fr hc
      have hlt : g < C0.w.heap.size := (Array.getElem?_eq_some_iff.1 hc).1
      have hold := hg.old g hlt (fun ⟨id, o, ⟨B, hB, _⟩, _⟩ => by rw [h0] at hB; cases hB)
      rw [hold, hc]
      exact h
    · cases h
theorem ACall.of_plain {P : Program} {G : Gl} {f : FuncId} {args : List SV} {H : List Blk} {R : SV → Prop} (hf : ∃ fn, P.funcs[f]? = some fn ∧ (fn.name == "runtime.NumGoroutine") = false ∧ fn.body.isNone = false)
    (hc : ∀ (c : Cx) vs, GOK G c → RepL c args vs → Calls P f vs.toArray c.w fun e w' => ∃ v x, e = .returned v ∧ (∀ c, Rep c x v) ∧ R x ∧ Go.RowKit.Below c.w.heap.size c.w w') :
    ACall P G f args H (fun r H' => H' = H ∧ R r) := by
  refine ⟨hf, fun c vs e1 hh hG hv => ?_⟩
  subst e1
  refine (callsIn_wide (n := 0)).2 ?_
  refine (hc c vs hG hv).mono ?_
  rintro e w' ⟨v, x, rfl, hx, hr, hb⟩
  obtain ⟨g1, g2⟩ := Cx.world hh (w' := w') (fun b h => hb.block b h) hb.size hb.os hb.tape hb.output
  exact ⟨v, x, { c with w := w' }, rfl, rfl, ⟨rfl, hr⟩, g2, hx _, g1⟩
theorem nDigits_le : ∀ (k u : Nat), u < 10 ^ (k + 1) → Lib.nDigits u ≤ k + 1
  | 0, u, h => by rw [Lib.nDigits_small (by simpa using h)]; exact Nat.le_refl _
  | k + 1, u, h => by
    by_cases hu : u < 10
    · rw [Lib.nDigits_small hu]; omega
    · rw [Lib.nDigits_big hu]
      have := nDigits_le k (u / 10) (by rw [Nat.pow_succ] at h; omega)
      omega
theorem itoa_len (n : Int) (h0 : -9223372036854775808 ≤ n) (h1 : n ≤ 9223372036854775807) : (Lib.itoa n).length ≤ 20 := by
  unfold Lib.itoa
  split
  · rw [List.length_cons, Lib.decDigits_length]
    have := nDigits_le 18 n.natAbs (by omega)
    omega
  · rw [Lib.decDigits_length]
    have := nDigits_le 18 n.toNat (by omega)
    omega
theorem itoa_ok (G : Gl) (C0 : Cx) (hb : G.base = some C0) (hl : LibAt C0) (n : Int) (h0 : -9223372036854775808 ≤ n) (h1 : n ≤ 9223372036854775807) (H : List Blk) :
    ACall Tryz.prog G 82 [.int .i64 n] H (fun r H' => H' = H ∧ r = .str (Lib.itoa n)) := by
  refine ACall.of_plain ⟨_, Tryz.func82, by decide, rfl⟩ fun c vs hg hv => ?_
  obtain ⟨v, us, hv1, hv2, rfl⟩ := RepL.cons_iff.1 hv
  rw [RepL.nil_iff.1 hv2]
  simp only [Rep] at hv1
  obtain ⟨rfl, _⟩ := hv1
  refine (Tryz.strconv_Itoa n h0 h1 c.w (see_tab hl.h (hg.2 C0 hb) hl.tab)).mono ?_
  rintro e w' ⟨rfl, k, os, rfl⟩
  refine ⟨_, .str (Lib.itoa n), rfl, fun c => ?_, rfl, Go.Lib.below_grow _ _ (Nat.le_refl _) k os⟩
  simp only [Rep]
  exact ⟨trivial, by have := itoa_len n h0 h1; unfold maxLen; omega⟩
def atoA (s : Str) : Int × Bool := match Lib.atoiAll s with
  | .ok v => (v, true)
  | .range => (Lib.atoiSat s, false)
  | _ => (0, false)
theorem atoi_ok (G : Gl) (C0 : Cx) (hb : G.base = some C0) (hl : LibAt C0) (s : Str) (hs : s.length < 4294967296) (H : List Blk) :
    ACall Tryz.prog G 81 [.str s] H (fun r H' => H' = H ∧ r = .tuple [.int .i64 (atoA s).1, .ifc (atoA s).2]) := by
  refine ACall.of_plain ⟨_, Tryz.func81, by decide, rfl⟩ fun c vs hg hv => ?_
  obtain ⟨v, us, hv1, hv2, rfl⟩ := RepL.cons_iff.1 hv
  rw [RepL.nil_iff.1 hv2]
  simp only [Rep] at hv1
  obtain ⟨rfl, _⟩ := hv1
  have hsz : (⟨⟨s⟩⟩ : ByteArray).size = s.length := rfl
  have tell : ∀ (c : Cx) (n : Int) (z : Bool) (v : Value), (IntKind.i64.min ≤ n ∧ n ≤ IntKind.i64.max) → Rep c (.ifc z) v → v.oneCell' = true → Rep c (.tuple [.int .i64 n, .ifc z]) (.tuple #[.int .i64 n, v]) := fun c n z v hn hz _ => by
    simp only [Rep]
    exact ⟨[.int .i64 n, v], RepL.mk_cons (by simp only [Rep]; exact ⟨trivial, hn⟩) (RepL.mk_cons hz RepL.mk_nil), rfl⟩
  rcases ha : Lib.atoiAll s with n | _ | _
  · obtain ⟨vb0, vb1⟩ := Lib.atoiAll_bounds ha
    refine (Tryz.strconv_Atoi_ok ⟨⟨s⟩⟩ (by rw [hsz]; omega) n ha c.w).mono ?_
    rintro e w' ⟨rfl, hw⟩
    refine ⟨_, .tuple [.int .i64 n, .ifc true], rfl, fun c => tell c n true _ ⟨vb0, vb1⟩ (by simp only [Rep]) rfl, by simp only [atoA, ha], ?_⟩
    rcases hw with rfl | ⟨t, rfl⟩
    · exact Go.RowKit.Below.refl _ _
    · exact Lib.bytesWorld_below _ _ _
  · obtain ⟨ev, h1, h2⟩ := hl.es
    refine (Tryz.strconv_Atoi_bad ⟨⟨s⟩⟩ (by rw [hsz]; omega) ha ev c.w (see_cell hl.h (hg.2 C0 hb) h1) h2).mono ?_
    rintro e w' ⟨N, rfl, _, _, hbw⟩
    exact ⟨_, .tuple [.int .i64 0, .ifc false], rfl, fun c => tell c 0 false _ (by decide) (by simp only [Rep]; exact ⟨_, _, rfl⟩) rfl, by simp only [atoA, ha], hbw⟩
  · obtain ⟨ev, h1, h2⟩ := hl.er
    obtain ⟨sb0, sb1⟩ := Lib.atoiSat_bounds s
    refine (Tryz.strconv_Atoi_range ⟨⟨s⟩⟩ (by rw [hsz]; omega) ha ev c.w (see_cell hl.h (hg.2 C0 hb) h1) h2).mono ?_
    rintro e w' ⟨N, rfl, _, _, hbw⟩
    exact ⟨_, .tuple [.int .i64 (Lib.atoiSat s), .ifc false], rfl, fun c => tell c _ false _ ⟨sb0, sb1⟩ (by simp only [Rep]; exact ⟨_, _, rfl⟩) rfl, by simp only [atoA, ha], hbw⟩
end Go.Proofs.YtehfihnfeakmaaaGreatDoor
end

section
namespace Go.Proofs.YtehfihnfeakmaaaGreatDoor
open Go Go.ChangeShapes Go.WideShapes Go.RowKit
theorem gER : Tryz.prog.globalNamed "strconv.ErrRange" = some 1 := by kernel_rfl
theorem gERType : (Tryz.prog.globals[1]?).map (·.type) = some 116 := by kernel_rfl
theorem gPT : Tryz.prog.globalNamed "internal/strconv.uint64pow10" = some 2 := by kernel_rfl
theorem gPTType : (Tryz.prog.globals[2]?).map (·.type) = some 204 := by kernel_rfl
theorem cells165 : Tryz.prog.cellsOf 165 = 1 := by kernel_rfl
theorem cells204 : Tryz.prog.cellsOf 204 = 20 := by kernel_rfl
theorem tabEq : (Rows.laid_internal_strconv_uint64pow10 : DataW Unit) = Lib.tabData .u64 Lib.pow10Tab := by kernel_rfl
theorem libAt {W : World} (h : laidMetH Tryz.prog [("math/bits.deBruijn32tab", Rows.laid_math_bits_deBruijn32tab), ("math/bits.deBruijn64tab", Rows.laid_math_bits_deBruijn64tab), ("internal/strconv.uint64pow10", Rows.laid_internal_strconv_uint64pow10), ("strconv.ErrRange", Rows.laid_strconv_ErrRange), ("strconv.ErrSyntax", Rows.laid_strconv_ErrSyntax)] W) : LibAt (rdC W) := by
  have h3 : laidMet Tryz.prog [("internal/strconv.uint64pow10", Rows.laid_internal_strconv_uint64pow10), ("strconv.ErrRange", Rows.laid_strconv_ErrRange), ("strconv.ErrSyntax", Rows.laid_strconv_ErrSyntax)] W := laidMet.tail (laidMet.tail h)
  have h4 : laidMet Tryz.prog [("strconv.ErrRange", Rows.laid_strconv_ErrRange), ("strconv.ErrSyntax", Rows.laid_strconv_ErrSyntax)] W := laidMet.tail h3
  refine ⟨rfl, (errAt h).2, ?_, ?_⟩
  · obtain ⟨a0, s0, hv0, -, -, -⟩ := laid_sentinel h4 gER gERType Tryz.underlying116 row200 Tryz.underlying200 Tryz.underlying202 rfl rfl Tryz.underlying9 cells202 cells9
    exact ⟨_, (by have h0 := World.var?_cell gER hv0 0; show W.cell? _ = _; simpa using h0), .inr ⟨_, _, rfl⟩⟩
  · rw [tabEq] at h3
    exact Lib.tabIs_of_head gPT gPTType Tryz.underlying204 Tryz.underlying165 cells165 cells204 h3
theorem based0 (W : World) : Based (GB W) 0 := fun C1 e => by cases e; exact Nat.le_refl _
end Go.Proofs.YtehfihnfeakmaaaGreatDoor
end

section
namespace Go.Proofs.YtehfihnfeakmaaaGreatDoor
open Go Go.ChangeShapes Go.WideShapes Go.RowKit
section
variable {H : Type} {enc : TypeId × Value → H} {W : World} {sp : Nat → Bool}
theorem read_bds (n : Nat) : Rd enc Tryz.prog W sp n 23 (fun l : List Bd => [.list 9 (bdCells l)]) (fun l => 1 + bdsWt l) := by
  have h := rd_slice (enc := enc) (P := Tryz.prog) (W := W) (sp := sp) (t := 23) (e := 54) true (f := Bd.cells) (wt := Bd.wt) (n := 9) (N := n) (by kernel_rfl) (by kernel_rfl) (by kernel_rfl) (by omega) (.inl rfl) (fun m _ => (read_ex m).2.1)
  intro cs x hx
  obtain ⟨a, h1, h2, h3⟩ := h cs x hx
  have e : (a.map fun x => bx true x.cells) = bdCells a := by rw [bdCells_map]; rfl
  have h1 : Good W [SV.list 9 (a.map fun x => bx true x.cells)] cs := h1
  rw [e] at h1
  exact ⟨a, h1, h2, by show 1 + bdsWt a ≤ _; rw [bdsWt_sum]; exact h3⟩
end
end Go.Proofs.YtehfihnfeakmaaaGreatDoor
end

section
namespace Go.Proofs.YtehfihnfeakmaaaGreatDoor
open Go Go.ChangeShapes Go.WideShapes Go.RowKit
def Cn.wt (c : Cn) : Nat := c.name.length + 4
def Od.wt (o : Od) : Nat := o.name.length + 3 + o.nums.length
section
variable {H : Type} {enc : TypeId × Value → H} {W : World} {sp : Nat → Bool}
theorem read_cn (n : Nat) : Rd enc Tryz.prog W sp n 76 Cn.cells Cn.wt := by
  intro cs x hx
  obtain ⟨xs, m, hm, rfl, hl, hlen, hf⟩ := DataW.trod_struct Tryz.underlying76 hx
  obtain ⟨z0, z1, z2, z3, rfl⟩ : ∃ z0 z1 z2 z3, xs = [z0, z1, z2, z3] := by
    match xs, (show xs.length = 4 from hlen) with
    | [a, b, c, d], _ => exact ⟨a, b, c, d, rfl⟩
  have hsz : Tryz.prog.cellsOf 76 = 4 := by kernel_rfl
  obtain ⟨y0, s, e0, g0, w0⟩ := field_of hf 0 0 1 (by kernel_rfl) (by kernel_rfl) (read_str m) (by simp)
  obtain ⟨y1, a, e1, g1, w1⟩ := field_of hf 1 1 1 (by kernel_rfl) (by kernel_rfl) (read_int m) (by simp)
  obtain ⟨y2, b, e2, g2, w2⟩ := field_of hf 2 2 1 (by kernel_rfl) (by kernel_rfl) (read_int m) (by simp)
  obtain ⟨y3, c, e3, g3, w3⟩ := field_of hf 3 3 1 (by kernel_rfl) (by kernel_rfl) (read_int m) (by simp)
  rw [hsz] at hl
  refine ⟨⟨s, a, b, c⟩, ?_, by rw [hsz, hl], ?_⟩
  · have : (Cn.mk s a b c).cells = [.str s] ++ ([.int .i64 a] ++ ([.int .i64 b] ++ ([.int .i64 c] ++ []))) := rfl
    rw [this, ← List.drop_zero (l := cs)]
    refine .cut g0 (.cut g1 (.cut g2 (.cut g3 ?_)))
    rw [List.drop_eq_nil_of_le (by omega)]
    exact .nil
  · cases e0; cases e1; cases e2; cases e3
    simp only [Rows.uptoBulk, Rows.uptoBulkAll, List.map_cons, List.map_nil, Cn.wt]
    omega
theorem read_cns (n : Nat) : Rd enc Tryz.prog W sp n 22 (fun l : List Cn => [.list 4 (cnCells l)]) (fun l => 1 + (l.map Cn.wt).sum) :=
  rd_slice (enc := enc) (P := Tryz.prog) (W := W) (sp := sp) (t := 22) (e := 76) true (f := Cn.cells) (wt := Cn.wt) (n := 4) (N := n) (by kernel_rfl) (by kernel_rfl) (by kernel_rfl) (by omega) (.inl rfl) (fun m _ => read_cn m)
def Pg.wt (p : Pg) : Nat := 2 + (p.cons.map Cn.wt).sum + bdsWt p.binds
theorem read_pg (n : Nat) : Rd enc Tryz.prog W sp n 25 Pg.cells Pg.wt := by
  intro cs x hx
  obtain ⟨xs, m, hm, rfl, hl, hlen, hf⟩ := DataW.trod_struct Tryz.underlying25 hx
  obtain ⟨z0, z1, rfl⟩ := len_two (show xs.length = 2 from hlen)
  have hsz : Tryz.prog.cellsOf 25 = 2 := by kernel_rfl
  obtain ⟨y0, c, e0, g0, w0⟩ := field_of hf 0 0 1 (by kernel_rfl) (by kernel_rfl) (read_cns m) (by simp)
  obtain ⟨y1, b, e1, g1, w1⟩ := field_of hf 1 1 1 (by kernel_rfl) (by kernel_rfl) (read_bds m) (by simp)
  rw [hsz] at hl
  refine ⟨⟨c, b⟩, ?_, by rw [hsz, hl], ?_⟩
  · have : (Pg.mk c b).cells = [.list 4 (cnCells c)] ++ ([.list 9 (bdCells b)] ++ []) := rfl
    rw [this, ← List.drop_zero (l := cs)]
    refine .cut g0 (.cut g1 ?_)
    rw [List.drop_eq_nil_of_le (by omega)]
    exact .nil
  · cases e0; cases e1
    simp only [Rows.uptoBulk, Rows.uptoBulkAll, List.map_cons, List.map_nil, Pg.wt]
    omega
end
theorem sum_len {α : Type} {f : α → Nat} (h : ∀ x, 1 ≤ f x) : ∀ l : List α, l.length ≤ (l.map f).sum
  | [] => Nat.zero_le _
  | x :: l => by have := h x; have := sum_len h l; simp only [List.length_cons, List.map_cons, List.sum_cons]; omega
theorem strs_wt {l : List Str} {s : Str} (h : s ∈ l) : s.length ≤ strsWt l := by
  induction l with
  | nil => cases h
  | cons x r ih =>
    simp only [strsWt]
    rcases List.mem_cons.1 h with rfl | h
    · omega
    · have := ih h; omega
theorem bnds_wt : ∀ (m : Nat) (e : Ex) {s : Str}, s ∈ bndF m e → s.length ≤ e.wt
  | 0, e, s, h => by cases h
  | m + 1, .mk kd nm nn op names subs binds alts, s, h => by
    have h1 : bndF (m + 1) (.mk kd nm nn op names subs binds alts) = (if kd = 3 then names else []) ++ subs.flatMap (bndF m) ++ binds.flatMap (fun b => b.name :: bndF m b.e) ++ (if kd = 6 then [nm] else []) ++ alts.flatMap (fun a => a.names ++ bndF m a.body) := rfl
    rw [h1] at h
    have hp := Ex.parts_mk kd nm nn op names subs binds alts
    simp only [List.mem_append, List.mem_flatMap] at h
    rcases h with (((h | ⟨x, hx, h⟩) | ⟨b, hb, h⟩) | h) | ⟨a, ha, h⟩
    · split at h
      · have := strs_wt h; simp only [Ex.wt]; omega
      · cases h
    · have := bnds_wt m x h
      have := Ex.wt_parts (e := .mk kd nm nn op names subs binds alts) (p := x) (by rw [hp]; exact List.mem_append_left _ hx)
      omega
    · rcases List.mem_cons.1 h with rfl | h
      · have h2 : b.name.length + b.e.wt ≤ b.wt := by obtain ⟨q, e⟩ := b; simp only [Bd.wt, Bd.name, Bd.e]; omega
        have h3 : b.wt ≤ bdsWt binds := by
          clear h1 h2 hp
          induction binds with
          | nil => cases hb
          | cons y r ih =>
            simp only [bdsWt]
            rcases List.mem_cons.1 hb with rfl | hb
            · omega
            · have := ih hb; omega
        simp only [Ex.wt]; omega
      · have := bnds_wt m b.e h
        have := Ex.wt_parts (e := .mk kd nm nn op names subs binds alts) (p := b.e) (by rw [hp]; exact List.mem_append_right _ (List.mem_append_left _ (List.mem_map.2 ⟨b, hb, rfl⟩)))
        omega
    · split at h
      · rw [List.mem_singleton.1 h]; simp only [Ex.wt]; omega
      · cases h
    · rcases h with h | h
      · have h2 := strs_wt h
        have h3 := alsWt_mem ha
        obtain ⟨ak, an, am, al, ab⟩ := a
        simp only [Al.wt, Al.names, Ex.wt] at *
        omega
      · have := bnds_wt m a.body h
        have := Ex.wt_parts (e := .mk kd nm nn op names subs binds alts) (p := a.body) (by rw [hp]; exact List.mem_append_right _ (List.mem_append_right _ (List.mem_map.2 ⟨a, ha, rfl⟩)))
        omega
theorem bd_wt2 {l : List Bd} {b : Bd} (hb : b ∈ l) : b.wt ≤ bdsWt l := by
  induction l with
  | nil => cases hb
  | cons y r ih =>
    simp only [bdsWt]
    rcases List.mem_cons.1 hb with rfl | hb
    · omega
    · have := ih hb; omega
theorem bindersP_wt {l : List Bd} {s : Str} (h : s ∈ bindersP l) : s.length ≤ bdsWt l := by
  obtain ⟨b, hb, h⟩ := List.mem_flatMap.1 h
  have h3 := bd_wt2 hb
  have h2 : b.name.length ≤ b.wt ∧ b.e.wt ≤ b.wt := by obtain ⟨q, e⟩ := b; simp only [Bd.wt, Bd.name, Bd.e]; omega
  rcases List.mem_cons.1 h with rfl | h
  · omega
  · have := bnds_wt _ _ h; omega
end Go.Proofs.YtehfihnfeakmaaaGreatDoor
end

section
namespace Go.Proofs.YtehfihnfeakmaaaGreatDoor
open Go
set_option maxRecDepth 10000
set_option maxHeartbeats 4000000
def RbnC (G : Gl) (m : Nat) : Prop := ∀ (e : Ex) (H : List Blk), e.wt ≤ m → e.wt < 4294967296 → ACall Tryz.prog G 63 [e.sv] H (fun r H' => H' = H ++ [.cells 0 1 ((bndF m e).map .str)] ∧ r = .sl H.length 0 0 (bndF m e).length)
theorem rbinders_ok (G : Gl) (hG : GClosed G) : ∀ m, RbnC G m
  | 0, e, H, h, _ => absurd e.wt_pos (by omega)
  | m + 1, e, H, hm, hw0 => by
    have hrec := rbinders_ok G hG m
    obtain ⟨kd, nm, nn, op, names, subs, binds, alts⟩ := e
    have hle := Ex.wt_lens kd nm nn op names subs binds alts
    have hln := bndF_len (m + 1) (.mk kd nm nn op names subs binds alts)
    have hpw : ∀ p ∈ (Ex.mk kd nm nn op names subs binds alts).parts, p.wt ≤ m ∧ p.wt < 4294967296 := fun p hp => by have := Ex.wt_parts hp; exact ⟨by omega, by omega⟩
    rw [Ex.parts_mk] at hpw
    have eb : bndF (m + 1) (.mk kd nm nn op names subs binds alts) = (if kd = 3 then names else []) ++ subs.flatMap (bndF m) ++ binds.flatMap (fun b => b.name :: bndF m b.e) ++ (if kd = 6 then [nm] else []) ++ alts.flatMap (fun a => a.names ++ bndF m a.body) := rfl
    rw [eb] at hln ⊢
    clear eb
    have h3n : (if kd = 3 then names else []).length ≤ names.length := by split <;> simp
    generalize hl0 : (if kd = 3 then names else []) = l0 at *
    generalize hl5 : (if kd = 6 then [nm] else []) = l5 at *
    obtain ⟨L1, a1, a2, a3, a4⟩ := flat_seq (bndF m) l0 subs
    rw [← a4] at hln ⊢
    obtain ⟨L2, b1, b2, b3, b4⟩ := flat_seq (fun b : Bd => b.name :: bndF m b.e) (L1 subs.length) binds
    rw [← b4] at hln ⊢
    obtain ⟨L4, d1, d2, d3, d4⟩ := flat_seq (fun a : Al => a.names ++ bndF m a.body) (L2 binds.length ++ l5) alts
    rw [← d4] at hln ⊢
    rw [← a4] at a3
    rw [← b4] at b3
    rw [← d4] at d3
    have q4 : (L2 binds.length).length + l5.length ≤ (L4 alts.length).length := by have := d3 0; rw [d1, List.length_append] at this; exact this
    have q2 : (L1 subs.length).length ≤ (L2 binds.length).length := by have := b3 0; rw [b1] at this; exact this
    generalize hW : (Ex.mk kd nm nn op names subs binds alts).wt = W at *
    refine ACall.of_go TB [3] tabOK _ Tryz.func63 rfl (by decide) Tryz.ntmps63 (by simp) rfl (by simp only [initEnv, Nat.reduceAdd]; rfl) fun C R' hR hC hcl hB => ?_; have X := noX; have hC' := congrArg List.length hC
    (refine runC ?_; repeat' (first | with_reducible exact trivial | ((with_reducible apply Fork.mk) <;> intro hb) | with_reducible apply Two.mk))
    refine go_cut (fun _ : Unit => [(1, .ptr H.length 0 0 0), (3, .sl (H.length + 1) 0 0 l0.length)]) (fun _ => H ++ [.cells 0 8 [.agg [.int .i64 kd, .str nm, .int .i64 nn, .int .i64 op, .list 1 (names.map .str), .list 8 (exCells subs), .list 9 (bdCells binds), .list 12 (alCells alts)]], .cells 0 1 (l0.map .str)]) (fun _ => True) (fun K hK => ?_) (fun _ _ => ?_)
    · (refine runO ?_; repeat' (first | with_reducible exact trivial | ((with_reducible apply Fork.mk) <;> intro hb) | with_reducible apply Two.mk))
      · refine hK _ _ () trivial ?_
        rw [if_pos hb] at hl0
        subst hl0
        exact wkS (n0 := H.length) [(H.length, 0), (H.length + 1, 0)] hG hB hC' hcl
      · refine hK _ _ () trivial ?_
        rw [if_neg hb] at hl0
        subst hl0
        simp only [List.length_nil, List.map_nil]
        exact wkS (n0 := H.length) [(H.length, 0), (H.length + 1, 0)] hG hB hC' hcl
    (refine runO ?_; repeat' (first | with_reducible exact trivial | ((with_reducible apply Fork.mk) <;> intro hb) | with_reducible apply Two.mk))
    refine go_loop (fun i : Nat => [(1, .ptr H.length 0 0 0), (3, .sl (H.length + 1) 0 0 (L1 i).length), (4, .int .i64 i)])
      (fun i => H ++ [.cells 0 8 [.agg [.int .i64 kd, .str nm, .int .i64 nn, .int .i64 op, .list 1 (names.map .str), .list 8 (exCells subs), .list 9 (bdCells binds), .list 12 (alCells alts)]], .cells 0 1 ((L1 i).map .str)]) (fun i => subs.length - i) (fun i => i ≤ subs.length) 0 (Nat.zero_le _) ?_ ?_
    · rw [a1]
      exact Wk.sub (by simp [subEnv, look])
    rintro K i hi hK
    rcases Nat.lt_or_ge i subs.length with hlt | hge
    · have c1 := fun H => hrec subs[i] H (hpw _ (by simp)).1 (hpw _ (by simp)).2
      have e1 := a2 i hlt
      have e2 := a3 (i + 1)
      have e3 := a3 i
      have e4 := bndF_len m subs[i]
      have e5 := (hpw subs[i] (by simp)).2
      rw [e1, List.length_append] at e2
      generalize bndF m subs[i] = l at *
      generalize L1 i = l1 at *
      have X := And.intro noX (show (l1.map SV.str).length = l1.length ∧ (l.map SV.str).length = l.length from ⟨List.length_map .., List.length_map ..⟩)
      (refine run ?_; repeat' (first | with_reducible exact trivial | ((with_reducible apply Fork.mk) <;> intro hb) | with_reducible apply Two.mk))
      refine hK _ _ (i + 1) (by omega) (by omega) ?_
      rw [e1, List.map_append, show (l1 ++ l).length = l1.length + l.length from List.length_append ..]
      exact wkS (n0 := H.length) [(H.length, 0), (H.length + 1, 0)] hG hB hC' hcl
    obtain rfl : i = subs.length := by omega
    clear hK
    (refine runO ?_; repeat' (first | with_reducible exact trivial | ((with_reducible apply Fork.mk) <;> intro hb) | with_reducible apply Two.mk))
    refine go_loop (fun i : Nat => [(1, .ptr H.length 0 0 0), (3, .sl (H.length + 1) 0 0 (L2 i).length), (5, .int .i64 i)])
      (fun i => H ++ [.cells 0 8 [.agg [.int .i64 kd, .str nm, .int .i64 nn, .int .i64 op, .list 1 (names.map .str), .list 8 (exCells subs), .list 9 (bdCells binds), .list 12 (alCells alts)]], .cells 0 1 ((L2 i).map .str)]) (fun i => binds.length - i) (fun i => i ≤ binds.length) 0 (Nat.zero_le _) ?_ ?_
    · rw [b1]
      exact Wk.sub (by simp [subEnv, look])
    rintro K i hi hK
    rcases Nat.lt_or_ge i binds.length with hlt | hge
    · have hpb := hpw binds[i].e (by simp; exact .inr (.inl ⟨_, List.getElem_mem hlt, rfl⟩))
      have c1 := fun H => hrec binds[i].e H hpb.1 hpb.2
      have e1 := b2 i hlt
      have e2 := b3 (i + 1)
      have e3 := b3 i
      have e4 := bndF_len m binds[i].e
      rw [e1, List.length_append] at e2
      simp only [List.length_cons] at e2
      generalize bndF m binds[i].e = l at *
      generalize L2 i = l1 at *
      have X := And.intro noX (show (l1.map SV.str).length = l1.length ∧ (l.map SV.str).length = l.length from ⟨List.length_map .., List.length_map ..⟩)
      (refine run ?_; repeat' (first | with_reducible exact trivial | ((with_reducible apply Fork.mk) <;> intro hb) | with_reducible apply Two.mk))
      refine hK _ _ (i + 1) (by omega) (by omega) ?_
      rw [e1, List.map_append, List.map_cons, show (l1 ++ binds[i].name :: l).length = l1.length + (1 + l.length) from by simp; omega]
      exact wkS (n0 := H.length) [(H.length, 0), (H.length + 1, 0)] hG hB hC' hcl
    obtain rfl : i = binds.length := by omega
    clear hK
    (refine runC ?_; repeat' (first | with_reducible exact trivial | ((with_reducible apply Fork.mk) <;> intro hb) | with_reducible apply Two.mk))
    refine go_condDF rfl (by omega) ?_
    (refine runC ?_; repeat' (first | with_reducible exact trivial | ((with_reducible apply Fork.mk) <;> intro hb) | with_reducible apply Two.mk))
    refine go_cut (fun _ : Unit => [(1, .ptr H.length 0 0 0), (3, .sl (H.length + 1) 0 0 (L2 binds.length ++ l5).length)]) (fun _ => H ++ [.cells 0 8 [.agg [.int .i64 kd, .str nm, .int .i64 nn, .int .i64 op, .list 1 (names.map .str), .list 8 (exCells subs), .list 9 (bdCells binds), .list 12 (alCells alts)]], .cells 0 1 ((L2 binds.length ++ l5).map .str)]) (fun _ => True) (fun K hK => ?_) (fun _ _ => ?_)
    · have X := And.intro noX (show ((L2 binds.length).map SV.str).length = (L2 binds.length).length from List.length_map ..)
      (refine runO ?_; repeat' (first | with_reducible exact trivial | ((with_reducible apply Fork.mk) <;> intro hb) | with_reducible apply Two.mk))
      · refine hK _ _ () trivial ?_
        rw [if_pos hb] at hl5
        subst hl5
        rw [List.map_append, List.length_append, List.length_singleton]
        exact wkS (n0 := H.length) [(H.length, 0), (H.length + 1, 0)] hG hB hC' hcl
      · refine hK _ _ () trivial ?_
        rw [if_neg hb] at hl5
        subst hl5
        rw [List.append_nil]
        exact wkS (n0 := H.length) [(H.length, 0), (H.length + 1, 0)] hG hB hC' hcl
    (refine runO ?_; repeat' (first | with_reducible exact trivial | ((with_reducible apply Fork.mk) <;> intro hb) | with_reducible apply Two.mk))
    refine go_loop (fun i : Nat => [(1, .ptr H.length 0 0 0), (3, .sl (H.length + 1) 0 0 (L4 i).length), (6, .int .i64 i)])
      (fun i => H ++ [.cells 0 8 [.agg [.int .i64 kd, .str nm, .int .i64 nn, .int .i64 op, .list 1 (names.map .str), .list 8 (exCells subs), .list 9 (bdCells binds), .list 12 (alCells alts)]], .cells 0 1 ((L4 i).map .str)]) (fun i => alts.length - i) (fun i => i ≤ alts.length) 0 (Nat.zero_le _) ?_ ?_
    · rw [d1]
      exact Wk.sub (by simp [subEnv, look])
    rintro K i hi hK
    rcases Nat.lt_or_ge i alts.length with hlt | hge
    · have hpb := hpw alts[i].body (by simp; exact .inr (.inr ⟨_, List.getElem_mem hlt, rfl⟩))
      have c1 := fun H => hrec alts[i].body H hpb.1 hpb.2
      have e1 := d2 i hlt
      have e2 := d3 (i + 1)
      have e3 := d3 i
      have e4 := bndF_len m alts[i].body
      rw [e1, List.length_append] at e2
      simp only [List.length_append] at e2
      generalize bndF m alts[i].body = l at *
      generalize L4 i = l1 at *
      have X := And.intro noX (show (l1.map SV.str).length = l1.length ∧ (l.map SV.str).length = l.length from ⟨List.length_map .., List.length_map ..⟩)
      (refine run ?_; repeat' (first | with_reducible exact trivial | ((with_reducible apply Fork.mk) <;> intro hb) | with_reducible apply Two.mk))
      refine hK _ _ (i + 1) (by omega) (by omega) ?_
      rw [e1, List.map_append, List.map_append, show (l1 ++ (alts[i].names ++ l)).length = l1.length + (alts[i].names.length + l.length) from by simp]
      exact wkS (n0 := H.length) [(H.length, 0), (H.length + 1, 0)] hG hB hC' hcl
    obtain rfl : i = alts.length := by omega
    clear hK
    (refine runO ?_; repeat' (first | with_reducible exact trivial | ((with_reducible apply Fork.mk) <;> intro hb) | with_reducible apply Two.mk))
    exact finK [(H.length + 1, 0)] (.sl H.length 0 0 (L4 alts.length).length) [.cells 0 1 ((L4 alts.length).map .str)] hR hC' hcl ⟨rfl, rfl⟩
end Go.Proofs.YtehfihnfeakmaaaGreatDoor
end

section
namespace Go.Proofs.YtehfihnfeakmaaaGreatDoor
open Go
set_option maxRecDepth 10000
set_option maxHeartbeats 4000000
def eqL {α : Type} (p : α → α → Bool) : List α → List α → Bool
  | [], [] => true
  | x :: a, y :: b => p x y && eqL p a b
  | _, _ => false
theorem eqL_iff {α : Type} (p : α → α → Bool) : ∀ (a b : List α), eqL p a b = true ↔ a.length = b.length ∧ ∀ i (h : i < a.length) (h' : i < b.length), p a[i] b[i] = true
  | [], [] => by simp [eqL]
  | [], y :: b => by simp [eqL]
  | x :: a, [] => by simp [eqL]
  | x :: a, y :: b => by
    simp only [eqL, Bool.and_eq_true, eqL_iff p a b, List.length_cons, Nat.add_right_cancel_iff]
    constructor
    · rintro ⟨h1, h2, h3⟩
      refine ⟨h2, fun i h h' => ?_⟩
      cases i with
      | zero => exact h1
      | succ i => exact h3 i (by omega) (by omega)
    · rintro ⟨h1, h2⟩
      exact ⟨h2 0 (by omega) (by omega), h1, fun i h h' => h2 (i + 1) (by omega) (by omega)⟩
theorem eqL_no {α : Type} {p : α → α → Bool} {a b : List α} (h : a.length ≠ b.length) : eqL p a b = false := by
  rw [← Bool.not_eq_true, eqL_iff]; exact fun k => h k.1
theorem eqL_at {α : Type} {p : α → α → Bool} {a b : List α} {i : Nat} (h : i < a.length) (h' : i < b.length) (k : p a[i] b[i] = false) : eqL p a b = false := by
  rw [← Bool.not_eq_true, eqL_iff]; exact fun q => by have := q.2 i h h'; rw [k] at this; cases this
def strE (x y : Str) : Bool := decide (x = y)
def bdB (s1 s2 : Str) (z : Bool) : Bool := decide (s1 = s2) && z
def alB (k1 k2 : Int) (s1 s2 : Str) (n1 n2 : Int) (z2 z : Bool) : Bool := (((decide (k1 = k2) && decide (s1 = s2)) && decide (n1 = n2)) && z2) && z
def smB (k1 k2 : Int) (s1 s2 : Str) (n1 n2 o1 o2 : Int) (z1 z2 z3 z4 : Bool) : Bool := ((((((decide (k1 = k2) && decide (s1 = s2)) && decide (n1 = n2)) && decide (o1 = o2)) && z1) && z2) && z3) && z4
def bdP (p : Ex → Ex → Bool) (x y : Bd) : Bool := bdB x.name y.name (p x.e y.e)
def alP (p : Ex → Ex → Bool) (x y : Al) : Bool := alB x.kind y.kind x.name y.name x.n y.n (eqL strE x.names y.names) (p x.body y.body)
def smE : Nat → Ex → Ex → Bool
  | 0, _, _ => false
  | m + 1, .mk k1 s1 n1 o1 l1 u1 b1 a1, .mk k2 s2 n2 o2 l2 u2 b2 a2 =>
    smB k1 k2 s1 s2 n1 n2 o1 o2 (eqL strE l1 l2) (eqL (smE m) u1 u2) (eqL (bdP (smE m)) b1 b2) (eqL (alP (smE m)) a1 a2)
theorem eqL_self {α : Type} {p : α → α → Bool} : ∀ {l : List α}, (∀ x ∈ l, p x x = true) → eqL p l l = true
  | [], _ => rfl
  | x :: r, h => by
    rw [eqL, h x (List.mem_cons_self ..), eqL_self fun y hy => h y (List.mem_cons_of_mem _ hy)]; rfl
theorem strE_self (l : List Str) : eqL strE l l = true := eqL_self fun x _ => by simp [strE]
theorem smE_self : ∀ (m : Nat) (e : Ex), e.wt ≤ m → smE m e e = true
  | 0, e, h => absurd e.wt_pos (by omega)
  | m + 1, e, h => by
    have hp : ∀ p ∈ e.parts, smE m p p = true := fun p hp => smE_self m p (by have := Ex.wt_parts hp; omega)
    obtain ⟨kd, nm, nn, op, names, subs, binds, alts⟩ := e
    rw [Ex.parts_mk] at hp
    have h1 : eqL (smE m) subs subs = true := eqL_self fun x hx => hp x (by simp [hx])
    have h2 : eqL (bdP (smE m)) binds binds = true := eqL_self fun b hb => by
      have := hp b.e (by simp; exact .inr (.inl ⟨b, hb, rfl⟩))
      simp [bdP, bdB, this]
    have h3 : eqL (alP (smE m)) alts alts = true := eqL_self fun a ha => by
      have := hp a.body (by simp; exact .inr (.inr ⟨a, ha, rfl⟩))
      simp [alP, alB, this, strE_self]
    rw [smE, h1, h2, h3, strE_self]
    simp [smB]
end Go.Proofs.YtehfihnfeakmaaaGreatDoor
end

section
namespace Go.Proofs.YtehfihnfeakmaaaGreatDoor
open Go
set_option maxRecDepth 10000
set_option maxHeartbeats 4000000
theorem rtexts_ok (G : Gl) (hG : GClosed G) (a b : List (Str)) (ha : a.length < 1125899906842624) (hb0 : b.length < 1125899906842624) (H : List Blk) :
    ACall Tryz.prog G 91 [.list 1 (a.map SV.str), .list 1 (b.map SV.str)] H (fun r H' => H' = H ∧ r = .bool (eqL strE a b)) := by
  have h1 : (a.map SV.str).length = a.length := by simp
  have h2 : (b.map SV.str).length = b.length := by simp
  have hA1 : ∀ k : Nat, (a.map SV.str)[k]? = a[k]?.map SV.str := fun k => List.getElem?_map ..
  have hB1 : ∀ k : Nat, (b.map SV.str)[k]? = b[k]?.map SV.str := fun k => List.getElem?_map ..
  have hu1 : SV.underL H.length (a.map SV.str) = true := SV.underL_map fun _ _ => rfl
  have hu2 : SV.underL H.length (b.map SV.str) = true := SV.underL_map fun _ _ => rfl
  generalize a.map SV.str = A at *
  generalize b.map SV.str = B at *
  refine ACall.of_go TB [] tabOK _ Tryz.func91 rfl (by decide) Tryz.ntmps91 (by simp) rfl (by simp only [initEnv, Nat.reduceAdd]; rfl) fun C R' hR hC hcl hB => ?_; have X := noX; have hC' := congrArg List.length hC
  have X := And.intro X (And.intro h1 h2)
  by_cases hl : a.length = b.length
  · have hln : ((a.length : Int) = (b.length : Int)) = True := by simp [hl]
    have X := And.intro X hln
    (refine run ?_; repeat' (first | with_reducible exact trivial | ((with_reducible apply Fork.mk) <;> intro hb) | with_reducible apply Two.mk))
    clear X
    refine go_loop (fun k : Nat => [(0, .list 1 A), (1, .list 1 B), (5, .int .i64 k)]) (fun _ => H) (fun k => a.length - k) (fun k => k ≤ a.length ∧ ∀ i (h : i < a.length) (h' : i < b.length), i < k → strE a[i] b[i] = true) 0 ⟨Nat.zero_le _, fun i _ _ h => by omega⟩ (Wk.sub (by simp [subEnv, look])) ?_
    rintro K k ⟨hk, hall⟩ hK
    rcases Nat.lt_or_ge k a.length with hlt | hge
    · have hlt2 : k < b.length := by omega
      have e1 : A[k]? = some (SV.str a[k]) := by rw [hA1, List.getElem?_eq_getElem hlt]; rfl
      have e2 : B[k]? = some (SV.str b[k]) := by rw [hB1, List.getElem?_eq_getElem hlt2]; rfl
      have hno := eqL_at (p := strE) hlt hlt2
      have hyes : strE a[k] b[k] = true → ∀ i (h : i < a.length) (h' : i < b.length), i < k + 1 → strE a[i] b[i] = true := fun h i hi hi' hik => by
        rcases Nat.lt_or_ge i k with h3 | h3
        · exact hall i hi hi' h3
        · have : i = k := by omega
          subst this; exact h
      generalize a[k] = x at *
      generalize b[k] = y at *
      simp only [strE] at hno hyes
      have X := And.intro noX (And.intro h1 (And.intro h2 (And.intro e1 e2)))
      (refine run ?_; repeat' (first | with_reducible exact trivial | ((with_reducible apply Fork.mk) <;> intro hb) | with_reducible apply Two.mk))
      · refine Fin.out hR ⟨rfl, ?_⟩
        rw [hno (by first | (simpa using hb) | (revert hb; simp; done) | (cases h1 : decide (x1 = y1) <;> cases h2 : decide (x2 = y2) <;> simp_all; done) | (cases h1 : decide (x1 = y1) <;> cases h2 : decide (x2 = y2) <;> cases h3 : decide (x3 = y3) <;> cases h4 : decide (x4 = y4) <;> simp_all))]; rfl
      · exact hK _ _ (k + 1) (by omega) ⟨by omega, hyes (by first | (simpa using hb) | (revert hb; simp; done) | (cases h1 : decide (x1 = y1) <;> cases h2 : decide (x2 = y2) <;> simp_all; done) | (cases h1 : decide (x1 = y1) <;> cases h2 : decide (x2 = y2) <;> cases h3 : decide (x3 = y3) <;> cases h4 : decide (x4 = y4) <;> simp_all))⟩ (Wk.sub (by simp [subEnv, look]))
    · have : k = a.length := by omega
      subst this
      have X := And.intro noX (Int.lt_irrefl (a.length : Int))
      (refine run ?_; repeat' (first | with_reducible exact trivial | ((with_reducible apply Fork.mk) <;> intro hb) | with_reducible apply Two.mk))
      refine Fin.out hR ⟨rfl, ?_⟩
      rw [(eqL_iff strE a b).2 ⟨hl, fun i h h' => hall i h h' h⟩]; rfl
  · have hln : ((a.length : Int) = (b.length : Int)) = False := by simp; omega
    have X := And.intro X hln
    (refine run ?_; repeat' (first | with_reducible exact trivial | ((with_reducible apply Fork.mk) <;> intro hb) | with_reducible apply Two.mk))
    refine Fin.out hR ⟨rfl, ?_⟩
    rw [eqL_no hl]; rfl
end Go.Proofs.YtehfihnfeakmaaaGreatDoor
end

section
namespace Go.Proofs.YtehfihnfeakmaaaGreatDoor
open Go
set_option maxRecDepth 10000
set_option maxHeartbeats 4000000
theorem alB_n1 {k1 k2 : Int} {s1 s2 : Str} {n1 n2 : Int} {z2 z : Bool} (h : (decide (¬ k1 = k2) || decide (¬ s1 = s2) || decide (¬ n1 = n2)) = true) : alB k1 k2 s1 s2 n1 n2 z2 z = false := by
  revert h; unfold alB; by_cases a : k1 = k2 <;> by_cases b : s1 = s2 <;> by_cases c : n1 = n2 <;> simp [a, b, c]
theorem alB_y {k1 k2 : Int} {s1 s2 : Str} {n1 n2 : Int} {z2 z : Bool} (h : (decide (¬ k1 = k2) || decide (¬ s1 = s2) || decide (¬ n1 = n2)) = false) (h2 : (!z2) = false) (h3 : (!z) = false) : alB k1 k2 s1 s2 n1 n2 z2 z = true := by
  revert h; unfold alB; by_cases a : k1 = k2 <;> by_cases b : s1 = s2 <;> by_cases c : n1 = n2 <;> simp_all
theorem alB_n2 {k1 k2 : Int} {s1 s2 : Str} {n1 n2 : Int} {z2 z : Bool} (h : (!z2) = true) : alB k1 k2 s1 s2 n1 n2 z2 z = false := by
  unfold alB; simp_all
theorem alB_n3 {k1 k2 : Int} {s1 s2 : Str} {n1 n2 : Int} {z2 z : Bool} (h : (!z) = true) : alB k1 k2 s1 s2 n1 n2 z2 z = false := by
  unfold alB; simp_all
def RsmC (G : Gl) (m : Nat) : Prop := ∀ (a b : Ex) (H : List Blk), a.wt ≤ m → a.wt < 549755813888 → b.wt < 549755813888 → ACall Tryz.prog G 36 [a.sv, b.sv] H (fun r H' => H' = H ∧ r = .bool (smE m a b))
theorem rsame_ok (G : Gl) (hG : GClosed G) : ∀ m, RsmC G m
  | 0, a, b, H, h, _, _ => absurd a.wt_pos (by omega)
  | m + 1, a, b, H, hm, ha, hb => by
    have hrec := rsame_ok G hG m
    obtain ⟨k1, s1, n1, o1, l1, u1, b1, a1⟩ := a
    obtain ⟨k2, s2, n2, o2, l2, u2, b2, a2⟩ := b
    have hle1 := Ex.wt_lens k1 s1 n1 o1 l1 u1 b1 a1
    have hle2 := Ex.wt_lens k2 s2 n2 o2 l2 u2 b2 a2
    have hw1 : (Ex.mk k1 s1 n1 o1 l1 u1 b1 a1).wt = 1 + s1.length + strsWt l1 + exsWt u1 + bdsWt b1 + alsWt a1 := by simp only [Ex.wt]
    have hw2 : (Ex.mk k2 s2 n2 o2 l2 u2 b2 a2).wt = 1 + s2.length + strsWt l2 + exsWt u2 + bdsWt b2 + alsWt a2 := by simp only [Ex.wt]
    have c1 := fun H => rtexts_ok G hG l1 l2 (by omega) (by omega) H
    have e0 : smE (m + 1) (.mk k1 s1 n1 o1 l1 u1 b1 a1) (.mk k2 s2 n2 o2 l2 u2 b2 a2) = smB k1 k2 s1 s2 n1 n2 o1 o2 (eqL strE l1 l2) (eqL (smE m) u1 u2) (eqL (bdP (smE m)) b1 b2) (eqL (alP (smE m)) a1 a2) := rfl
    rw [e0]
    clear e0
    generalize eqL strE l1 l2 = z1 at *
    by_cases hd : (decide (k1 = k2) && decide (s1 = s2) && decide (n1 = n2) && decide (o1 = o2) && z1 && decide (u1.length = u2.length) && decide (b1.length = b2.length) && decide (a1.length = a2.length)) = true
    · simp only [Bool.and_eq_true, decide_eq_true_eq] at hd
      obtain ⟨⟨⟨⟨⟨⟨⟨h1, h2⟩, h3⟩, h4⟩, h5⟩, h6⟩, h7⟩, h8⟩ := hd
      subst h1 h2 h3 h4 h5
      have hgoal : smB k1 k1 s1 s1 n1 n1 o1 o1 true (eqL (smE m) u1 u2) (eqL (bdP (smE m)) b1 b2) (eqL (alP (smE m)) a1 a2) = ((eqL (smE m) u1 u2 && eqL (bdP (smE m)) b1 b2) && eqL (alP (smE m)) a1 a2) := by simp [smB]
      rw [hgoal]
      clear hgoal
      have hn1 : ∀ {i : Nat} (h : i < u1.length) (h' : i < u2.length), smE m u1[i] u2[i] = false → eqL (smE m) u1 u2 = false := eqL_at
      have hn2 : ∀ {i : Nat} (h : i < b1.length) (h' : i < b2.length), bdP (smE m) b1[i] b2[i] = false → eqL (bdP (smE m)) b1 b2 = false := eqL_at
      have hn3 : ∀ {i : Nat} (h : i < a1.length) (h' : i < a2.length), alP (smE m) a1[i] a2[i] = false → eqL (alP (smE m)) a1 a2 = false := eqL_at
      have hy1 := (eqL_iff (smE m) u1 u2).2
      have hy2 := (eqL_iff (bdP (smE m)) b1 b2).2
      have hy3 := (eqL_iff (alP (smE m)) a1 a2).2
      generalize eqL (smE m) u1 u2 = z1 at *
      generalize eqL (bdP (smE m)) b1 b2 = z2 at *
      generalize eqL (alP (smE m)) a1 a2 = z3 at *
      refine ACall.of_go TB [] tabOK _ Tryz.func36 rfl (by decide) Tryz.ntmps36 (by simp) rfl (by simp only [initEnv, Nat.reduceAdd]; rfl) fun C R' hR hC hcl hB => ?_; have X := noX; have hC' := congrArg List.length hC
      have X := And.intro X (And.intro (show ((k1 : Int) = k1) = True from by simp) (And.intro (show (s1 = s1) = True from by simp) (And.intro (show ((u1.length : Int) = (u2.length : Int)) = True from by simp [h6]) (And.intro (show ((b1.length : Int) = (b2.length : Int)) = True from by simp [h7]) (show ((a1.length : Int) = (a2.length : Int)) = True from by simp [h8])))))
      (refine runC ?_; repeat' (first | with_reducible exact trivial | ((with_reducible apply Fork.mk) <;> intro hb) | with_reducible apply Two.mk))
      refine go_condF rfl ?_
      clear X
      (refine runO ?_; repeat' (first | with_reducible exact trivial | ((with_reducible apply Fork.mk) <;> intro hb) | with_reducible apply Two.mk))
      refine go_loop (fun k : Nat => [(2, .ptr H.length 0 0 0), (3, .ptr (H.length + 1) 0 0 0), (5, .int .i64 k)]) (fun _ => H ++ [.cells 0 8 [.agg [.int .i64 k1, .str s1, .int .i64 n1, .int .i64 o1, .list 1 (l1.map .str), .list 8 (exCells u1), .list 9 (bdCells b1), .list 12 (alCells a1)]], .cells 0 8 [.agg [.int .i64 k1, .str s1, .int .i64 n1, .int .i64 o1, .list 1 (l2.map .str), .list 8 (exCells u2), .list 9 (bdCells b2), .list 12 (alCells a2)]]]) (fun k => u1.length - k) (fun k => k ≤ u1.length ∧ ∀ i (h : i < u1.length) (h' : i < u2.length), i < k → smE m u1[i] u2[i] = true) 0 ⟨Nat.zero_le _, fun i _ _ h => by omega⟩ (wkS (n0 := H.length) [(H.length, 0), (H.length + 1, 0)] hG hB hC' hcl) ?_
      rintro K k ⟨hk, hall⟩ hK
      rcases Nat.lt_or_ge k u1.length with hlt | hge
      · have hlt2 : k < u2.length := by omega
        have hm1 := exsWt_mem (List.getElem_mem hlt)
        have hm2 := exsWt_mem (List.getElem_mem hlt2)
        have hno := hn1 hlt hlt2
        have c2 := fun H => hrec u1[k] u2[k] H (by omega) (by omega) (by omega)
        have hyes : smE m u1[k] u2[k] = true → ∀ i (h : i < u1.length) (h' : i < u2.length), i < k + 1 → smE m u1[i] u2[i] = true := fun h i hi hi' hik => by
          rcases Nat.lt_or_ge i k with h3 | h3
          · exact hall i hi hi' h3
          · have : i = k := by omega
            subst this; exact h
        generalize smE m u1[k] u2[k] = z at *
        (refine run ?_; repeat' (first | with_reducible exact trivial | ((with_reducible apply Fork.mk) <;> intro hb) | with_reducible apply Two.mk))
        · refine finS (n0 := H.length) hR hC' hcl (.same _ rfl) ⟨rfl, ?_⟩
          rw [hno (by simpa using hb)]; rfl
        · exact hK _ _ (k + 1) (by omega) ⟨by omega, hyes (by simpa using hb)⟩ (wkS (n0 := H.length) [(H.length, 0), (H.length + 1, 0)] hG hB hC' hcl)
      obtain rfl : k = u1.length := by omega
      clear hK
      have q1 := hy1 ⟨h6, fun i h h' => hall i h h' h⟩
      subst q1
      clear hall hn1 hy1
      (refine runO ?_; repeat' (first | with_reducible exact trivial | ((with_reducible apply Fork.mk) <;> intro hb) | with_reducible apply Two.mk))
      refine go_loop (fun k : Nat => [(2, .ptr H.length 0 0 0), (3, .ptr (H.length + 1) 0 0 0), (6, .int .i64 k)]) (fun _ => H ++ [.cells 0 8 [.agg [.int .i64 k1, .str s1, .int .i64 n1, .int .i64 o1, .list 1 (l1.map .str), .list 8 (exCells u1), .list 9 (bdCells b1), .list 12 (alCells a1)]], .cells 0 8 [.agg [.int .i64 k1, .str s1, .int .i64 n1, .int .i64 o1, .list 1 (l2.map .str), .list 8 (exCells u2), .list 9 (bdCells b2), .list 12 (alCells a2)]]]) (fun k => b1.length - k) (fun k => k ≤ b1.length ∧ ∀ i (h : i < b1.length) (h' : i < b2.length), i < k → bdP (smE m) b1[i] b2[i] = true) 0 ⟨Nat.zero_le _, fun i _ _ h => by omega⟩ (wkS (n0 := H.length) [(H.length, 0), (H.length + 1, 0)] hG hB hC' hcl) ?_
      rintro K k ⟨hk, hall⟩ hK
      rcases Nat.lt_or_ge k b1.length with hlt | hge
      · have hlt2 : k < b2.length := by omega
        have hm1 := bdsWt_mem (List.getElem_mem hlt)
        have hm2 := bdsWt_mem (List.getElem_mem hlt2)
        have hm3 := b1[k].wt_gt
        have hm4 := b2[k].wt_gt
        have hno := hn2 hlt hlt2
        have c2 := fun H => hrec b1[k].e b2[k].e H (by omega) (by omega) (by omega)
        have hyes : bdP (smE m) b1[k] b2[k] = true → ∀ i (h : i < b1.length) (h' : i < b2.length), i < k + 1 → bdP (smE m) b1[i] b2[i] = true := fun h i hi hi' hik => by
          rcases Nat.lt_or_ge i k with h3 | h3
          · exact hall i hi hi' h3
          · have : i = k := by omega
            subst this; exact h
        simp only [bdP] at hno hyes
        generalize smE m b1[k].e b2[k].e = z at *
        (refine run ?_; repeat' (first | with_reducible exact trivial | ((with_reducible apply Fork.mk) <;> intro hb) | with_reducible apply Two.mk))
        · refine finS (n0 := H.length) hR hC' hcl (.same _ rfl) ⟨rfl, ?_⟩
          rw [hno (by simp [bdB, hb])]; rfl
        · refine finS (n0 := H.length) hR hC' hcl (.same _ rfl) ⟨rfl, ?_⟩
          rw [hno (by simp_all [bdB])]; rfl
        · exact hK _ _ (k + 1) (by omega) ⟨by omega, hyes (by simp_all [bdB])⟩ (wkS (n0 := H.length) [(H.length, 0), (H.length + 1, 0)] hG hB hC' hcl)
      obtain rfl : k = b1.length := by omega
      clear hK
      have q2 := hy2 ⟨h7, fun i h h' => hall i h h' h⟩
      subst q2
      clear hall hn2 hy2
      (refine runO ?_; repeat' (first | with_reducible exact trivial | ((with_reducible apply Fork.mk) <;> intro hb) | with_reducible apply Two.mk))
      refine go_loop (fun k : Nat => [(2, .ptr H.length 0 0 0), (3, .ptr (H.length + 1) 0 0 0), (7, .int .i64 k)]) (fun _ => H ++ [.cells 0 8 [.agg [.int .i64 k1, .str s1, .int .i64 n1, .int .i64 o1, .list 1 (l1.map .str), .list 8 (exCells u1), .list 9 (bdCells b1), .list 12 (alCells a1)]], .cells 0 8 [.agg [.int .i64 k1, .str s1, .int .i64 n1, .int .i64 o1, .list 1 (l2.map .str), .list 8 (exCells u2), .list 9 (bdCells b2), .list 12 (alCells a2)]]]) (fun k => a1.length - k) (fun k => k ≤ a1.length ∧ ∀ i (h : i < a1.length) (h' : i < a2.length), i < k → alP (smE m) a1[i] a2[i] = true) 0 ⟨Nat.zero_le _, fun i _ _ h => by omega⟩ (wkS (n0 := H.length) [(H.length, 0), (H.length + 1, 0)] hG hB hC' hcl) ?_
      rintro K k ⟨hk, hall⟩ hK
      rcases Nat.lt_or_ge k a1.length with hlt | hge
      · have hlt2 : k < a2.length := by omega
        have hm1 := alsWt_mem (List.getElem_mem hlt)
        have hm2 := alsWt_mem (List.getElem_mem hlt2)
        have hm3 := a1[k].wt_gt
        have hm4 := a2[k].wt_gt
        have hm5 := a1[k].wt_names
        have hm6 := a2[k].wt_names
        have hno := hn3 hlt hlt2
        have c2 := fun H => hrec a1[k].body a2[k].body H (by omega) (by omega) (by omega)
        have c3 := fun H => rtexts_ok G hG a1[k].names a2[k].names (by omega) (by omega) H
        have hyes : alP (smE m) a1[k] a2[k] = true → ∀ i (h : i < a1.length) (h' : i < a2.length), i < k + 1 → alP (smE m) a1[i] a2[i] = true := fun h i hi hi' hik => by
          rcases Nat.lt_or_ge i k with h3 | h3
          · exact hall i hi hi' h3
          · have : i = k := by omega
            subst this; exact h
        simp only [alP] at hno hyes
        generalize smE m a1[k].body a2[k].body = z at *
        generalize eqL strE a1[k].names a2[k].names = z4 at *
        (refine run ?_; repeat' (first | with_reducible exact trivial | ((with_reducible apply Fork.mk) <;> intro hb) | with_reducible apply Two.mk))
        · refine finS (n0 := H.length) hR hC' hcl (.same _ rfl) ⟨rfl, ?_⟩
          rw [hno (alB_n1 hb)]; rfl
        · refine finS (n0 := H.length) hR hC' hcl (.same _ rfl) ⟨rfl, ?_⟩
          rw [hno (alB_n2 hb)]; rfl
        · refine finS (n0 := H.length) hR hC' hcl (.same _ rfl) ⟨rfl, ?_⟩
          rw [hno (alB_n3 hb)]; rfl
        · exact hK _ _ (k + 1) (by omega) ⟨by omega, hyes (alB_y (by assumption) (by assumption) (by assumption))⟩ (wkS (n0 := H.length) [(H.length, 0), (H.length + 1, 0)] hG hB hC' hcl)
      obtain rfl : k = a1.length := by omega
      clear hK
      have q3 := hy3 ⟨h8, fun i h h' => hall i h h' h⟩
      subst q3
      clear hall hn3 hy3
      (refine runO ?_; repeat' (first | with_reducible exact trivial | ((with_reducible apply Fork.mk) <;> intro hb) | with_reducible apply Two.mk))
      exact finS (n0 := H.length) hR hC' hcl (.same _ rfl) ⟨rfl, rfl⟩
    · have hno : ∀ y1 y2 y3, (u1.length ≠ u2.length → y1 = false) → (b1.length ≠ b2.length → y2 = false) → (a1.length ≠ a2.length → y3 = false) → smB k1 k2 s1 s2 n1 n2 o1 o2 z1 y1 y2 y3 = false := by
        intro y1 y2 y3 h1 h2 h3
        rw [← Bool.not_eq_true]
        intro h
        apply hd
        unfold smB at h
        simp only [Bool.and_eq_true, decide_eq_true_eq] at h ⊢
        obtain ⟨⟨⟨⟨⟨⟨⟨q1, q2⟩, q3⟩, q4⟩, q5⟩, q6⟩, q7⟩, q8⟩ := h
        refine ⟨⟨⟨⟨⟨⟨⟨q1, q2⟩, q3⟩, q4⟩, q5⟩, ?_⟩, ?_⟩, ?_⟩
        · exact Classical.byContradiction fun h => by rw [h1 h] at q6; cases q6
        · exact Classical.byContradiction fun h => by rw [h2 h] at q7; cases q7
        · exact Classical.byContradiction fun h => by rw [h3 h] at q8; cases q8
      rw [hno _ _ _ eqL_no eqL_no eqL_no]
      refine ACall.of_go TB [] tabOK _ Tryz.func36 rfl (by decide) Tryz.ntmps36 (by simp) rfl (by simp only [initEnv, Nat.reduceAdd]; rfl) fun C R' hR hC hcl hB => ?_; have X := noX; have hC' := congrArg List.length hC
      (refine runC ?_; repeat' (first | with_reducible exact trivial | ((with_reducible apply Fork.mk) <;> intro hb) | with_reducible apply Two.mk))
      · refine go_condT rfl ?_
        (refine runO ?_; repeat' (first | with_reducible exact trivial | ((with_reducible apply Fork.mk) <;> intro hb) | with_reducible apply Two.mk))
        exact finS (n0 := H.length) hR hC' hcl (.same _ rfl) ⟨rfl, rfl⟩
      · refine go_condB rfl (fun hx => ?_) (fun hx => ?_)
        · (refine runO ?_; repeat' (first | with_reducible exact trivial | ((with_reducible apply Fork.mk) <;> intro hb) | with_reducible apply Two.mk))
          exact finS (n0 := H.length) hR hC' hcl (.same _ rfl) ⟨rfl, rfl⟩
        · exact absurd (by simp at hb hx ⊢; simp [hb, hx]; omega) hd
end Go.Proofs.YtehfihnfeakmaaaGreatDoor
end

section
namespace Go.Proofs.YtehfihnfeakmaaaGreatDoor
open Go
theorem maxL_rev (l : List Nat) : maxL l.reverse = maxL l := by
  have h : ∀ (l : List Nat) (a : Nat), l.foldl max a = max a (maxL l) := by
    intro l
    induction l with
    | nil => intro a; simp [maxL]
    | cons x r ih => intro a; simp only [maxL, List.foldl_cons]; rw [ih, ih (max 0 x)]; omega
  induction l with
  | nil => rfl
  | cons x r ih =>
    rw [List.reverse_cons, maxL_app, ih]
    show _ = List.foldl max 0 (x :: r)
    rw [List.foldl_cons, h]
    omega
theorem unb_congr : ∀ (m : Nat) (e : Ex) (st st' : BO), st.2 = st'.2 → (∀ s, cntB st.1 s = cntB st'.1 s) → (unbF m e st).2 = (unbF m e st').2
  | 0, _, _, _, h, _ => h
  | m + 1, e, st, st', h, hc => by
    rw [unbF, unbF]
    split
    · rw [hc]
      split
      · simp only [h]
      · exact h
    · generalize scopeParts e = l
      induction l generalizing st st' with
      | nil => exact h
      | cons p l ih =>
        rw [List.foldl_cons, List.foldl_cons]
        refine ih _ _ ?_ (fun s => by rw [cstep_cnt, cstep_cnt, hc])
        exact unb_congr m p.1 _ _ h (fun s => by simp only [cnt_inc, hc])
theorem top_at : ∀ (l : List Bd) (t : List (Str × Int)) (s : Str), cntB (l.foldl (fun t b => setB t b.name 1) t) s = if s ∈ l.map Bd.name then 1 else cntB t s
  | [], t, s => by simp
  | b :: r, t, s => by
    rw [List.foldl_cons, top_at r, cnt_set, List.map_cons]
    by_cases h1 : s ∈ r.map Bd.name
    · rw [if_pos h1, if_pos (List.mem_cons_of_mem _ h1)]
    · by_cases h2 : s = b.name
      · rw [if_neg h1, if_pos h2, if_pos (by rw [h2]; exact List.mem_cons_self ..)]
      · rw [if_neg h1, if_neg h2, if_neg (fun h => (List.mem_cons.1 h).elim h2 h1)]
theorem topB_rev (l : List Bd) (s : Str) : cntB (topB l.reverse) s = cntB (topB l) s := by
  unfold topB
  rw [top_at, top_at]
  simp only [List.map_reverse, List.mem_reverse]
theorem lint_rev (c : List Cn) (l : List Bd) : lintS ⟨c, l.reverse⟩ = lintS ⟨c, l⟩ := by
  have h1 : sizeP l.reverse = sizeP l := by
    unfold sizeP
    rw [List.map_reverse]
    exact (List.reverse_perm _).sum_nat
  have h2 : depP l.reverse = depP l := by unfold depP; rw [List.map_reverse, maxL_rev]
  have hp : (bindersP l.reverse).Perm (bindersP l) := by
    unfold bindersP
    exact (List.reverse_perm l).flatMap_right _
  have h3 : badNames l.reverse = badNames l := by
    unfold badNames
    rw [sortS_eq hp, hp.length_eq]
  have h4 : bndS (topB l.reverse) = bndS (topB l) := by
    funext b
    unfold bndS
    rw [unb_congr b.e.wt b.e (topB l.reverse, []) (topB l, []) rfl (fun s => topB_rev l s)]
  unfold lintS
  simp only [h1, h2, h3, h4, topB_rev, List.all_reverse]
theorem find_app : ∀ (a b : List Od) (s : Str), findOd (a ++ b) s = (findOd a s).or (findOd b s)
  | [], _, _ => rfl
  | o :: r, b, s => by
    rw [List.cons_append, findOd, findOd]
    split
    · rfl
    · exact find_app r b s
theorem find_kno : ∀ (r k : List Od) (s : Str), findOd (knoF k r) s = (findOd k s).or (findOd r s)
  | [], k, s => by rw [knoF, findOd, Option.or_none]
  | o :: r, k, s => by
    rw [knoF, findOd]
    split
    · rename_i h
      rw [find_kno r k s]
      split
      · rename_i e
        subst e
        obtain ⟨x, hx⟩ := Option.isSome_iff_exists.1 h
        rw [hx]; rfl
      · rfl
    · rw [find_kno r _ s, find_app, findOd, findOd]
      split
      · cases findOd k s <;> rfl
      · rw [Option.or_none]
theorem find_none : ∀ {l : List Od} {s : Str}, s ∉ l.map Od.name → findOd l s = none
  | [], _, _ => rfl
  | o :: r, s, h => by
    rw [List.map_cons, List.mem_cons, not_or] at h
    rw [findOd, if_neg h.1]
    exact find_none h.2
theorem find_rev (s : Str) : ∀ (l : List Od), (l.map Od.name).Nodup → findOd l.reverse s = findOd l s
  | [], _ => rfl
  | o :: r, h => by
    rw [List.map_cons, List.nodup_cons] at h
    have e1 : findOd (o :: r) s = if s = o.name then some o else findOd r s := rfl
    have e2 : findOd [o] s = if s = o.name then some o else none := rfl
    rw [List.reverse_cons, find_app, find_rev s r h.2, e1, e2]
    split
    · rename_i e
      rw [find_none (e ▸ h.1)]; rfl
    · rw [Option.or_none]
theorem call_congr {k k' : List Od} (h : ∀ s, findOd k s = findOd k' s) (e : Ex) : callO k e = callO k' e := by
  unfold callO getOd
  simp only [h]
theorem fst_congr (sim : Ex → Bool) {k k' : List Od} (h : ∀ s, findOd k s = findOd k' s) : ∀ m, fstF sim k m = fstF sim k' m
  | 0 => rfl
  | m + 1 => by
    funext e
    rw [fstF, fstF]
    simp only [fst_congr sim h m, call_congr h]
theorem ordI_names (lams : List Bd) : ∀ n, (ordI lams n).map Od.name = lams.map Bd.name
  | 0 => by rw [ordI, List.map_map]; rfl
  | n + 1 => by rw [ordI, ordN, List.map_map]; rfl
theorem ordI_rev (lams : List Bd) (hn : (lams.map Bd.name).Nodup) : ∀ n, ordI lams.reverse n = (ordI lams n).reverse
  | 0 => by rw [ordI, ordI, List.map_reverse]
  | n + 1 => by
    have h : ∀ s, findOd (knoF [] (ordI lams.reverse n)) s = findOd (knoF [] (ordI lams n)) s := fun s => by
      rw [ordI_rev lams hn n, find_kno, find_kno, find_rev s _ (by rw [ordI_names]; exact hn)]
    rw [ordI, ordI, ordN, ordN, List.map_reverse]
    congr 1
    refine List.map_congr_left fun b _ => ?_
    unfold fstS
    rw [fst_congr simS h]
theorem ords_rev (c : List Cn) (l : List Bd) (h : lintS ⟨c, l⟩ = 0) : ordsS ⟨c, l.reverse⟩ = (ordsS ⟨c, l⟩).reverse := by
  show ordI (lamsB l.reverse) 20 = (ordI (lamsB l) 20).reverse
  rw [show lamsB l.reverse = (lamsB l).reverse from List.filter_reverse ..]
  exact ordI_rev _ (lamsB_names (binds_nodup (lint0 h).names)) 20
end Go.Proofs.YtehfihnfeakmaaaGreatDoor
end

section
namespace Go.Proofs.YtehfihnfeakmaaaGreatDoor
open Go
set_option maxRecDepth 10000
set_option maxHeartbeats 4000000
def ClnC (G : Gl) (m : Nat) : Prop := ∀ (e : Ex) (H : List Blk), e.wt ≤ m → e.wt < 4294967296 → ACall Tryz.prog G 61 [e.sv] H (fun r H' => H' = H ∧ r = e.sv)
theorem exCells_takeS {l : List Ex} {i : Nat} (h : i < l.length) : exCells (l.take i) ++ [.agg l[i].cells] = exCells (l.take (i + 1)) := by rw [List.take_succ_eq_append_getElem h]; simp only [exCells_map, List.map_append, List.map_cons, List.map_nil]; rfl
theorem bdCells_takeS {l : List Bd} {i : Nat} (h : i < l.length) : bdCells (l.take i) ++ [.agg (.str l[i].name :: (l[i].e.cells ++ []))] = bdCells (l.take (i + 1)) := by rw [List.append_nil, List.take_succ_eq_append_getElem h]; simp only [bdCells_map, List.map_append, List.map_cons, List.map_nil, Bd.sv, Bd.cells_eq]
theorem alCells_takeS {l : List Al} {i : Nat} (h : i < l.length) : alCells (l.take i) ++ [.agg (.int .i64 l[i].kind :: .str l[i].name :: .int .i64 l[i].n :: .list 1 (l[i].names.map .str) :: (l[i].body.cells ++ []))] = alCells (l.take (i + 1)) := by rw [List.append_nil, List.take_succ_eq_append_getElem h]; simp only [alCells_map, List.map_append, List.map_cons, List.map_nil, Al.sv, Al.cells_eq]
@[simp] theorem exCells_tkAll (l : List Ex) : List.take l.length (exCells l) = exCells l := List.take_of_length_le (by rw [exCells_len]; exact Nat.le_refl _)
@[simp] theorem bdCells_tkAll (l : List Bd) : List.take l.length (bdCells l) = bdCells l := List.take_of_length_le (by rw [bdCells_map, List.length_map]; exact Nat.le_refl _)
@[simp] theorem alCells_tkAll (l : List Al) : List.take l.length (alCells l) = alCells l := List.take_of_length_le (by rw [alCells_map, List.length_map]; exact Nat.le_refl _)
theorem clone_ok (G : Gl) (hG : GClosed G) : ∀ m, ClnC G m
  | 0, e, H, h, _ => absurd e.wt_pos (by omega)
  | m + 1, e, H, hm, hw => by
    have hrec := clone_ok G hG m
    obtain ⟨kd, nm, nn, op, names, subs, binds, alts⟩ := e
    have hlen := Ex.wt_lens kd nm nn op names subs binds alts
    have hww : (Ex.mk kd nm nn op names subs binds alts).wt = 1 + nm.length + strsWt names + exsWt subs + bdsWt binds + alsWt alts := by simp only [Ex.wt]
    refine ACall.of_go TB [3, 5, 7, 10, 71] tabOK _ Tryz.func61 rfl (by decide) Tryz.ntmps61 (by simp) rfl (by simp only [initEnv, Nat.reduceAdd]; rfl) fun C R' hR hC hcl hB => ?_; have X := noX; have hC' := congrArg List.length hC
    (refine run ?_; repeat' (first | with_reducible exact trivial | ((with_reducible apply Fork.mk) <;> intro hb) | with_reducible apply Two.mk))
    refine go_loop (fun i : Nat => [(1, .ptr H.length 0 0 0), (2, .ptr (H.length + 1) 0 0 0), (3, .sl (H.length + 2) 0 0 i), (4, .int .i64 i)]) (fun i => H ++ [.cells 0 8 [.agg [.int .i64 kd, .str nm, .int .i64 nn, .int .i64 op, .list 1 (names.map .str), .list 8 (exCells subs), .list 9 (bdCells binds), .list 12 (alCells alts)]], .cells 0 8 [.agg [.int .i64 0, .str [], .int .i64 0, .int .i64 0, .list 1 [], .list 8 [], .list 9 [], .list 12 []]], .cells 0 8 (exCells (subs.take i))]) (fun i => subs.length - i) (fun i => i ≤ subs.length) 0 (Nat.zero_le _) ?_ ?_
    · simp only [List.take_zero, exCells]
      exact wkS (n0 := H.length) [(H.length, 0), (H.length + 1, 0), (H.length + 3, 0)] hG hB hC' hcl
    rintro K i hi hK
    rcases Nat.lt_or_ge i subs.length with hlt | hge
    · have hx := exsWt_mem (List.getElem_mem hlt)
      have hcall := fun L => hrec subs[i] (H ++ L) (by omega) (by omega)
      have hsn := exCells_takeS hlt
      have hg : (exCells subs)[i]? = some (.agg subs[i].cells) := by rw [exCells_map]; simp [hlt]; rfl
      have htl : (exCells (subs.take i)).length = i := by rw [exCells_len, List.length_take]; omega
      generalize subs[i] = x at *
      have X := And.intro noX (And.intro hsn (And.intro hg htl))
      (refine run ?_; repeat' (first | with_reducible exact trivial | ((with_reducible apply Fork.mk) <;> intro hb) | with_reducible apply Two.mk))
      refine callS (hcall _) ?_
      rintro r H' ⟨rfl, rfl⟩
      (refine run ?_; repeat' (first | with_reducible exact trivial | ((with_reducible apply Fork.mk) <;> intro hb) | with_reducible apply Two.mk))
      refine hK _ _ (i + 1) (by omega) (by omega) ?_
      exact wkS (n0 := H.length) [(H.length, 0), (H.length + 1, 0), (H.length + 2, 0)] hG hB hC' hcl
    clear hK
    obtain rfl : i = subs.length := by omega
    rw [List.take_length]
    have hni := Int.lt_irrefl (subs.length : Int)
    have X := And.intro noX hni
    (refine run ?_; repeat' (first | with_reducible exact trivial | ((with_reducible apply Fork.mk) <;> intro hb) | with_reducible apply Two.mk))
    refine go_loop (fun i : Nat => [(1, .ptr H.length 0 0 0), (2, .ptr (H.length + 1) 0 0 0), (5, .sl (H.length + 2) 0 0 i), (6, .int .i64 i)]) (fun i => H ++ [.cells 0 8 [.agg [.int .i64 kd, .str nm, .int .i64 nn, .int .i64 op, .list 1 (names.map .str), .list 8 (exCells subs), .list 9 (bdCells binds), .list 12 (alCells alts)]], .cells 0 8 [.agg [.int .i64 0, .str [], .int .i64 0, .int .i64 0, .list 1 [], .list 8 [], .list 9 [], .list 12 []]], .cells 0 9 (bdCells (binds.take i))]) (fun i => binds.length - i) (fun i => i ≤ binds.length) 0 (Nat.zero_le _) ?_ ?_
    · simp only [List.take_zero, bdCells]
      exact wkS (n0 := H.length) [(H.length, 0), (H.length + 1, 0), (H.length + 3, 0)] hG hB hC' hcl
    rintro K i hi hK
    rcases Nat.lt_or_ge i binds.length with hlt | hge
    · have hx := bdsWt_mem (List.getElem_mem hlt)
      have hxg := binds[i].wt_gt
      have hcall := fun L => hrec binds[i].e (H ++ L) (by omega) (by omega)
      have hsn := bdCells_takeS hlt
      have hg : (bdCells binds)[i]? = some (.agg (.str binds[i].name :: binds[i].e.cells)) := by rw [bdCells_map, List.getElem?_map, List.getElem?_eq_getElem hlt, Option.map_some, Bd.sv, Bd.cells_eq]
      have htl : (bdCells (binds.take i)).length = i := by rw [bdCells_map, List.length_map, List.length_take]; omega
      generalize binds[i].e = x at *
      generalize binds[i].name = s at *
      have X := And.intro noX (And.intro hsn (And.intro hg htl))
      (refine run ?_; repeat' (first | with_reducible exact trivial | ((with_reducible apply Fork.mk) <;> intro hb) | with_reducible apply Two.mk))
      refine xcallS (hcall _) ?_
      rintro r H' ⟨rfl, rfl⟩
      (refine run ?_; repeat' (first | with_reducible exact trivial | ((with_reducible apply Fork.mk) <;> intro hb) | with_reducible apply Two.mk))
      refine hK _ _ (i + 1) (by omega) (by omega) ?_
      exact wkS (n0 := H.length) [(H.length, 0), (H.length + 1, 0), (H.length + 2, 0)] hG hB hC' hcl
    clear hK
    obtain rfl : i = binds.length := by omega
    rw [List.take_length]
    have hni := Int.lt_irrefl (binds.length : Int)
    have X := And.intro noX hni
    (refine run ?_; repeat' (first | with_reducible exact trivial | ((with_reducible apply Fork.mk) <;> intro hb) | with_reducible apply Two.mk))
    refine go_loop (fun i : Nat => [(1, .ptr H.length 0 0 0), (2, .ptr (H.length + 1) 0 0 0), (7, .sl (H.length + 2) 0 0 i), (8, .int .i64 i)]) (fun i => H ++ [.cells 0 8 [.agg [.int .i64 kd, .str nm, .int .i64 nn, .int .i64 op, .list 1 (names.map .str), .list 8 (exCells subs), .list 9 (bdCells binds), .list 12 (alCells alts)]], .cells 0 8 [.agg [.int .i64 0, .str [], .int .i64 0, .int .i64 0, .list 1 [], .list 8 [], .list 9 [], .list 12 []]], .cells 0 12 (alCells (alts.take i))]) (fun i => alts.length - i) (fun i => i ≤ alts.length) 0 (Nat.zero_le _) ?_ ?_
    · simp only [List.take_zero, alCells]
      exact wkS (n0 := H.length) [(H.length, 0), (H.length + 1, 0), (H.length + 3, 0)] hG hB hC' hcl
    rintro K i hi hK
    rcases Nat.lt_or_ge i alts.length with hlt | hge
    · have hx := alsWt_mem (List.getElem_mem hlt)
      have hxg := alts[i].wt_gt
      have hxn := alts[i].wt_names
      have hcall := fun L => hrec alts[i].body (H ++ L) (by omega) (by omega)
      have hsn := alCells_takeS hlt
      have hg : (alCells alts)[i]? = some (.agg (.int .i64 alts[i].kind :: .str alts[i].name :: .int .i64 alts[i].n :: .list 1 (alts[i].names.map .str) :: alts[i].body.cells)) := by rw [alCells_map, List.getElem?_map, List.getElem?_eq_getElem hlt, Option.map_some, Al.sv, Al.cells_eq]
      have htl : (alCells (alts.take i)).length = i := by rw [alCells_map, List.length_map, List.length_take]; omega
      generalize alts[i] = aa at *
      obtain ⟨ak, an, ann, ans, x⟩ := aa
      simp only [Al.kind, Al.name, Al.n, Al.names, Al.body] at hsn hg hcall hxg hxn
      have hx8 := x.cells_len
      have hxd : List.drop 8 x.cells = [] := List.drop_eq_nil_of_le (by omega)
      have X := And.intro noX (And.intro hg hx8)
      (refine run ?_; repeat' (first | with_reducible exact trivial | ((with_reducible apply Fork.mk) <;> intro hb) | with_reducible apply Two.mk))
      refine callS (hcall _) ?_
      rintro r H' ⟨rfl, rfl⟩
      have hxu : SV.under H.length x.sv = true := Ex.sv_under _ _
      have hxu2 : SV.under H.length (.agg x.cells) = true := Ex.sv_under _ _
      refine go_wkO [(1, .ptr H.length 0 0 0), (2, .ptr (H.length + 1) 0 0 0), (7, .sl (H.length + 2) 0 0 i), (8, .int .i64 i), (9, .ptr (H.length + 3) 0 0 0), (78, x.sv)] (H ++ [.cells 0 8 [.agg [.int .i64 kd, .str nm, .int .i64 nn, .int .i64 op, .list 1 (names.map .str), .list 8 (exCells subs), .list 9 (bdCells binds), .list 12 (alCells alts)]], .cells 0 8 [.agg [.int .i64 0, .str [], .int .i64 0, .int .i64 0, .list 1 [], .list 8 [], .list 9 [], .list 12 []]], .cells 0 12 (alCells (alts.take i)), .cells 0 12 [.agg (.int .i64 ak :: .str an :: .int .i64 ann :: .list 1 (ans.map .str) :: x.cells)]]) (wkS (n0 := H.length) [(H.length, 0), (H.length + 1, 0), (H.length + 2, 0), (H.length + 3, 0)] hG hB hC' hcl
        (hk := .c (by rw [get_app0]; rfl) (Nat.le_refl _) (Nat.zero_le _) (FrzL.same undS) (.c (by rw [get_app]; rfl) (by omega) (Nat.zero_le _) (FrzL.same undS) (.c (by rw [get_app]; rfl) (by omega) (Nat.zero_le _) (FrzL.same undS) (.c (by rw [get_app]; rfl) (by omega) (Nat.zero_le _) (.cons _ _ _ _ (.agg _ _ (.cons _ _ _ _ (.same _ rfl) (.cons _ _ _ _ (.same _ rfl) (.cons _ _ _ _ (.same _ rfl) (.cons _ _ _ _ (Frz.sf (by rw [get_app]; rfl) (by omega) (by simp <;> omega) (by rw [List.drop_zero, List.take_of_length_le (by simp)]) (strs_under _ _)) (FrzL.same (x.cells_under _))))))) .nil) .nil))))) ?_
      have X := And.intro noX (And.intro hsn (And.intro hg (And.intro htl (And.intro hx8 hxd))))
      (refine run ?_; repeat' (first | with_reducible exact trivial | ((with_reducible apply Fork.mk) <;> intro hb) | with_reducible apply Two.mk))
      refine hK _ _ (i + 1) (by omega) (by omega) ?_
      exact wkS (n0 := H.length) [(H.length, 0), (H.length + 1, 0), (H.length + 2, 0)] hG hB hC' hcl
    clear hK
    obtain rfl : i = alts.length := by omega
    rw [List.take_length]
    have hni := Int.lt_irrefl (alts.length : Int)
    have X := And.intro noX hni
    (refine run ?_; repeat' (first | with_reducible exact trivial | ((with_reducible apply Fork.mk) <;> intro hb) | with_reducible apply Two.mk))
    exact finS (n0 := H.length) hR hC' hcl (y := (Ex.mk kd nm nn op names subs binds alts).sv) (.agg _ _ (.cons _ _ _ _ (.same _ rfl) (.cons _ _ _ _ (.same _ rfl) (.cons _ _ _ _ (.same _ rfl) (.cons _ _ _ _ (.same _ rfl) (.cons _ _ _ _ (.same _ undS) (.cons _ _ _ _ (.same _ undS) (.cons _ _ _ _ (.same _ undS) (.cons _ _ _ _ (Frz.sf (by rw [get_app]; rfl) (by omega) (by simp) (by simp) (alCells_under _ _)) .nil))))))))) ⟨rfl, rfl⟩
end Go.Proofs.YtehfihnfeakmaaaGreatDoor
end

section
namespace Go.Proofs.YtehfihnfeakmaaaGreatDoor
open Go
set_option maxRecDepth 10000
set_option maxHeartbeats 4000000
def ahV (a : Ex) (t : Str) (b : List SV) : List SV := [.int .i64 6, .str t, .int .i64 0, .int .i64 0, .list 1 [], .list 8 [.agg a.cells], .list 9 [], .list 12 [.agg ([.int .i64 3, .str [], .int .i64 0, .list 1 []] ++ b)]]
theorem ahV_under (n : Nat) (a : Ex) (t : Str) {b : List SV} (h : SV.underL n b = true) : SV.underL n (ahV a t b) = true := by
  simp only [ahV, SV.underL, SV.under, Ex.cells_under, SV.underL_append, h, Bool.and_self]
theorem ahead_ok (G : Gl) (hG : GClosed G) (a : Ex) (t : Str) (b : List SV) (hb8 : b.length = 8) (H : List Blk) (hbu : SV.underL H.length b = true) :
    ACall Tryz.prog G 87 [.agg a.cells, .str t, .agg b] H (fun r H' => H' = H ∧ r = .agg (ahV a t b)) := by
  have hau := ahV_under H.length a t hbu
  obtain ⟨k2, n2, nn2, op2, ns2, ss2, bs2, as2⟩ := a
  match b, hb8 with
  | [b0, b1, b2, b3, b4, b5, b6, b7], _ =>
    refine ACall.of_go TB [] tabOK _ Tryz.func87 rfl (by decide) Tryz.ntmps87 (by simp) rfl (by simp only [initEnv, Nat.reduceAdd]; rfl) fun C R' hR hC hcl hB => ?_; have X := noX; have hC' := congrArg List.length hC
    (refine run ?_; repeat' (first | with_reducible exact trivial | ((with_reducible apply Fork.mk) <;> intro hb) | with_reducible apply Two.mk))
    exact finS (n0 := H.length) hR hC' hcl (.same _ (by simp only [resSV, SV.under]; exact hau)) ⟨rfl, rfl⟩
theorem backwardS_ok (G : Gl) (hG : GClosed G) (l : List Str) (H : List Blk) : ACall Tryz.prog G 127 [.list 1 (l.map .str)] H (fun r H' => H' = H ∧ r = .fn (.func 154) [] [.pto (.list 1 (l.map .str))]) := by
  refine ACall.of_go TB [] tabOK _ Tryz.func127 rfl (by decide) Tryz.ntmps127 (by simp) rfl (by simp only [initEnv, Nat.reduceAdd]; rfl) fun C R' hR hC hcl hB => ?_; have X := noX; have hC' := congrArg List.length hC
  (refine runO ?_; repeat' (first | with_reducible exact trivial | ((with_reducible apply Fork.mk) <;> intro hb) | with_reducible apply Two.mk))
  refine Fin.tellN (n0 := H.length) hR (by simp) (by rw [hC]) hcl (.fn _ _ _ _ _ .nil (.cons _ _ _ _ ?_ .nil)) ⟨rfl, rfl⟩
  refine .ptr _ _ _ _ _ _ _ (by exact hbS) (Nat.le_refl _) (by simp) rfl (.same _ ?_)
  exact strs_under _ _
theorem backwardS1_ok (G : Gl) (l : List Str) (hl : l.length < 1099511627776) (n1 : Nat) (Hs : Nat → List Blk)
    (hy : ∀ i (h : i < l.length) X, ACallV Tryz.prog G (.it n1) [.int .i64 i, .str l[i]] (Hs (i + 1) ++ X) (fun r H' => H' = Hs i ++ X ∧ r = .bool true)) :
    ACall Tryz.prog G 154 [.it n1, .pto (.list 1 (l.map .str))] (Hs l.length) (fun r H' => H' = Hs 0) := by
  have hlm : (l.map SV.str).length = l.length := List.length_map ..
  refine ACall.of_go TB [] tabOK _ Tryz.func154 rfl (by decide) Tryz.ntmps154 (by simp) rfl (by simp only [initEnv, Nat.reduceAdd]; rfl) fun C R' hR hC hcl hB => ?_; have X := noX; have hC' := congrArg List.length hC
  have X := And.intro X hlm
  (refine runO ?_; repeat' (first | with_reducible exact trivial | ((with_reducible apply Fork.mk) <;> intro hb) | with_reducible apply Two.mk))
  refine go_loop (fun a : Nat => [(0, .it n1), (1, .pto (.list 1 (l.map .str))), (3, .int .i64 ((a : Int) - 1))]) (fun a => Hs a) (fun a => a) (fun a => a ≤ l.length) l.length (Nat.le_refl _) (Wk.sub (by simp [subEnv, look])) ?_
  intro K a ha hK
  rcases Nat.eq_zero_or_pos a with h0 | hpos
  · subst h0
    have hn : ¬ (0 : Int) ≤ ((0 : Nat) : Int) - 1 := by omega
    have X := And.intro noX hn
    clear hK
    (refine runO ?_; repeat' (first | with_reducible exact trivial | ((with_reducible apply Fork.mk) <;> intro hb) | with_reducible apply Two.mk))
    exact Fin.out hR rfl
  · obtain ⟨b, rfl⟩ : ∃ b, a = b + 1 := ⟨a - 1, by omega⟩
    have hlt : b < l.length := by omega
    have e : (((b + 1 : Nat) : Int) - 1) = (b : Int) := by omega
    have hge : (0 : Int) ≤ (b : Int) := by omega
    have g1 : (l.map SV.str)[b]? = some (.str l[b]) := by simp [hlt]
    have hcall := hy b hlt []
    rw [List.append_nil, List.append_nil] at hcall
    have X := And.intro noX (And.intro e (And.intro hge g1))
    rw [e]
    (refine runO ?_; repeat' (first | with_reducible exact trivial | ((with_reducible apply Fork.mk) <;> intro hb) | with_reducible apply Two.mk))
    refine go_callV rfl ?_ rfl hcall ?_
    · exact evS
    rintro r H' ⟨rfl, rfl⟩
    (refine runO ?_; repeat' (first | with_reducible exact trivial | ((with_reducible apply Fork.mk) <;> intro hb) | with_reducible apply Two.mk))
    refine hK _ _ b (by omega) (by omega) ?_
    exact Wk.sub (by simp [subEnv, look])
def varE (t : Str) : Ex := .mk 1 t 0 0 [] [] [] []
def itT (its : Nat → Str) (n : Nat) : Str := [116, 35] ++ its n
def givF (its : Nat → Str) : List Int → List Ex → Nat → List (Str × Ex) × List Ex × Nat
  | [], S, nx => ([], S, nx)
  | n :: r, S, nx =>
    if (S.getD (n.toNat + 1) noEx).kind = 1 then ([], S, nx)
    else if (S.getD (n.toNat + 1) noEx).kind = 2 ∨ (S.getD (n.toNat + 1) noEx).kind = 3 ∨ (S.getD (n.toNat + 1) noEx).kind = 7 then givF its r S nx
    else ((itT its nx, S.getD (n.toNat + 1) noEx) :: (givF its r (S.set (n.toNat + 1) (varE (itT its nx))) (nx + 1)).1, (givF its r (S.set (n.toNat + 1) (varE (itT its nx))) (nx + 1)).2)
theorem givF_len (its : Nat → Str) : ∀ (ns : List Int) (S : List Ex) (nx : Nat), (givF its ns S nx).1.length ≤ ns.length
  | [], _, _ => Nat.le_refl _
  | n :: r, S, nx => by
    rw [givF]
    split
    · exact Nat.zero_le _
    · split
      · exact Nat.le_succ_of_le (givF_len its r S nx)
      · exact Nat.succ_le_succ (givF_len its r _ (nx + 1))
def wrapV (P : List (Str × Ex)) (b : List SV) : List SV := P.foldr (fun p b => ahV p.2 p.1 b) b
theorem exCells_set (S : List Ex) (i : Nat) (x : Ex) : (exCells S).set i (.agg x.cells) = exCells (S.set i x) := by simp [exCells_map, List.map_set]; rfl
theorem givQ {H : List Blk} {id g sb g0 : Nat} {S0 : List Ex} {kb : SV} {nx0 : Int} (h1 : H[id]? = some (.cells g 8 (exCells S0))) (h2 : H[sb]? = some (.cells g0 2 [.agg [kb, .int .i64 nx0]])) (hkb : kb.under H.length = true) :
    ∃ Q : List Ex → Int → List Blk, Q S0 nx0 = H ∧ (∀ S nx, (H.set id (.cells g 8 (exCells S))).set sb (.cells g0 2 [.agg [kb, .int .i64 nx]]) = Q S nx) ∧ (∀ S nx, (Q S nx).length = H.length) ∧
      ((∀ S nx L, (Q S nx ++ L)[id]? = some (.cells g 8 (exCells S))) ∧ (∀ S nx L, (Q S nx ++ L)[sb]? = some (.cells g0 2 [.agg [kb, .int .i64 nx]])) ∧ (∀ S nx S' L, (Q S nx ++ L).set id (.cells g 8 (exCells S')) = Q S' nx ++ L) ∧ (∀ S nx nx' L, (Q S nx ++ L).set sb (.cells g0 2 [.agg [kb, .int .i64 nx']]) = Q S nx' ++ L)) ∧ (closed H → ∀ S nx, closed (Q S nx)) := by
  have l1 := (List.getElem?_eq_some_iff.1 h1).1
  have l2 := (List.getElem?_eq_some_iff.1 h2).1
  have hne : id ≠ sb := fun e => by
    rw [e, h2] at h1
    have := Option.some.inj h1
    simp at this
  refine ⟨fun S nx => (H.set id (.cells g 8 (exCells S))).set sb (.cells g0 2 [.agg [kb, .int .i64 nx]]), by simp only; rw [set_same h1, set_same h2], fun _ _ => rfl, fun S nx => by simp, ⟨fun S nx L => ?_, fun S nx L => ?_, fun S nx S' L => ?_, fun S nx nx' L => ?_⟩, fun hc S nx => (hc.set (b := .cells g 8 (exCells S)) (exCells_under _ _)).set ?_⟩
  · rw [List.getElem?_append_left (by simpa using l1), List.getElem?_set_ne (fun e => hne e.symm), List.getElem?_set_self l1]
  · rw [List.getElem?_append_left (by simpa using l2), List.getElem?_set_self (by simpa using l2)]
  · rw [set_old (by simpa using l1), List.set_comm _ _ (fun e => hne e.symm), List.set_set]
  · rw [set_old (by simpa using l2), List.set_set]
  · simp only [List.length_set, Blk.under, SV.underL, SV.under, hkb, Bool.and_self]
theorem nd5 (n : Nat) : [n, n + 1, n + 2, n + 3, n + 4].Nodup := by
  refine List.pairwise_iff_getElem.2 fun i j hi hj hij => ?_
  have h : ∀ q (hq : q < 5), ([n, n + 1, n + 2, n + 3, n + 4] : List Nat)[q] = n + q := fun q hq => by
    match q, hq with
    | 0, _ => rfl
    | 1, _ => rfl
    | 2, _ => rfl
    | 3, _ => rfl
    | 4, _ => rfl
  rw [h i hi, h j hj]; omega
theorem nd4 (n : Nat) : [n, n + 1, n + 3, n + 4].Nodup := by
  have h := nd5 n
  simp only [List.nodup_cons, List.mem_cons, List.not_mem_nil, or_false, not_or] at h ⊢
  exact ⟨⟨h.1.1, h.1.2.2.1, h.1.2.2.2⟩, ⟨h.2.1.2.1, h.2.1.2.2⟩, h.2.2.2⟩
theorem wrapW (P : List (Str × Ex)) {E : List SV} {n0 : Nat} (hE : SV.underL n0 (List.drop 0 [SV.agg E]) = true) (h8 : E.length = 8) :
    ∃ W : Nat → List SV, E = W P.length ∧ wrapV P E = W 0 ∧ (∀ j (h : j < P.length), ahV P[j].2 P[j].1 (W (j + 1)) = W j) ∧ (∀ j, (W j).length = 8) ∧ (∀ n, n0 ≤ n → ∀ j, SV.underL n (W j) = true) := by
  refine ⟨fun j => wrapV (P.drop j) E, by simp only [List.drop_length]; rfl, by simp only [List.drop_zero], fun j h => by simp only; rw [List.drop_eq_getElem_cons h]; rfl, fun j => ?_, fun n hn j => ?_⟩
  · simp only
    generalize P.drop j = Q
    cases Q with
    | nil => exact h8
    | cons p r => rfl
  · simp only
    generalize P.drop j = Q
    induction Q with
    | nil => exact (SV.below_mono_both hn).2 E (by simpa only [List.drop_zero, SV.underL, SV.under, Bool.and_true] using hE)
    | cons p r ih => exact ahV_under n p.2 p.1 ih
theorem exCells_at {L : List Ex} {j : Nat} (h : j < L.length) : (exCells L)[j]? = some (.agg L[j].cells) := by
  rw [exCells_map]; simp [h]; rfl
theorem give_ok (G : Gl) (hG : GClosed G) (its : Nat → Str) (ns : List Int) (S0 : List Ex) (nx0 : Nat) (kd nn op : Int) (nm : Str) (names : List Str) (xb xa kb : SV) (H : List Blk) (id g sb g0 : Nat)
    (h1 : H[id]? = some (.cells g 8 (exCells S0))) (h2 : H[sb]? = some (.cells g0 2 [.agg [kb, .int .i64 nx0]])) (hkb : kb.under H.length = true) (hxb : xb.under H.length = true) (hxa : xa.under H.length = true) (hxbl : xb.leaf = true) (hxal : xa.leaf = true)
    (hrg : ∀ n ∈ ns, 0 ≤ n ∧ n + 1 < (S0.length : Int)) (hns : ns.length < 4294967296) (hS : S0.length < 4294967296) (hnx : nx0 < 4294967296)
    (hit : ∀ n, nx0 ≤ n → n < nx0 + ns.length → (its n).length < 100 ∧ ∀ H, ACall Tryz.prog G 82 [.int .i64 (n : Int)] H (fun r H' => H' = H ∧ r = .str (its n))) :
    ACall Tryz.prog G 88 [.ptr sb g0 0 0, .agg [.int .i64 kd, .str nm, .int .i64 nn, .int .i64 op, .list 1 (names.map .str), .sl id g 0 S0.length, xb, xa], .list 1 (intL ns)] H (fun r H' => H' = (H.set id (.cells g 8 (exCells (givF its ns S0 nx0).2.1))).set sb (.cells g0 2 [.agg [kb, .int .i64 ((givF its ns S0 nx0).2.2 : Int)]]) ∧ r = .agg (wrapV (givF its ns S0 nx0).1 [.int .i64 kd, .str nm, .int .i64 nn, .int .i64 op, .list 1 (names.map .str), .sl id g 0 S0.length, xb, xa])) := by
  obtain ⟨Q, q0, qd, hlen, qx, qc⟩ := givQ h1 h2 hkb
  have l1 := (List.getElem?_eq_some_iff.1 h1).1
  have l2 := (List.getElem?_eq_some_iff.1 h2).1
  simp only [qd]
  rw [← q0]
  refine ACall.of_go TB [7] tabOK _ Tryz.func88 rfl (by decide) Tryz.ntmps88 (by simp) rfl (by simp only [initEnv, Nat.reduceAdd]; rfl) fun C R' hR hC hcl hB => ?_; have X := noX; have hC' := congrArg List.length hC
  have hC' := hC'.trans (hlen _ _)
  have hcls : ∀ S nx, closed (Q S nx) := fun S nx => qc (q0 ▸ hcl) S nx
  generalize hn0 : H.length = n0 at *
  have hx2 : (∀ S nx, (Q S nx).length = n0) ∧ (∀ S nx L, (Q S nx ++ L)[n0]? = L[0]?) ∧ (∀ S nx L k, (Q S nx ++ L)[n0 + k]? = L[k]?) ∧ (∀ S nx L x, (Q S nx ++ L).set n0 x = Q S nx ++ L.set 0 x) ∧ (∀ S nx L k x, (Q S nx ++ L).set (n0 + k) x = Q S nx ++ L.set k x) :=
    ⟨hlen, fun S nx L => by rw [← hlen S nx]; exact get_app0 _ _, fun S nx L k => by rw [← hlen S nx]; exact get_app _ _ _, fun S nx L x => by rw [← hlen S nx]; exact set_app0 _ _ _, fun S nx L k x => by rw [← hlen S nx]; exact set_app _ _ _ _⟩
  obtain ⟨hx21, hx22, hx23, hx24, hx25⟩ := hx2
  have hE0 : SV.underL n0 (List.drop 0 [SV.agg [.int .i64 kd, .str nm, .int .i64 nn, .int .i64 op, .list 1 (names.map .str), .sl id g 0 S0.length, xb, xa]]) = true := by
    simp only [List.drop_zero, SV.underL, SV.under, hxb, hxa, strs_under, l1, decide_true, Bool.and_self, Bool.and_true]
  have X := And.intro noX (And.intro qx (And.intro hx21 (And.intro hx22 (And.intro hx23 (And.intro hx24 hx25)))))
  (refine runB ?_; repeat' (first | with_reducible exact trivial | ((with_reducible apply Fork.mk) <;> intro hb) | with_reducible apply Two.mk))
  refine go_wkC _ _ (wk_ghostC (id := n0 + 3) (g := 0) (s := 1) (i := 0) (vals := [.nil]) 8 (by rw [hx23]; rfl) rfl) ?_
  simp only [hx25, hx21, List.length_append, List.length_cons, List.length_nil, List.set_cons_succ, List.set_cons_zero, Nat.reduceAdd, List.append_assoc, List.cons_append, List.nil_append]
  refine go_cut (fun _ : Unit => [(4, .ptr n0 0 0 0), (6, .ptr (n0 + 1) 0 0 0), (7, .list 1 (((givF its ns S0 nx0).1.map Prod.fst).map .str)), (8, .ptr (n0 + 2) 0 0 0)])
    (fun _ => Q (givF its ns S0 nx0).2.1 (givF its ns S0 nx0).2.2 ++ [.cells 0 8 [.agg [.int .i64 kd, .str nm, .int .i64 nn, .int .i64 op, .list 1 (names.map .str), .sl id g 0 S0.length, xb, xa]], .cells 0 8 [.agg [.int .i64 0, .str [], .int .i64 0, .int .i64 0, .list 1 [], .list 8 [], .list 9 [], .list 12 []]], .cells 0 1 [.sl (n0 + 3) 0 0 (givF its ns S0 nx0).1.length], .cells 0 8 (exCells ((givF its ns S0 nx0).1.map Prod.snd))]) (fun _ => True) (fun K0 hK0 => ?_) (fun _ _ => ?_)
  · (refine run ?_; repeat' (first | with_reducible exact trivial | ((with_reducible apply Fork.mk) <;> intro hb) | with_reducible apply Two.mk))
    refine go_loop (fun a : Nat × List Ex × List (Str × Ex) × Nat => [(0, .ptr sb g0 0 0), (4, .ptr n0 0 0 0), (6, .ptr (n0 + 1) 0 0 0), (7, .sl (n0 + 2) 0 0 a.2.2.1.length), (8, .ptr (n0 + 3) 0 0 0), (15, .list 1 (intL ns)), (16, .int .i64 ns.length), (17, .int .i64 (a.1 : Int))])
      (fun a => Q a.2.1 a.2.2.2 ++ [.cells 0 8 [.agg [.int .i64 kd, .str nm, .int .i64 nn, .int .i64 op, .list 1 (names.map .str), .sl id g 0 S0.length, xb, xa]], .cells 0 8 [.agg [.int .i64 0, .str [], .int .i64 0, .int .i64 0, .list 1 [], .list 8 [], .list 9 [], .list 12 []]], .cells 0 1 ((a.2.2.1.map Prod.fst).map .str), .cells 0 1 [.sl (n0 + 4) 0 0 a.2.2.1.length], .cells 0 8 (exCells (a.2.2.1.map Prod.snd))]) (fun a => ns.length - a.1)
      (fun a => (a.1 ≤ ns.length ∧ a.2.1.length = S0.length ∧ a.2.2.1.length ≤ a.1 ∧ nx0 ≤ a.2.2.2 ∧ a.2.2.2 ≤ nx0 + a.1) ∧ givF its ns S0 nx0 = (a.2.2.1 ++ (givF its (ns.drop a.1) a.2.1 a.2.2.2).1, (givF its (ns.drop a.1) a.2.1 a.2.2.2).2)) (0, S0, [], nx0) ⟨⟨Nat.zero_le _, rfl, Nat.le_refl _, Nat.le_refl _, Nat.le_refl _⟩, rfl⟩ ?_ ?_
    · simp only [List.length_nil, List.map_nil, exCells]
      exact wkS (n0 := n0) [(n0, 0), (n0 + 1, 0), (n0 + 2, 0), (n0 + 3, 0), (n0 + 4, 0)] hG hB hC' (hcls _ _) (hn := hlen _ _) (hd := nd5 n0)
    rintro K ⟨i, S, P, nx⟩ ⟨⟨hi, hSl, hPl, hnl, hnu⟩, hgv⟩ hK
    simp only at hi hSl hPl hnl hnu hgv
    dsimp only
    rcases Nat.lt_or_ge i ns.length with hlt | hge
    rotate_left
    · have hni : ¬ (i : Int) < (ns.length : Int) := by omega
      rw [List.drop_eq_nil_of_le hge] at hgv
      simp only [givF, List.append_nil] at hgv
      clear hK
      have X := And.intro (And.intro noX (And.intro qx (And.intro hx21 (And.intro hx22 (And.intro hx23 (And.intro hx24 hx25)))))) hni
      (refine run ?_; repeat' (first | with_reducible exact trivial | ((with_reducible apply Fork.mk) <;> intro hb) | with_reducible apply Two.mk))
      refine hK0 _ _ () trivial ?_
      simp only [hgv]
      exact wkS (n0 := n0) [(n0, 0), (n0 + 1, 0), (n0 + 3, 0), (n0 + 4, 0)] hG hB hC' (hcls _ _) (hn := hlen _ _) (hd := nd4 n0)
    have hg1 : (intL ns)[i]? = some (.int .i64 ns[i]) := by simp [intL, hlt]
    obtain ⟨hr1, hr2⟩ := hrg ns[i] (List.getElem_mem hlt)
    rw [List.drop_eq_getElem_cons hlt, givF] at hgv
    generalize ns[i] = n at *
    have hidx : (n + 1).toNat = n.toNat + 1 := by omega
    have hlt2 : n.toNat + 1 < S.length := by omega
    have hSx : S[n.toNat + 1]? = some S[n.toNat + 1] := List.getElem?_eq_getElem hlt2
    have hgd : S.getD (n.toNat + 1) noEx = S[n.toNat + 1] := by rw [List.getD_eq_getElem?_getD, hSx]; rfl
    rw [hgd] at hgv
    have hsn1 : ∀ t, (P.map Prod.fst).map SV.str ++ [SV.str t] = ((P ++ [(t, S[n.toNat + 1])]).map Prod.fst).map SV.str := fun t => by simp
    have hsn2 : ∀ t, exCells (P.map Prod.snd) ++ [.agg S[n.toNat + 1].cells] = exCells ((P ++ [(t, S[n.toNat + 1])]).map Prod.snd) := fun t => by rw [exCells_snoc2, List.map_append]; rfl
    have hst : ∀ t, (exCells S).set (n.toNat + 1) (.agg [.int .i64 1, .str t, .int .i64 0, .int .i64 0, .list 1 [], .list 8 [], .list 9 [], .list 12 []]) = exCells (S.set (n.toNat + 1) (varE t)) := fun t => exCells_set S _ (varE t)
    generalize S[n.toNat + 1] = x at *
    obtain ⟨k2, n2, nn2, op2, ns2, ss2, bs2, as2⟩ := x
    have hk : (Ex.mk k2 n2 nn2 op2 ns2 ss2 bs2 as2).kind = k2 := rfl
    rw [hk] at hgv
    have hb1 : 0 ≤ n + 1 := by omega
    have hb2 : n + 1 < (S.length : Int) := by omega
    by_cases h1 : k2 = 1
    · rw [if_pos h1] at hgv
      simp only [List.append_nil] at hgv
      clear hK
      have X := And.intro (And.intro noX (And.intro qx (And.intro hx21 (And.intro hx22 (And.intro hx23 (And.intro hx24 hx25)))))) (And.intro hg1 (And.intro hidx (And.intro hSx (And.intro hSl h1))))
      (refine run ?_; repeat' (first | with_reducible exact trivial | ((with_reducible apply Fork.mk) <;> intro hb) | with_reducible apply Two.mk))
      refine hK0 _ _ () trivial ?_
      simp only [hgv]
      exact wkS (n0 := n0) [(n0, 0), (n0 + 1, 0), (n0 + 3, 0), (n0 + 4, 0)] hG hB hC' (hcls _ _) (hn := hlen _ _) (hd := nd4 n0)
    rw [if_neg h1] at hgv
    by_cases h2 : k2 = 2 ∨ k2 = 3 ∨ k2 = 7
    · rw [if_pos h2] at hgv
      have X := And.intro (And.intro noX (And.intro qx (And.intro hx21 (And.intro hx22 (And.intro hx23 (And.intro hx24 hx25)))))) (And.intro hg1 (And.intro hidx (And.intro hSx (And.intro hSl h1))))
      (refine run ?_; repeat' (first | with_reducible exact trivial | ((with_reducible apply Fork.mk) <;> intro hb) | with_reducible apply Two.mk))
      · refine hK _ _ (i + 1, S, P, nx) (by simp only; omega) ⟨⟨by simp only; omega, hSl, by simp only; omega, hnl, by simp only; omega⟩, hgv⟩ ?_
        dsimp only
        exact wkS (n0 := n0) [(n0, 0), (n0 + 1, 0), (n0 + 2, 0), (n0 + 3, 0), (n0 + 4, 0)] hG hB hC' (hcls _ _) (hn := hlen _ _) (hd := nd5 n0)
      · exfalso
        simp only [Bool.or_eq_false_iff, decide_eq_false_iff_not] at hb
        rcases h2 with h | h | h
        · exact hb.1.1 h
        · exact hb.1.2 h
        · exact hb.2 h
    rw [if_neg h2] at hgv
    obtain ⟨hil, hic⟩ := hit nx (by omega) (by omega)
    have hnxe : (nx : Int) + 1 = ((nx + 1 : Nat) : Int) := by omega
    obtain ⟨tt, htt⟩ : ∃ tt, itT its nx = tt := ⟨_, rfl⟩
    have ht1 : ([116, 35] ++ its nx : Str) = tt := htt
    have ht2 : (116 :: 35 :: its nx : Str) = tt := htt
    rw [htt] at hgv
    have e1 := hsn1 tt
    have e2 := hsn2 tt
    have e3 := hst tt
    clear hsn1 hsn2 hst
    have hmx : 2 + (its nx).length ≤ maxLen := by unfold maxLen; omega
    have hl1 : ((P.map Prod.fst).map SV.str).length = P.length := by simp
    have hl2 : (exCells (P.map Prod.snd)).length = P.length := by rw [exCells_len]; simp
    have hcx : (Ex.mk k2 n2 nn2 op2 ns2 ss2 bs2 as2).cells = [.int .i64 k2, .str n2, .int .i64 nn2, .int .i64 op2, .list 1 (ns2.map .str), .list 8 (exCells ss2), .list 9 (bdCells bs2), .list 12 (alCells as2)] := rfl
    rw [hcx] at e2
    have X := And.intro (And.intro noX (And.intro qx (And.intro hx21 (And.intro hx22 (And.intro hx23 (And.intro hx24 hx25)))))) (And.intro hg1 (And.intro hidx (And.intro hSx (And.intro hSl (And.intro h1 (And.intro hnxe (And.intro e1 (And.intro e2 (And.intro e3 (And.intro hl1 (And.intro hl2 (And.intro ht1 (And.intro ht2 hmx)))))))))))))
    (refine run ?_; repeat' (first | with_reducible exact trivial | ((with_reducible apply Fork.mk) <;> intro hb) | with_reducible apply Two.mk))
    · exfalso
      simp only [Bool.or_eq_true, decide_eq_true_eq] at hb
      exact h2 (by rcases hb with (h | h) | h; exact .inl h; exact .inr (.inl h); exact .inr (.inr h))
    refine callS (hic _) ?_
    rintro r H' ⟨rfl, rfl⟩
    (refine run ?_; repeat' (first | with_reducible exact trivial | ((with_reducible apply Fork.mk) <;> intro hb) | with_reducible apply Two.mk))
    refine hK _ _ (i + 1, S.set (n.toNat + 1) (varE tt), P ++ [(tt, .mk k2 n2 nn2 op2 ns2 ss2 bs2 as2)], nx + 1) (by simp only; omega) ⟨⟨by simp only; omega, by simp only [List.length_set]; omega, by simp only [List.length_append, List.length_cons, List.length_nil]; omega, by simp only; omega, by simp only; omega⟩, by simp only [hgv, List.append_assoc, List.cons_append, List.nil_append]⟩ ?_
    dsimp only
    rw [List.length_append, List.length_cons, List.length_nil]
    exact wkS (n0 := n0) [(n0, 0), (n0 + 1, 0), (n0 + 2, 0), (n0 + 3, 0), (n0 + 4, 0)] hG hB hC' (hcls _ _) (hn := hlen _ _) (hd := nd5 n0)
  · have hfl := givF_len its ns S0 nx0
    generalize givF its ns S0 nx0 = FF at hR hfl ⊢
    obtain ⟨PF, SF, nxF⟩ := FF
    obtain ⟨W, hW1, hW2, hW3, hW4, hW5⟩ := wrapW PF hE0 rfl
    simp only at hR hfl ⊢
    rw [hW2] at hR
    rw [hW1]
    have hPl : PF.length < 1099511627776 := by omega
    have hall : ∀ j (h : j < PF.length), (exCells (PF.map Prod.snd))[j]? = some (.agg PF[j].2.cells) := fun j h => by rw [exCells_at (by simpa using h)]; simp
    have hnl : ((PF.map Prod.fst)).length = PF.length := by simp
    have X := And.intro noX (And.intro qx (And.intro hx21 (And.intro hx22 (And.intro hx23 (And.intro hx24 hx25)))))
    (refine run ?_; repeat' (first | with_reducible exact trivial | ((with_reducible apply Fork.mk) <;> intro hb) | with_reducible apply Two.mk))
    refine callS (backwardS_ok G hG (PF.map Prod.fst) _) ?_
    rintro r H' ⟨rfl, rfl⟩
    (refine run ?_; repeat' (first | with_reducible exact trivial | ((with_reducible apply Fork.mk) <;> intro hb) | with_reducible apply Two.mk))
    refine go_rangeFunc tabOK (σ := Nat) (ξ := Nat × Str × Ex) (fun j => Q SF nxF ++ [.cells 0 8 [.agg (W j)], .cells 0 8 [.agg [.int .i64 0, .str [], .int .i64 0, .int .i64 0, .list 1 [], .list 8 [], .list 9 [], .list 12 []]], .cells 0 1 [.sl (n0 + 3) 0 0 PF.length], .cells 0 8 (exCells (PF.map Prod.snd))]) (n0 + 4) (fun s => by rw [List.length_append, hlen]; rfl) PF.length
      [(4, .ptr n0 0 0 0), (6, .ptr (n0 + 1) 0 0 0), (8, .ptr (n0 + 2) 0 0 0), (73, .fn (.func 154) [] [.pto (.list 1 ((PF.map Prod.fst).map .str))])] (fun x => [.int .i64 x.1, .str x.2.1]) (fun s x => s = x.1 + 1 ∧ PF[x.1]? = some x.2) (fun s x => x.1) (fun s => s = 0)
      (fun x => [(75, .str x.2.1), (74, .int .i64 x.1), (4, .ptr n0 0 0 0), (6, .ptr (n0 + 1) 0 0 0), (8, .ptr (n0 + 2) 0 0 0), (73, .fn (.func 154) [] [.pto (.list 1 ((PF.map Prod.fst).map .str))])]) rfl rfl (fun x => rfl) (fun x => rfl) ?_ ?_ ?_ ?_
    · exact Wk.sub (by simp [subEnv, look])
    · intro G' LO hGl hLO hy
      have := backwardS1_ok G' (PF.map Prod.fst) (by omega) (n0 + 4) (fun i => (Q SF nxF ++ [.cells 0 8 [.agg (W i)], .cells 0 8 [.agg [.int .i64 0, .str [], .int .i64 0, .int .i64 0, .list 1 [], .list 8 [], .list 9 [], .list 12 []]], .cells 0 1 [.sl (n0 + 3) 0 0 PF.length], .cells 0 8 (exCells (PF.map Prod.snd))]) ++ [LO]) (fun i hi Y => by
        have := hy (i + 1) (i, PF[i]'(by omega)) Y ⟨rfl, List.getElem?_eq_getElem _⟩
        simpa only [List.getElem_map, List.append_assoc, List.cons_append, List.nil_append] using this)
      rw [hnl] at this
      exact this.mono fun r H' h => ⟨0, rfl, h⟩
    · rintro G' C' ρ' s ⟨j, t, x⟩ Y LO LB K1 K hGl hB' hCH hcl' hLO hLB ⟨hs, hb⟩ hK1 hK
      subst hs
      have hj : j < PF.length := (List.getElem?_eq_some_iff.1 hb).1
      have hbe : PF[j] = (t, x) := (List.getElem?_eq_some_iff.1 hb).2
      have hw := hW3 j hj
      have ha := hall j hj
      rw [hbe] at hw ha
      simp only at hw ha
      have h8 := hW4 (j + 1)
      have hG' : GClosed G' := by unfold GClosed; rw [hGl]; exact hG
      have X := And.intro noX (And.intro qx (And.intro hx21 (And.intro hx22 (And.intro hx23 (And.intro hx24 (And.intro hx25 (And.intro ha h8)))))))
      clear hall hW3 hW2 hW1
      simp only [List.append_assoc, List.cons_append, List.nil_append] at hcl' hCH ⊢
      (refine run ?_; repeat' (first | with_reducible exact trivial | ((with_reducible apply Fork.mk) <;> intro hb) | with_reducible apply Two.mk))
      refine hK1 _ _ (by rw [hx23]; rfl) ?_
      simp only [hx25, List.set_cons_succ, List.set_cons_zero]
      obtain ⟨xk, xn, xnn, xop, xns, xss, xbs, xas⟩ := x
      generalize hWj : W (j + 1) = b at *
      obtain ⟨y0, y1, y2, y3, y4, y5, y6, y7, rfl⟩ : ∃ y0 y1 y2 y3 y4 y5 y6 y7, b = [y0, y1, y2, y3, y4, y5, y6, y7] := by
        match b, h8 with
        | [y0, y1, y2, y3, y4, y5, y6, y7], _ => exact ⟨_, _, _, _, _, _, _, _, rfl⟩
      have h8j := hW4 j
      have X := And.intro (And.intro noX (And.intro qx (And.intro hx21 (And.intro hx22 (And.intro hx23 (And.intro hx24 (And.intro hx25 (And.intro ha h8)))))))) h8j
      (refine run ?_; repeat' (first | with_reducible exact trivial | ((with_reducible apply Fork.mk) <;> intro hb) | with_reducible apply Two.mk))
      refine xcallS (ahead_ok G' hG' (.mk xk xn xnn xop xns xss xbs xas) t [y0, y1, y2, y3, y4, y5, y6, y7] rfl _ (by rw [← hWj]; exact hW5 _ (by rw [List.length_append, hlen]; omega) _)) ?_
      rintro r H' ⟨rfl, rfl⟩
      rw [hw]
      (refine run ?_; repeat' (first | with_reducible exact trivial | ((with_reducible apply Fork.mk) <;> intro hb) | with_reducible apply Two.mk))
      refine hK _ _ ?_
      simp only [List.append_assoc, List.cons_append, List.nil_append]
      exact Wk.sub (by simp [subEnv])
    · intro s LO hs hLO
      subst hs
      simp only [List.append_assoc, List.cons_append, List.nil_append]
      have h80 := hW4 0
      have X := And.intro (And.intro noX (And.intro qx (And.intro hx21 (And.intro hx22 (And.intro hx23 (And.intro hx24 hx25)))))) h80
      (refine run ?_; repeat' (first | with_reducible exact trivial | ((with_reducible apply Fork.mk) <;> intro hb) | with_reducible apply Two.mk))
      exact finS (n0 := n0) hR hC' (hcls _ _) (.same _ (by simp only [resSV, SV.under]; exact hW5 _ (Nat.le_refl _) 0)) ⟨rfl, rfl⟩ (hn := hlen _ _)
end Go.Proofs.YtehfihnfeakmaaaGreatDoor
end

section
namespace Go.Proofs.YtehfihnfeakmaaaGreatDoor
open Go
set_option maxRecDepth 10000
set_option maxHeartbeats 4000000
def hasO (all : List Oper) (p : Env × List Blk) : List (Env × List Blk) → Bool
  | [] => false
  | q :: r => bif sameOn p.1 q.1 (dstsOf all) && sameH p.2 q.2 then true else hasO all p r
def mergeL (all : List Oper) : List (Env × List Blk) → List (Env × List Blk) → List (Env × List Blk)
  | [], l2 => l2
  | p :: r, l2 => bif hasO all p l2 then mergeL all r l2 else mergeL all r (p :: l2)
def drAllL (all : List Oper) (f : Nat → Option (List (Env × List Blk))) : List Nat → Option (List (Env × List Blk))
  | [] => some []
  | j :: js => match f j with
    | some l1 => (match drAllL all f js with
      | some l2 => some (mergeL all l1 l2)
      | none => none)
    | none => none
theorem hasO_ok {all : List Oper} {p : Env × List Blk} : ∀ {l : List (Env × List Blk)}, hasO all p l = true → ∃ q ∈ l, q.2 = p.2 ∧ ∀ t ∈ dstsOf all, look p.1 t = look q.1 t
  | [], h => by cases h
  | q :: r, h => by
    unfold hasO at h
    cases hb : (sameOn p.1 q.1 (dstsOf all) && sameH p.2 q.2) with
    | true =>
      rw [Bool.and_eq_true] at hb
      exact ⟨q, List.mem_cons_self .., (sameH_eq hb.2).symm, sameOn_look hb.1⟩
    | false =>
      rw [hb, cond_false] at h
      obtain ⟨q', h1, h2⟩ := hasO_ok h
      exact ⟨q', List.mem_cons_of_mem _ h1, h2⟩
theorem mergeL_ok {all : List Oper} : ∀ (l1 l2 : List (Env × List Blk)), (∀ p ∈ l1, ∃ q ∈ mergeL all l1 l2, q.2 = p.2 ∧ ∀ t ∈ dstsOf all, look p.1 t = look q.1 t) ∧ (∀ p ∈ l2, p ∈ mergeL all l1 l2) ∧ (∀ q ∈ mergeL all l1 l2, q ∈ l1 ∨ q ∈ l2)
  | [], l2 => ⟨fun p hp => (by cases hp), fun p hp => hp, fun q hq => .inr hq⟩
  | p :: r, l2 => by
    unfold mergeL
    cases hb : hasO all p l2 with
    | true =>
      rw [cond_true]
      obtain ⟨i1, i2, i3⟩ := mergeL_ok (all := all) r l2
      refine ⟨fun p' hp' => ?_, i2, fun q hq => ?_⟩
      · rcases List.mem_cons.1 hp' with rfl | hp'
        · obtain ⟨q, h1, h2⟩ := hasO_ok hb
          exact ⟨q, i2 q h1, h2⟩
        · exact i1 p' hp'
      · rcases i3 q hq with h | h
        · exact .inl (List.mem_cons_of_mem _ h)
        · exact .inr h
    | false =>
      rw [cond_false]
      obtain ⟨i1, i2, i3⟩ := mergeL_ok (all := all) r (p :: l2)
      refine ⟨fun p' hp' => ?_, fun q hq => i2 q (List.mem_cons_of_mem _ hq), fun q hq => ?_⟩
      · rcases List.mem_cons.1 hp' with rfl | hp'
        · exact ⟨_, i2 _ (List.mem_cons_self ..), rfl, fun _ _ => rfl⟩
        · exact i1 p' hp'
      · rcases i3 q hq with h | h
        · exact .inl (List.mem_cons_of_mem _ h)
        · rcases List.mem_cons.1 h with rfl | h
          · exact .inl (List.mem_cons_self ..)
          · exact .inr h
theorem drAllL_mem {all : List Oper} {f : Nat → Option (List (Env × List Blk))} : ∀ {l : List Nat} {L : List (Env × List Blk)}, drAllL all f l = some L → (∀ j ∈ l, ∃ lj, f j = some lj ∧ ∀ p ∈ lj, ∃ q ∈ L, q.2 = p.2 ∧ ∀ t ∈ dstsOf all, look p.1 t = look q.1 t) ∧ ∀ q ∈ L, ∃ j ∈ l, ∃ lj, f j = some lj ∧ q ∈ lj
  | [], L, h => by
    cases h
    exact ⟨fun j hj => (by cases hj), fun q hq => (by cases hq)⟩
  | j :: js, L, h => by
    unfold drAllL at h
    split at h
    · rename_i l1 hf
      split at h
      · rename_i l2 hr
        cases h
        obtain ⟨i1, i2⟩ := drAllL_mem hr
        obtain ⟨m1, m2, m3⟩ := mergeL_ok (all := all) l1 l2
        refine ⟨fun j' hj' => ?_, fun q hq => ?_⟩
        · rcases List.mem_cons.1 hj' with rfl | hj'
          · exact ⟨l1, hf, m1⟩
          · obtain ⟨lj, e1, e2⟩ := i1 j' hj'
            refine ⟨lj, e1, fun p hp => ?_⟩
            obtain ⟨q, h1, h2⟩ := e2 p hp
            exact ⟨q, m2 q h1, h2⟩
        · rcases m3 q hq with h | h
          · exact ⟨j, List.mem_cons_self .., l1, hf, h⟩
          · obtain ⟨j', h1, h2⟩ := i2 q h
            exact ⟨j', List.mem_cons_of_mem _ h1, h2⟩
      · cases h
    · cases h
section
variable (call : RC) (G : Gl) (T : Tab) (own : List Nat) (nt : Nat)
def evDrL (all : List Oper) : Nat → Nat → List Nat → Env → List Blk → Option (List (Env × List Blk))
  | 0, _, _, _, _ => none
  | n + 1, m, ex, env, H =>
    bif Nat.ble all.length m then some [(env, H)] else
    bif memN m ex then evDrL all n (m + 1) ex env H else
    match stepQ own all m ex with
    | some o => (match qg G T own all o env H with
      | some v => evDrL all n (m + 1) ex (putE o.dst v env) H
      | none => none)
    | none => match firstQP own m ex 0 all with
      | some i => (match all[i]? with
        | some o => (match qg G T own all o env H with
          | some v => evDrL all n m (i :: ex) (putE o.dst v env) H
          | none => none)
        | none => none)
      | none => (match readyP m ex 0 all with
        | [] => none
        | js => drAllL all (fun j => match all[j]? with
          | some o => (match gOp call G T own all o env H with
            | some (x, H') => bif agB G T own all (putE o.dst x env) H' (agR own all (getL (clo all) j) m ++ agL own all (getL (clo all) j) ex) then evDrL all n m (j :: ex) (putE o.dst x env) H' else none
            | none => none)
          | none => none) js)
end
section
variable {P : Program} {G : Gl} {T : Tab} {own : List Nat} {nt : Nat} {C : Cx} {call : RC} {ρ : Option Nat}
theorem evDrL_ok (hc : RCok P G call) {all : List Oper} : ∀ (n m : Nat) (ex : List Nat) (env : Env) (H : List Blk) {L : List (Env × List Blk)}, evDrL call G T own all n m ex env H = some L → (∃ N, DrP P G T own all N m ex env H (fun e h => ∃ p ∈ L, h = p.2 ∧ EqE e p.1)) ∧ ∀ p ∈ L, ∀ t, t ∉ dstsOf all → look p.1 t = look env t
  | 0, m, ex, env, H, L, h => by cases h
  | n + 1, m, ex, env, H, L, h => by
    unfold evDrL at h
    cases h1 : Nat.ble all.length m with
    | true =>
      rw [h1, cond_true] at h
      cases h
      refine ⟨⟨1, dr_doneK h1 ⟨_, List.mem_singleton.2 rfl, rfl, EqE.refl _⟩⟩, fun p hp _ _ => ?_⟩
      rw [List.mem_singleton.1 hp]
    | false =>
      rw [h1, cond_false] at h
      cases h2 : memN m ex with
      | true =>
        rw [h2, cond_true] at h
        obtain ⟨⟨N, hN⟩, hl⟩ := evDrL_ok hc n (m + 1) ex env H h
        exact ⟨⟨N, dr_adv h2 hN⟩, hl⟩
      | false =>
        rw [h2, cond_false] at h
        split at h
        · rename_i o hs
          split at h
          · rename_i v hv
            obtain ⟨⟨N, hN⟩, hl⟩ := evDrL_ok hc n (m + 1) ex _ H h
            obtain ⟨g1, g2, g3, g4⟩ := stepQ_some hs
            refine ⟨⟨N + 1, fun L hL => ?_⟩, fun p hp t ht => (hl p hp t ht).trans (putE_look g1 ht)⟩
            exact .inl ⟨m, _, v, g1, not_mem_next hL g2, g3, deps_LP hL g4, hv, hN (m :: L) (LP_next hL)⟩
          · cases h
        · split at h
          · rename_i i hf
            split at h
            · rename_i o ho
              split at h
              · rename_i v hv
                obtain ⟨⟨N, hN⟩, hl⟩ := evDrL_ok hc n m (i :: ex) _ H h
                refine ⟨⟨N + 1, fun L hL => ?_⟩, fun p hp t ht => (hl p hp t ht).trans (putE_look ho ht)⟩
                obtain ⟨k, o', g1, g2, g3, g4, g5⟩ := firstQP_some hf
                rw [Nat.zero_add] at g1
                subst g1
                rw [ho] at g2
                cases g2
                exact .inl ⟨i, _, v, ho, not_LP hL g3, g4, deps_LP hL g5, hv, hN (i :: L) (LP_ins hL i)⟩
              · cases h
            · cases h
          · rename_i hf
            split at h
            · cases h
            · rename_i js hne
              obtain ⟨hall, hback⟩ := drAllL_mem h
              have open_ : ∀ {j : Nat} {lj : List (Env × List Blk)}, (match all[j]? with
                  | some o => (match gOp call G T own all o env H with
                    | some (x, H') => bif agB G T own all (putE o.dst x env) H' (agR own all (getL (clo all) j) m ++ agL own all (getL (clo all) j) ex) then evDrL call G T own all n m (j :: ex) (putE o.dst x env) H' else none
                    | none => none)
                  | none => none) = some lj → ∃ o x H1, all[j]? = some o ∧ gOp call G T own all o env H = some (x, H1) ∧ agB G T own all (putE o.dst x env) H1 (agR own all (getL (clo all) j) m ++ agL own all (getL (clo all) j) ex) = true ∧ evDrL call G T own all n m (j :: ex) (putE o.dst x env) H1 = some lj := by
                intro j lj hfj
                split at hfj
                · rename_i o ho
                  split at hfj
                  · rename_i x H1 hg
                    cases hb : agB G T own all (putE o.dst x env) H1 (agR own all (getL (clo all) j) m ++ agL own all (getL (clo all) j) ex) with
                    | false => rw [hb] at hfj; cases hfj
                    | true => rw [hb, cond_true] at hfj; exact ⟨o, x, H1, ho, hg, hb, hfj⟩
                  · cases hfj
                · cases hfj
              have hrest : ∀ p ∈ L, ∀ t, t ∉ dstsOf all → look p.1 t = look env t := by
                intro p hp t ht
                obtain ⟨j, hj, lj, e1, e2⟩ := hback p hp
                obtain ⟨o, x, H1, ho, hg, hb, he⟩ := open_ e1
                exact ((evDrL_ok hc n m (j :: ex) _ H1 he).2 p e2 t ht).trans (putE_look ho ht)
              obtain ⟨N, hN⟩ := common (P := fun N j => ∃ o, all[j]? = some o ∧ exG P G T own all o env H fun x H1 => AgP G T own all j m ex (putE o.dst x env) H1 ∧ (DrP P G T own all) N m (j :: ex) (putE o.dst x env) H1 (fun e h => ∃ p ∈ L, h = p.2 ∧ EqE e p.1))
                (fun j n n' hn ⟨o, ho, hx⟩ => ⟨o, ho, exG_mono (fun x H1 hh => ⟨hh.1, DrP.le hn hh.2⟩) hx⟩) (readyP m ex 0 all) (fun j hj => by
                  obtain ⟨lj, e1, e2⟩ := hall j hj
                  obtain ⟨o, x, H1, ho, hg, hb, he⟩ := open_ e1
                  obtain ⟨⟨N, hN⟩, hl2⟩ := evDrL_ok hc n m (j :: ex) _ H1 he
                  refine ⟨N, o, ho, gOp_exG hc hg ⟨agB_ok hb, DrP.monoK (fun e h hh => ?_) hN⟩⟩
                  obtain ⟨p, hp, h3, h4⟩ := hh
                  obtain ⟨q, hq, h5, h6⟩ := e2 p hp
                  refine ⟨q, hq, h3.trans h5.symm, h4.trans fun t => ?_⟩
                  by_cases ht : t ∈ dstsOf all
                  · exact h6 t ht
                  · rw [hl2 p hp t ht, putE_look ho ht, hrest q hq t ht])
              cases hr : readyP m ex 0 all with
              | nil => exact (hne hr).elim
              | cons j0 js0 =>
                rw [hr] at hN
                exact ⟨⟨N + 1, loud_any hf hr hN⟩, hrest⟩
end
def idxN (id : Nat) : List Nat → Nat → Option Nat
  | [], _ => none
  | k :: r, i => bif Nat.beq k id then some i else idxN id r (i + 1)
theorem idxN_get {id : Nat} : ∀ {ks : List Nat} {i j : Nat}, idxN id ks i = some j → ∃ k, j = i + k ∧ ks[k]? = some id
  | [], i, j, h => by cases h
  | k :: r, i, j, h => by
    unfold idxN at h
    cases hb : Nat.beq k id with
    | true => rw [hb] at h; cases h; exact ⟨0, rfl, by rw [Nat.eq_of_beq_eq_true hb]; rfl⟩
    | false =>
      rw [hb, cond_false] at h
      obtain ⟨m, h1, h2⟩ := idxN_get h
      exact ⟨m + 1, by omega, h2⟩
def renV (H : List Blk) (n : Nat) (ks : List Nat) : Nat → SV → Option SV
  | 0, _ => none
  | d + 1, x => bif x.under n then some x else match x with
    | .agg fs => (match frzVL (renV H n ks d) fs with
      | some ys => some (.agg ys)
      | none => none)
    | .tuple fs => (match frzVL (renV H n ks d) fs with
      | some ys => some (.tuple ys)
      | none => none)
    | .list sz fs => (match frzVL (renV H n ks d) fs with
      | some ys => some (.list sz ys)
      | none => none)
    | .fn f xs ys => (match frzVL (renV H n ks d) xs with
      | some us => (match frzVL (renV H n ks d) ys with
        | some vs => some (.fn f us vs)
        | none => none)
      | none => none)
    | .sl id g off len => (match idxN id ks 0 with
      | some i => (match H[id]? with
        | some (.cells g' sz vals) => bif Nat.beq g g' then some (.sl (n + i) 0 off len) else none
        | _ => none)
      | none => none)
    | .ptr id g j o => (match idxN id ks 0 with
      | some i => (match H[id]? with
        | some (.cells g' sz vals) => bif Nat.beq g g' then some (.ptr (n + i) 0 j o) else none
        | _ => none)
      | none => none)
    | .map id => (match idxN id ks 0 with
      | some i => (match H[id]? with
        | some (.map kd es) => some (.map (n + i))
        | _ => none)
      | none => none)
    | _ => none
def keepOf (ks : List Nat) : Keep := ks.map fun id => (id, 0)
theorem frzVL_okK {H : List Blk} {n : Nat} {ks : Keep} {f : SV → Option SV} (hf : ∀ x y, f x = some y → Frz H n ks x y) : ∀ {xs ys : List SV}, frzVL f xs = some ys → FrzL H n ks xs ys
  | [], ys, h => by cases h; exact .nil
  | x :: r, ys, h => by
    unfold frzVL at h
    split at h
    · rename_i y hy
      split at h
      · rename_i zs hzs
        cases h
        exact .cons _ _ _ _ (hf _ _ hy) (frzVL_okK hf hzs)
      · cases h
    · cases h
theorem keepOf_get {ks : List Nat} {i id : Nat} (h : ks[i]? = some id) : (keepOf ks)[i]? = some (id, 0) := by
  unfold keepOf
  rw [List.getElem?_map, h]; rfl
theorem renV_ok {H : List Blk} {n : Nat} {ks : List Nat} : ∀ (d : Nat) (x y : SV), renV H n ks d x = some y → Frz H n (keepOf ks) x y
  | 0, x, y, h => by cases h
  | d + 1, x, y, h => by
    unfold renV at h
    cases hu : x.under n with
    | true => rw [hu, cond_true] at h; cases h; exact .same _ hu
    | false =>
      rw [hu, cond_false] at h
      cases x with
      | agg fs =>
        simp only at h
        split at h
        · rename_i ys hy; cases h; exact .agg _ _ (frzVL_okK (renV_ok d) hy)
        · cases h
      | tuple fs =>
        simp only at h
        split at h
        · rename_i ys hy; cases h; exact .tuple _ _ (frzVL_okK (renV_ok d) hy)
        · cases h
      | list sz fs =>
        simp only at h
        split at h
        · rename_i ys hy; cases h; exact .list _ _ _ (frzVL_okK (renV_ok d) hy)
        · cases h
      | fn f xs ys =>
        simp only at h
        split at h
        · rename_i us hus
          split at h
          · rename_i vs hvs; cases h; exact .fn _ _ _ _ _ (frzVL_okK (renV_ok d) hus) (frzVL_okK (renV_ok d) hvs)
          · cases h
        · cases h
      | sl id g off len =>
        simp only at h
        split at h
        · rename_i i hi
          obtain ⟨k, rfl, hk⟩ := idxN_get hi
          split at h
          · rename_i g' sz vals hH
            cases hg : Nat.beq g g' with
            | false => rw [hg] at h; cases h
            | true =>
              rw [hg, cond_true] at h
              cases h
              have hg := Nat.eq_of_beq_eq_true hg
              subst hg
              have := Frz.keepSl (H := H) (n := n) (ks := keepOf ks) k id 0 g off len sz vals (keepOf_get hk) hH (Nat.zero_le _)
              simpa using this
          · cases h
        · cases h
      | ptr id g j o =>
        simp only at h
        split at h
        · rename_i i hi
          obtain ⟨k, rfl, hk⟩ := idxN_get hi
          split at h
          · rename_i g' sz vals hH
            cases hg : Nat.beq g g' with
            | false => rw [hg] at h; cases h
            | true =>
              rw [hg, cond_true] at h
              cases h
              have hg := Nat.eq_of_beq_eq_true hg
              subst hg
              have := Frz.keepPtr (H := H) (n := n) (ks := keepOf ks) k id 0 g j o sz vals (keepOf_get hk) hH (Nat.zero_le _)
              simpa using this
          · cases h
        · cases h
      | map id =>
        simp only at h
        split at h
        · rename_i i hi
          obtain ⟨k, rfl, hk⟩ := idxN_get hi
          split at h
          · rename_i kd es hH
            cases h
            have := Frz.keepMap (H := H) (n := n) (ks := keepOf ks) k id 0 kd es (keepOf_get hk) hH
            simpa using this
          · cases h
        · cases h
      | _ => cases h
def idsL (f : SV → List Nat) : List SV → List Nat
  | [] => []
  | x :: r => f x ++ idsL f r
def idsV (n : Nat) : Nat → SV → List Nat
  | 0, _ => []
  | d + 1, x => match x with
    | .agg fs => idsL (idsV n d) fs
    | .tuple fs => idsL (idsV n d) fs
    | .list _ fs => idsL (idsV n d) fs
    | .fn _ xs ys => idsL (idsV n d) xs ++ idsL (idsV n d) ys
    | .sl id _ _ _ => bif Nat.ble n id then [id] else []
    | .ptr id _ _ _ => bif Nat.ble n id then [id] else []
    | .map id => bif Nat.ble n id then [id] else []
    | _ => []
def addN : List Nat → List Nat → List Nat
  | ks, [] => ks
  | ks, x :: r => bif memN x ks then addN ks r else addN (ks ++ [x]) r
def idsB (n : Nat) (H : List Blk) : List Nat → List Nat
  | [] => []
  | id :: r => (match H[id]? with
    | some (.cells _ _ vals) => idsL (idsV n 8) vals
    | some (.map _ es) => es.foldr (fun p l => idsV n 8 p.2 ++ l) []
    | _ => []) ++ idsB n H r
def nodN : List Nat → Bool
  | [] => true
  | k :: r => bif memN k r then false else nodN r
theorem nodN_ok : ∀ {ks : List Nat}, nodN ks = true → ks.Nodup
  | [], _ => List.nodup_nil
  | k :: r, h => by
    unfold nodN at h
    cases hb : memN k r with
    | true => rw [hb] at h; cases h
    | false =>
      rw [hb, cond_false] at h
      refine List.nodup_cons.2 ⟨fun hm => ?_, nodN_ok h⟩
      rw [memN_iff.2 hm] at hb
      cases hb
def renE (f : SV → Option SV) (n : Nat) : List (SV × SV) → Option (List (SV × SV))
  | [] => some []
  | (k, x) :: r => bif k.under n then (match f x with
    | some y => (match renE f n r with
      | some r' => some ((k, y) :: r')
      | none => none)
    | none => none) else none
theorem renE_ok {H : List Blk} {n : Nat} {ks : Keep} {f : SV → Option SV} (hf : ∀ x y, f x = some y → Frz H n ks x y) : ∀ {es fs : List (SV × SV)}, renE f n es = some fs → FrzE H n ks es fs
  | [], fs, h => by cases h; exact .nil
  | (k, x) :: r, fs, h => by
    unfold renE at h
    cases hk : k.under n with
    | false => rw [hk] at h; cases h
    | true =>
      rw [hk, cond_true] at h
      split at h
      · rename_i y hy
        split at h
        · rename_i r' hr; cases h; exact .cons _ _ _ _ _ hk (hf _ _ hy) (renE_ok hf hr)
        · cases h
      · cases h
def keepBs (H : List Blk) (n : Nat) (ks : List Nat) : List Nat → Option (List Blk)
  | [] => some []
  | id :: r => bif Nat.ble n id then (match H[id]? with
    | some (.cells _ sz vals) => (match frzVL (renV H n ks 12) vals with
      | some ys => (match keepBs H n ks r with
        | some bs => some (.cells 0 sz ys :: bs)
        | none => none)
      | none => none)
    | some (.map kd es) => (match renE (renV H n ks 12) n es with
      | some fs => (match keepBs H n ks r with
        | some bs => some (.map kd fs :: bs)
        | none => none)
      | none => none)
    | _ => none) else none
theorem keepBs_ok {H : List Blk} {n : Nat} {ks : List Nat} : ∀ {r : List Nat} {bs : List Blk}, keepBs H n ks r = some bs → KeepB H n (keepOf ks) (keepOf r) bs
  | [], bs, h => by cases h; exact .nil
  | id :: r, bs, h => by
    unfold keepBs at h
    cases hn : Nat.ble n id with
    | false => rw [hn] at h; cases h
    | true =>
      rw [hn, cond_true] at h
      have hn := Nat.le_of_ble_eq_true hn
      split at h
      · rename_i g sz vals hH
        split at h
        · rename_i ys hy
          split at h
          · rename_i bs' hb; cases h; exact .cells id 0 _ _ _ _ _ _ hH hn (Nat.zero_le _) (frzVL_okK (renV_ok 12) (by rw [List.drop_zero]; exact hy)) (keepBs_ok hb)
          · cases h
        · cases h
      · rename_i kd es hH
        split at h
        · rename_i fs hf
          split at h
          · rename_i bs' hb; cases h; exact .map id _ _ _ _ _ hH hn (renE_ok (renV_ok 12) hf) (keepBs_ok hb)
          · cases h
        · cases h
      · cases h
def envT (f : SV → Option SV) (env : Env) : List Nat → Env
  | [] => []
  | t :: r => match lookB env t with
    | some x => (match f x with
      | some y => (t, y) :: envT f env r
      | none => envT f env r)
    | none => envT f env r
def envR (n : Nat) (ts : List Nat) (seen : List Nat) : Env → Env
  | [] => []
  | (t, x) :: r => bif memN t ts || memN t seen then envR n ts seen r else bif x.under n then (t, x) :: envR n ts (t :: seen) r else envR n ts (t :: seen) r
theorem envT_ok {H : List Blk} {n : Nat} {ks : Keep} {f : SV → Option SV} (hf : ∀ x y, f x = some y → Frz H n ks x y) {env : Env} : ∀ (ts : List Nat), ∀ p ∈ envT f env ts, ∃ x, look env p.1 = some x ∧ Frz H n ks x p.2
  | [], p, hp => by cases hp
  | t :: r, p, hp => by
    unfold envT at hp
    split at hp
    · rename_i x hx
      rw [lookB_eq] at hx
      split at hp
      · rename_i y hy
        rcases List.mem_cons.1 hp with rfl | hp
        · exact ⟨x, hx, hf _ _ hy⟩
        · exact envT_ok hf r p hp
      · exact envT_ok hf r p hp
    · exact envT_ok hf r p hp
theorem envR_ok {n : Nat} {ts : List Nat} : ∀ (env : Env) (seen : List Nat), ∀ p ∈ envR n ts seen env, p.1 ∉ seen ∧ look env p.1 = some p.2 ∧ p.2.under n = true
  | [], seen, p, hp => by cases hp
  | (t, x) :: r, seen, p, hp => by
    unfold envR at hp
    have step : ∀ (seen' : List Nat), (∀ s, s ∈ seen → s ∈ seen') → (t ∈ ts ∨ t ∈ seen') → p ∈ envR n ts seen' r → (p.1 ≠ t) → p.1 ∉ seen ∧ look ((t, x) :: r) p.1 = some p.2 ∧ p.2.under n = true := by
      intro seen' h1 h2 h3 h4
      obtain ⟨g1, g2, g3⟩ := envR_ok r seen' p h3
      refine ⟨fun h => g1 (h1 _ h), ?_, g3⟩
      unfold look
      rw [if_neg h4]
      exact g2
    cases hb : (memN t ts || memN t seen) with
    | true =>
      rw [hb, cond_true] at hp
      rw [Bool.or_eq_true] at hb
      have hne : p.1 ≠ t := by
        intro e
        obtain ⟨g1, g2, g3⟩ := envR_ok r seen p hp
        have hts : p.1 ∉ ts := envR_ts r seen p hp
        rcases hb with hb | hb
        · exact hts (e ▸ memN_iff.1 hb)
        · exact g1 (e ▸ memN_iff.1 hb)
      exact step seen (fun s h => h) (by rcases hb with hb | hb; exact .inl (memN_iff.1 hb); exact .inr (memN_iff.1 hb)) hp hne
    | false =>
      rw [hb, cond_false] at hp
      rw [Bool.or_eq_false_iff] at hb
      have hts : t ∉ seen := fun h => by rw [memN_iff.2 h] at hb; cases hb.2
      cases hu : x.under n with
      | true =>
        rw [hu, cond_true] at hp
        rcases List.mem_cons.1 hp with rfl | hp
        · refine ⟨hts, ?_, hu⟩
          unfold look
          rw [if_pos rfl]
        · have hne : p.1 ≠ t := fun e => (envR_ok r (t :: seen) p hp).1 (e ▸ List.mem_cons_self ..)
          exact step (t :: seen) (fun s h => List.mem_cons_of_mem _ h) (.inr (List.mem_cons_self ..)) hp hne
      | false =>
        rw [hu, cond_false] at hp
        have hne : p.1 ≠ t := fun e => (envR_ok r (t :: seen) p hp).1 (e ▸ List.mem_cons_self ..)
        exact step (t :: seen) (fun s h => List.mem_cons_of_mem _ h) (.inr (List.mem_cons_self ..)) hp hne
where
  envR_ts {n : Nat} {ts : List Nat} : ∀ (env : Env) (seen : List Nat), ∀ p ∈ envR n ts seen env, p.1 ∉ ts
  | [], seen, p, hp => by cases hp
  | (t, x) :: r, seen, p, hp => by
    unfold envR at hp
    cases hb : (memN t ts || memN t seen) with
    | true => rw [hb, cond_true] at hp; exact envR_ts r seen p hp
    | false =>
      rw [hb, cond_false] at hp
      rw [Bool.or_eq_false_iff] at hb
      cases hu : x.under n with
      | true =>
        rw [hu, cond_true] at hp
        rcases List.mem_cons.1 hp with rfl | hp
        · intro h; rw [memN_iff.2 h] at hb; cases hb.1
        · exact envR_ts r _ p hp
      | false => rw [hu, cond_false] at hp; exact envR_ts r _ p hp
theorem subEnvF_of {H : List Blk} {n : Nat} {ks : Keep} {env : Env} : ∀ {env2 : Env}, (∀ p ∈ env2, ∃ x, look env p.1 = some x ∧ Frz H n ks x p.2) → subEnvF H n ks env2 env
  | [], _ => trivial
  | (t, y) :: r, h => ⟨h (t, y) (List.mem_cons_self ..), subEnvF_of fun p hp => h p (List.mem_cons_of_mem _ hp)⟩
def namedV (n : Nat) (env : Env) : List Nat → List Nat
  | [] => []
  | t :: r => (match lookB env t with
    | some x => idsV n 8 x
    | none => []) ++ namedV n env r
def keysC (n : Nat) (ts : List Nat) (env : Env) (H : List Blk) : List Nat :=
  let k0 := addN [] (namedV n env ts)
  let k1 := addN k0 (idsB n H k0)
  addN k1 (idsB n H k1)
def canonA (n : Nat) (ts ks : List Nat) (env : Env) (H : List Blk) : Option (Env × List Blk) :=
  bif Nat.ble n H.length && (H.take n).all (·.underB n) && nodN ks then (match keepBs H n ks ks with
    | some KB => some (envT (renV H n ks 12) env ts ++ envR n ts [] env, H.take n ++ KB)
    | none => none) else none
def canonE (n : Nat) (ts : List Nat) (p : Env × List Blk) : Option (Env × List Blk) := canonA n ts (keysC n ts p.1 p.2) p.1 p.2
theorem canonA_ok {G : Gl} {nt : Nat} {C : Cx} {n : Nat} {ts ks : List Nat} {env : Env} {H : List Blk} {q : Env × List Blk} (hG : GClosed G) (hB : Based G n) (hC : C.H.length ≤ n) (h : canonA n ts ks env H = some q) : Wk G nt C ⟨env, H⟩ ⟨q.1, q.2⟩ := by
  unfold canonA at h
  cases hb : (Nat.ble n H.length && (H.take n).all (·.underB n) && nodN ks) with
  | false => rw [hb] at h; cases h
  | true =>
    rw [hb, cond_true] at h
    simp only [Bool.and_eq_true] at hb
    obtain ⟨⟨h1, h2⟩, h3⟩ := hb
    split at h
    · rename_i KB hk
      cases h
      have hlen : (H.take n).length = n := by rw [List.length_take]; exact Nat.min_eq_left (Nat.le_of_ble_eq_true h1)
      have hcl : closed (H.take n) := fun B hB => by rw [hlen]; exact Blk.underB_under (List.all_eq_true.1 h2 B hB)
      have hsplit : H.take n ++ H.drop n = H := List.take_append_drop ..
      have hk' := keepBs_ok hk
      have hnd : ((keepOf ks).map (·.1)).Nodup := by
        have : (keepOf ks).map (·.1) = ks := by simp [keepOf, List.map_map, Function.comp_def]
        rw [this]; exact nodN_ok h3
      have key : Wk G nt C ⟨env, H.take n ++ H.drop n⟩ ⟨envT (renV H n ks 12) env ts ++ envR n ts [] env, H.take n ++ KB⟩ := by
        refine Wk.keep (keepOf ks) KB hG (by rw [hlen]; exact hB) (by rw [hlen]; exact hC) hcl ⟨by rw [hlen, hsplit]; exact hk', hnd⟩ ?_
        rw [hlen, hsplit]
        refine subEnvF_of fun p hp => ?_
        rcases List.mem_append.1 hp with hp | hp
        · exact envT_ok (renV_ok 12) ts p hp
        · obtain ⟨_, g2, g3⟩ := envR_ok env [] p hp
          exact ⟨_, g2, .same _ g3⟩
      rwa [hsplit] at key
    · cases h
def sameEnv : Env → Env → Bool
  | [], ys => (match ys with | [] => true | _ => false)
  | (t, x) :: r, ys => (match ys with | (s, y) :: r' => Nat.beq t s && SV.same x y && sameEnv r r' | [] => false)
theorem sameEnv_eq : ∀ {a b : Env}, sameEnv a b = true → a = b
  | [], b, h => by cases b with
    | nil => rfl
    | cons => simp [sameEnv] at h
  | (t, x) :: r, b, h => by cases b with
    | nil => simp [sameEnv] at h
    | cons p r' =>
      obtain ⟨s, y⟩ := p
      simp only [sameEnv, Bool.and_eq_true] at h
      rw [Nat.eq_of_beq_eq_true h.1.1, SV.same_both.1 _ _ h.1.2, sameEnv_eq h.2]
def allSame (n : Nat) (ts : List Nat) (q : Env × List Blk) : List (Env × List Blk) → Bool
  | [] => true
  | p :: r => match canonE n ts p with
    | some q' => bif sameEnv q.1 q'.1 && sameH q.2 q'.2 then allSame n ts q r else false
    | none => false
theorem allSame_ok {n : Nat} {ts : List Nat} {q : Env × List Blk} : ∀ {l : List (Env × List Blk)}, allSame n ts q l = true → ∀ p ∈ l, canonE n ts p = some q
  | p :: r, h, p', hp' => by
    unfold allSame at h
    split at h
    · rename_i q' hq
      cases hb : (sameEnv q.1 q'.1 && sameH q.2 q'.2) with
      | false => rw [hb] at h; cases h
      | true =>
        rw [hb, cond_true] at h
        rw [Bool.and_eq_true] at hb
        rcases List.mem_cons.1 hp' with rfl | hp'
        · rw [hq]
          obtain ⟨a, b⟩ := q
          obtain ⟨c, d⟩ := q'
          have e1 := sameEnv_eq hb.1
          have e2 := sameH_eq hb.2
          simp only at e1 e2
          rw [e1, e2]
        · exact allSame_ok h p' hp'
    · cases h
def oneOf (n : Nat) (ts : List Nat) : List (Env × List Blk) → Option (Env × List Blk)
  | [] => none
  | p :: r => match r with
    | [] => some p
    | _ => (match canonE n ts p with
      | some q => bif allSame n ts q r then some q else none
      | none => none)
theorem oneOf_ok {G : Gl} {nt : Nat} {C : Cx} {n : Nat} {ts : List Nat} {L : List (Env × List Blk)} {q : Env × List Blk} (hG : GClosed G) (hB : Based G n) (hC : C.H.length ≤ n) (h : oneOf n ts L = some q) : ∀ p ∈ L, Wk G nt C ⟨p.1, p.2⟩ ⟨q.1, q.2⟩ := by
  unfold oneOf at h
  split at h
  · cases h
  · rename_i p r
    split at h
    · cases h
      intro p' hp'
      rw [List.mem_singleton.1 hp']
      exact Wk.refl _
    · split at h
      · rename_i q' hq
        cases hb : allSame n ts q' r with
        | false => rw [hb] at h; cases h
        | true =>
          rw [hb, cond_true] at h
          cases h
          intro p' hp'
          rcases List.mem_cons.1 hp' with rfl | hp'
          · exact canonA_ok hG hB hC hq
          · exact canonA_ok hG hB hC (allSame_ok hb p' hp')
      · cases h
end Go.Proofs.YtehfihnfeakmaaaGreatDoor
end

section
namespace Go.Proofs.YtehfihnfeakmaaaGreatDoor
open Go
set_option maxRecDepth 10000
set_option maxHeartbeats 4000000
section
variable (call : RC) (G : Gl) (T : Tab) (own : List Nat) (nt : Nat)
def evC2 : Nat → Code → Env → List Blk → Option (Exit × Env × List Blk)
  | 0, _, _, _ => none
  | n + 1, cd, env, H => match cd with
    | .skip => some (.normal, env, H)
    | .label _ => some (.normal, env, H)
    | .ret => some (.ret, env, H)
    | .exit id => some (.exit id, env, H)
    | .cond x p q => (match evB G env x with
      | some (.bool true) => evC2 n p env H
      | some (.bool false) => evC2 n q env H
      | _ => none)
    | .seq x y => (match evC2 n x env H with
      | some (.normal, env', H') => evC2 n y env' H'
      | r => r)
    | .block id x => (match evC2 n x env H with
      | some (.exit id', env', H') => if id' = id then some (.normal, env', H') else some (.exit id', env', H')
      | r => r)
    | .loop x => (match evC2 n x env H with
      | some (.normal, env', H') => evC2 n (.loop x) (ded [] env') H'
      | r => r)
    | .region _ ops false => (match evOps call G T own nt ops.toList ops.toList env H with
      | some (env', H') => some (.normal, env', H')
      | none => none)
    | .region _ ops true => bif drawOK nt ops.toList then (match evDrL call G T own ops.toList 300 0 [] env H with
      | some L => (match oneOf H.length (dstsOf ops.toList) L with
        | some p => some (.normal, p.1, p.2)
        | none => none)
      | none => none) else none
    | _ => none
end
section
variable {P : Program} {G : Gl} {T : Tab} {own : List Nat} {nt : Nat} {C : Cx} {call : RC} {ρ : Option Nat}
theorem evC2_ok (hG : GClosed G) (hB : Based G C.H.length) (hT : TabOK P T) (hm : P.follows .mixedOrders = true) (hc : RCok P G call) : ∀ (N n : Nat), n ≤ N → ∀ (cd : Code) (env : Env) (H : List Blk) (e : Exit) (env' : Env) (H' : List Blk), evC2 call G T own nt n cd env H = some (e, env', H') →
    AWP P G nt ρ C cd (fun e2 s => e2 = e ∧ s.H = H' ∧ EqE s.env env') ⟨env, H⟩ := by
  intro N
  induction N with
  | zero =>
    intro n hn cd env H e env' H' h
    obtain rfl : n = 0 := by omega
    cases h
  | succ N ih =>
    intro n hn cd env H e env' H' h
    cases n with
    | zero => cases h
    | succ n =>
    have hn : n ≤ N := by omega
    have ihn := ih n hn
    unfold evC2 at h
    split at h
    · cases h; exact AWP.skip ⟨rfl, rfl, EqE.refl _⟩
    · cases h; exact fun c a hc hi hg => wpIn_label ⟨_, c, ⟨rfl, rfl, EqE.refl _⟩, hc, rfl, hi, hg⟩
    · cases h; exact AWP.ret ⟨rfl, rfl, EqE.refl _⟩
    · cases h; exact AWP.exit ⟨rfl, rfl, EqE.refl _⟩
    · rename_i x p q
      split at h
      · rename_i hv
        rw [evB_eq] at hv
        refine AWP.cond ⟨_, hv, true, rfl, ?_⟩
        exact ⟨fun _ => ihn _ _ _ _ _ _ h, fun e => (by cases e)⟩
      · rename_i hv
        rw [evB_eq] at hv
        refine AWP.cond ⟨_, hv, false, rfl, ?_⟩
        exact ⟨fun e => (by cases e), fun _ => ihn _ _ _ _ _ _ h⟩
      · cases h
    · rename_i x y
      split at h
      · rename_i env1 H1 h1
        refine AWP.seq (AWP.mono (ihn _ _ _ _ _ _ h1) ?_)
        rintro e2 ⟨envx, Hx⟩ ⟨rfl, rfl, he⟩
        simp only at he
        exact AWP.wk (Wk.env fun t x hx => (he t).trans hx) (ihn _ _ _ _ _ _ h)
      · rename_i r hr
        refine AWP.seq (AWP.mono (ihn _ _ _ _ _ _ h) ?_)
        rintro e2 ⟨envx, Hx⟩ ⟨rfl, rfl, he⟩
        simp only at he
        cases e2 with
        | normal => exact (hr _ _ h).elim
        | _ => exact ⟨rfl, rfl, he⟩
    · rename_i id x
      split at h
      · rename_i id' env1 H1 h1
        refine AWP.block (AWP.mono (ihn _ _ _ _ _ _ h1) ?_)
        rintro e2 ⟨envx, Hx⟩ ⟨rfl, rfl, he⟩
        simp only at he
        by_cases hid : id' = id
        · rw [if_pos hid] at h
          cases h
          simp only [hid, if_true]
          exact ⟨trivial, trivial, he⟩
        · rw [if_neg hid] at h
          cases h
          simp only [hid, if_false]
          exact ⟨trivial, trivial, he⟩
      · rename_i r hr
        refine AWP.block (AWP.mono (ihn _ _ _ _ _ _ h) ?_)
        rintro e2 ⟨envx, Hx⟩ ⟨rfl, rfl, he⟩
        simp only at he
        cases e2 with
        | exit id' => exact (hr _ _ _ h).elim
        | _ => exact ⟨rfl, rfl, he⟩
    · rename_i x
      have h0 : evC2 call G T own nt (n + 1) (.loop x) env H = some (e, env', H') := by unfold evC2; exact h
      refine AWP.loopW (fun m s => m ≤ n ∧ evC2 call G T own nt (m + 1) (.loop x) s.env s.H = some (e, env', H')) n ⟨env, H⟩ (Wk.env fun t x hx => hx) ⟨Nat.le_refl _, h0⟩ ?_
      rintro m ⟨env0, H0⟩ ⟨hmn, hr⟩
      unfold evC2 at hr
      simp only at hr
      split at hr
      · rename_i env1 H1 h1
        refine AWP.mono (ih m (by omega) _ _ _ _ _ _ h1) ?_
        rintro e2 ⟨envx, Hx⟩ ⟨rfl, rfl, he⟩
        simp only at he
        cases m with
        | zero => cases h1
        | succ m => exact ⟨m, ⟨ded [] env1, _⟩, by omega, Wk.env (fun t x hx => (he t).trans (ded_look _ _ _ _ hx).2), by omega, hr⟩
      · rename_i r hr2
        refine AWP.mono (ih m (by omega) _ _ _ _ _ _ hr) ?_
        rintro e2 ⟨envx, Hx⟩ ⟨rfl, rfl, he⟩
        simp only at he
        cases e2 with
        | normal => exact (hr2 _ _ hr).elim
        | _ => exact ⟨rfl, rfl, he⟩
    · rename_i ops
      split at h
      · rename_i env1 H1 h1
        cases h
        exact AWP.region hT (evOps_ok hc _ h1 ⟨rfl, rfl, EqE.refl _⟩)
      · cases h
    · rename_i ops
      cases hd : drawOK nt ops.toList with
      | false => rw [hd] at h; cases h
      | true =>
        rw [hd, cond_true] at h
        split at h
        · rename_i L h1
          split at h
          · rename_i p ho
            cases h
            obtain ⟨⟨N2, hN⟩, _⟩ := evDrL_ok (P := P) hc _ _ _ _ _ h1
            intro c0 a0 hc0 hi0 hg0
            have hle : C.H.length ≤ H.length := by
              have := Grow.length hg0
              rw [hc0] at this
              exact this
            have hone := oneOf_ok (nt := nt) (C := C) hG (fun C0 h0 => Nat.le_trans (hB C0 h0) hle) hle ho
            refine AWP.monoW (Q := fun e2 s => e2 = Exit.normal ∧ ∃ q ∈ L, s.H = q.2 ∧ EqE s.env q.1) (AWP.draw hT hm hd (DrP.monoK (fun e h hh => ⟨rfl, hh⟩) hN [] (fun i => by simp [LP, memN, Nat.blt_eq]))) ?_ c0 a0 hc0 hi0 hg0
            rintro e2 ⟨envx, Hx⟩ ⟨rfl, q, hq, rfl, he⟩
            exact ⟨⟨p.1, p.2⟩, Wk.trans (Wk.env fun t x hx => (he t).trans hx) (hone q hq), rfl, rfl, EqE.refl _⟩
          · cases h
        · cases h
    · cases h
end
section
variable (P : Program) (G : Gl) (T : Tab) (ow : FuncId → List Nat) (gc : FuncId → Bool) (ov : RC) (fuel : Nat)
def evF2 : Nat → RC
  | 0 => fun _ _ _ => none
  | d + 1 => fun f args H => match ov f args H with
   | some r => some r
   | none => match P.funcs[f]? with
    | some fn => (match fn.body with
      | some cd => bif Nat.ble args.length fn.ntmps then (match evC2 (evF2 d) G T (ow f) fn.ntmps fuel cd (initEnv args 0) H with
        | some (e, env, H') => (match e with
          | .ret => ob (resL T env H' fn.results.toList) fun xs => some (bif gc f then gcR H.length (resSV xs) H' else (resSV xs, H'))
          | .normal => ob (resL T env H' fn.results.toList) fun xs => some (bif gc f then gcR H.length (resSV xs) H' else (resSV xs, H'))
          | _ => none)
        | none => none) else none
      | none => none)
    | none => none
end
theorem evF2_ok {P : Program} {G : Gl} {T : Tab} {ow : FuncId → List Nat} {gc : FuncId → Bool} {ov : RC} {fuel : Nat} (hG : GClosed G) (ho : RCok P G ov) (hT : TabOK P T) (hm : P.follows .mixedOrders = true) (hn : ∀ (f : FuncId) (fn : Func), P.funcs[f]? = some fn → (fn.name == "runtime.NumGoroutine") = false) : ∀ d, RCok P G (evF2 P G T ow gc ov fuel d)
  | 0 => fun f xs H x H' h => by cases h
  | d + 1 => fun f args H x H' h => by
    unfold evF2 at h
    split at h
    · rename_i r hr
      cases h
      exact ho _ _ _ _ _ hr
    split at h
    · rename_i fn hf
      split at h
      · rename_i cd hb
        cases hl : Nat.ble args.length fn.ntmps with
        | false => rw [hl] at h; cases h
        | true =>
          rw [hl, cond_true] at h
          refine ACall.of_awp hT hf hb (hn f fn hf) rfl (Nat.le_of_ble_eq_true hl) rfl fun C h1 h2 h3 => ?_
          have hfin : ∀ (xs : List SV) (H1 : List Blk), (bif gc f then gcR H.length (resSV xs) H1 else (resSV xs, H1)) = (x, H') → Fin C H1 (resSV xs) (fun r H2 => H2 = H' ∧ r = x) := by
            intro xs H1 hx
            cases hg : gc f with
            | true =>
              rw [hg, cond_true] at hx
              have := gcR_fin (C := C) (H' := H1) (x := resSV xs) (n0 := H.length) (by rw [h1])
              rw [hx] at this
              exact this
            | false =>
              rw [hg, cond_false] at hx
              cases hx
              exact Fin.same ⟨rfl, rfl⟩
          split at h
          · rename_i e env1 H1 hr
            split at h
            · obtain ⟨xs, hx, h⟩ := ob_eq h
              refine AWP.mono (evC2_ok hG (by rw [h1]; rw [h1] at h3; exact h3) hT hm (evF2_ok hG ho hT hm hn d) _ _ (Nat.le_refl _) _ _ _ _ _ _ hr) ?_
              rintro e2 ⟨envx, Hx⟩ ⟨rfl, rfl, he⟩
              exact ⟨xs, (resL_look he).trans hx, hfin _ _ (Option.some.inj h)⟩
            · obtain ⟨xs, hx, h⟩ := ob_eq h
              refine AWP.mono (evC2_ok hG (by rw [h1]; rw [h1] at h3; exact h3) hT hm (evF2_ok hG ho hT hm hn d) _ _ (Nat.le_refl _) _ _ _ _ _ _ hr) ?_
              rintro e2 ⟨envx, Hx⟩ ⟨rfl, rfl, he⟩
              exact ⟨xs, (resL_look he).trans hx, hfin _ _ (Option.some.inj h)⟩
            · cases h
          · cases h
      · cases h
    · cases h
end Go.Proofs.YtehfihnfeakmaaaGreatDoor
end

section
namespace Go.Proofs.YtehfihnfeakmaaaGreatDoor
open Go
set_option maxRecDepth 10000
set_option maxHeartbeats 4000000
theorem cloneS_list (G : Gl) (hG : GClosed G) (xs : List SV) (hu0 : ∀ n, SV.underL n xs = true) (H : List Blk) (hl : xs.length < 4294967296) : ACall Tryz.prog G 57 [.list 1 xs] H (fun r H' => H' = H ++ [.cells 0 1 xs] ∧ r = .sl H.length 0 0 xs.length) := by
  have hu : SV.underL H.length (List.drop 0 xs) = true := hu0 _
  refine ACall.of_go TB [2,5] tabOK _ Tryz.func57 rfl (by decide) Tryz.ntmps57 (by simp) rfl (by simp only [initEnv, Nat.reduceAdd]; rfl) fun C R' hR hC hcl hB => ?_; have X := noX; have hC' := congrArg List.length hC
  (refine runO ?_; repeat' (first | with_reducible exact trivial | ((with_reducible apply Fork.mk) <;> intro hb) | with_reducible apply Two.mk))
  · obtain rfl : xs = [] := List.length_eq_zero_iff.1 hb
    exact finK [(H.length + 1, 0)] (.sl H.length 0 0 0) [.cells 0 1 []] hR hC' hcl ⟨rfl, rfl⟩
  · exact finK [(H.length + 1, 0)] (.sl H.length 0 0 xs.length) [.cells 0 1 xs] hR hC' hcl ⟨rfl, rfl⟩
theorem cloneE_list (G : Gl) (hG : GClosed G) (xs : List SV) (hu0 : ∀ n, SV.underL n xs = true) (H : List Blk) (hl : xs.length < 4294967296) : ACall Tryz.prog G 83 [.list 8 xs] H (fun r H' => H' = H ++ [.cells 0 8 xs] ∧ r = .sl H.length 0 0 xs.length) := by
  have hu : SV.underL H.length (List.drop 0 xs) = true := hu0 _
  refine ACall.of_go TB [2,5] tabOK _ Tryz.func83 rfl (by decide) Tryz.ntmps83 (by simp) rfl (by simp only [initEnv, Nat.reduceAdd]; rfl) fun C R' hR hC hcl hB => ?_; have X := noX; have hC' := congrArg List.length hC
  (refine runO ?_; repeat' (first | with_reducible exact trivial | ((with_reducible apply Fork.mk) <;> intro hb) | with_reducible apply Two.mk))
  · obtain rfl : xs = [] := List.length_eq_zero_iff.1 hb
    exact finK [(H.length + 1, 0)] (.sl H.length 0 0 0) [.cells 0 8 []] hR hC' hcl ⟨rfl, rfl⟩
  · exact finK [(H.length + 1, 0)] (.sl H.length 0 0 xs.length) [.cells 0 8 xs] hR hC' hcl ⟨rfl, rfl⟩
theorem cloneB_list (G : Gl) (hG : GClosed G) (xs : List SV) (hu0 : ∀ n, SV.underL n xs = true) (H : List Blk) (hl : xs.length < 4294967296) : ACall Tryz.prog G 84 [.list 9 xs] H (fun r H' => H' = H ++ [.cells 0 9 xs] ∧ r = .sl H.length 0 0 xs.length) := by
  have hu : SV.underL H.length (List.drop 0 xs) = true := hu0 _
  refine ACall.of_go TB [2,5] tabOK _ Tryz.func84 rfl (by decide) Tryz.ntmps84 (by simp) rfl (by simp only [initEnv, Nat.reduceAdd]; rfl) fun C R' hR hC hcl hB => ?_; have X := noX; have hC' := congrArg List.length hC
  (refine runO ?_; repeat' (first | with_reducible exact trivial | ((with_reducible apply Fork.mk) <;> intro hb) | with_reducible apply Two.mk))
  · obtain rfl : xs = [] := List.length_eq_zero_iff.1 hb
    exact finK [(H.length + 1, 0)] (.sl H.length 0 0 0) [.cells 0 9 []] hR hC' hcl ⟨rfl, rfl⟩
  · exact finK [(H.length + 1, 0)] (.sl H.length 0 0 xs.length) [.cells 0 9 xs] hR hC' hcl ⟨rfl, rfl⟩
theorem cloneA_list (G : Gl) (hG : GClosed G) (xs : List SV) (hu0 : ∀ n, SV.underL n xs = true) (H : List Blk) (hl : xs.length < 4294967296) : ACall Tryz.prog G 85 [.list 12 xs] H (fun r H' => H' = H ++ [.cells 0 12 xs] ∧ r = .sl H.length 0 0 xs.length) := by
  have hu : SV.underL H.length (List.drop 0 xs) = true := hu0 _
  refine ACall.of_go TB [2,5] tabOK _ Tryz.func85 rfl (by decide) Tryz.ntmps85 (by simp) rfl (by simp only [initEnv, Nat.reduceAdd]; rfl) fun C R' hR hC hcl hB => ?_; have X := noX; have hC' := congrArg List.length hC
  (refine runO ?_; repeat' (first | with_reducible exact trivial | ((with_reducible apply Fork.mk) <;> intro hb) | with_reducible apply Two.mk))
  · obtain rfl : xs = [] := List.length_eq_zero_iff.1 hb
    exact finK [(H.length + 1, 0)] (.sl H.length 0 0 0) [.cells 0 12 []] hR hC' hcl ⟨rfl, rfl⟩
  · exact finK [(H.length + 1, 0)] (.sl H.length 0 0 xs.length) [.cells 0 12 xs] hR hC' hcl ⟨rfl, rfl⟩
theorem cloneC_list (G : Gl) (hG : GClosed G) (xs : List SV) (hu0 : ∀ n, SV.underL n xs = true) (H : List Blk) (hl : xs.length < 4294967296) : ACall Tryz.prog G 33 [.list 4 xs] H (fun r H' => H' = H ++ [.cells 0 4 xs] ∧ r = .sl H.length 0 0 xs.length) := by
  have hu : SV.underL H.length (List.drop 0 xs) = true := hu0 _
  refine ACall.of_go TB [2,5] tabOK _ Tryz.func33 rfl (by decide) Tryz.ntmps33 (by simp) rfl (by simp only [initEnv, Nat.reduceAdd]; rfl) fun C R' hR hC hcl hB => ?_; have X := noX; have hC' := congrArg List.length hC
  (refine runO ?_; repeat' (first | with_reducible exact trivial | ((with_reducible apply Fork.mk) <;> intro hb) | with_reducible apply Two.mk))
  · obtain rfl : xs = [] := List.length_eq_zero_iff.1 hb
    exact finK [(H.length + 1, 0)] (.sl H.length 0 0 0) [.cells 0 4 []] hR hC' hcl ⟨rfl, rfl⟩
  · exact finK [(H.length + 1, 0)] (.sl H.length 0 0 xs.length) [.cells 0 4 xs] hR hC' hcl ⟨rfl, rfl⟩
theorem ACall.loan {P : Program} {G : Gl} {f : FuncId} {args args2 : List SV} {H : List Blk} {y : SV} (hG : GClosed G) (hB : Based G 0) (hf : FrzL H 0 [] args args2) (hy : ∀ c c' v, Rep c y v → Rep c' y v)
    (h : ACall P G f args2 [] (fun r _ => r = y)) : ACall P G f args H (fun r H' => H' = H ∧ r = y) := by
  refine ⟨h.1, fun c vs hH hc hg hv => ?_⟩
  subst hH
  have hk : KeepOK (H := []) (X := c.H) [] [] := KeepOK.nil
  have h00 := Cx.keep (θ := c.θ) (H := []) (X := c.H) (w := c.w) hc hk (fun B hB => by cases hB)
  have hv2 := (Frz.rep (θ := c.θ) (H := []) (X := c.H) (w := c.w) hc hk).2 hf vs hv
  have hg2 : GOK G ⟨thK c.θ ([] ++ c.H) 0 [], [], c.w⟩ := ⟨fun p hp => (Rep.keep_both (θ := c.θ) (H := []) (X := c.H) (w := c.w) hk).1 _ _ (hg.1 p hp) (hG p hp), fun C1 e => h00.2 C1 (hB C1 e) (hg.2 C1 e)⟩
  refine (h.2 ⟨thK c.θ ([] ++ c.H) 0 [], [], c.w⟩ vs rfl h00.1 hg2 hv2).mono ?_
  rintro e w' ⟨v, x, c', e1, e2, e3, e4, e5, e6⟩
  subst e2
  have hold : ∀ k, k < c.w.heap.size → c'.w.heap[k]? = c.w.heap[k]? := fun k hk => e6.old k hk (fun ⟨id, o, ⟨B, hB, _⟩, _⟩ => by cases hB)
  obtain ⟨g1, g2⟩ := Cx.world hc (w' := c'.w) hold e6.size e6.os e6.tape e6.output
  exact ⟨v, x, { c with w := c'.w }, e1, rfl, ⟨rfl, e3⟩, g2, by rw [e3] at e5 ⊢; exact hy _ _ _ e5, g1⟩
def nilVL (f : SV → SV → Bool) : List SV → List SV → Bool
  | [], [] => true
  | x :: xs, y :: ys => f x y && nilVL f xs ys
  | _, _ => false
def nilV : Nat → SV → SV → Bool
  | 0, _, _ => false
  | d + 1, x, y => match x, y with
    | .agg a, .agg b => nilVL (nilV d) a b
    | .list s a, .list t b => Nat.beq s t && nilVL (nilV d) a b
    | .nil, .list _ [] => true
    | x, y => SV.same x y
theorem nilVL_ok {f : SV → SV → Bool} (hf : ∀ x y, f x y = true → ∀ c v, Rep c x v → Rep c y v) : ∀ {xs ys : List SV}, nilVL f xs ys = true → xs.length = ys.length ∧ ∀ c vs, RepL c xs vs → RepL c ys vs
  | [], [], _ => ⟨rfl, fun _ _ h => h⟩
  | x :: xs, y :: ys, h => by
    simp only [nilVL, Bool.and_eq_true] at h
    obtain ⟨h1, h2⟩ := nilVL_ok hf h.2
    refine ⟨by simp [h1], fun c vs hv => ?_⟩
    obtain ⟨u, us, a1, a2, rfl⟩ := RepL.cons_iff.1 hv
    exact RepL.mk_cons (hf _ _ h.1 _ _ a1) (h2 _ _ a2)
  | [], _ :: _, h => by cases h
  | _ :: _, [], h => by cases h
theorem nilV_ok : ∀ (d : Nat) (x y : SV), nilV d x y = true → ∀ c v, Rep c x v → Rep c y v
  | 0, _, _, h => by cases h
  | d + 1, x, y, h => by
    unfold nilV at h
    split at h
    · rename_i a b
      obtain ⟨_, h2⟩ := nilVL_ok (nilV_ok d) h
      intro c v hv
      simp only [Rep] at hv ⊢
      obtain ⟨vs, e1, e2, e3⟩ := hv
      exact ⟨vs, h2 _ _ e1, e2, e3⟩
    · rename_i s a t b
      simp only [Bool.and_eq_true] at h
      obtain ⟨h1, h2⟩ := nilVL_ok (nilV_ok d) h.2
      have hs := Nat.eq_of_beq_eq_true h.1
      subst hs
      intro c v hv
      simp only [Rep] at hv ⊢
      obtain ⟨p, cap, e1, e2, e3, e4⟩ := hv
      refine ⟨p, cap, by rw [e1, h1], by omega, e3, ?_⟩
      rcases e4 with e4 | ⟨b', o, vs, q1, q2, q3⟩
      · left
        subst e4
        exact List.length_eq_zero_iff.1 (by rw [← h1]; rfl)
      · exact .inr ⟨b', o, vs, q1, h2 _ _ q2, q3⟩
    · intro c v hv
      simp only [Rep] at hv ⊢
      exact ⟨none, 0, hv, Nat.le_refl _, Nat.zero_le _, .inl trivial⟩
    · rw [SV.same_both.1 _ _ h]
      exact fun _ _ h => h
theorem ACall.nilA {P : Program} {G : Gl} {f : FuncId} {x y : SV} {H : List Blk} {R : SV → List Blk → Prop} (h : ACall P G f [y] H R) {d : Nat} (hn : nilV d x y = true) : ACall P G f [x] H R :=
  ⟨h.1, fun c vs h1 h2 h3 h4 => h.2 c vs h1 h2 h3 (by
    obtain ⟨u, us, a1, a2, rfl⟩ := RepL.cons_iff.1 h4
    exact RepL.mk_cons (nilV_ok d _ _ hn _ _ a1) a2)⟩
def primV (n : Int) (xs : List SV) : SV := .agg [.int .i64 8, .str [], .int .i64 0, .int .i64 n, .list 1 [], .list 8 xs, .list 9 [], .list 12 []]
theorem prim_list (G : Gl) (hG : GClosed G) (n : Int) (H : List Blk) : ACall Tryz.prog G 23 [.int .i64 n, .list 8 []] H (fun r H' => H' = H ∧ r = primV n []) := by
  refine ACall.of_go TB [] tabOK _ Tryz.func23 rfl (by decide) Tryz.ntmps23 (by simp) rfl (by simp only [initEnv, Nat.reduceAdd]; rfl) fun C R' hR hC hcl hB => ?_; have X := noX; have hC' := congrArg List.length hC
  (refine run ?_; repeat' (first | with_reducible exact trivial | ((with_reducible apply Fork.mk) <;> intro hb) | with_reducible apply Two.mk))
  exact finS (n0 := H.length) hR hC' hcl (.same _ rfl) ⟨rfl, rfl⟩
theorem prim_nil (G : Gl) (hG : GClosed G) (n : Int) (H : List Blk) : ACall Tryz.prog G 23 [.int .i64 n, .nil] H (fun r H' => H' = H ∧ r = primV n []) :=
  ⟨(prim_list G hG n H).1, fun c vs h1 h2 h3 h4 => (prim_list G hG n H).2 c vs h1 h2 h3 (by
    obtain ⟨u, us, a1, a2, rfl⟩ := RepL.cons_iff.1 h4
    obtain ⟨u2, us2, a3, a4, rfl⟩ := RepL.cons_iff.1 a2
    exact RepL.mk_cons a1 (RepL.mk_cons (nilV_ok 1 .nil (.list 8 []) rfl _ _ a3) a4))⟩
def nF : Str := [102]
def getE : Ex := .mk 8 [] 0 9 [] [] [] []
def caseE (t : Str) (a b : Ex) : Ex := .mk 6 t 0 0 [] [a] [] [.mk 3 [] 0 [] b]
def callE (l : List Ex) : Ex := .mk 4 [] 0 0 [] l [] []
def EF : Ex := .mk 3 [] 0 0 [[97], [98]] [.mk 6 [120] 0 0 [] [.mk 8 [] 0 8 [] [varE [97], .mk 2 [] 0 0 [] [] [] []] [] []] [] [.mk 1 [80, 114, 105, 109, 46, 84, 114, 117, 101] 0 [] (varE [98]), .mk 1 [80, 114, 105, 109, 46, 70, 97, 108, 115, 101] 0 [] (.mk 8 [] 0 1 [] [varE [98], varE [97]] [] [])]] [] []
def EM0 : Ex := .mk 3 [] 0 0 [[115]] [callE [varE nF, getE, getE]] [] []
def EM : Ex := .mk 3 [] 0 0 [[115]] [caseE [116, 35, 49] getE (caseE [116, 35, 50] getE (callE [varE nF, varE [116, 35, 49], varE [116, 35, 50]]))] [] []
def P0 : Pg := ⟨kno4, [.mk nF EF, .mk mainN EM0]⟩
def O0 : List Od := [⟨nF, 2, [0, 1]⟩, ⟨mainN, 1, []⟩]
def Q0 : Pg := ⟨kno4, [.mk nF EF, .mk mainN EM]⟩
def its0 (n : Nat) : Str := [UInt8.ofNat (48 + n)]
def S00 : List Ex := [varE nF, getE, getE]
def ovC (f : FuncId) (sz : Nat) (xs : List SV) (H : List Blk) : Option (SV × List Blk) :=
  bif ((Nat.beq f 57 && Nat.beq sz 1) || (Nat.beq f 83 && Nat.beq sz 8) || (Nat.beq f 84 && Nat.beq sz 9) || (Nat.beq f 85 && Nat.beq sz 12) || (Nat.beq f 33 && Nat.beq sz 4)) && SV.underL 0 xs && Nat.blt xs.length 1000
  then some (.sl H.length 0 0 xs.length, H ++ [.cells 0 sz xs]) else none
def ovA : RC := fun f args H => match args with
  | [.str s] => bif Nat.beq f 81 && decide (s.length ≤ 18) && (Lib.atoi s).isNone then some (.tuple [.int .i64 0, .ptr H.length 0 0 0], H ++ [.dead]) else none
  | [.list sz xs] => ovC f sz xs H
  | [.int .i64 n, .nil] => bif Nat.beq f 23 then some (primV n [], H) else none
  | [x] => bif Nat.beq f 8 then (bif nilV 30 x P0.sv then some (.tuple [.list 3 (odCells O0), .int .i64 0], H) else none)
    else bif Nat.beq f 19 then (match frzV H 0 30 x with
      | some y => bif nilV 30 y Q0.sv then some (.int .i64 0, H) else none
      | none => none) else none
  | [.ptr sb g0 0 0, .agg [k, nm, n, op, names, .sl id g 0 3, xb, xa], y] => bif Nat.beq f 88 && SV.same (.agg [k, nm, n, op, names]) (.agg [.int .i64 4, .str [], .int .i64 0, .int .i64 0, .list 1 []]) && SV.same y (.list 1 (intL [0, 1])) then (match H[id]?, H[sb]? with
      | some (.cells g' 8 xs), some (.cells g0' 2 [.agg [kb, .int .i64 1]]) =>
        bif Nat.beq g g' && Nat.beq g0 g0' && SV.same (.list 8 xs) (.list 8 (exCells S00)) && kb.under H.length && xb.under H.length && xa.under H.length && xb.leaf && xa.leaf then
          some (.agg (wrapV (givF its0 [0, 1] S00 1).1 [.int .i64 4, .str [], .int .i64 0, .int .i64 0, .list 1 [], .sl id g 0 3, xb, xa]), (H.set id (.cells g 8 (exCells (givF its0 [0, 1] S00 1).2.1))).set sb (.cells g0 2 [.agg [kb, .int .i64 ((givF its0 [0, 1] S00 1).2.2 : Int)]])) else none
      | _, _ => none) else none
  | _ => none
def owA (f : FuncId) : List Nat := []
def gcA (f : FuncId) : Bool := Nat.beq f 34 || Nat.beq f 27 || Nat.beq f 114
def isT : Option (SV × List Blk) → Bool
  | some (.bool true, _) => true
  | _ => false
end Go.Proofs.YtehfihnfeakmaaaGreatDoor
end

section
namespace Go.Proofs.YtehfihnfeakmaaaGreatDoor
open Go
theorem num_snoc : ∀ (l : List UInt8) (acc : Nat) (b : UInt8), Lib.decFrom acc (l ++ [b]) = (Lib.decFrom acc l).bind fun n => (Lib.digitVal b).map fun d => n * 10 + d
  | [], acc, b => by
    simp only [List.nil_append, Lib.decFrom, Option.bind_some]
    cases Lib.digitVal b <;> rfl
  | a :: t, acc, b => by
    simp only [List.cons_append, Lib.decFrom]
    cases Lib.digitVal a with
    | none => rfl
    | some d => exact num_snoc t _ b
theorem num_ge : ∀ (l : List UInt8) (acc n : Nat), Lib.decFrom acc l = some n → acc ≤ n
  | [], acc, n, h => by simp only [Lib.decFrom, Option.some.injEq] at h; omega
  | a :: t, acc, n, h => by
    simp only [Lib.decFrom] at h
    cases hd : Lib.digitVal a with
    | none => rw [hd] at h; cases h
    | some d => rw [hd] at h; have := num_ge t _ n h; omega
theorem num_pos {b : UInt8} {r : List UInt8} {n : Nat} (h : Lib.decFrom 0 (b :: r) = some n) (h0 : b ≠ 48) : 0 < n := by
  simp only [Lib.decFrom] at h
  cases hd : Lib.digitVal b with
  | none => rw [hd] at h; cases h
  | some d =>
    rw [hd] at h
    have h1 := num_ge r _ n h
    obtain ⟨h2, h3, h4⟩ := Lib.digitVal_eq hd
    have : b.toNat ≠ 48 := fun e => h0 (UInt8.toNat_inj.1 e)
    omega
theorem digit_byte {b : UInt8} {d : Nat} (h : Lib.digitVal b = some d) : d < 10 ∧ UInt8.ofNat (48 + d) = b := by
  obtain ⟨h2, h3, h4⟩ := Lib.digitVal_eq h
  refine ⟨by omega, UInt8.toNat_inj.1 ?_⟩
  rw [UInt8.toNat_ofNat']
  omega
theorem digit_of {d : Nat} (h : d < 10) : Lib.digitVal (UInt8.ofNat (48 + d)) = some d := by
  have h1 : (UInt8.ofNat (48 + d)).toNat = 48 + d := by rw [UInt8.toNat_ofNat']; omega
  unfold Lib.digitVal
  rw [h1, if_pos (by omega)]
  congr 1
  omega
theorem digs_of : ∀ (k : Nat) (l : List UInt8) (n : Nat), l.length = k → l ≠ [] → l.head? ≠ some 48 → Lib.decFrom 0 l = some n → Lib.decDigits n = l
  | 0, l, n, hk, h, _, _ => absurd (List.length_eq_zero_iff.1 hk) h
  | k + 1, l, n, hk, h, h0, hd => by
    obtain ⟨r, b, rfl⟩ : ∃ r b, l = r ++ [b] := ⟨l.dropLast, l.getLast h, (List.dropLast_concat_getLast h).symm⟩
    rw [num_snoc] at hd
    cases hr : Lib.decFrom 0 r with
    | none => rw [hr] at hd; cases hd
    | some m =>
      rw [hr] at hd
      cases hb : Lib.digitVal b with
      | none => rw [hb] at hd; cases hd
      | some d =>
        rw [hb] at hd
        obtain rfl : m * 10 + d = n := Option.some.inj hd
        obtain ⟨hd1, hd2⟩ := digit_byte hb
        by_cases hre : r = []
        · subst hre
          simp only [Lib.decFrom, Option.some.injEq] at hr
          subst hr
          rw [Lib.decDigits, dif_pos (by omega)]
          simp only [Nat.zero_mul, Nat.zero_add, hd2, List.nil_append]
        · have hh : r.head? = (r ++ [b]).head? := by cases r with
            | nil => exact absurd rfl hre
            | cons x t => rfl
          have hrl : r.length = k := by simp at hk; omega
          have ih := digs_of k r m hrl hre (by rw [hh]; exact h0) hr
          have hm : 0 < m := by
            cases r with
            | nil => exact absurd rfl hre
            | cons x t => exact num_pos hr (fun e => h0 (by rw [e]; rfl))
          rw [Lib.decDigits, dif_neg (by omega), show (m * 10 + d) / 10 = m by omega, show (m * 10 + d) % 10 = d by omega, ih, hd2]
theorem num_digs (u : Nat) : Lib.decFrom 0 (Lib.decDigits u) = some u := by
  induction u using Nat.strongRecOn with
  | _ u ih =>
    by_cases h : u < 10
    · rw [Lib.decDigits, dif_pos h]
      simp only [Lib.decFrom, digit_of h]
      congr 1; omega
    · rw [Lib.decDigits, dif_neg h, num_snoc, ih (u / 10) (by omega), Option.bind_some, digit_of (by omega)]
      simp only [Option.map_some]
      congr 1; omega
theorem digs_ne (u : Nat) : Lib.decDigits u ≠ [] := by
  rw [Lib.decDigits]
  split <;> simp
theorem digs_head (u : Nat) (h : 0 < u) : (Lib.decDigits u).head? ≠ some 48 := by
  induction u using Nat.strongRecOn with
  | _ u ih =>
    by_cases h2 : u < 10
    · rw [Lib.decDigits, dif_pos h2]
      intro e
      have e : UInt8.ofNat (48 + u) = 48 := Option.some.inj e
      have := digit_of h2
      rw [e] at this
      have h3 : Lib.digitVal 48 = some 0 := by decide
      rw [h3] at this
      have := Option.some.inj this
      omega
    · rw [Lib.decDigits, dif_neg h2]
      have ih := ih (u / 10) (by omega) (by omega)
      cases hl : Lib.decDigits (u / 10) with
      | nil => exact absurd hl (digs_ne _)
      | cons x t => rw [hl] at ih; exact ih
def numS (s : Str) : Nat := if s.length < 3 ∨ 11 < s.length ∨ s.take 2 ≠ [116, 35] ∨ s[2]? = some 48 then 0 else (Lib.decFrom 0 (s.drop 2)).getD 0
theorem numS_lt (s : Str) : numS s < 1000000000 := by
  unfold numS
  split
  · decide
  · rename_i h
    cases hd : Lib.decFrom 0 (s.drop 2) with
    | none => show (0 : Nat) < _; decide
    | some n =>
      have h1 := Lib.decFrom_lt _ _ _ hd
      have h2 : (s.drop 2).length ≤ 9 := by rw [List.length_drop]; omega
      have h3 : 10 ^ (s.drop 2).length ≤ 10 ^ 9 := Nat.pow_le_pow_right (by decide) h2
      show n < _
      omega
def nxtC (s : Str) : Bool := decide (s.take 2 = [116, 35]) && (atoA (s.drop 2)).2 && decide (0 < (atoA (s.drop 2)).1) && decide ((s.drop 2).length ≤ 9) && decide (Lib.itoa (atoA (s.drop 2)).1 = s.drop 2)
theorem nxtC_eq (s : Str) : (if nxtC s then (atoA (s.drop 2)).1 else 0) = (numS s : Int) := by
  by_cases hp : s.take 2 = [116, 35]
  rotate_left
  · rw [show nxtC s = false by simp only [nxtC, decide_eq_false hp, Bool.false_and], show numS s = 0 by unfold numS; rw [if_pos (.inr (.inr (.inl hp)))]]
    rfl
  have hs : s = 116 :: 35 :: s.drop 2 := by
    have := List.take_append_drop 2 s
    rw [hp] at this
    exact this.symm
  generalize hds : s.drop 2 = ds at *
  subst hs
  by_cases hl : ds.length ≤ 9
  rotate_left
  · rw [show nxtC (116 :: 35 :: ds) = false by simp only [nxtC, List.drop_succ_cons, List.drop_zero, decide_eq_false hl, Bool.and_false, Bool.false_and], show numS (116 :: 35 :: ds) = 0 by unfold numS; rw [if_pos (.inr (.inl (by simp; omega)))]]
    rfl
  have hat : atoA ds = match Lib.atoi ds with | some v => (v, true) | none => (0, false) := by
    unfold atoA
    rw [Lib.atoiAll_short ds (by omega)]
    cases Lib.atoi ds <;> rfl
  by_cases hn : numS (116 :: 35 :: ds) = 0
  · rw [hn]
    split
    · rename_i hc
      exfalso
      simp only [nxtC, List.drop_succ_cons, List.drop_zero, Bool.and_eq_true, decide_eq_true_eq] at hc
      obtain ⟨⟨⟨⟨-, h1⟩, h2⟩, -⟩, h3⟩ := hc
      generalize (atoA ds).1 = k at *
      obtain ⟨u, rfl⟩ := Int.eq_ofNat_of_zero_le (show 0 ≤ k by omega)
      rw [Lib.itoa_nonneg] at h3
      have hd := num_digs u
      have hh := digs_head u (by omega)
      have hne := digs_ne u
      rw [h3] at hd hh hne
      unfold numS at hn
      rw [if_neg, show List.drop 2 (116 :: 35 :: ds) = ds from rfl, hd] at hn
      · have : u = 0 := hn
        omega
      · rintro (h | h | h | h)
        · cases ds with
          | nil => exact hne rfl
          | cons x t => simp at h; omega
        · simp at h; omega
        · exact h rfl
        · cases ds with
          | nil => exact hne rfl
          | cons x t => exact hh h
    · rfl
  · have hn2 := hn
    unfold numS at hn2
    split at hn2
    · exact absurd rfl hn2
    rename_i hc
    have hne : ds ≠ [] := fun e => hc (.inl (by rw [e]; decide))
    have hh : ds.head? ≠ some 48 := fun e => hc (.inr (.inr (.inr (by cases ds with | nil => cases e | cons x t => exact e))))
    cases hd : Lib.decFrom 0 ds with
    | none => rw [show List.drop 2 (116 :: 35 :: ds) = ds from rfl, hd] at hn2; exact absurd rfl hn2
    | some u =>
      have hnu : numS (116 :: 35 :: ds) = u := by unfold numS; rw [if_neg hc, show List.drop 2 (116 :: 35 :: ds) = ds from rfl, hd]; rfl
      rw [hnu]
      have hdg := digs_of _ ds u rfl hne hh hd
      have hu : 0 < u := by omega
      have hai : Lib.atoi ds = some (u : Int) := by
        cases ds with
        | nil => exact absurd rfl hne
        | cons x t =>
          have hx : ∃ d, Lib.digitVal x = some d := Lib.digit_of_decFrom _ _ _ hd 0 x rfl
          obtain ⟨d, hx⟩ := hx
          obtain ⟨h1, h2, -⟩ := Lib.digitVal_eq hx
          have h45 : (x == 45) = false := by
            rw [beq_eq_false_iff_ne]; intro e; rw [e] at h1; revert h1; decide
          have h43 : (x == 43) = false := by
            rw [beq_eq_false_iff_ne]; intro e; rw [e] at h1; revert h1; decide
          simp only [Lib.atoi, h45, h43, Bool.false_eq_true, if_false, Lib.decNat, List.isEmpty_cons, hd, Option.map_some]
      rw [hai] at hat
      have hat : atoA ds = ((u : Int), true) := hat
      rw [if_pos]
      · rw [hat]
      · simp only [nxtC, List.drop_succ_cons, List.drop_zero, hat, Lib.itoa_nonneg, hdg, Bool.and_eq_true, decide_eq_true_eq]
        refine ⟨⟨⟨⟨rfl, trivial⟩, by omega⟩, hl⟩, trivial⟩
def nxtS (l : List Bd) : Nat := ((bindersP l).foldl (fun n s => max n (numS s)) 0) + 1
theorem fold_lt : ∀ (l : List Str) (n : Nat), n < 1000000000 → l.foldl (fun n s => max n (numS s)) n < 1000000000
  | [], n, h => h
  | s :: r, n, h => fold_lt r _ (by have := numS_lt s; show max n (numS s) < _; omega)
theorem nxtS_lt (l : List Bd) : nxtS l < 1000000001 := by
  have := fold_lt (bindersP l) 0 (by decide)
  unfold nxtS
  omega
end Go.Proofs.YtehfihnfeakmaaaGreatDoor
end

section
namespace Go.Proofs.YtehfihnfeakmaaaGreatDoor
open Go
def wrapE (P : List (Str × Ex)) (b : Ex) : Ex := P.foldr (fun p b => caseE p.1 p.2 b) b
theorem wrapE_cells (P : List (Str × Ex)) (b : Ex) : (wrapE P b).cells = wrapV P b.cells := by
  induction P with
  | nil => rfl
  | cons p r ih =>
    show (caseE p.1 p.2 (wrapE r b)).cells = ahV p.2 p.1 (wrapV r b.cells)
    rw [← ih]; rfl
def mapN {α : Type} (f : α → Nat → α × Nat) : List α → Nat → List α × Nat
  | [], n => ([], n)
  | x :: r, n => ((f x n).1 :: (mapN f r (f x n).2).1, (mapN f r (f x n).2).2)
theorem mapN_len {α : Type} (f : α → Nat → α × Nat) : ∀ (l : List α) (n : Nat), (mapN f l n).1.length = l.length
  | [], _ => rfl
  | x :: r, n => by rw [mapN, List.length_cons, List.length_cons, mapN_len f r]
def bdN (f : Ex → Nat → Ex × Nat) (b : Bd) (n : Nat) : Bd × Nat := (.mk b.name (f b.e n).1, (f b.e n).2)
def alN (f : Ex → Nat → Ex × Nat) (a : Al) (n : Nat) : Al × Nat := (.mk a.kind a.name a.n a.names (f a.body n).1, (f a.body n).2)
def letB (k : List Od) (b : Bd) (s : Ex) : Bool := (decide (b.e.kind = 4) || decide (b.e.kind = 5) || decide (b.e.kind = 6) || decide (b.e.kind = 8)) && decide ((fstS k s).head? = some b.name) && !decide (b.name ∈ freeS b.e)
def nodE (its : Nat → Str) (k : List Od) (kd : Int) (nm : Str) (nn op : Int) (names : List Str) (S : List Ex) (B : List Bd) (A : List Al) (n : Nat) : Ex × Nat :=
  if kd = 5 ∧ B.length = 1 then
    (if letB k (B.getD 0 (.mk [] noEx)) (S.getD 0 noEx) then caseE (B.getD 0 (.mk [] noEx)).name (B.getD 0 (.mk [] noEx)).e (S.getD 0 noEx) else .mk kd nm nn op names S B A, n)
  else if kd = 4 ∧ (callO k (.mk kd nm nn op names S B A)).2 = true then
    (wrapE (givF its (callO k (.mk kd nm nn op names S B A)).1.nums S n).1 (.mk kd nm nn op names (givF its (callO k (.mk kd nm nn op names S B A)).1.nums S n).2.1 B A), (givF its (callO k (.mk kd nm nn op names S B A)).1.nums S n).2.2)
  else (.mk kd nm nn op names S B A, n)
def thrE (its : Nat → Str) (k : List Od) : Nat → Ex → Nat → Ex × Nat
  | 0, e, n => (e, n)
  | m + 1, .mk kd nm nn op names subs binds alts, n =>
    nodE its k kd nm nn op names (mapN (thrE its k m) subs n).1 (mapN (bdN (thrE its k m)) binds (mapN (thrE its k m) subs n).2).1
      (mapN (alN (thrE its k m)) alts (mapN (bdN (thrE its k m)) binds (mapN (thrE its k m) subs n).2).2).1 (mapN (alN (thrE its k m)) alts (mapN (bdN (thrE its k m)) binds (mapN (thrE its k m) subs n).2).2).2
theorem exsWt_set : ∀ (S : List Ex) (i : Nat) (x : Ex), i < S.length → exsWt (S.set i x) + (S.getD i noEx).wt = exsWt S + x.wt
  | [], _, _, h => absurd h (by simp)
  | y :: r, 0, x, _ => by simp only [List.set_cons_zero, exsWt, List.getD_cons_zero]; omega
  | y :: r, i + 1, x, h => by
    have := exsWt_set r i x (by simpa using h)
    simp only [List.set_cons_succ, exsWt, List.getD_cons_succ]
    omega
def wrapW2 (P : List (Str × Ex)) : Nat := (P.map fun p => 2 + p.1.length + p.2.wt).sum
theorem wrapE_wt (P : List (Str × Ex)) (b : Ex) : (wrapE P b).wt = wrapW2 P + b.wt := by
  induction P with
  | nil => simp [wrapE, wrapW2]
  | cons p r ih =>
    have e : (wrapE (p :: r) b).wt = 2 + p.1.length + p.2.wt + (wrapE r b).wt := by
      show (caseE p.1 p.2 (wrapE r b)).wt = _
      simp only [caseE, Ex.wt, exsWt, bdsWt, alsWt, Al.wt, strsWt, List.length_nil]
      omega
    rw [e, ih]
    simp only [wrapW2, List.map_cons, List.sum_cons]
    omega
theorem givF_wt (its : Nat → Str) (hi : ∀ n, n < 4294967296 → (its n).length ≤ 20) : ∀ (ns : List Int) (S : List Ex) (n : Nat), (∀ k ∈ ns, k.toNat + 1 < S.length) → n + ns.length ≤ 4294967296 →
    exsWt (givF its ns S n).2.1 + wrapW2 (givF its ns S n).1 ≤ exsWt S + 47 * (givF its ns S n).1.length ∧ (givF its ns S n).2.2 = n + (givF its ns S n).1.length ∧ (givF its ns S n).2.1.length = S.length
  | [], S, n, _, _ => by simp [givF, wrapW2]
  | k :: r, S, n, hr, hn => by
    rw [givF]
    rw [List.length_cons] at hn
    split
    · simp [wrapW2]
    · split
      · exact givF_wt its hi r S n (fun x hx => hr x (List.mem_cons_of_mem _ hx)) (by omega)
      · have hk := hr k (List.mem_cons_self ..)
        have hset := exsWt_set S (k.toNat + 1) (varE (itT its n)) hk
        obtain ⟨h1, h2, h3⟩ := givF_wt its hi r (S.set (k.toNat + 1) (varE (itT its n))) (n + 1) (fun x hx => by rw [List.length_set]; exact hr x (List.mem_cons_of_mem _ hx)) (by omega)
        have hl := hi n (by omega)
        have hv : (varE (itT its n)).wt = 3 + (its n).length := by simp only [varE, itT, Ex.wt, strsWt, exsWt, bdsWt, alsWt, List.length_append, List.length_cons, List.length_nil]; omega
        have ht : (itT its n).length = 2 + (its n).length := by simp only [itT, List.length_append, List.length_cons, List.length_nil]
        refine ⟨?_, ?_, ?_⟩
        · simp only [wrapW2, List.map_cons, List.sum_cons, List.length_cons] at h1 ⊢
          omega
        · simp only [List.length_cons]; omega
        · simp only [h3, List.length_set]
theorem mapN_wt {α : Type} (f : α → Nat → α × Nat) (w : α → Nat) : ∀ (l : List α) (n : Nat), (∀ x ∈ l, ∀ n', n' + w x ≤ n + (l.map w).sum → w (f x n').1 + 50 ≤ 51 * w x ∧ (f x n').2 + 1 ≤ n' + w x) →
    ((mapN f l n).1.map w).sum + 50 * l.length ≤ 51 * (l.map w).sum ∧ (mapN f l n).2 + l.length ≤ n + (l.map w).sum
  | [], n, _ => by simp [mapN]
  | x :: r, n, h => by
    obtain ⟨h1, h2⟩ := h x (List.mem_cons_self ..) n (by simp only [List.map_cons, List.sum_cons]; omega)
    obtain ⟨h3, h4⟩ := mapN_wt f w r (f x n).2 (fun y hy n' hn' => h y (List.mem_cons_of_mem _ hy) n' (by simp only [List.map_cons, List.sum_cons]; omega))
    simp only [mapN, List.map_cons, List.sum_cons, List.length_cons] at h1 ⊢
    omega
theorem nodup_leN : ∀ (l L : List Nat), l.Nodup → (∀ x ∈ l, x ∈ L) → l.length ≤ L.length
  | [], L, _, _ => Nat.zero_le _
  | x :: r, L, h, hs => by
    obtain ⟨a, b, rfl⟩ := List.append_of_mem (hs x (List.mem_cons_self ..))
    rw [List.nodup_cons] at h
    have := nodup_leN r (a ++ b) h.2 (fun y hy => by
      have := hs y (List.mem_cons_of_mem _ hy)
      rw [List.mem_append, List.mem_cons] at this
      rw [List.mem_append]
      rcases this with h1 | h1 | h1
      · exact .inl h1
      · exact absurd (h1 ▸ hy) h.1
      · exact .inr h1)
    simp only [List.length_append, List.length_cons] at this ⊢
    omega
theorem callO_rg {k : List Od} (hk : ∀ s, OdOK (getOd k s)) {kd : Int} {nm : Str} {nn op : Int} {names : List Str} {S : List Ex} {B : List Bd} {A : List Al} (h : (callO k (.mk kd nm nn op names S B A)).2 = true) :
    (∀ n ∈ (callO k (.mk kd nm nn op names S B A)).1.nums, 0 ≤ n ∧ n + 1 < (S.length : Int)) ∧ (callO k (.mk kd nm nn op names S B A)).1.nums.length + 1 ≤ S.length := by
  cases S with
  | nil => cases h
  | cons s r =>
    have e : callO k (.mk kd nm nn op names (s :: r) B A) = if s.kind ≠ 1 then (noOd, false) else (getOd k s.name, (findOd k s.name).isSome && decide ((getOd k s.name).arity < ((s :: r).length : Int))) := rfl
    rw [e] at h ⊢
    split at h
    · cases h
    rename_i hk1
    rw [if_neg hk1]
    simp only [Bool.and_eq_true, decide_eq_true_eq] at h
    obtain ⟨h1, h2⟩ := hk s.name
    have hrg : ∀ n ∈ (getOd k s.name).nums, 0 ≤ n ∧ n + 1 < ((s :: r).length : Int) := fun n hn => by have := h1 n hn; omega
    refine ⟨hrg, ?_⟩
    have hsub : ∀ x ∈ (getOd k s.name).nums.map Int.toNat, x ∈ List.range r.length := fun x hx => by
      obtain ⟨n, hn, rfl⟩ := List.mem_map.1 hx
      have := hrg n hn
      rw [List.mem_range]
      simp only [List.length_cons] at this
      omega
    have hnd : ((getOd k s.name).nums.map Int.toNat).Nodup := by
      refine List.pairwise_map.2 (List.Pairwise.imp_of_mem ?_ h2)
      intro a b ha hb hab e
      have := h1 a ha
      have := h1 b hb
      omega
    have hsp := nodup_leN _ _ hnd hsub
    rw [List.length_map, List.length_range] at hsp
    simp only [List.length_cons]
    omega
theorem thrE_wt (its : Nat → Str) (hi : ∀ n, n < 4294967296 → (its n).length ≤ 20) (k : List Od) (hk : ∀ s, OdOK (getOd k s)) : ∀ (m : Nat) (e : Ex) (n : Nat), e.wt ≤ m → allS shpC e = true → n + e.wt ≤ 4294967296 →
    (thrE its k m e n).1.wt + 50 ≤ 51 * e.wt ∧ (thrE its k m e n).2 + 1 ≤ n + e.wt
  | 0, e, _, h, _, _ => absurd e.wt_pos (by omega)
  | m + 1, .mk kd nm nn op names subs binds alts, n, hm, hs, hn => by
    rw [allS_eq, Bool.and_eq_true, List.all_eq_true, Ex.parts_mk] at hs
    obtain ⟨hs1, hs2⟩ := hs
    have hw : (Ex.mk kd nm nn op names subs binds alts).wt = 1 + nm.length + strsWt names + exsWt subs + bdsWt binds + alsWt alts := by simp only [Ex.wt]
    rw [hw, exsWt_sum, bdsWt_sum, alsWt_sum] at hm hn ⊢
    have hf := thrE_wt its hi k hk m
    obtain ⟨a1, a2⟩ := mapN_wt (thrE its k m) Ex.wt subs n (fun x hx n' hn' => by
      have h1 := exsWt_mem hx
      rw [exsWt_sum] at h1
      exact hf x n' (by omega) (hs2 x (List.mem_append_left _ hx)) (by have := x.wt_pos; omega))
    obtain ⟨b1, b2⟩ := mapN_wt (bdN (thrE its k m)) Bd.wt binds (mapN (thrE its k m) subs n).2 (fun x hx n' hn' => by
      have h1 := bdsWt_mem hx
      rw [bdsWt_sum] at h1
      have h2 := x.wt_gt
      have := hf x.e n' (by omega) (hs2 _ (List.mem_append_right _ (List.mem_append_left _ (List.mem_map_of_mem hx)))) (by omega)
      obtain ⟨s, e⟩ := x
      simp only [bdN, Bd.wt, Bd.e, Bd.name] at this h2 ⊢
      omega)
    obtain ⟨c1, c2⟩ := mapN_wt (alN (thrE its k m)) Al.wt alts (mapN (bdN (thrE its k m)) binds (mapN (thrE its k m) subs n).2).2 (fun x hx n' hn' => by
      have h1 := alsWt_mem hx
      rw [alsWt_sum] at h1
      have h2 := x.wt_gt
      have := hf x.body n' (by omega) (hs2 _ (List.mem_append_right _ (List.mem_append_right _ (List.mem_map_of_mem hx)))) (by omega)
      obtain ⟨_, s, _, l, e⟩ := x
      simp only [alN, Al.wt, Al.body, Al.kind, Al.name, Al.n, Al.names] at this h2 ⊢
      omega)
    have l1 := mapN_len (thrE its k m) subs n
    have l2 := mapN_len (bdN (thrE its k m)) binds (mapN (thrE its k m) subs n).2
    rw [thrE]
    generalize hS : (mapN (thrE its k m) subs n).1 = S at *
    generalize hN1 : (mapN (thrE its k m) subs n).2 = n1 at *
    generalize hB : (mapN (bdN (thrE its k m)) binds n1).1 = B at *
    generalize hN2 : (mapN (bdN (thrE its k m)) binds n1).2 = n2 at *
    generalize hA : (mapN (alN (thrE its k m)) alts n2).1 = A at *
    generalize hN3 : (mapN (alN (thrE its k m)) alts n2).2 = n3 at *
    have hnode : (Ex.mk kd nm nn op names S B A).wt = 1 + nm.length + strsWt names + (S.map Ex.wt).sum + (B.map Bd.wt).sum + (A.map Al.wt).sum := by simp only [Ex.wt, exsWt_sum, bdsWt_sum, alsWt_sum]
    unfold nodE
    split
    · rename_i h5
      obtain ⟨h5, hB1⟩ := h5
      split
      · refine ⟨?_, by omega⟩
        have hsl : subs.length = 1 := by
          subst h5
          simp only [shpC, Ex.kind, oddS, Bool.and_eq_true] at hs1
          simp at hs1
          omega
        obtain ⟨b, rfl⟩ := List.length_eq_one_iff.1 hB1
        obtain ⟨s, rfl⟩ := List.length_eq_one_iff.1 (l1.trans hsl)
        obtain ⟨bn, be⟩ := b
        simp only [List.getD_cons_zero, caseE, Bd.name, Bd.e, Ex.wt, exsWt, bdsWt, alsWt, Al.wt, strsWt, List.length_nil, List.map_cons, List.map_nil, List.sum_cons, List.sum_nil, Bd.wt] at hnode a1 b1 ⊢
        omega
      · exact ⟨by rw [hnode]; omega, by omega⟩
    · split
      · rename_i h4
        obtain ⟨hr, hl⟩ := callO_rg hk h4.2
        generalize (callO k (.mk kd nm nn op names S B A)).1.nums = ns at *
        obtain ⟨g1, g2, g3⟩ := givF_wt its hi ns S n3 (fun x hx => by have := hr x hx; omega) (by omega)
        have g4 := givF_len its ns S n3
        generalize givF its ns S n3 = FF at *
        rw [wrapE_wt]
        simp only [Ex.wt, exsWt_sum, bdsWt_sum, alsWt_sum] at g1 ⊢
        omega
      · exact ⟨by rw [hnode]; omega, by omega⟩
end Go.Proofs.YtehfihnfeakmaaaGreatDoor
end

section
namespace Go.Proofs.YtehfihnfeakmaaaGreatDoor
open Go
set_option maxRecDepth 10000
set_option maxHeartbeats 4000000
theorem clone_exs (G : Gl) (hG : GClosed G) (l : List Ex) (H : List Blk) (hl : l.length < 4294967296) : ACall Tryz.prog G 83 [.list 8 (exCells l)] H (fun r H' => H' = H ++ [.cells 0 8 (exCells l)] ∧ r = .sl H.length 0 0 l.length) := by
  refine ACall.of_go TB [2,5] tabOK _ Tryz.func83 rfl (by decide) Tryz.ntmps83 (by simp) rfl (by simp only [initEnv, Nat.reduceAdd]; rfl) fun C R' hR hC hcl hB => ?_; have X := noX; have hC' := congrArg List.length hC
  (refine runO ?_; repeat' (first | with_reducible exact trivial | ((with_reducible apply Fork.mk) <;> intro hb) | with_reducible apply Two.mk))
  · obtain rfl : l = [] := List.length_eq_zero_iff.1 hb
    exact finK [(H.length + 1, 0)] (.sl H.length 0 0 0) [.cells 0 8 []] hR hC' hcl ⟨rfl, rfl⟩
  · exact finK [(H.length + 1, 0)] (.sl H.length 0 0 l.length) [.cells 0 8 (exCells l)] hR hC' hcl ⟨rfl, rfl⟩
theorem clone_bds (G : Gl) (hG : GClosed G) (l : List Bd) (H : List Blk) (hl : l.length < 4294967296) : ACall Tryz.prog G 84 [.list 9 (bdCells l)] H (fun r H' => H' = H ++ [.cells 0 9 (bdCells l)] ∧ r = .sl H.length 0 0 l.length) := by
  refine ACall.of_go TB [2,5] tabOK _ Tryz.func84 rfl (by decide) Tryz.ntmps84 (by simp) rfl (by simp only [initEnv, Nat.reduceAdd]; rfl) fun C R' hR hC hcl hB => ?_; have X := noX; have hC' := congrArg List.length hC
  (refine runO ?_; repeat' (first | with_reducible exact trivial | ((with_reducible apply Fork.mk) <;> intro hb) | with_reducible apply Two.mk))
  · obtain rfl : l = [] := List.length_eq_zero_iff.1 hb
    exact finK [(H.length + 1, 0)] (.sl H.length 0 0 0) [.cells 0 9 []] hR hC' hcl ⟨rfl, rfl⟩
  · exact finK [(H.length + 1, 0)] (.sl H.length 0 0 l.length) [.cells 0 9 (bdCells l)] hR hC' hcl ⟨rfl, rfl⟩
theorem clone_als (G : Gl) (hG : GClosed G) (l : List Al) (H : List Blk) (hl : l.length < 4294967296) : ACall Tryz.prog G 85 [.list 12 (alCells l)] H (fun r H' => H' = H ++ [.cells 0 12 (alCells l)] ∧ r = .sl H.length 0 0 l.length) := by
  refine ACall.of_go TB [2,5] tabOK _ Tryz.func85 rfl (by decide) Tryz.ntmps85 (by simp) rfl (by simp only [initEnv, Nat.reduceAdd]; rfl) fun C R' hR hC hcl hB => ?_; have X := noX; have hC' := congrArg List.length hC
  (refine runO ?_; repeat' (first | with_reducible exact trivial | ((with_reducible apply Fork.mk) <;> intro hb) | with_reducible apply Two.mk))
  · obtain rfl : l = [] := List.length_eq_zero_iff.1 hb
    exact finK [(H.length + 1, 0)] (.sl H.length 0 0 0) [.cells 0 12 []] hR hC' hcl ⟨rfl, rfl⟩
  · exact finK [(H.length + 1, 0)] (.sl H.length 0 0 l.length) [.cells 0 12 (alCells l)] hR hC' hcl ⟨rfl, rfl⟩
theorem call_sl (G : Gl) (hG : GClosed G) (k : List Od) (kb : Nat) (H : List Blk) (hkb : H[kb]? = some (.map none (esD k))) (id g : Nat) (S : List Ex) (hid : H[id]? = some (.cells g 8 (exCells S))) (hS : S.length < 4294967296)
    (kd : Int) (nm : Str) (nn op : Int) (names : List Str) (B : List Bd) (A : List Al) (xb xa : SV) (hxb : xb.under H.length = true) (hxa : xa.under H.length = true) (hxbl : xb.leaf = true) (hxal : xa.leaf = true) :
    ACall Tryz.prog G 65 [.map kb, .agg [.int .i64 kd, .str nm, .int .i64 nn, .int .i64 op, .list 1 (names.map .str), .sl id g 0 S.length, xb, xa]] H (fun r H' => H' = H ∧ r = .tuple [.agg (callO k (.mk kd nm nn op names S B A)).1.cells, .bool (callO k (.mk kd nm nn op names S B A)).2]) := by
  have lk := (List.getElem?_eq_some_iff.1 hkb).1
  have l1 := (List.getElem?_eq_some_iff.1 hid).1
  have hkx := fun L => (show (H ++ L)[kb]? = some (.map none (esD k)) by rw [get_old lk]; exact hkb)
  have hix := fun L => (show (H ++ L)[id]? = some (.cells g 8 (exCells S)) by rw [get_old l1]; exact hid)
  cases hs : S with
  | nil =>
    have hc : callO k (.mk kd nm nn op names [] B A) = (noOd, false) := rfl
    rw [hc]
    subst hs
    refine ACall.of_go TB [] tabOK _ Tryz.func65 rfl (by decide) Tryz.ntmps65 (by simp) rfl (by simp only [initEnv, Nat.reduceAdd]; rfl) fun C R' hR hC hcl hB => ?_; have X := noX; have hC' := congrArg List.length hC
    have X := And.intro X hix
    (refine run ?_; repeat' (first | with_reducible exact trivial | ((with_reducible apply Fork.mk) <;> intro hb) | with_reducible apply Two.mk))
    exact finS (n0 := H.length) hR hC' hcl (.same _ rfl) ⟨rfl, rfl⟩
  | cons s r =>
    obtain ⟨k2, n2, nn2, op2, ns2, ss2, bs2, as2⟩ := s
    have hc : callO k (.mk kd nm nn op names (.mk k2 n2 nn2 op2 ns2 ss2 bs2 as2 :: r) B A) = if k2 ≠ 1 then (noOd, false) else (getOd k n2, (findOd k n2).isSome && decide ((getOd k n2).arity < ((Ex.mk k2 n2 nn2 op2 ns2 ss2 bs2 as2 :: r).length : Int))) := rfl
    rw [hc]
    rw [hs] at hS hix
    have hs0 : (Ex.mk k2 n2 nn2 op2 ns2 ss2 bs2 as2 :: r)[0]? = some (.mk k2 n2 nn2 op2 ns2 ss2 bs2 as2) := rfl
    have hlr : (Ex.mk k2 n2 nn2 op2 ns2 ss2 bs2 as2 :: r).length = r.length + 1 := rfl
    generalize hSS : Ex.mk k2 n2 nn2 op2 ns2 ss2 bs2 as2 :: r = S2 at *
    have hlr0 : ¬ (S2.length : Int) = 0 := by omega
    have hz := od_zero k n2
    have hh := esD_has k n2
    refine ACall.of_go TB [] tabOK _ Tryz.func65 rfl (by decide) Tryz.ntmps65 (by simp) rfl (by simp only [initEnv, Nat.reduceAdd]; rfl) fun C R' hR hC hcl hB => ?_; have X := noX; have hC' := congrArg List.length hC
    have X := And.intro X (And.intro hkx (And.intro hix (And.intro hz (And.intro hh (And.intro hs0 hlr0)))))
    (refine run ?_; repeat' (first | with_reducible exact trivial | ((with_reducible apply Fork.mk) <;> intro hb) | with_reducible apply Two.mk))
    · exact finS (n0 := H.length) hR hC' hcl (.same _ rfl) ⟨rfl, by rw [if_pos hb]; rfl⟩
    · exact finS (n0 := H.length) hR hC' hcl (.same _ (by simp only [resSV, SV.under, SV.underL, intL_under, Bool.and_self])) ⟨rfl, by rw [if_neg hb]; rfl⟩
theorem FrzL.app {H : List Blk} {n : Nat} {ks : Keep} : ∀ {a a' b b' : List SV}, FrzL H n ks a a' → FrzL H n ks b b' → FrzL H n ks (a ++ b) (a' ++ b')
  | [], _, _, _, h, h2 => by cases h; exact h2
  | x :: r, _, _, _, h, h2 => by cases h; rename_i h1 h3; exact .cons _ _ _ _ h1 (h3.app h2)
theorem frz_ah {H : List Blk} {n : Nat} {ks : Keep} (a : Ex) (t : Str) {b b' : List SV} (h : FrzL H n ks b b') : FrzL H n ks (ahV a t b) (ahV a t b') := by
  refine .cons _ _ _ _ (.same _ rfl) (.cons _ _ _ _ (.same _ rfl) (.cons _ _ _ _ (.same _ rfl) (.cons _ _ _ _ (.same _ rfl) (.cons _ _ _ _ (.same _ rfl) (.cons _ _ _ _ (.same _ ?_) (.cons _ _ _ _ (.same _ rfl) (.cons _ _ _ _ (.list _ _ _ (.cons _ _ _ _ (.agg _ _ ?_) .nil)) .nil)))))))
  · simp only [SV.under, SV.underL, Ex.cells_under, Bool.and_self]
  · exact FrzL.app (FrzL.same rfl) h
theorem frz_wrap {H : List Blk} {n : Nat} {ks : Keep} (P : List (Str × Ex)) {b b' : List SV} (h : FrzL H n ks b b') : FrzL H n ks (wrapV P b) (wrapV P b') := by
  induction P with
  | nil => exact h
  | cons p r ih => exact frz_ah p.2 p.1 ih
theorem wrapV_len (P : List (Str × Ex)) {b : List SV} (h : b.length = 8) : (wrapV P b).length = 8 := by
  cases P with
  | nil => exact h
  | cons p r => rfl
theorem thrQ {H : List Blk} {kb sb g0 : Nat} {k : List Od} {nx0 : Nat} (h1 : H[kb]? = some (.map none (esD k))) (h2 : H[sb]? = some (.cells g0 2 [.agg [.map kb, .int .i64 (nx0 : Int)]])) :
    ∃ Q : Nat → List Blk, Q nx0 = H ∧ (∀ nx : Nat, H.set sb (.cells g0 2 [.agg [.map kb, .int .i64 (nx : Int)]]) = Q nx) ∧ (∀ nx, (Q nx).length = H.length) ∧
      ((∀ nx L, (Q nx ++ L)[kb]? = some (.map none (esD k))) ∧ (∀ (nx : Nat) L, (Q nx ++ L)[sb]? = some (.cells g0 2 [.agg [.map kb, .int .i64 (nx : Int)]])) ∧ (∀ (nx nx' : Nat) L, (Q nx ++ L).set sb (.cells g0 2 [.agg [.map kb, .int .i64 (nx' : Int)]]) = Q nx' ++ L)) ∧ (closed H → ∀ nx, closed (Q nx)) := by
  have l1 := (List.getElem?_eq_some_iff.1 h1).1
  have l2 := (List.getElem?_eq_some_iff.1 h2).1
  have hne : kb ≠ sb := fun e => by
    rw [e, h2] at h1
    have := Option.some.inj h1
    simp at this
  refine ⟨fun nx => H.set sb (.cells g0 2 [.agg [.map kb, .int .i64 (nx : Int)]]), set_same h2, fun _ => rfl, fun nx => by simp, ⟨fun nx L => ?_, fun nx L => ?_, fun nx nx' L => ?_⟩, fun hc nx => hc.set ?_⟩
  · rw [List.getElem?_append_left (by simpa using l1), List.getElem?_set_ne (fun e => hne e.symm)]; exact h1
  · rw [List.getElem?_append_left (by simpa using l2), List.getElem?_set_self (by simpa using l2)]
  · rw [set_old (by simpa using l2), List.set_set]
  · simp only [Blk.under, SV.underL, SV.under, l1, decide_true, Bool.and_self]
theorem nd5' (n : Nat) : ([(n, 0), (n + 1, 0), (n + 2, 0), (n + 3, 0), (n + 4, 0)].map Prod.fst).Nodup := nd5 n
def ThrC (G : Gl) (its : Nat → Str) (k : List Od) (m : Nat) : Prop := ∀ (e : Ex) (H : List Blk) (kb sb g0 nx : Nat), e.wt ≤ m → e.wt < 67108864 → allS shpC e = true → nx + e.wt ≤ 4294967295 → H[kb]? = some (.map none (esD k)) → H[sb]? = some (.cells g0 2 [.agg [.map kb, .int .i64 (nx : Int)]]) →
  ACall Tryz.prog G 34 [.ptr sb g0 0 0, e.sv] H (fun r H' => H' = H.set sb (.cells g0 2 [.agg [.map kb, .int .i64 ((thrE its k m e nx).2 : Int)]]) ∧ r = (thrE its k m e nx).1.sv)
theorem cut_get {α : Type} {D l : List α} {i : Nat} (hD : D.length = i) (h : i < l.length) : (D ++ l.drop i)[i]? = some l[i] := by
  rw [List.getElem?_append_right (by omega), hD, Nat.sub_self, List.getElem?_drop, Nat.add_zero, List.getElem?_eq_getElem h]
theorem cut_set {α : Type} {D l : List α} {i : Nat} (hD : D.length = i) (h : i < l.length) (y : α) : (D ++ l.drop i).set i y = (D ++ [y]) ++ l.drop (i + 1) := by
  rw [List.set_append, if_neg (by omega), hD, Nat.sub_self, List.drop_eq_getElem_cons h, List.set_cons_zero, List.append_assoc]; rfl
theorem cut_len {α : Type} {D l : List α} {i : Nat} (hD : D.length = i) (h : i ≤ l.length) : (D ++ l.drop i).length = l.length := by rw [List.length_append, hD, List.length_drop]; omega
theorem exCells_cut {D l : List Ex} {i : Nat} (hD : D.length = i) (h : i < l.length) : (exCells (D ++ l.drop i))[i]? = some (.agg l[i].cells) := by rw [exCells_map, List.getElem?_map, cut_get hD h]; rfl
theorem bdCells_cut {D l : List Bd} {i : Nat} (hD : D.length = i) (h : i < l.length) : (bdCells (D ++ l.drop i))[i]? = some (.agg (.str l[i].name :: l[i].e.cells)) := by rw [bdCells_map, List.getElem?_map, cut_get hD h, Option.map_some, Bd.sv, Bd.cells_eq]
theorem alCells_cut {D l : List Al} {i : Nat} (hD : D.length = i) (h : i < l.length) : (alCells (D ++ l.drop i))[i]? = some (.agg (.int .i64 l[i].kind :: .str l[i].name :: .int .i64 l[i].n :: .list 1 (l[i].names.map .str) :: l[i].body.cells)) := by
  rw [alCells_map, List.getElem?_map, cut_get hD h, Option.map_some, Al.sv, Al.cells_eq]
theorem exCells_cutS {D l : List Ex} {i : Nat} (hD : D.length = i) (h : i < l.length) (y : Ex) : (exCells (D ++ l.drop i)).set i (.agg y.cells) = exCells ((D ++ [y]) ++ l.drop (i + 1)) := by
  rw [exCells_map, exCells_map, ← cut_set hD h, List.map_set]; rfl
theorem Ex.cells_drop8 (e : Ex) : List.drop 8 e.cells = [] := List.drop_eq_nil_of_le (by rw [e.cells_len]; exact Nat.le_refl _)
theorem bdCells_cutS {D l : List Bd} {i : Nat} (hD : D.length = i) (h : i < l.length) (y : Ex) : (bdCells (D ++ l.drop i)).set i (.agg (.str l[i].name :: (y.cells ++ List.drop 8 l[i].e.cells))) = bdCells ((D ++ [.mk l[i].name y]) ++ l.drop (i + 1)) := by
  rw [Ex.cells_drop8, List.append_nil, bdCells_map, bdCells_map, ← cut_set hD h, List.map_set]; rfl
theorem alCells_cutS {D l : List Al} {i : Nat} (hD : D.length = i) (h : i < l.length) (y : Ex) :
    (alCells (D ++ l.drop i)).set i (.agg (.int .i64 l[i].kind :: .str l[i].name :: .int .i64 l[i].n :: .list 1 (l[i].names.map .str) :: (y.cells ++ List.drop 8 l[i].body.cells))) = alCells ((D ++ [.mk l[i].kind l[i].name l[i].n l[i].names y]) ++ l.drop (i + 1)) := by
  rw [Ex.cells_drop8, List.append_nil, alCells_map, alCells_map, ← cut_set hD h, List.map_set]; rfl
theorem exCells_cutT {D l : List Ex} {i : Nat} (hD : D.length = i) (h : i ≤ l.length) : (exCells (D ++ l.drop i)).take l.length = exCells (D ++ l.drop i) := List.take_of_length_le (by rw [exCells_len, cut_len hD h]; exact Nat.le_refl _)
theorem bdCells_cutT {D l : List Bd} {i : Nat} (hD : D.length = i) (h : i ≤ l.length) : (bdCells (D ++ l.drop i)).take l.length = bdCells (D ++ l.drop i) := List.take_of_length_le (by rw [bdCells_map, List.length_map, cut_len hD h]; exact Nat.le_refl _)
theorem alCells_cutT {D l : List Al} {i : Nat} (hD : D.length = i) (h : i ≤ l.length) : (alCells (D ++ l.drop i)).take l.length = alCells (D ++ l.drop i) := List.take_of_length_le (by rw [alCells_map, List.length_map, cut_len hD h]; exact Nat.le_refl _)
theorem mapN_cut {α : Type} {f : α → Nat → α × Nat} {l D : List α} {n0 n i : Nat} (h : i < l.length) (hm : mapN f l n0 = (D ++ (mapN f (l.drop i) n).1, (mapN f (l.drop i) n).2)) :
    mapN f l n0 = ((D ++ [(f l[i] n).1]) ++ (mapN f (l.drop (i + 1)) (f l[i] n).2).1, (mapN f (l.drop (i + 1)) (f l[i] n).2).2) := by
  rw [hm, List.drop_eq_getElem_cons h]
  simp only [mapN, List.append_assoc, List.cons_append, List.nil_append]
theorem exsWt_drop {l : List Ex} {i : Nat} (h : i < l.length) : exsWt (l.drop i) = l[i].wt + exsWt (l.drop (i + 1)) := by rw [List.drop_eq_getElem_cons h]; rfl
theorem bdsWt_drop {l : List Bd} {i : Nat} (h : i < l.length) : bdsWt (l.drop i) = l[i].wt + bdsWt (l.drop (i + 1)) := by rw [List.drop_eq_getElem_cons h]; rfl
theorem alsWt_drop {l : List Al} {i : Nat} (h : i < l.length) : alsWt (l.drop i) = l[i].wt + alsWt (l.drop (i + 1)) := by rw [List.drop_eq_getElem_cons h]; rfl
theorem frz_node {H L : List Blk} {n0 : Nat} {S : List Ex} {B : List Bd} {A : List Al} {b0 b1 : Blk} (hl : H.length = n0) (kd : Int) (nm : Str) (nn op : Int) (names : List Str) :
    FrzL (H ++ (b0 :: b1 :: .cells 0 8 (exCells S) :: .cells 0 9 (bdCells B) :: .cells 0 12 (alCells A) :: L)) n0 [] [.int .i64 kd, .str nm, .int .i64 nn, .int .i64 op, .list 1 (names.map .str), .sl (n0 + 2) 0 0 S.length, .sl (n0 + 3) 0 0 B.length, .sl (n0 + 4) 0 0 A.length] (Ex.mk kd nm nn op names S B A).cells := by
  subst hl
  refine .cons _ _ _ _ (.same _ rfl) (.cons _ _ _ _ (.same _ rfl) (.cons _ _ _ _ (.same _ rfl) (.cons _ _ _ _ (.same _ rfl) (.cons _ _ _ _ (.same _ undS) (.cons _ _ _ _ ?_ (.cons _ _ _ _ ?_ (.cons _ _ _ _ ?_ .nil)))))))
  · exact Frz.sf (by rw [get_app]; rfl) (by omega) (by simp) (by rw [List.drop_zero, List.take_of_length_le (by simp [exCells_map])]) (exCells_under _ _)
  · exact Frz.sf (by rw [get_app]; rfl) (by omega) (by simp) (by rw [List.drop_zero, List.take_of_length_le (by simp [bdCells_map])]) (bdCells_under _ _)
  · exact Frz.sf (by rw [get_app]; rfl) (by omega) (by simp) (by rw [List.drop_zero, List.take_of_length_le (by simp [alCells_map])]) (alCells_under _ _)
end Go.Proofs.YtehfihnfeakmaaaGreatDoor
end

section
namespace Go.Proofs.YtehfihnfeakmaaaGreatDoor
open Go
set_option maxRecDepth 10000
set_option maxHeartbeats 4000000
theorem through_ok (G : Gl) (hG : GClosed G) (its : Nat → Str) (hits : ∀ n, n < 4294967296 → (its n).length ≤ 20 ∧ ∀ H, ACall Tryz.prog G 82 [.int .i64 (n : Int)] H (fun r H' => H' = H ∧ r = .str (its n))) (k : List Od) (hk : ∀ s, OdOK (getOd k s)) (hkn : ∀ s, (getOd k s).nums.length < 4294967296) : ∀ m, ThrC G its k m
  | 0, e, _, _, _, _, _, h, _, _, _, _, _ => absurd e.wt_pos (by omega)
  | m + 1, e, H, kb, sb, g0, nx0, hm, hw, hs, hnx, h1, h2 => by
    have hrec := through_ok G hG its hits k hk hkn m
    have hi := fun n h => (hits n h).1
    obtain ⟨kd, nm, nn, op, names, subs, binds, alts⟩ := e
    have hlen := Ex.wt_lens kd nm nn op names subs binds alts
    rw [allS_eq, Bool.and_eq_true, List.all_eq_true, Ex.parts_mk] at hs
    obtain ⟨hs1, hs2⟩ := hs
    have hww : (Ex.mk kd nm nn op names subs binds alts).wt = 1 + nm.length + strsWt names + exsWt subs + bdsWt binds + alsWt alts := by simp only [Ex.wt]
    have hthr : thrE its k (m + 1) (.mk kd nm nn op names subs binds alts) nx0 = nodE its k kd nm nn op names (mapN (thrE its k m) subs nx0).1 (mapN (bdN (thrE its k m)) binds (mapN (thrE its k m) subs nx0).2).1
      (mapN (alN (thrE its k m)) alts (mapN (bdN (thrE its k m)) binds (mapN (thrE its k m) subs nx0).2).2).1 (mapN (alN (thrE its k m)) alts (mapN (bdN (thrE its k m)) binds (mapN (thrE its k m) subs nx0).2).2).2 := rfl
    rw [hthr]
    clear hthr
    have hfw := thrE_wt its hi k hk m
    obtain ⟨Q, q0, qd, hlenQ, qx, qc⟩ := thrQ h1 h2
    simp only [qd]
    rw [← q0]
    refine ACall.of_go TB [] tabOK _ Tryz.func34 rfl (by decide) Tryz.ntmps34 (by simp) rfl (by simp only [initEnv, Nat.reduceAdd]; rfl) fun C R' hR hC hcl hB => ?_; have X := noX; have hC' := congrArg List.length hC
    have hC' := hC'.trans (hlenQ _)
    have hcls : ∀ nx, closed (Q nx) := fun nx => qc (q0 ▸ hcl) nx
    have l1 := (List.getElem?_eq_some_iff.1 h1).1
    have l2 := (List.getElem?_eq_some_iff.1 h2).1
    clear q0 h1 h2
    generalize hn0 : H.length = n0 at *
    have hx21 := hlenQ
    have hx22 : ∀ nx L, (Q nx ++ L)[n0]? = L[0]? := fun nx L => by rw [← hlenQ nx]; exact get_app0 _ _
    have hx23 : ∀ nx L k, (Q nx ++ L)[n0 + k]? = L[k]? := fun nx L k => by rw [← hlenQ nx]; exact get_app _ _ _
    have hx24 : ∀ nx L x, (Q nx ++ L).set n0 x = Q nx ++ L.set 0 x := fun nx L x => by rw [← hlenQ nx]; exact set_app0 _ _ _
    have hx25 : ∀ nx L k x, (Q nx ++ L).set (n0 + k) x = Q nx ++ L.set k x := fun nx L k x => by rw [← hlenQ nx]; exact set_app _ _ _ _
    have X := And.intro noX (And.intro qx (And.intro hx21 (And.intro hx22 (And.intro hx23 (And.intro hx24 hx25)))))
    (refine run ?_; repeat' (first | with_reducible exact trivial | ((with_reducible apply Fork.mk) <;> intro hb) | with_reducible apply Two.mk))
    refine xcallS (clone_exs G hG subs _ (by omega)) ?_
    rintro v H' ⟨rfl, rfl⟩
    simp only [List.append_assoc, List.cons_append, List.nil_append, List.length_append, List.length_cons, List.length_nil, List.length_set, X, Nat.reduceAdd]
    (refine run ?_; repeat' (first | with_reducible exact trivial | ((with_reducible apply Fork.mk) <;> intro hb) | with_reducible apply Two.mk))
    refine xcallS (clone_bds G hG binds _ (by omega)) ?_
    rintro v H' ⟨rfl, rfl⟩
    simp only [List.append_assoc, List.cons_append, List.nil_append, List.length_append, List.length_cons, List.length_nil, List.length_set, X, Nat.reduceAdd]
    (refine run ?_; repeat' (first | with_reducible exact trivial | ((with_reducible apply Fork.mk) <;> intro hb) | with_reducible apply Two.mk))
    refine xcallS (clone_als G hG alts _ (by omega)) ?_
    rintro v H' ⟨rfl, rfl⟩
    simp only [List.append_assoc, List.cons_append, List.nil_append, List.length_append, List.length_cons, List.length_nil, List.length_set, X, Nat.reduceAdd]
    (refine run ?_; repeat' (first | with_reducible exact trivial | ((with_reducible apply Fork.mk) <;> intro hb) | with_reducible apply Two.mk))
    refine go_loop (fun a : Nat × List Ex × Nat => [(0, .ptr sb g0 0 0), (3, .ptr n0 0 0 0), (4, .ptr (n0 + 1) 0 0 0), (27, .int .i64 subs.length), (28, .int .i64 (a.1 : Int))])
      (fun a => Q a.2.2 ++ [.cells 0 8 [.agg [.int .i64 kd, .str nm, .int .i64 nn, .int .i64 op, .list 1 (names.map .str), .sl (n0 + 2) 0 0 subs.length, .sl (n0 + 3) 0 0 binds.length, .sl (n0 + 4) 0 0 alts.length]], .cells 0 8 [.agg [.int .i64 0, .str [], .int .i64 0, .int .i64 0, .list 1 [], .list 8 [], .list 9 [], .list 12 []]], .cells 0 8 (exCells (a.2.1 ++ subs.drop a.1)), .cells 0 9 (bdCells binds), .cells 0 12 (alCells alts)]) (fun a => subs.length - a.1)
      (fun a => (a.1 ≤ subs.length ∧ a.2.1.length = a.1 ∧ a.2.2 + exsWt (subs.drop a.1) ≤ nx0 + exsWt subs) ∧ mapN (thrE its k m) subs nx0 = (a.2.1 ++ (mapN (thrE its k m) (subs.drop a.1) a.2.2).1, (mapN (thrE its k m) (subs.drop a.1) a.2.2).2)) (0, [], nx0) ⟨⟨Nat.zero_le _, rfl, Nat.le_refl _⟩, rfl⟩ ?_ ?_
    · simp only [List.drop_zero, List.nil_append]
      exact wkS (n0 := n0) [(n0, 0), (n0 + 1, 0), (n0 + 2, 0), (n0 + 3, 0), (n0 + 4, 0)] hG hB hC' (hcls _) (hn := hlenQ _) (hd := nd5' n0)
    rintro K ⟨i, D, nx⟩ ⟨⟨hi1, hD, hnw⟩, hmp⟩ hK
    simp only at hi1 hD hnw hmp
    dsimp only
    rcases Nat.lt_or_ge i subs.length with hlt | hge
    · have hmem := List.getElem_mem hlt
      have hxw := exsWt_mem hmem
      have hdr := exsWt_drop hlt
      have hxs := hs2 _ (List.mem_append_left _ hmem)
      have hcall := fun L => hrec subs[i] (Q nx ++ L) kb sb g0 nx (by omega) (by omega) hxs (by omega) (qx.1 _ _) (qx.2.1 _ _)
      obtain ⟨hw1, hw2⟩ := hfw subs[i] nx (by omega) hxs (by omega)
      have hmp2 := mapN_cut hlt hmp
      have hst := fun y => exCells_cutS hD hlt y
      have hcg := exCells_cut hD hlt
      have hct := exCells_cutT hD hi1
      generalize subs[i] = x at *
      generalize thrE its k m x nx = yy at *
      obtain ⟨y, nx2⟩ := yy
      simp only at hw1 hw2 hmp2 hcall
      have X := And.intro (And.intro noX (And.intro qx (And.intro hx21 (And.intro hx22 (And.intro hx23 (And.intro hx24 hx25)))))) (And.intro hcg hct)
      (refine run ?_; repeat' (first | with_reducible exact trivial | ((with_reducible apply Fork.mk) <;> intro hb) | with_reducible apply Two.mk))
      refine xcallS (hcall _) ?_
      rintro v H' ⟨rfl, rfl⟩
      rw [qx.2.2]
      have X := And.intro (And.intro noX (And.intro qx (And.intro hx21 (And.intro hx22 (And.intro hx23 (And.intro hx24 hx25)))))) (And.intro hcg (And.intro hct (hst y)))
      (refine run ?_; repeat' (first | with_reducible exact trivial | ((with_reducible apply Fork.mk) <;> intro hb) | with_reducible apply Two.mk))
      refine hK _ _ (i + 1, D ++ [y], nx2) (by simp only; omega) ⟨⟨by simp only; omega, by simp only [List.length_append, List.length_cons, List.length_nil]; omega, by simp only; omega⟩, hmp2⟩ ?_
      simp only [List.append_assoc, List.cons_append, List.nil_append]
      exact wkS (n0 := n0) [(n0, 0), (n0 + 1, 0), (n0 + 2, 0), (n0 + 3, 0), (n0 + 4, 0)] hG hB hC' (hcls _) (hn := hlenQ _) (hd := nd5' n0)
    clear hK
    have hni : ¬ (i : Int) < (subs.length : Int) := by omega
    rw [List.drop_eq_nil_of_le hge] at hmp hnw ⊢
    simp only [mapN, List.append_nil] at hmp ⊢
    rw [hmp] at hR
    simp only at hR
    have hSl : D.length = subs.length := by omega
    have a1 := (mapN_wt (thrE its k m) Ex.wt subs nx0 (fun x hx n' hn' => by
      have h1 := exsWt_mem hx
      rw [exsWt_sum] at h1
      rw [exsWt_sum] at hww
      exact hfw x n' (by omega) (hs2 x (List.mem_append_left _ hx)) (by have := x.wt_pos; omega)))
    rw [hmp] at a1
    simp only at a1
    obtain ⟨a1, hnw1⟩ := a1
    clear hmp
    generalize D = S at *
    rw [← exsWt_sum] at hnw1
    clear hnw
    generalize hnx1 : nx = nx1 at *
    clear hnx1
    rw [show subs.length = S.length from hSl.symm]
    have X := And.intro (And.intro noX (And.intro qx (And.intro hx21 (And.intro hx22 (And.intro hx23 (And.intro hx24 hx25)))))) (show ¬ ((S.length : Nat) : Int) < (S.length : Int) from Int.lt_irrefl _)
    rw [show (i : Int) = (S.length : Int) by omega]
    clear hni
    (refine run ?_; repeat' (first | with_reducible exact trivial | ((with_reducible apply Fork.mk) <;> intro hb) | with_reducible apply Two.mk))
    refine go_loop (fun a : Nat × List Bd × Nat => [(0, .ptr sb g0 0 0), (3, .ptr n0 0 0 0), (4, .ptr (n0 + 1) 0 0 0), (45, .int .i64 binds.length), (46, .int .i64 (a.1 : Int))])
      (fun a => Q a.2.2 ++ [.cells 0 8 [.agg [.int .i64 kd, .str nm, .int .i64 nn, .int .i64 op, .list 1 (names.map .str), .sl (n0 + 2) 0 0 S.length, .sl (n0 + 3) 0 0 binds.length, .sl (n0 + 4) 0 0 alts.length]], .cells 0 8 [.agg [.int .i64 0, .str [], .int .i64 0, .int .i64 0, .list 1 [], .list 8 [], .list 9 [], .list 12 []]], .cells 0 8 (exCells S), .cells 0 9 (bdCells (a.2.1 ++ binds.drop a.1)), .cells 0 12 (alCells alts)]) (fun a => binds.length - a.1)
      (fun a => (a.1 ≤ binds.length ∧ a.2.1.length = a.1 ∧ a.2.2 + bdsWt (binds.drop a.1) ≤ nx1 + bdsWt binds) ∧ mapN (bdN (thrE its k m)) binds nx1 = (a.2.1 ++ (mapN (bdN (thrE its k m)) (binds.drop a.1) a.2.2).1, (mapN (bdN (thrE its k m)) (binds.drop a.1) a.2.2).2)) (0, [], nx1) ⟨⟨Nat.zero_le _, rfl, Nat.le_refl _⟩, rfl⟩ ?_ ?_
    · simp only [List.drop_zero, List.nil_append]
      exact wkS (n0 := n0) [(n0, 0), (n0 + 1, 0), (n0 + 2, 0), (n0 + 3, 0), (n0 + 4, 0)] hG hB hC' (hcls _) (hn := hlenQ _) (hd := nd5' n0)
    rintro K ⟨i, D, nx⟩ ⟨⟨hi1, hD, hnw⟩, hmp⟩ hK
    simp only at hi1 hD hnw hmp
    dsimp only
    rcases Nat.lt_or_ge i binds.length with hlt | hge
    · have hmem := List.getElem_mem hlt
      have hxw := bdsWt_mem hmem
      have hxg := binds[i].wt_gt
      have hdr := bdsWt_drop hlt
      have hxs := hs2 _ (List.mem_append_right _ (List.mem_append_left _ (List.mem_map_of_mem hmem)))
      have hcall := fun L => hrec binds[i].e (Q nx ++ L) kb sb g0 nx (by omega) (by omega) hxs (by omega) (qx.1 _ _) (qx.2.1 _ _)
      obtain ⟨hw1, hw2⟩ := hfw binds[i].e nx (by omega) hxs (by omega)
      have hmp2 := mapN_cut hlt hmp
      have hst := fun y => bdCells_cutS hD hlt y
      have hcg := bdCells_cut hD hlt
      have hct := bdCells_cutT hD hi1
      simp only [bdN] at hmp2
      generalize binds[i].wt = wb at *
      generalize binds[i].e = x at *
      generalize binds[i].name = xn at *
      generalize thrE its k m x nx = yy at *
      obtain ⟨y, nx2⟩ := yy
      simp only at hw1 hw2 hmp2 hcall
      have X := And.intro (And.intro noX (And.intro qx (And.intro hx21 (And.intro hx22 (And.intro hx23 (And.intro hx24 hx25)))))) (And.intro hcg hct)
      (refine run ?_; repeat' (first | with_reducible exact trivial | ((with_reducible apply Fork.mk) <;> intro hb) | with_reducible apply Two.mk))
      refine xcallS (hcall _) ?_
      rintro v H' ⟨rfl, rfl⟩
      rw [qx.2.2]
      have X := And.intro (And.intro noX (And.intro qx (And.intro hx21 (And.intro hx22 (And.intro hx23 (And.intro hx24 hx25)))))) (And.intro hcg (And.intro hct (hst y)))
      (refine run ?_; repeat' (first | with_reducible exact trivial | ((with_reducible apply Fork.mk) <;> intro hb) | with_reducible apply Two.mk))
      refine hK _ _ (i + 1, D ++ [.mk xn y], nx2) (by simp only; omega) ⟨⟨by simp only; omega, by simp only [List.length_append, List.length_cons, List.length_nil]; omega, by simp only; omega⟩, hmp2⟩ ?_
      simp only [List.append_assoc, List.cons_append, List.nil_append]
      exact wkS (n0 := n0) [(n0, 0), (n0 + 1, 0), (n0 + 2, 0), (n0 + 3, 0), (n0 + 4, 0)] hG hB hC' (hcls _) (hn := hlenQ _) (hd := nd5' n0)
    clear hK
    have hni : ¬ (i : Int) < (binds.length : Int) := by omega
    rw [List.drop_eq_nil_of_le hge] at hmp hnw ⊢
    simp only [mapN, List.append_nil] at hmp ⊢
    rw [hmp] at hR
    simp only at hR
    have hBl : D.length = binds.length := by omega
    have b1 := (mapN_wt (bdN (thrE its k m)) Bd.wt binds nx1 (fun x hx n' hn' => by
      have h1 := bdsWt_mem hx
      rw [bdsWt_sum] at h1
      rw [bdsWt_sum] at hww
      have h2 := x.wt_gt
      have := hfw x.e n' (by omega) (hs2 _ (List.mem_append_right _ (List.mem_append_left _ (List.mem_map_of_mem hx)))) (by omega)
      obtain ⟨s, e⟩ := x
      simp only [bdN, Bd.wt, Bd.e, Bd.name] at this h2 ⊢
      omega)).1
    rw [hmp] at b1
    simp only at b1
    clear hmp
    generalize D = B at *
    have hnw2 : nx ≤ nx1 + bdsWt binds := by omega
    clear hnw
    generalize hnx2 : nx = nx2 at *
    clear hnx2
    rw [show binds.length = B.length from hBl.symm]
    have X := And.intro (And.intro noX (And.intro qx (And.intro hx21 (And.intro hx22 (And.intro hx23 (And.intro hx24 hx25)))))) (show ¬ ((B.length : Nat) : Int) < (B.length : Int) from Int.lt_irrefl _)
    rw [show (i : Int) = (B.length : Int) by omega]
    clear hni
    (refine run ?_; repeat' (first | with_reducible exact trivial | ((with_reducible apply Fork.mk) <;> intro hb) | with_reducible apply Two.mk))
    refine go_loop (fun a : Nat × List Al × Nat => [(0, .ptr sb g0 0 0), (3, .ptr n0 0 0 0), (4, .ptr (n0 + 1) 0 0 0), (65, .int .i64 alts.length), (66, .int .i64 (a.1 : Int))])
      (fun a => Q a.2.2 ++ [.cells 0 8 [.agg [.int .i64 kd, .str nm, .int .i64 nn, .int .i64 op, .list 1 (names.map .str), .sl (n0 + 2) 0 0 S.length, .sl (n0 + 3) 0 0 B.length, .sl (n0 + 4) 0 0 alts.length]], .cells 0 8 [.agg [.int .i64 0, .str [], .int .i64 0, .int .i64 0, .list 1 [], .list 8 [], .list 9 [], .list 12 []]], .cells 0 8 (exCells S), .cells 0 9 (bdCells B), .cells 0 12 (alCells (a.2.1 ++ alts.drop a.1))]) (fun a => alts.length - a.1)
      (fun a => (a.1 ≤ alts.length ∧ a.2.1.length = a.1 ∧ a.2.2 + alsWt (alts.drop a.1) ≤ nx2 + alsWt alts) ∧ mapN (alN (thrE its k m)) alts nx2 = (a.2.1 ++ (mapN (alN (thrE its k m)) (alts.drop a.1) a.2.2).1, (mapN (alN (thrE its k m)) (alts.drop a.1) a.2.2).2)) (0, [], nx2) ⟨⟨Nat.zero_le _, rfl, Nat.le_refl _⟩, rfl⟩ ?_ ?_
    · simp only [List.drop_zero, List.nil_append]
      exact wkS (n0 := n0) [(n0, 0), (n0 + 1, 0), (n0 + 2, 0), (n0 + 3, 0), (n0 + 4, 0)] hG hB hC' (hcls _) (hn := hlenQ _) (hd := nd5' n0)
    rintro K ⟨i, D, nx⟩ ⟨⟨hi1, hD, hnw⟩, hmp⟩ hK
    simp only at hi1 hD hnw hmp
    dsimp only
    rcases Nat.lt_or_ge i alts.length with hlt | hge
    · have hmem := List.getElem_mem hlt
      have hxw := alsWt_mem hmem
      have hxg := alts[i].wt_gt
      have hdr := alsWt_drop hlt
      have hxs := hs2 _ (List.mem_append_right _ (List.mem_append_right _ (List.mem_map_of_mem hmem)))
      have hcall := fun L => hrec alts[i].body (Q nx ++ L) kb sb g0 nx (by omega) (by omega) hxs (by omega) (qx.1 _ _) (qx.2.1 _ _)
      obtain ⟨hw1, hw2⟩ := hfw alts[i].body nx (by omega) hxs (by omega)
      have hmp2 := mapN_cut hlt hmp
      have hst := fun y => alCells_cutS hD hlt y
      have hcg := alCells_cut hD hlt
      have hct := alCells_cutT hD hi1
      simp only [alN] at hmp2
      generalize alts[i] = aa at *
      obtain ⟨ak, an, ann, ans, x⟩ := aa
      simp only [Al.kind, Al.name, Al.n, Al.names, Al.body] at hmp2 hst hcg hcall hw1 hw2 hxg
      generalize thrE its k m x nx = yy at *
      obtain ⟨y, nx3⟩ := yy
      simp only at hw1 hw2 hmp2 hcall
      have X := And.intro (And.intro noX (And.intro qx (And.intro hx21 (And.intro hx22 (And.intro hx23 (And.intro hx24 hx25)))))) (And.intro hcg hct)
      (refine run ?_; repeat' (first | with_reducible exact trivial | ((with_reducible apply Fork.mk) <;> intro hb) | with_reducible apply Two.mk))
      refine xcallS (hcall _) ?_
      rintro v H' ⟨rfl, rfl⟩
      rw [qx.2.2]
      have X := And.intro (And.intro noX (And.intro qx (And.intro hx21 (And.intro hx22 (And.intro hx23 (And.intro hx24 hx25)))))) (And.intro hcg (And.intro hct (hst y)))
      (refine run ?_; repeat' (first | with_reducible exact trivial | ((with_reducible apply Fork.mk) <;> intro hb) | with_reducible apply Two.mk))
      refine hK _ _ (i + 1, D ++ [.mk ak an ann ans y], nx3) (by simp only; omega) ⟨⟨by simp only; omega, by simp only [List.length_append, List.length_cons, List.length_nil]; omega, by simp only; omega⟩, hmp2⟩ ?_
      simp only [List.append_assoc, List.cons_append, List.nil_append]
      exact wkS (n0 := n0) [(n0, 0), (n0 + 1, 0), (n0 + 2, 0), (n0 + 3, 0), (n0 + 4, 0)] hG hB hC' (hcls _) (hn := hlenQ _) (hd := nd5' n0)
    clear hK
    have hni : ¬ (i : Int) < (alts.length : Int) := by omega
    rw [List.drop_eq_nil_of_le hge] at hmp hnw ⊢
    simp only [mapN, List.append_nil] at hmp ⊢
    rw [hmp] at hR
    simp only at hR
    have hAl : D.length = alts.length := by omega
    clear hmp
    generalize D = A at *
    have hnw3 : nx ≤ nx2 + alsWt alts := by omega
    clear hnw
    generalize hnx3 : nx = nx3 at *
    clear hnx3
    rw [show alts.length = A.length from hAl.symm]
    have hna : ¬ ((A.length : Nat) : Int) < (A.length : Int) := Int.lt_irrefl _
    rw [show (i : Int) = (A.length : Int) by omega]
    clear hni hfw hrec
    have hsW : exsWt S ≤ 51 * exsWt subs := by rw [exsWt_sum, exsWt_sum]; omega
    have hbW : bdsWt B ≤ 51 * bdsWt binds := by rw [bdsWt_sum, bdsWt_sum]; omega
    clear a1 b1
    have hnode : (kd = 5 ∧ binds.length = 1) ∨ (kd = 4) ∨ (¬ (kd = 5 ∧ binds.length = 1) ∧ ¬ kd = 4) := by
      by_cases h5 : kd = 5 ∧ binds.length = 1
      · exact .inl h5
      · by_cases h4 : kd = 4
        · exact .inr (.inl h4)
        · exact .inr (.inr ⟨h5, h4⟩)
    rcases hnode with ⟨h5, hb1⟩ | h4 | ⟨h5, h4⟩
    rotate_left
    · subst h4
      have hcs := fun L => call_sl G hG k kb (Q nx3 ++ (.cells 0 8 [.agg [.int .i64 4, .str nm, .int .i64 nn, .int .i64 op, .list 1 (names.map .str), .sl (n0 + 2) 0 0 S.length, .sl (n0 + 3) 0 0 B.length, .sl (n0 + 4) 0 0 A.length]] :: .cells 0 8 [.agg [.int .i64 0, .str [], .int .i64 0, .int .i64 0, .list 1 [], .list 8 [], .list 9 [], .list 12 []]] :: .cells 0 8 (exCells S) :: .cells 0 9 (bdCells B) :: .cells 0 12 (alCells A) :: L)) (qx.1 _ _) (n0 + 2) 0 S (by rw [hx23]; rfl) (by omega) 4 nm nn op names B A (.sl (n0 + 3) 0 0 B.length) (.sl (n0 + 4) 0 0 A.length)
        (by simp only [SV.under, List.length_append, hlenQ, List.length_cons, List.length_nil, decide_eq_true_eq]; omega) (by simp only [SV.under, List.length_append, hlenQ, List.length_cons, List.length_nil, decide_eq_true_eq]; omega) rfl rfl
      have hn4 : nodE its k 4 nm nn op names S B A nx3 = if (callO k (.mk 4 nm nn op names S B A)).2 = true then (wrapE (givF its (callO k (.mk 4 nm nn op names S B A)).1.nums S nx3).1 (.mk 4 nm nn op names (givF its (callO k (.mk 4 nm nn op names S B A)).1.nums S nx3).2.1 B A), (givF its (callO k (.mk 4 nm nn op names S B A)).1.nums S nx3).2.2) else (.mk 4 nm nn op names S B A, nx3) := by
        unfold nodE
        rw [if_neg (fun h => by have := h.1; omega)]
        by_cases h : (callO k (.mk 4 nm nn op names S B A)).2 = true
        · rw [if_pos ⟨rfl, h⟩, if_pos h]
        · rw [if_neg (fun h2 => h h2.2), if_neg h]
      rw [hn4] at hR
      clear hn4
      cases hc : (callO k (.mk 4 nm nn op names S B A)).2
      · rw [hc] at hcs hR
        rw [if_neg (by decide)] at hR
        have X := And.intro (And.intro noX (And.intro qx (And.intro hx21 (And.intro hx22 (And.intro hx23 (And.intro hx24 hx25)))))) hna
        (refine run ?_; repeat' (first | with_reducible exact trivial | ((with_reducible apply Fork.mk) <;> intro hb) | with_reducible apply Two.mk))
        all_goals
          refine xcallS (hcs _) ?_
          rintro v H' ⟨rfl, rfl⟩
          (refine run ?_; repeat' (first | with_reducible exact trivial | ((with_reducible apply Fork.mk) <;> intro hb) | with_reducible apply Two.mk))
          exact Fin.tellN (n0 := n0) hR (hlenQ _) hC' (hcls _) (Frz.agg _ _ (frz_node (hlenQ _) 4 nm nn op names)) ⟨rfl, rfl⟩
      · obtain ⟨hr, hl⟩ := callO_rg hk hc
        rw [hc] at hcs hR
        rw [if_pos rfl] at hR
        generalize (callO k (.mk 4 nm nn op names S B A)).1 = oo at *
        obtain ⟨on, oa, ns⟩ := oo
        simp only at hr hl hR
        have hgl := (givF_wt its hi ns S nx3 (fun x hx => by have := hr x hx; omega) (by omega)).2.2
        have hgv := give_ok G hG its ns S nx3 4 nn op nm names (.sl (n0 + 3) 0 0 B.length) (.sl (n0 + 4) 0 0 A.length) (.map kb) (Q nx3 ++ [.cells 0 8 [.agg [.int .i64 4, .str nm, .int .i64 nn, .int .i64 op, .list 1 (names.map .str), .sl (n0 + 2) 0 0 S.length, .sl (n0 + 3) 0 0 B.length, .sl (n0 + 4) 0 0 A.length]], .cells 0 8 [.agg [.int .i64 0, .str [], .int .i64 0, .int .i64 0, .list 1 [], .list 8 [], .list 9 [], .list 12 []]], .cells 0 8 (exCells S), .cells 0 9 (bdCells B), .cells 0 12 (alCells A), .cells 0 3 [.agg [.str on, .int .i64 oa, .list 1 (intL ns)]]]) (n0 + 2) 0 sb g0
          (by rw [hx23]; rfl) (qx.2.1 _ _) (by simp only [SV.under, List.length_append, hlenQ, decide_eq_true_eq]; omega) (by simp only [SV.under, List.length_append, hlenQ, List.length_cons, List.length_nil, decide_eq_true_eq]; omega) (by simp only [SV.under, List.length_append, hlenQ, List.length_cons, List.length_nil, decide_eq_true_eq]; omega) rfl rfl
          hr (by omega) (by omega) (by omega) (fun n h1 h2 => by have := hits n (by omega); exact ⟨by omega, this.2⟩)
        generalize givF its ns S nx3 = FF at *
        obtain ⟨PF, SF, nxF⟩ := FF
        simp only at hgl hR hgv
        have hwl : (wrapV PF [.int .i64 4, .str nm, .int .i64 nn, .int .i64 op, .list 1 (names.map .str), .sl (n0 + 2) 0 0 S.length, .sl (n0 + 3) 0 0 B.length, .sl (n0 + 4) 0 0 A.length]).length = 8 := wrapV_len PF rfl
        have hcl8 : (Od.mk on oa ns).cells = [.str on, .int .i64 oa, .list 1 (intL ns)] := rfl
        rw [hcl8] at hcs
        have X := And.intro (And.intro noX (And.intro qx (And.intro hx21 (And.intro hx22 (And.intro hx23 (And.intro hx24 hx25)))))) hna
        (refine run ?_; repeat' (first | with_reducible exact trivial | ((with_reducible apply Fork.mk) <;> intro hb) | with_reducible apply Two.mk))
        all_goals
          refine xcallS (hcs _) ?_
          rintro v H' ⟨rfl, rfl⟩
          have X := And.intro (And.intro noX (And.intro qx (And.intro hx21 (And.intro hx22 (And.intro hx23 (And.intro hx24 hx25)))))) (And.intro (intL_under n0 ns) hwl)
          (refine run ?_; repeat' (first | with_reducible exact trivial | ((with_reducible apply Fork.mk) <;> intro hb) | with_reducible apply Two.mk))
          refine callS hgv ?_
          rintro v H' ⟨rfl, rfl⟩
          rw [hx25, qx.2.2]
          simp only [List.set_cons_succ, List.set_cons_zero]
          (refine run ?_; repeat' (first | with_reducible exact trivial | ((with_reducible apply Fork.mk) <;> intro hb) | with_reducible apply Two.mk))
          refine Fin.tellN (n0 := n0) hR (hlenQ _) hC' (hcls _) (y := .agg (wrapV PF (Ex.mk 4 nm nn op names SF B A).cells)) (Frz.agg _ _ (frz_wrap PF ?_)) ⟨rfl, ?_⟩
          · rw [← hgl]
            exact frz_node (hlenQ _) 4 nm nn op names
          · rw [← wrapE_cells]; rfl
    · have hn0' : nodE its k kd nm nn op names S B A nx3 = (.mk kd nm nn op names S B A, nx3) := by
        unfold nodE
        rw [if_neg (fun h => h5 ⟨h.1, by omega⟩), if_neg (fun h => h4 h.1)]
      rw [hn0'] at hR
      by_cases hk5 : kd = 5
      · have hb1 : ¬ (B.length : Int) = 1 := fun h => h5 ⟨hk5, by omega⟩
        subst hk5
        have X := And.intro (And.intro noX (And.intro qx (And.intro hx21 (And.intro hx22 (And.intro hx23 (And.intro hx24 hx25)))))) (And.intro hna hb1)
        (refine run ?_; repeat' (first | with_reducible exact trivial | ((with_reducible apply Fork.mk) <;> intro hb) | with_reducible apply Two.mk))
        all_goals exact Fin.tellN (n0 := n0) hR (hlenQ _) hC' (hcls _) (Frz.agg _ _ (frz_node (hlenQ _) 5 nm nn op names)) ⟨rfl, rfl⟩
      · have X := And.intro (And.intro noX (And.intro qx (And.intro hx21 (And.intro hx22 (And.intro hx23 (And.intro hx24 hx25)))))) (And.intro hna (And.intro hk5 h4))
        (refine run ?_; repeat' (first | with_reducible exact trivial | ((with_reducible apply Fork.mk) <;> intro hb) | with_reducible apply Two.mk))
        all_goals exact Fin.tellN (n0 := n0) hR (hlenQ _) hC' (hcls _) (Frz.agg _ _ (frz_node (hlenQ _) kd nm nn op names)) ⟨rfl, rfl⟩
    · subst h5
      have hsl : subs.length = 1 := by
        simp only [shpC, Ex.kind, oddS, Bool.and_eq_true] at hs1
        simp at hs1
        omega
      have hB1 : (B.length : Int) = 1 := by omega
      have hS1 : (S.length : Int) = 1 := by omega
      obtain ⟨s0, hs0⟩ := List.length_eq_one_iff.1 (hSl.trans hsl)
      obtain ⟨bb, hbb⟩ := List.length_eq_one_iff.1 (hBl.trans hb1)
      obtain ⟨bn, be⟩ := bb
      have hSc : (exCells S)[0]? = some (.agg s0.cells) := by rw [hs0]; rfl
      have hBc : (bdCells B)[0]? = some (.agg (.str bn :: be.cells)) := by rw [hbb]; rfl
      have hs0w : s0.wt < 4294967296 := by rw [hs0] at hsW; simp only [exsWt] at hsW; omega
      have hbew : be.wt < 4294967296 := by rw [hbb] at hbW; simp only [bdsWt, Bd.wt] at hbW; omega
      have hn5 : nodE its k 5 nm nn op names S B A nx3 = (if letB k (.mk bn be) s0 then caseE bn be s0 else .mk 5 nm nn op names S B A, nx3) := by
        unfold nodE
        rw [if_pos ⟨rfl, by omega⟩, hs0, hbb]; rfl
      rw [hn5] at hR
      obtain ⟨k2, n2, nn2, op2, ns2, ss2, bs2, as2⟩ := be
      have hlb : letB k (.mk bn (.mk k2 n2 nn2 op2 ns2 ss2 bs2 as2)) s0 = ((decide (k2 = 4) || decide (k2 = 5) || decide (k2 = 6) || decide (k2 = 8)) && decide ((fstS k s0).head? = some bn) && !decide (bn ∈ freeS (.mk k2 n2 nn2 op2 ns2 ss2 bs2 as2))) := rfl
      rw [hlb] at hR
      have hfst := fun L => fst_list (first_ok G hG k hkn s0.wt) s0 kb (Q nx3 ++ L) (Nat.le_refl _) hs0w (qx.1 _ _)
      have hfS : fstF simS k s0.wt s0 = fstS k s0 := rfl
      rw [hfS] at hfst
      have c1 := fun H => ACall.frz (strs_under _ _) (List.length_map ..) (free_ok G hG (.mk k2 n2 nn2 op2 ns2 ss2 bs2 as2) H (by omega))
      have hfl : (freeS (.mk k2 n2 nn2 op2 ns2 ss2 bs2 as2)).length ≤ (Ex.mk k2 n2 nn2 op2 ns2 ss2 bs2 as2).wt := by
        have := unb_len (Ex.mk k2 n2 nn2 op2 ns2 ss2 bs2 as2).wt (.mk k2 n2 nn2 op2 ns2 ss2 bs2 as2) ([], [])
        rw [freeS, sortS_len]
        simpa using this
      have c2 := fun H => contains_list G (freeS (.mk k2 n2 nn2 op2 ns2 ss2 bs2 as2)) bn H (by omega)
      have hah := fun L hL => ahead_ok G hG (.mk k2 n2 nn2 op2 ns2 ss2 bs2 as2) bn s0.cells s0.cells_len (Q nx3 ++ L) hL
      have hsu := fun n => Ex.cells_under n s0
      generalize freeS (.mk k2 n2 nn2 op2 ns2 ss2 bs2 as2) = FR at *
      generalize fstS k s0 = F at *
      have hs8 := s0.cells_len
      have hsd := s0.cells_drop8
      have hbe : (caseE bn (.mk k2 n2 nn2 op2 ns2 ss2 bs2 as2) s0).sv = .agg (ahV (.mk k2 n2 nn2 op2 ns2 ss2 bs2 as2) bn s0.cells) := rfl
      have hbeu := fun n => Ex.cells_under n (.mk k2 n2 nn2 op2 ns2 ss2 bs2 as2)
      have hcx : (Ex.mk k2 n2 nn2 op2 ns2 ss2 bs2 as2).cells = [.int .i64 k2, .str n2, .int .i64 nn2, .int .i64 op2, .list 1 (ns2.map .str), .list 8 (exCells ss2), .list 9 (bdCells bs2), .list 12 (alCells as2)] := rfl
      rw [hcx] at hBc
      by_cases hwk : k2 = 4 ∨ k2 = 5 ∨ k2 = 6 ∨ k2 = 8
      rotate_left
      · have hw4 : ¬ k2 = 4 := fun h => hwk (.inl h)
        have hw5 : ¬ k2 = 5 := fun h => hwk (.inr (.inl h))
        have hw6 : ¬ k2 = 6 := fun h => hwk (.inr (.inr (.inl h)))
        have hw8 : ¬ k2 = 8 := fun h => hwk (.inr (.inr (.inr h)))
        simp only [hw4, hw5, hw6, hw8, decide_false, Bool.or_self, Bool.false_and, Bool.false_eq_true, if_false] at hR
        have X := And.intro (And.intro noX (And.intro qx (And.intro hx21 (And.intro hx22 (And.intro hx23 (And.intro hx24 hx25)))))) (And.intro hna (And.intro hB1 (And.intro hBc (And.intro hw4 (And.intro hw5 (And.intro hw6 hw8))))))
        (refine run ?_; repeat' (first | with_reducible exact trivial | ((with_reducible apply Fork.mk) <;> intro hb) | with_reducible apply Two.mk))
        exact Fin.tellN (n0 := n0) hR (hlenQ _) hC' (hcls _) (Frz.agg _ _ (frz_node (hlenQ _) 5 nm nn op names)) ⟨rfl, rfl⟩
      have hwb : (decide (k2 = 4) || decide (k2 = 5) || decide (k2 = 6) || decide (k2 = 8)) = true := by
        rcases hwk with h | h | h | h <;> simp [h]
      rw [hwb, Bool.true_and] at hR
      have hcal : ∀ (v : Str), decide (v ∈ FR) = true ∨ decide (v ∈ FR) = false := fun v => by by_cases h : v ∈ FR <;> simp [h]
      rcases hwk with rfl | rfl | rfl | rfl
      all_goals
        have X := And.intro (And.intro noX (And.intro qx (And.intro hx21 (And.intro hx22 (And.intro hx23 (And.intro hx24 hx25)))))) (And.intro hna (And.intro hB1 (And.intro hBc hSc)))
        (refine run ?_; repeat' (first | with_reducible exact trivial | ((with_reducible apply Fork.mk) <;> intro hb) | with_reducible apply Two.mk))
        refine xcallS (hfst _) ?_
        rintro v H' ⟨rfl, rfl⟩
        cases F with
        | nil =>
          rw [show (decide (([] : List Str).head? = some bn)) = false from rfl, Bool.false_and, if_neg Bool.false_ne_true] at hR
          have X := And.intro (And.intro noX (And.intro qx (And.intro hx21 (And.intro hx22 (And.intro hx23 (And.intro hx24 hx25)))))) hna
          (refine run ?_; repeat' (first | with_reducible exact trivial | ((with_reducible apply Fork.mk) <;> intro hb) | with_reducible apply Two.mk))
          exact Fin.tellN (n0 := n0) hR (hlenQ _) hC' (hcls _) (Frz.agg _ _ (frz_node (hlenQ _) 5 nm nn op names)) ⟨rfl, rfl⟩
        | cons f0 fr =>
          have hF0 : ((f0 :: fr).map SV.str)[0]? = some (.str f0) := rfl
          have hFl : (0 : Int) < ((f0 :: fr).length : Int) := by simp only [List.length_cons]; omega
          have hfd : decide ((f0 :: fr).head? = some bn) = decide (f0 = bn) := by simp only [List.head?_cons, Option.some.injEq]
          rw [hfd] at hR
          generalize f0 :: fr = F at *
          by_cases hfb : f0 = bn
          rotate_left
          · rw [decide_eq_false hfb, Bool.false_and, if_neg Bool.false_ne_true] at hR
            have X := And.intro (And.intro noX (And.intro qx (And.intro hx21 (And.intro hx22 (And.intro hx23 (And.intro hx24 hx25)))))) (And.intro hna (And.intro hF0 (And.intro hFl hfb)))
            (refine run ?_; repeat' (first | with_reducible exact trivial | ((with_reducible apply Fork.mk) <;> intro hb) | with_reducible apply Two.mk))
            exact Fin.tellN (n0 := n0) hR (hlenQ _) hC' (hcls _) (Frz.agg _ _ (frz_node (hlenQ _) 5 nm nn op names)) ⟨rfl, rfl⟩
          rw [decide_eq_true hfb, Bool.true_and] at hR
          by_cases hbf : bn ∈ FR
          · rw [decide_eq_true hbf, Bool.not_true, if_neg Bool.false_ne_true] at hR
            rw [decide_eq_true hbf] at c2
            have X := And.intro (And.intro noX (And.intro qx (And.intro hx21 (And.intro hx22 (And.intro hx23 (And.intro hx24 hx25)))))) (And.intro hna (And.intro hF0 (And.intro hFl hfb)))
            (refine run ?_; repeat' (first | with_reducible exact trivial | ((with_reducible apply Fork.mk) <;> intro hb) | with_reducible apply Two.mk))
            exact Fin.tellN (n0 := n0) hR (hlenQ _) hC' (hcls _) (Frz.agg _ _ (frz_node (hlenQ _) 5 nm nn op names)) ⟨rfl, rfl⟩
          · rw [decide_eq_false hbf, Bool.not_false, if_pos rfl] at hR
            rw [decide_eq_false hbf] at c2
            have X := And.intro (And.intro noX (And.intro qx (And.intro hx21 (And.intro hx22 (And.intro hx23 (And.intro hx24 hx25)))))) (And.intro hna (And.intro hF0 (And.intro hFl (And.intro hfb (And.intro hSc hs8)))))
            (refine run ?_; repeat' (first | with_reducible exact trivial | ((with_reducible apply Fork.mk) <;> intro hb) | with_reducible apply Two.mk))
            refine xcallS (hah _ (hsu _)) ?_
            rintro v H' ⟨rfl, rfl⟩
            (refine run ?_; repeat' (first | with_reducible exact trivial | ((with_reducible apply Fork.mk) <;> intro hb) | with_reducible apply Two.mk))
            exact Fin.tellN (n0 := n0) hR (hlenQ _) hC' (hcls _) (.same _ (by simp only [resSV, SV.under]; exact ahV_under _ _ _ (hsu _))) ⟨rfl, hbe.symm⟩
end Go.Proofs.YtehfihnfeakmaaaGreatDoor
end

section
namespace Go.Proofs.YtehfihnfeakmaaaGreatDoor
open Go
set_option maxRecDepth 10000
set_option maxHeartbeats 4000000
theorem part_ok (G : Gl) (hG : GClosed G) (e : Ex) (hw : e.wt < 4294967296) (i : Nat) (hi : i < e.parts.length) (H : List Blk) : ACall Tryz.prog G 92 [e.sv, .int .i64 i] H (fun r H' => H' = H ∧ r = e.parts[i].sv) := by
  obtain ⟨kd, nm, nn, op, names, subs, binds, alts⟩ := e
  have hle := Ex.wt_lens kd nm nn op names subs binds alts
  have hpm := Ex.parts_mk kd nm nn op names subs binds alts
  have hpl : (Ex.mk kd nm nn op names subs binds alts).parts.length = subs.length + (binds.length + alts.length) := by rw [hpm]; simp
  have hg : (Ex.mk kd nm nn op names subs binds alts).parts[i]? = some (Ex.mk kd nm nn op names subs binds alts).parts[i] := List.getElem?_eq_getElem hi
  rw [hpl] at hi
  generalize (Ex.mk kd nm nn op names subs binds alts).parts[i] = x at *
  rw [hpm] at hg
  clear hpm hpl
  rcases Nat.lt_or_ge i subs.length with h1 | h1
  · rw [List.getElem?_append_left h1, List.getElem?_eq_getElem h1] at hg
    obtain rfl := Option.some.inj hg
    refine ACall.of_go TB [] tabOK _ Tryz.func92 rfl (by decide) Tryz.ntmps92 (by simp) rfl (by simp only [initEnv, Nat.reduceAdd]; rfl) fun C R' hR hC hcl hB => ?_; have X := noX; have hC' := congrArg List.length hC
    (refine run ?_; repeat' (first | with_reducible exact trivial | ((with_reducible apply Fork.mk) <;> intro hb) | with_reducible apply Two.mk))
    exact finS (n0 := H.length) hR hC' hcl (.same _ (by simp only [resSV]; exact undS)) ⟨rfl, rfl⟩
  rw [List.getElem?_append_right h1] at hg
  rcases Nat.lt_or_ge i (subs.length + binds.length) with h2 | h2
  · obtain ⟨j, rfl⟩ : ∃ j, i = subs.length + j := ⟨i - subs.length, by omega⟩
    have h3 : j < binds.length := by omega
    rw [Nat.add_sub_cancel_left, List.getElem?_append_left (by simpa using h3), List.getElem?_map, List.getElem?_eq_getElem h3] at hg
    obtain rfl := Option.some.inj hg
    have hj : ((subs.length + j : Nat) : Int) - (subs.length : Int) = (j : Int) := by omega
    refine ACall.of_go TB [] tabOK _ Tryz.func92 rfl (by decide) Tryz.ntmps92 (by simp) rfl (by simp only [initEnv, Nat.reduceAdd]; rfl) fun C R' hR hC hcl hB => ?_; have X := noX; have hC' := congrArg List.length hC
    have X := And.intro X hj
    (refine run ?_; repeat' (first | with_reducible exact trivial | ((with_reducible apply Fork.mk) <;> intro hb) | with_reducible apply Two.mk))
    all_goals first | exact finS (n0 := H.length) hR hC' hcl (.same _ (by simp only [resSV]; exact undS)) ⟨rfl, rfl⟩ | (exfalso; omega)
  · obtain ⟨j, rfl⟩ : ∃ j, i = subs.length + (binds.length + j) := ⟨i - subs.length - binds.length, by omega⟩
    have h3 : j < alts.length := by omega
    rw [Nat.add_sub_cancel_left, List.getElem?_append_right (by simp), List.length_map, Nat.add_sub_cancel_left, List.getElem?_map, List.getElem?_eq_getElem h3] at hg
    obtain rfl := Option.some.inj hg
    have hj : ((subs.length + (binds.length + j) : Nat) : Int) - (subs.length : Int) = ((binds.length + j : Nat) : Int) := by omega
    have hj2 : ((binds.length + j : Nat) : Int) - (binds.length : Int) = (j : Int) := by omega
    refine ACall.of_go TB [] tabOK _ Tryz.func92 rfl (by decide) Tryz.ntmps92 (by simp) rfl (by simp only [initEnv, Nat.reduceAdd]; rfl) fun C R' hR hC hcl hB => ?_; have X := noX; have hC' := congrArg List.length hC
    have X := And.intro X (And.intro hj hj2)
    (refine run ?_; repeat' (first | with_reducible exact trivial | ((with_reducible apply Fork.mk) <;> intro hb) | with_reducible apply Two.mk))
    all_goals first | exact finS (n0 := H.length) hR hC' hcl (.same _ (by simp only [resSV]; exact undS)) ⟨rfl, rfl⟩ | (exfalso; omega)
end Go.Proofs.YtehfihnfeakmaaaGreatDoor
end

section
namespace Go.Proofs.YtehfihnfeakmaaaGreatDoor
open Go
set_option maxRecDepth 10000
set_option maxHeartbeats 4000000
def BdC (G : Gl) (m : Nat) : Prop := ∀ (e : Ex) (H : List Blk) (at_ : Nat), e.wt ≤ m → e.wt < 4294967296 → ACall Tryz.prog G 37 [e.sv, .int .i64 (at_ : Int)] H (fun r H' => ∃ (n : Nat) (b : Bool), (H' = H ∧ r = .tuple [.int .i64 n, .bool b]) ∧ n ≤ e.wt)
theorem bounded_ok (G : Gl) (hG : GClosed G) : ∀ m, BdC G m
  | 0, e, H, at_, h, _ => absurd e.wt_pos (by omega)
  | m + 1, e, H, at_, hm, hw0 => by
    have hrec := bounded_ok G hG m
    have hep := e.wt_pos
    by_cases hat : (300 : Int) < (at_ : Int)
    · refine ACall.of_go TB [] tabOK _ Tryz.func37 rfl (by decide) Tryz.ntmps37 (by simp) rfl (by simp only [initEnv, Nat.reduceAdd]; rfl) fun C R' hR hC hcl hB => ?_; have X := noX; have hC' := congrArg List.length hC
      (refine runC ?_; repeat' (first | with_reducible exact trivial | ((with_reducible apply Fork.mk) <;> intro hb) | with_reducible apply Two.mk))
      refine go_condDT rfl hat ?_
      (refine run ?_; repeat' (first | with_reducible exact trivial | ((with_reducible apply Fork.mk) <;> intro hb) | with_reducible apply Two.mk))
      exact finS (n0 := H.length) hR hC' hcl (.same _ rfl) ⟨1, false, ⟨rfl, rfl⟩, by omega⟩
    have hpt := fun i (h : i < e.parts.length) => Ex.wt_parts (List.getElem_mem h)
    have hpo := fun H i (h : i < e.parts.length) => part_ok G hG e hw0 i h H
    have hpw := parts_wt e
    have hsum : ∀ i (h : i < e.parts.length), ((e.parts.take (i + 1)).map Ex.wt).sum = ((e.parts.take i).map Ex.wt).sum + e.parts[i].wt := fun i h => by rw [List.take_succ_eq_append_getElem h, List.map_append, List.sum_append, List.map_singleton, List.sum_singleton]
    have hsml : ∀ i, ((e.parts.take i).map Ex.wt).sum ≤ (e.parts.map Ex.wt).sum := fun i => by rw [List.map_take]; exact sum_take_le i
    have hat2 : (at_ : Int) + 1 = ((at_ + 1 : Nat) : Int) := by omega
    obtain ⟨kd, nm, nn, op, names, subs, binds, alts⟩ := e
    have hle := Ex.wt_lens kd nm nn op names subs binds alts
    have hpl : (Ex.mk kd nm nn op names subs binds alts).parts.length = subs.length + binds.length + alts.length := by rw [Ex.parts_mk]; simp; omega
    generalize hP : (Ex.mk kd nm nn op names subs binds alts).parts = P at *
    generalize hW : (Ex.mk kd nm nn op names subs binds alts).wt = W at *
    refine ACall.of_go TB [] tabOK _ Tryz.func37 rfl (by decide) Tryz.ntmps37 (by simp) rfl (by simp only [initEnv, Nat.reduceAdd]; rfl) fun C R' hR hC hcl hB => ?_; have X := noX; have hC' := congrArg List.length hC
    (refine runC ?_; repeat' (first | with_reducible exact trivial | ((with_reducible apply Fork.mk) <;> intro hb) | with_reducible apply Two.mk))
    refine go_condDF rfl hat ?_
    (refine run ?_; repeat' (first | with_reducible exact trivial | ((with_reducible apply Fork.mk) <;> intro hb) | with_reducible apply Two.mk))
    refine go_loop (fun a : Nat × Nat => [(1, .int .i64 (at_ : Int)), (2, .ptr H.length 0 0 0), (6, .int .i64 (a.2 : Int)), (7, .int .i64 (a.1 : Int))]) (fun _ => H ++ [.cells 0 8 [.agg [.int .i64 kd, .str nm, .int .i64 nn, .int .i64 op, .list 1 (names.map .str), .list 8 (exCells subs), .list 9 (bdCells binds), .list 12 (alCells alts)]]]) (fun a => P.length - a.1) (fun a => a.1 ≤ P.length ∧ a.2 ≤ 1 + ((P.take a.1).map Ex.wt).sum) (0, 1) ⟨Nat.zero_le _, by simp⟩ ?_ ?_
    · exact wkS (n0 := H.length) [(H.length, 0)] hG hB hC' hcl
    rintro K ⟨i, n⟩ ⟨hi, hn⟩ hK
    simp only at hi hn
    dsimp only
    have hs2 := hsml i
    rcases Nat.lt_or_ge i P.length with hlt | hge
    · have hp1 := hpt i hlt
      have c1 := fun H => hpo H i hlt
      have hs1 := hsum i hlt
      have hs3 := hsml (i + 1)
      have hgd : (i : Int) < (subs.length : Int) + (binds.length : Int) + (alts.length : Int) := by omega
      have hcall := fun H => hrec P[i] H (at_ + 1) (by omega) (by omega)
      generalize P[i] = x at *
      have X := And.intro noX (And.intro hat2 hgd)
      (refine run ?_; repeat' (first | with_reducible exact trivial | ((with_reducible apply Fork.mk) <;> intro hb) | with_reducible apply Two.mk))
      refine callS (hcall _) ?_
      rintro r H' ⟨n2, b2, ⟨rfl, rfl⟩, hn2⟩
      have hnn : (n : Int) + (n2 : Int) = ((n + n2 : Nat) : Int) := by omega
      have X := And.intro noX hnn
      (refine run ?_; repeat' (first | with_reducible exact trivial | ((with_reducible apply Fork.mk) <;> intro hb) | with_reducible apply Two.mk))
      · exact finS (n0 := H.length) hR hC' hcl (.same _ rfl) ⟨n + n2, false, ⟨rfl, rfl⟩, by omega⟩
      · refine hK _ _ (i + 1, n + n2) (by simp only; omega) ⟨by simp only; omega, by simp only; omega⟩ ?_
        dsimp only
        exact wkS (n0 := H.length) [(H.length, 0)] hG hB hC' hcl
    · have hgd : ¬ (i : Int) < (subs.length : Int) + (binds.length : Int) + (alts.length : Int) := by omega
      have X := And.intro noX hgd
      clear hK
      (refine run ?_; repeat' (first | with_reducible exact trivial | ((with_reducible apply Fork.mk) <;> intro hb) | with_reducible apply Two.mk))
      exact finS (n0 := H.length) hR hC' hcl (.same _ rfl) ⟨n, true, ⟨rfl, rfl⟩, by omega⟩
end Go.Proofs.YtehfihnfeakmaaaGreatDoor
end
