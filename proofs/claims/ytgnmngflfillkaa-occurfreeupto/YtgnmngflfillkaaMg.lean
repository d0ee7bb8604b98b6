/- A part of the proof: Shelf, W5, W6, W7, W8, W9. -/
import Derived.Test.YtgnmngflfillkaaMf
import Derived.Shelf.Sort.Plain
import Derived.Shelf.Slices.In.SortNone
import Derived.Test.YtgnmngflfillkaaProg

section
/-
  DERIVED: THE SHELF's CONTRACTS AT THIS DUMP, IN PLAIN WORDS (tools/lay-plain.mjs out of 'YtgnmngflfillkaaShelf.lean', which tools/lay-shelf.mjs wrote): THE SAME DECLARATIONS UNDER THE SAME NAMES: 'import', 'namespace', 'open', 'def', 'theorem' AND NOTHING ELSE: no command of the shelf's: FOR A HAND-IN. Each laying: the table of numbers ('.._ren') and one theorem, a field a fact of the dump's own or the kernel's comparison; each contract: ONE APPLICATION.
-/
namespace Go.Proofs
open Go.Shelf
def Try.lays189_ren : Go.Shelf.Ren := ⟨fun | 189 => 26 | 125 => 43 | 257 => 42 | 128 => 63 | 129 => 64 | 294 => 54 | 295 => 55 | 296 => 56 | 297 => 57 | 298 => 58 | 299 => 59 | 216 => 60 | 300 => 61 | 301 => 62 | 328 => 67 | 329 => 68 | 330 => 69 | 331 => 70 | 332 => 71 | 215 => 72 | 343 => 82 | n => n, fun | 28 => 41 | 3 => 3 | 46 => 78 | 0 => 0 | 51 => 95 | 53 => 97 | 4 => 4 | 183 => 88 | 182 => 87 | 131 => 30 | 5 => 5 | 9 => 9 | 218 => 100 | 222 => 104 | 228 => 113 | 229 => 114 | n => n, fun | n => n⟩
theorem Try.lays189 : Go.Proofs.Lays.n189 Try.prog Try.lays189_ren := {
  mixed := by kernel_rfl
  f125 := Try.func43.trans (congrArg some (by kernel_rfl))
  f128 := Try.func63.trans (congrArg some (by kernel_rfl))
  f129 := Try.func64.trans (congrArg some (by kernel_rfl))
  f189 := Try.func26.trans (congrArg some (by kernel_rfl))
  f215 := Try.func72.trans (congrArg some (by kernel_rfl))
  f216 := Try.func60.trans (congrArg some (by kernel_rfl))
  f257 := Try.func42.trans (congrArg some (by kernel_rfl))
  f294 := Try.func54.trans (congrArg some (by kernel_rfl))
  f295 := Try.func55.trans (congrArg some (by kernel_rfl))
  f296 := Try.func56.trans (congrArg some (by kernel_rfl))
  f297 := Try.func57.trans (congrArg some (by kernel_rfl))
  f298 := Try.func58.trans (congrArg some (by kernel_rfl))
  f299 := Try.func59.trans (congrArg some (by kernel_rfl))
  f300 := Try.func61.trans (congrArg some (by kernel_rfl))
  f301 := Try.func62.trans (congrArg some (by kernel_rfl))
  f328 := Try.func67.trans (congrArg some (by kernel_rfl))
  f329 := Try.func68.trans (congrArg some (by kernel_rfl))
  f330 := Try.func69.trans (congrArg some (by kernel_rfl))
  f331 := Try.func70.trans (congrArg some (by kernel_rfl))
  f332 := Try.func71.trans (congrArg some (by kernel_rfl))
  f343 := Try.func82.trans (congrArg some (by kernel_rfl))
  t0 := Try.underlying0
  a0 := Try.isAgg0
  z0 := Try.sizeOf0
  v0 := Try.zeroValue0
  t3 := Try.underlying3
  a3 := Try.isAgg3
  z3 := Try.sizeOf3
  v3 := Try.zeroValue3
  t4 := Try.underlying4
  a4 := Try.isAgg4
  z4 := Try.sizeOf4
  v4 := Try.zeroValue4
  t5 := Try.underlying5
  a5 := Try.isAgg5
  z5 := Try.sizeOf5
  v5 := Try.zeroValue5
  t9 := Try.underlying9
  a9 := Try.isAgg9
  z9 := Try.sizeOf9
  v9 := Try.zeroValue9
  t28 := Try.underlying41
  a28 := Try.isAgg41
  z28 := Try.sizeOf41
  v28 := Try.zeroValue41
  t46 := Try.underlying78
  a46 := Try.isAgg78
  z46 := Try.sizeOf78
  v46 := Try.zeroValue78
  t51 := Try.underlying95
  a51 := Try.isAgg95
  z51 := Try.sizeOf95
  v51 := Try.zeroValue95
  t53 := Try.underlying97
  a53 := Try.isAgg97
  z53 := Try.sizeOf97
  v53 := Try.zeroValue97
  t131 := Try.underlying30
  a131 := Try.isAgg30
  z131 := Try.sizeOf30
  v131 := Try.zeroValue30
  t182 := Try.underlying87
  a182 := Try.isAgg87
  z182 := Try.sizeOf87
  v182 := Try.zeroValue87
  t183 := Try.underlying88
  a183 := Try.isAgg88
  z183 := Try.sizeOf88
  v183 := Try.zeroValue88
  t218 := Try.underlying100
  a218 := Try.isAgg100
  z218 := Try.sizeOf100
  v218 := Try.zeroValue100
  t222 := Try.underlying104
  a222 := Try.isAgg104
  z222 := Try.sizeOf104
  v222 := Try.zeroValue104
  t228 := Try.underlying113
  a228 := Try.isAgg113
  z228 := Try.sizeOf113
  v228 := Try.zeroValue113
  t229 := Try.underlying114
  a229 := Try.isAgg114
  z229 := Try.sizeOf114
  v229 := Try.zeroValue114 }
open Go.Sort Go.RowKit in
theorem Try.slices_Sort_int (blk off cap : Nat) (zs : List Int) (w : World) (hH : Holds (Value.int .i64) w blk off zs.toArray) (hblk : blk < w.heap.size) (hsz : zs.length < 4611686018427387904) :
    Calls Try.prog 26 #[.slice (some ⟨blk, off, none⟩) zs.length cap] w fun e w' =>
      e = .returned (.tuple #[]) ∧ ∃ n os, w' = grow (putRow (Value.int .i64) (Sort.ahead w n) blk off (zs.mergeSort fun x y => decide (x ≤ y)).toArray) os := Any.slices_Sort_int Try.lays189 blk off cap zs w hH hblk hsz
def Try.lays190_ren : Go.Shelf.Ren := ⟨fun | 190 => 47 | 125 => 43 | 258 => 66 | 128 => 63 | 129 => 64 | 302 => 73 | 303 => 74 | 304 => 75 | 305 => 76 | 306 => 77 | 307 => 78 | 308 => 79 | 309 => 80 | 310 => 81 | 333 => 83 | 329 => 68 | 330 => 69 | 334 => 84 | 335 => 85 | 336 => 86 | 344 => 87 | n => n, fun | 31 => 22 | 9 => 9 | 3 => 3 | 46 => 78 | 0 => 0 | 51 => 95 | 53 => 97 | 4 => 4 | 183 => 88 | 182 => 87 | 131 => 30 | 5 => 5 | 218 => 100 | 222 => 104 | 228 => 113 | 229 => 114 | n => n, fun | n => n⟩
theorem Try.lays190 : Go.Proofs.Lays.n190 Try.prog Try.lays190_ren := {
  mixed := by kernel_rfl
  f125 := Try.func43.trans (congrArg some (by kernel_rfl))
  f128 := Try.func63.trans (congrArg some (by kernel_rfl))
  f129 := Try.func64.trans (congrArg some (by kernel_rfl))
  f190 := Try.func47.trans (congrArg some (by kernel_rfl))
  f258 := Try.func66.trans (congrArg some (by kernel_rfl))
  f302 := Try.func73.trans (congrArg some (by kernel_rfl))
  f303 := Try.func74.trans (congrArg some (by kernel_rfl))
  f304 := Try.func75.trans (congrArg some (by kernel_rfl))
  f305 := Try.func76.trans (congrArg some (by kernel_rfl))
  f306 := Try.func77.trans (congrArg some (by kernel_rfl))
  f307 := Try.func78.trans (congrArg some (by kernel_rfl))
  f308 := Try.func79.trans (congrArg some (by kernel_rfl))
  f309 := Try.func80.trans (congrArg some (by kernel_rfl))
  f310 := Try.func81.trans (congrArg some (by kernel_rfl))
  f329 := Try.func68.trans (congrArg some (by kernel_rfl))
  f330 := Try.func69.trans (congrArg some (by kernel_rfl))
  f333 := Try.func83.trans (congrArg some (by kernel_rfl))
  f334 := Try.func84.trans (congrArg some (by kernel_rfl))
  f335 := Try.func85.trans (congrArg some (by kernel_rfl))
  f336 := Try.func86.trans (congrArg some (by kernel_rfl))
  f344 := Try.func87.trans (congrArg some (by kernel_rfl))
  t0 := Try.underlying0
  a0 := Try.isAgg0
  z0 := Try.sizeOf0
  v0 := Try.zeroValue0
  t3 := Try.underlying3
  a3 := Try.isAgg3
  z3 := Try.sizeOf3
  v3 := Try.zeroValue3
  t4 := Try.underlying4
  a4 := Try.isAgg4
  z4 := Try.sizeOf4
  v4 := Try.zeroValue4
  t5 := Try.underlying5
  a5 := Try.isAgg5
  z5 := Try.sizeOf5
  v5 := Try.zeroValue5
  t9 := Try.underlying9
  a9 := Try.isAgg9
  z9 := Try.sizeOf9
  v9 := Try.zeroValue9
  t31 := Try.underlying22
  a31 := Try.isAgg22
  z31 := Try.sizeOf22
  v31 := Try.zeroValue22
  t46 := Try.underlying78
  a46 := Try.isAgg78
  z46 := Try.sizeOf78
  v46 := Try.zeroValue78
  t51 := Try.underlying95
  a51 := Try.isAgg95
  z51 := Try.sizeOf95
  v51 := Try.zeroValue95
  t53 := Try.underlying97
  a53 := Try.isAgg97
  z53 := Try.sizeOf97
  v53 := Try.zeroValue97
  t131 := Try.underlying30
  a131 := Try.isAgg30
  z131 := Try.sizeOf30
  v131 := Try.zeroValue30
  t182 := Try.underlying87
  a182 := Try.isAgg87
  z182 := Try.sizeOf87
  v182 := Try.zeroValue87
  t183 := Try.underlying88
  a183 := Try.isAgg88
  z183 := Try.sizeOf88
  v183 := Try.zeroValue88
  t218 := Try.underlying100
  a218 := Try.isAgg100
  z218 := Try.sizeOf100
  v218 := Try.zeroValue100
  t222 := Try.underlying104
  a222 := Try.isAgg104
  z222 := Try.sizeOf104
  v222 := Try.zeroValue104
  t228 := Try.underlying113
  a228 := Try.isAgg113
  z228 := Try.sizeOf113
  v228 := Try.zeroValue113
  t229 := Try.underlying114
  a229 := Try.isAgg114
  z229 := Try.sizeOf114
  v229 := Try.zeroValue114 }
open Go.Sort Go.RowKit in
theorem Try.slices_Sort_string (blk off cap : Nat) (ss : List (List UInt8)) (w : World) (hH : Holds encStr w blk off ss.toArray) (hblk : blk < w.heap.size) (hsz : ss.length < 4611686018427387904) :
    Calls Try.prog 47 #[.slice (some ⟨blk, off, none⟩) ss.length cap] w fun e w' =>
      e = .returned (.tuple #[]) ∧ ∃ n os, w' = grow (putRow encStr (Sort.ahead w n) blk off (ss.mergeSort fun x y => decide (x ≤ y)).toArray) os := Any.slices_Sort_string Try.lays190 blk off cap ss w hH hblk hsz
open Go.RowKit Go.Sort in
/-- .. and plain. (LAID: no walk: one application.) -/
theorem Try.slices_Sort_string_none (p : Option Addr) (cap : Nat) (w : World) :
    Calls Try.prog 47 #[.slice p 0 cap] w fun e w' => e = .returned (.tuple #[]) ∧ w' = w := Any.slices_Sort_string_none Try.lays190 p cap w
open Go.RowKit Go.Sort in
/-- .. and plain. (LAID: no walk: one application.) -/
theorem Try.slices_Sort_int_none (p : Option Addr) (cap : Nat) (w : World) :
    Calls Try.prog 26 #[.slice p 0 cap] w fun e w' => e = .returned (.tuple #[]) ∧ w' = w := Any.slices_Sort_int_none Try.lays189 p cap w
end Go.Proofs
end

section
namespace Go.Proofs.Ytgnmngflfillkaa
open Go
set_option linter.unusedSimpArgs false
set_option linter.unusedVariables false
set_option maxRecDepth 10000
set_option maxHeartbeats 4000000

theorem closed_swap {H L L' : List Blk} (h : closed (H ++ L)) (hl : L'.length = L.length) (hu : ∀ b ∈ L', b.under (H.length + L.length) = true) : closed (H ++ L') := by
  intro B hB
  rw [List.length_append, hl]
  rcases List.mem_append.1 hB with h1 | h1
  · have := h B (List.mem_append_left _ h1)
    rwa [List.length_append] at this
  · exact hu B h1

theorem appendSeq_ok (G : Gl) (hG : GClosed G) (pb bm clk : Nat) (born : List Nat) (l : List Str) (vs : List SV) (hlb : born.length = l.length) (hlv : vs.length = l.length) (hnd : born.Nodup) (hll : l.length < 1099511627776) (H : List Blk)
    (hpb : H[pb]? = some (.cells 0 1 [.imap bm clk born none (l.map .str) vs])) (hvs : ∀ n, SV.underL n vs = true) :
    ACall Try.prog G 65 [.nil, .fn (.func 48) [] [.ptr pb 0 0 0]] H (fun r H' => ∃ s : List Str, s.Perm l ∧ H' = H ++ [.cells 0 1 (s.map .str)] ∧ r = .sl H.length 0 0 s.length) := by
  have hpl : pb < H.length := (List.getElem?_eq_some_iff.1 hpb).1
  refine ACall.of_go TB [] tabOK _ Try.func65 rfl (by decide) Try.ntmps65 (by simp) rfl (by simp only [initEnv, Nat.reduceAdd]; rfl) fun C R' hR hC hcl hB => ?_; have X := noX; have hC' := congrArg List.length hC
  refine go_ownNil 0 1 rfl ?_
  (refine run ?_; repeat' (first | with_reducible exact trivial | ((with_reducible apply Fork.mk) <;> intro hb) | with_reducible apply Two.mk))
  refine go_rangeFunc tabOK (σ := List Str) (ξ := Str) (fun s => H ++ [.cells s.length 1 (s.map .str), .cells 0 1 [.sl H.length s.length 0 s.length]]) (H.length + 2) (fun s => by simp) []
    [(2, .ptr (H.length + 1) 0 0 0), (6, .fn (.func 48) [] [.ptr pb 0 0 0])] (fun x => [.str x]) (fun s x => s.length < l.length) (fun s x => s ++ [x]) (fun s => s.Perm l)
    (fun x => [(7, .str x), (2, .ptr (H.length + 1) 0 0 0), (6, .fn (.func 48) [] [.ptr pb 0 0 0])]) rfl rfl (fun x => rfl) (fun x => rfl) ?_ ?_ ?_ ?_
  · exact Wk.sub (by simp [subEnv, look])
  · intro G' LO hGl hLO hy
    have := keys1_ok G' (by unfold GClosed; rw [hGl]; exact hG) (H.length + 2) pb (H.length + 3) bm clk born l vs hlb hlv hnd (fun s => (H ++ [.cells s.length 1 (s.map .str), .cells 0 1 [.sl H.length s.length 0 s.length]]) ++ [LO]) (fun s => by simp) (by omega) hll
      (fun s L => by simp only [List.append_assoc]; rw [List.getElem?_append_left hpl]; exact hpb) hvs (fun hc s => by
        simp only [List.append_assoc] at hc ⊢
        refine closed_swap hc (by simp) (fun b hb => ?_)
        simp only [List.cons_append, List.nil_append, List.mem_cons, List.not_mem_nil, or_false] at hb
        rcases hb with rfl | rfl | rfl
        · exact strs_under _ _
        · simp [Blk.under, SV.underL, SV.under]
        · simpa using hLO) (fun s x X hs => by
          have := hy s x X hs
          simpa only [List.append_assoc, List.cons_append, List.nil_append] using this)
    exact this.mono fun r H' ⟨s, h1, h2⟩ => ⟨s, h1, h2⟩
  · intro G' C' ρ' s x Y LO LB K1 K hGl hB' hCH hcl' hLO hLB hs hK1 hK
    have X := noX
    have hG' : GClosed G' := by unfold GClosed; rw [hGl]; exact hG
    simp only [List.append_assoc, List.cons_append, List.nil_append] at hcl' hCH ⊢
    (refine run ?_; repeat' (first | with_reducible exact trivial | ((with_reducible apply Fork.mk) <;> intro hb) | with_reducible apply Two.mk))
    refine hK1 _ _ (by simp [List.getElem?_append_right]) ?_
    simp only [set_app, List.set_cons_succ, List.set_cons_zero]
    (refine run ?_; repeat' (first | with_reducible exact trivial | ((with_reducible apply Fork.mk) <;> intro hb) | with_reducible apply Two.mk))
    refine hK _ _ ?_
    simp only [List.append_assoc, List.cons_append, List.nil_append, List.length_append, List.length_cons, List.length_nil, List.map_append, List.map_cons, List.map_nil, Nat.zero_add]
    exact Wk.sub trivial
  · intro s LO hs hLO
    simp only [List.append_assoc, List.cons_append, List.nil_append]
    (refine run ?_; repeat' (first | with_reducible exact trivial | ((with_reducible apply Fork.mk) <;> intro hb) | with_reducible apply Two.mk))
    refine finK [(H.length, 0)] (.sl H.length 0 0 s.length) [.cells 0 1 (s.map .str)] hR hC' hcl ⟨s, hs, rfl, rfl⟩

theorem collect_ok (G : Gl) (hG : GClosed G) (pb bm clk : Nat) (born : List Nat) (l : List Str) (vs : List SV) (hlb : born.length = l.length) (hlv : vs.length = l.length) (hnd : born.Nodup) (hll : l.length < 1099511627776) (H : List Blk)
    (hpb : H[pb]? = some (.cells 0 1 [.imap bm clk born none (l.map .str) vs])) (hvs : ∀ n, SV.underL n vs = true) :
    ACall Try.prog G 46 [.fn (.func 48) [] [.ptr pb 0 0 0]] H (fun r H' => ∃ s : List Str, s.Perm l ∧ H' = H ++ [.cells 0 1 (s.map .str)] ∧ r = .sl H.length 0 0 s.length) := by
  refine ACall.of_go TB [] tabOK _ Try.func46 rfl (by decide) Try.ntmps46 (by simp) rfl (by simp only [initEnv, Nat.reduceAdd]; rfl) fun C R' hR hC hcl hB => ?_; have X := noX; have hC' := congrArg List.length hC
  (refine run ?_; repeat' (first | with_reducible exact trivial | ((with_reducible apply Fork.mk) <;> intro hb) | with_reducible apply Two.mk))
  refine callS (appendSeq_ok G hG pb bm clk born l vs hlb hlv hnd hll H hpb hvs) ?_
  rintro r H' ⟨s, hs, rfl, rfl⟩
  (refine run ?_; repeat' (first | with_reducible exact trivial | ((with_reducible apply Fork.mk) <;> intro hb) | with_reducible apply Two.mk))
  exact finK [(H.length, 0)] (.sl H.length 0 0 s.length) [.cells 0 1 (s.map .str)] hR hC' hcl ⟨s, hs, rfl, rfl⟩

/-- strings, rising -/
def sortS (l : List Str) : List Str := l.mergeSort fun x y => decide (x ≤ y)
theorem sortS_perm (l : List Str) : (sortS l).Perm l := List.mergeSort_perm l _
theorem sortS_len (l : List Str) : (sortS l).length = l.length := (sortS_perm l).length_eq
theorem sortS_eq {s l : List Str} (h : s.Perm l) : sortS s = sortS l := Go.mergeSort_of_perm h
theorem sort_strs (G : Gl) (id g : Nat) (l : List Str) (H : List Blk) (hH : H[id]? = some (.cells g 1 (l.map .str))) (hl : l.length < 4611686018427387904) :
    ACall Try.prog G 47 [.sl id g 0 l.length] H (fun r H' => H' = H.set id (.cells g 1 ((sortS l).map .str)) ∧ r = .tuple []) :=
  ACall.of_sort encStr .str (fun s => s.length ≤ maxLen) (fun c x v => rep_str_iff c x v) (fun _ => rfl) (fun x y => decide (x ≤ y)) ⟨_, Try.func47, by decide, rfl⟩
    (fun blk off cap zs w h1 h2 h3 => Try.slices_Sort_string blk off cap zs w h1 h2 h3) (fun p cap w => Try.slices_Sort_string_none p cap w) id g l H hH hl
def sortI (l : List Int) : List Int := l.mergeSort fun x y => decide (x ≤ y)
theorem sort_ints (G : Gl) (id g : Nat) (l : List Int) (H : List Blk) (hH : H[id]? = some (.cells g 1 (l.map (.int .i64)))) (hl : l.length < 4611686018427387904) :
    ACall Try.prog G 26 [.sl id g 0 l.length] H (fun r H' => H' = H.set id (.cells g 1 ((sortI l).map (.int .i64))) ∧ r = .tuple []) :=
  ACall.of_sort (.int .i64) (.int .i64) _ (fun c x v => rep_int_iff .i64 c x v) (fun _ => rfl) (fun x y => decide (x ≤ y)) ⟨_, Try.func26, by decide, rfl⟩
    (fun blk off cap zs w h1 h2 h3 => Try.slices_Sort_int blk off cap zs w h1 h2 h3) (fun p cap w => Try.slices_Sort_int_none p cap w) id g l H hH hl

theorem sorted_ok (G : Gl) (hG : GClosed G) (pb bm clk : Nat) (born : List Nat) (l : List Str) (vs : List SV) (hlb : born.length = l.length) (hlv : vs.length = l.length) (hnd : born.Nodup) (hll : l.length < 1099511627776) (H : List Blk)
    (hpb : H[pb]? = some (.cells 0 1 [.imap bm clk born none (l.map .str) vs])) (hvs : ∀ n, SV.underL n vs = true) :
    ACall Try.prog G 28 [.fn (.func 48) [] [.ptr pb 0 0 0]] H (fun r H' => H' = H ++ [.cells 0 1 ((sortS l).map .str)] ∧ r = .sl H.length 0 0 l.length) := by
  refine ACall.of_go TB [] tabOK _ Try.func28 rfl (by decide) Try.ntmps28 (by simp) rfl (by simp only [initEnv, Nat.reduceAdd]; rfl) fun C R' hR hC hcl hB => ?_; have X := noX; have hC' := congrArg List.length hC
  (refine run ?_; repeat' (first | with_reducible exact trivial | ((with_reducible apply Fork.mk) <;> intro hb) | with_reducible apply Two.mk))
  refine callS (collect_ok G hG pb bm clk born l vs hlb hlv hnd hll H hpb hvs) ?_
  rintro r H' ⟨s, hs, rfl, rfl⟩
  (refine run ?_; repeat' (first | with_reducible exact trivial | ((with_reducible apply Fork.mk) <;> intro hb) | with_reducible apply Two.mk))
  have hsl := hs.length_eq
  refine callS (sort_strs G H.length 0 s _ (by simp) (by omega)) ?_
  rintro r H' ⟨rfl, rfl⟩
  rw [sortS_eq hs, hsl]
  simp only [set_app0, List.set_cons_zero]
  (refine run ?_; repeat' (first | with_reducible exact trivial | ((with_reducible apply Fork.mk) <;> intro hb) | with_reducible apply Two.mk))
  exact finK [(H.length, 0)] (.sl H.length 0 0 l.length) [.cells 0 1 ((sortS l).map .str)] hR hC' hcl ⟨rfl, rfl⟩

theorem keys_ok (G : Gl) (hG : GClosed G) (bm clk : Nat) (born : List Nat) (l : List Str) (vs : List SV) (hvs : ∀ n, SV.underL n vs = true) (H : List Blk) :
    ACall Try.prog G 29 [.imap bm clk born none (l.map .str) vs] H (fun r H' => H' = H ++ [.cells 0 1 [.imap bm clk born none (l.map .str) vs]] ∧ r = .fn (.func 48) [] [.ptr H.length 0 0 0]) := by
  refine ACall.of_go TB [] tabOK _ Try.func29 rfl (by decide) Try.ntmps29 (by simp) rfl (by simp only [initEnv, Nat.reduceAdd]; rfl) fun C R' hR hC hcl hB => ?_; have X := noX; have hC' := congrArg List.length hC
  have hks : ∀ n, SV.underL n (l.map SV.str) = true := fun n => strs_under n l
  (refine run ?_; repeat' (first | with_reducible exact trivial | ((with_reducible apply Fork.mk) <;> intro hb) | with_reducible apply Two.mk))
  refine finK [(H.length, 0)] (.fn (.func 48) [] [.ptr H.length 0 0 0]) [.cells 0 1 [.imap bm clk born none (l.map .str) vs]] hR hC' hcl ⟨rfl, rfl⟩ (.c (by exact hbS) (Nat.le_refl _) (Nat.zero_le _) (FrzL.same ?_) .nil) (by simp) (.fn _ _ _ _ _ .nil (.cons _ _ _ _ (Frz.kp 0 rfl (by exact hbS) (Nat.le_refl _) rfl rfl) .nil))
  simp only [List.drop_zero, SV.underL, SV.under, hks, hvs, Bool.and_self]
end Go.Proofs.Ytgnmngflfillkaa
end

section
namespace Go.Proofs.Ytgnmngflfillkaa
open Go
set_option linter.unusedSimpArgs false
set_option linter.unusedVariables false
set_option maxRecDepth 10000
set_option maxHeartbeats 4000000

theorem scope_sum (e : Ex) : ((scopeParts e).map fun p => p.1.wt).sum < e.wt := by
  obtain ⟨kd, nm, nn, op, names, subs, binds, alts⟩ := e
  have h1 : ∀ l : List Ex, (l.map fun x => x.wt).sum = exsWt l := fun l => by
    induction l with
    | nil => rfl
    | cons x r ih => simp only [List.map_cons, List.sum_cons, exsWt, ih]
  have h2 : ∀ l : List Bd, (l.map fun b => b.e.wt).sum ≤ bdsWt l := fun l => by
    induction l with
    | nil => exact Nat.le_refl _
    | cons x r ih => simp only [List.map_cons, List.sum_cons, bdsWt]; have := x.wt_gt; omega
  have h3 : ∀ l : List Al, (l.map fun b => b.body.wt).sum ≤ alsWt l := fun l => by
    induction l with
    | nil => exact Nat.le_refl _
    | cons x r ih => simp only [List.map_cons, List.sum_cons, alsWt]; have := x.wt_gt; omega
  have := h1 subs; have := h2 binds; have := h3 alts
  simp only [scopeParts, List.map_append, List.map_map, Function.comp_def, List.sum_append, Ex.wt]
  omega
theorem putO_len (l : List Str) (s : Str) : (putO l s).length ≤ l.length + 1 := by
  unfold putO
  split <;> simp
theorem unb_len : ∀ (m : Nat) (e : Ex) (st : BO), (unbF m e st).2.length ≤ st.2.length + e.wt
  | 0, e, st => by simp [unbF]
  | m + 1, e, st => by
    rw [unbF]
    have hp := e.wt_pos
    split
    · split
      · have := putO_len st.2 e.name; simp only; omega
      · omega
    · have hs := scope_sum e
      generalize scopeParts e = l at hs
      have key : ∀ (l : List (Ex × List Str)) (st : BO), (l.foldl (cstep (unbF m)) st).2.length ≤ st.2.length + (l.map fun p => p.1.wt).sum := fun l => by
        induction l with
        | nil => intro st; exact Nat.le_refl _
        | cons p l ih =>
          intro st
          rw [List.foldl_cons]
          have h1 := ih (cstep (unbF m) st p)
          have h2 := unb_len m p.1 (incB st.1 p.2, st.2)
          simp only [List.map_cons, List.sum_cons]
          have e : (cstep (unbF m) st p).2.length = (unbF m p.1 (incB st.1 p.2, st.2)).2.length := rfl
          rw [e] at h1
          simp only at h2
          omega
      have := key l st
      omega
theorem putO_nodup {l : List Str} (h : l.Nodup) (s : Str) : (putO l s).Nodup := by
  unfold putO
  split
  · exact h
  · rename_i hs
    exact List.nodup_append.2 ⟨h, by simp, by simp; exact fun a ha e => hs (e ▸ ha)⟩

/-- an expression's free names, rising -/
def freeS (e : Ex) : List Str := sortS (unbF e.wt e ([], [])).2

theorem free_ok (G : Gl) (hG : GClosed G) (e : Ex) (H : List Blk) (hw : e.wt < 4294967296) : ACall Try.prog G 16 [e.sv] H (fun r H' => H' = H ++ [.cells 0 1 ((freeS e).map .str)] ∧ r = .sl H.length 0 0 (freeS e).length) := by
  refine ACall.of_go TB [] tabOK _ Try.func16 rfl (by decide) Try.ntmps16 (by simp) rfl (by simp only [initEnv, Nat.reduceAdd]; rfl) fun C R' hR hC hcl hB => ?_; have X := noX; have hC' := congrArg List.length hC
  have hcall := unbound_ok G hG e.wt e (Nat.le_refl _) hw (H ++ [.cells 0 8 [e.sv], .map none [], .map none []]) (H.length + 2) (H.length + 1) ([], []) (by simp [esB]) (by simp [esO]) (by omega) (fun s => by simp only [cntB]; omega)
  have hlen := unb_len e.wt e ([], [])
  have hfl : (freeS e).length = (unbF e.wt e ([], [])).2.length := sortS_len _
  generalize hst : unbF e.wt e ([], []) = st at hcall hlen hfl
  (refine run ?_; repeat' (first | with_reducible exact trivial | ((with_reducible apply Fork.mk) <;> intro hb) | with_reducible apply Two.mk))
  refine callS hcall ?_
  rintro r H' rfl
  simp only [UH, set_app, List.set_cons_succ, List.set_cons_zero]
  refine go_nil ?_
  refine go_pin (t := 3) (io := H.length + 1) (kd := none) (es := esO st.2) (by exact hbS) (by omega) hB rfl (fun bm clk born hb hnd => ?_)
  have e1 : (esO st.2).map Prod.fst = st.2.map .str := by simp [esO]
  have e2 : (esO st.2).map Prod.snd = st.2.map fun _ => .bool true := by simp [esO]
  have e3 : (esO st.2).length = st.2.length := by simp [esO]
  rw [e1, e2]
  rw [e3] at hb
  simp only [set_app, List.set_cons_succ, List.set_cons_zero]
  (refine run ?_; repeat' (first | with_reducible exact trivial | ((with_reducible apply Fork.mk) <;> intro hb) | with_reducible apply Two.mk))
  refine callS (keys_ok G hG bm clk born st.2 _ (fun n => SV.underL_map fun _ _ => rfl) _) ?_
  rintro r H' ⟨rfl, rfl⟩
  simp only [List.append_assoc, List.cons_append, List.nil_append, List.length_append, List.length_cons, List.length_nil, List.length_set, X, Nat.reduceAdd]
  (refine run ?_; repeat' (first | with_reducible exact trivial | ((with_reducible apply Fork.mk) <;> intro hb) | with_reducible apply Two.mk))
  refine callS (sorted_ok G hG (H.length + 3) bm clk born st.2 (st.2.map fun _ => .bool true) hb (by simp) hnd (by simp only at hlen; simp at hlen; omega) _ (by rw [get_app]; rfl) (fun n => SV.underL_map fun _ _ => rfl)) ?_
  rintro r H' ⟨rfl, rfl⟩
  simp only [List.append_assoc, List.cons_append, List.nil_append, List.length_append, List.length_cons, List.length_nil, List.length_set, X, Nat.reduceAdd]
  (refine run ?_; repeat' (first | with_reducible exact trivial | ((with_reducible apply Fork.mk) <;> intro hb) | with_reducible apply Two.mk))
  have e4 : sortS st.2 = freeS e := by rw [freeS, hst]
  rw [e4, ← hfl]
  exact finK [(H.length + 4, 0)] (.sl H.length 0 0 (freeS e).length) [.cells 0 1 ((freeS e).map .str)] hR hC' hcl ⟨rfl, rfl⟩
end Go.Proofs.Ytgnmngflfillkaa
end

section
namespace Go.Proofs.Ytgnmngflfillkaa
open Go
set_option linter.unusedSimpArgs false
set_option linter.unusedVariables false
set_option maxRecDepth 10000
set_option maxHeartbeats 4000000

theorem index_ints (G : Gl) (id g : Nat) (l : List Int) (v : Int) (H : List Blk) (hid : H[id]? = some (.cells g 1 (l.map (.int .i64)))) (hl : l.length < 4611686018427387904) :
    ACall Try.prog G 41 [.sl id g 0 l.length, .int .i64 v] H (fun r H' => H' = H ∧ ((r = .int .i64 (-1) ∧ v ∉ l) ∨ (∃ i : Nat, r = .int .i64 i ∧ v ∈ l))) := by
  have hlt : id < H.length := (List.getElem?_eq_some_iff.1 hid).1
  refine ACall.of_go TB [] tabOK _ Try.func41 rfl (by decide) Try.ntmps41 (by simp) rfl (by simp only [initEnv, Nat.reduceAdd]; rfl) fun C R' hR hC hcl hB => ?_; have X := noX; have hC' := congrArg List.length hC
  have X := hid
  (refine run ?_; repeat' (first | with_reducible exact trivial | ((with_reducible apply Fork.mk) <;> intro hb) | with_reducible apply Two.mk))
  refine go_loop (fun i : Nat => [(0, .sl id g 0 l.length), (1, .int .i64 v), (4, .int .i64 0), (7, .int .i64 l.length), (8, .int .i64 i)]) (fun _ => H) (fun i => l.length - i) (fun i => i ≤ l.length ∧ v ∉ l.take i) 0 (by simp) (Wk.sub (by simp [subEnv, look])) ?_
  rintro K i ⟨hi, hn⟩ hK
  (refine run ?_; repeat' (first | with_reducible exact trivial | ((with_reducible apply Fork.mk) <;> intro hb) | with_reducible apply Two.mk))
  · exact Fin.out hR ⟨rfl, .inr ⟨i, rfl, by rw [hb]; exact List.getElem_mem _⟩⟩
  · have hi' : i < l.length := by omega
    refine hK _ _ (i + 1) (by omega) ⟨hi', by rw [List.take_succ_eq_append_getElem hi', List.mem_append]; simp only [hn, List.mem_singleton, false_or]; exact hb⟩ (Wk.sub (by simp [subEnv, look]))
  · have : l.take i = l := List.take_of_length_le (by omega)
    rw [this] at hn
    exact Fin.out hR ⟨rfl, .inl ⟨rfl, hn⟩⟩

theorem contains_ints (G : Gl) (id g : Nat) (l : List Int) (v : Int) (H : List Blk) (hid : H[id]? = some (.cells g 1 (l.map (.int .i64)))) (hl : l.length < 4611686018427387904) :
    ACall Try.prog G 25 [.sl id g 0 l.length, .int .i64 v] H (fun r H' => H' = H ∧ r = .bool (decide (v ∈ l))) := by
  refine ACall.of_go TB [] tabOK _ Try.func25 rfl (by decide) Try.ntmps25 (by simp) rfl (by simp only [initEnv, Nat.reduceAdd]; rfl) fun C R' hR hC hcl hB => ?_; have X := noX; have hC' := congrArg List.length hC
  (refine run ?_; repeat' (first | with_reducible exact trivial | ((with_reducible apply Fork.mk) <;> intro hb) | with_reducible apply Two.mk))
  refine callS (index_ints G id g l v H hid hl) ?_
  rintro r H' ⟨rfl, hr⟩
  rcases hr with ⟨rfl, h⟩ | ⟨i, rfl, h⟩
  · (refine run ?_; repeat' (first | with_reducible exact trivial | ((with_reducible apply Fork.mk) <;> intro hb) | with_reducible apply Two.mk))
    exact Fin.out hR ⟨rfl, by simp [h, resSV]⟩
  · (refine run ?_; repeat' (first | with_reducible exact trivial | ((with_reducible apply Fork.mk) <;> intro hb) | with_reducible apply Two.mk))
    exact Fin.out hR ⟨rfl, by simp only [resSV, h, decide_true, SV.bool.injEq, decide_eq_true_eq]; try omega⟩

/-! ### what is needed: the plain account -/
def atL : List Bd → Nat → List (Str × Int)
  | [], _ => []
  | b :: r, i => setB (atL r (i + 1)) b.name i
theorem findSV_isSome_esB : ∀ (l : List (Str × Int)) (s : Str), (findSV (esB l) (.str s)).isSome = decide (s ∈ l.map Prod.fst)
  | [], s => by simp [esB, findSV]
  | (k, n) :: r, s => by
    simp only [esB, List.map_cons, findSV, SV.keyEq, List.mem_cons]
    by_cases h : s = k
    · simp [h]
    · simp only [beq_eq_false_iff_ne.2 h, h, if_false, Bool.false_eq_true, false_or]
      exact findSV_isSome_esB r s
theorem has_set : ∀ (l : List (Str × Int)) (s : Str) (n : Int) (t : Str), t ∈ (setB l s n).map Prod.fst ↔ t = s ∨ t ∈ l.map Prod.fst
  | [], s, n, t => by simp [setB]
  | (k, m) :: r, s, n, t => by
    simp only [setB]
    by_cases h : s = k
    · subst h; simp
    · rw [if_neg h]
      simp only [List.map_cons, List.mem_cons, has_set r s n t]
      constructor
      · rintro (h | h | h)
        · exact .inr (.inl h)
        · exact .inl h
        · exact .inr (.inr h)
      · rintro (h | h | h)
        · exact .inr (.inl h)
        · exact .inl h
        · exact .inr (.inr h)
theorem at_has : ∀ (l : List Bd) (i : Nat) (s : Str), s ∈ (atL l i).map Prod.fst ↔ s ∈ l.map Bd.name
  | [], i, s => by simp [atL]
  | b :: r, i, s => by rw [atL, has_set, at_has r (i + 1) s, List.map_cons, List.mem_cons]
theorem at_cnt : ∀ (l : List Bd) (i : Nat) (s : Str), s ∈ l.map Bd.name → cntB (atL l i) s = idxFrom i (l.map Bd.name) s
  | [], i, s, h => by cases h
  | b :: r, i, s, h => by
    rw [atL, cnt_set, List.map_cons, idxFrom]
    by_cases hs : s = b.name
    · rw [if_pos hs, if_pos hs]
    · rw [if_neg hs, if_neg hs]
      exact at_cnt r (i + 1) s ((List.mem_cons.1 h).resolve_left hs)
theorem idx_get : ∀ (l : List Str) (i : Nat) (s : Str), s ∈ l → ∃ j : Nat, idxFrom i l s = ((i + j : Nat) : Int) ∧ l[j]? = some s
  | [], i, s, h => by cases h
  | x :: r, i, s, h => by
    rw [idxFrom]
    by_cases hs : s = x
    · rw [if_pos hs]; exact ⟨0, rfl, by rw [hs]; rfl⟩
    · rw [if_neg hs]
      obtain ⟨j, h1, h2⟩ := idx_get r (i + 1) s ((List.mem_cons.1 h).resolve_left hs)
      exact ⟨j + 1, by rw [h1]; congr 1; omega, h2⟩
/-- the names that a bind's expression has free -/
def freeAt (binds : List Bd) (i : Nat) : List Str := match binds[i]? with
  | some b => freeS b.e
  | none => []
def liveF (binds : List Bd) : Nat → List Str → List Int → List Int
  | 0, _, out => out
  | _ + 1, [], out => out
  | f + 1, s :: rest, out =>
    if s ∈ binds.map Bd.name ∧ idxFrom 0 (binds.map Bd.name) s ∉ out then liveF binds f (rest ++ freeAt binds (idxFrom 0 (binds.map Bd.name) s).toNat) (out ++ [idxFrom 0 (binds.map Bd.name) s])
    else liveF binds f rest out
/-- what is still to come of the binds that were not met -/
def pend (binds : List Bd) (out : List Int) : Nat := (((List.range binds.length).filter fun (i : Nat) => decide ((i : Int) ∉ out)).map fun i => (freeAt binds i).length).sum
def liveS (body : Ex) (binds : List Bd) : List Int := sortI (liveF binds ((freeS body).length + pend binds []) (freeS body) [])
theorem sum_filter_out {n : Nat} (f : Nat → Nat) (p : Nat → Bool) {i : Nat} (hi : i < n) (hp : p i = true) :
    (((List.range n).filter fun j => p j && decide (j ≠ i)).map f).sum + f i = (((List.range n).filter p).map f).sum := by
  induction n with
  | zero => omega
  | succ n ih =>
    rw [List.range_succ, List.filter_append, List.filter_append, List.map_append, List.map_append, List.sum_append, List.sum_append]
    by_cases h : i = n
    · subst h
      have e : (List.range i).filter (fun j => p j && decide (j ≠ i)) = (List.range i).filter p := List.filter_congr fun j hj => by
        have := List.mem_range.1 hj
        simp [show j ≠ i by omega]
      rw [e]
      simp [hp]
    · have := ih (by omega)
      have hn : decide (n ≠ i) = true := decide_eq_true (fun e => h e.symm)
      have e : ([n].filter fun j => p j && decide (j ≠ i)) = [n].filter p := by simp only [List.filter_cons, hn, Bool.and_true, List.filter_nil]
      rw [e]
      omega
theorem pend_out (binds : List Bd) (out : List Int) {i : Nat} (hi : i < binds.length) (ho : (i : Int) ∉ out) : pend binds (out ++ [(i : Int)]) + (freeAt binds i).length = pend binds out := by
  have h := sum_filter_out (fun i => (freeAt binds i).length) (fun j : Nat => decide ((j : Int) ∉ out)) hi (by simpa using ho)
  unfold pend
  rw [← h]
  congr 4
  funext j
  have e : ((j : Int) ∉ out ++ [(i : Int)]) ↔ ((j : Int) ∉ out ∧ j ≠ i) := by
    simp only [List.mem_append, List.mem_singleton, not_or]
    constructor
    · rintro ⟨a, b⟩; exact ⟨a, fun e => b (by rw [e])⟩
    · rintro ⟨a, b⟩; exact ⟨a, fun e => b (by omega)⟩
  simp only [e, Bool.decide_and]
theorem unb_zero_len (e : Ex) : (freeS e).length ≤ e.wt := by
  rw [freeS, sortS_len]
  have := unb_len e.wt e ([], [])
  simpa using this
theorem freeAt_get {binds : List Bd} {i : Nat} (h : i < binds.length) : freeAt binds i = freeS binds[i].e := by
  unfold freeAt; rw [List.getElem?_eq_getElem h]
theorem pend_le (binds : List Bd) (out : List Int) : pend binds out ≤ bdsWt binds := by
  have h1 : pend binds out ≤ ((List.range binds.length).map fun i => (freeAt binds i).length).sum := by
    unfold pend
    generalize List.range binds.length = l
    induction l with
    | nil => exact Nat.le_refl _
    | cons x r ih =>
      rw [List.filter_cons]
      split
      · simp only [List.map_cons, List.sum_cons]; omega
      · simp only [List.map_cons, List.sum_cons]; omega
  have h2 : ∀ l : List Bd, ((List.range l.length).map fun i => (freeAt l i).length).sum ≤ bdsWt l := fun l => by
    induction l with
    | nil => exact Nat.le_refl _
    | cons b r ih =>
      rw [List.length_cons, List.range_succ_eq_map, List.map_cons, List.sum_cons, List.map_map]
      have e : ((fun i => (freeAt (b :: r) i).length) ∘ Nat.succ) = fun i => (freeAt r i).length := by funext i; rfl
      rw [e]
      have h3 : (freeAt (b :: r) 0).length ≤ b.e.wt := unb_zero_len b.e
      have h4 := b.wt_gt
      simp only [bdsWt]
      omega
  exact Nat.le_trans h1 (h2 binds)
attribute [go_sem] findSV_isSome_esB
end Go.Proofs.Ytgnmngflfillkaa
end

section
namespace Go.Proofs.Ytgnmngflfillkaa
open Go
set_option linter.unusedSimpArgs false
set_option linter.unusedVariables false
set_option maxRecDepth 10000
set_option maxHeartbeats 4000000

theorem live_ok (G : Gl) (hG : GClosed G) (body : Ex) (binds : List Bd) (H : List Blk) (hw : body.wt < 4294967296) (hwb : bdsWt binds < 4294967296) :
    ACall Try.prog G 14 [body.sv, .list 9 (bdCells binds)] H (fun r H' => H' = H ++ [.cells 0 1 ((liveS body binds).map (.int .i64))] ∧ r = .sl H.length 0 0 (liveS body binds).length) := by
  have hbl := bdsWt_len binds
  refine ACall.of_go TB [8] tabOK _ Try.func14 rfl (by decide) Try.ntmps14 (by simp) rfl (by simp only [initEnv, Nat.reduceAdd]; rfl) fun C R' hR hC hcl hB => ?_; have X := noX; have hC' := congrArg List.length hC
  (refine run ?_; repeat' (first | with_reducible exact trivial | ((with_reducible apply Fork.mk) <;> intro hb) | with_reducible apply Two.mk))
  refine callS (backward_ok G hG binds _) ?_
  rintro r H' ⟨rfl, rfl⟩
  (refine run ?_; repeat' (first | with_reducible exact trivial | ((with_reducible apply Fork.mk) <;> intro hb) | with_reducible apply Two.mk))
  refine go_rangeFunc tabOK (σ := Nat) (ξ := Nat × Bd) (fun i => H ++ [.cells 0 8 [body.sv], .map none (esB (atL (binds.drop i) i)), .cells 0 1 [.map (H.length + 1)]]) (H.length + 3) (fun s => by simp) binds.length
    [(2, .ptr H.length 0 0 0), (5, .ptr (H.length + 2) 0 0 0), (1, .list 9 (bdCells binds)), (14, .fn (.func 40) [] [.pto (.list 9 (bdCells binds))])] (fun x => [.int .i64 x.1, .agg (.str x.2.name :: x.2.e.cells)]) (fun s x => s = x.1 + 1 ∧ binds[x.1]? = some x.2) (fun s x => x.1) (fun s => s = 0)
    (fun x => [(16, .agg (.str x.2.name :: x.2.e.cells)), (15, .int .i64 x.1), (2, .ptr H.length 0 0 0), (5, .ptr (H.length + 2) 0 0 0), (1, .list 9 (bdCells binds)), (14, .fn (.func 40) [] [.pto (.list 9 (bdCells binds))])]) rfl rfl (fun x => rfl) (fun x => rfl) ?_ ?_ ?_ ?_
  · rw [List.drop_length]
    exact Wk.sub (by simp [subEnv, look])
  · intro G' LO hGl hLO hy
    have := backward1_ok G' binds (by omega) (H.length + 3) (fun i => (H ++ [.cells 0 8 [body.sv], .map none (esB (atL (binds.drop i) i)), .cells 0 1 [.map (H.length + 1)]]) ++ [LO]) (fun i hi Y => by
      have := hy (i + 1) (i, binds[i]) Y ⟨rfl, List.getElem?_eq_getElem hi⟩
      simpa only [List.append_assoc, List.cons_append, List.nil_append] using this)
    exact this.mono fun r H' h => ⟨0, rfl, h⟩
  · rintro G' C' ρ' s ⟨j, b⟩ Y LO LB K1 K hGl hB' hCH hcl' hLO hLB ⟨hs, hb⟩ hK1 hK
    subst hs
    have hj : j < binds.length := (List.getElem?_eq_some_iff.1 hb).1
    have hbe : binds[j] = b := (List.getElem?_eq_some_iff.1 hb).2
    have X := noX
    have hG' : GClosed G' := by unfold GClosed; rw [hGl]; exact hG
    simp only [List.append_assoc, List.cons_append, List.nil_append] at hcl' hCH ⊢
    (refine run ?_; repeat' (first | with_reducible exact trivial | ((with_reducible apply Fork.mk) <;> intro hb) | with_reducible apply Two.mk))
    refine hK1 _ _ (by rw [get_app]; rfl) ?_
    simp only [set_app, List.set_cons_succ, List.set_cons_zero]
    (refine run ?_; repeat' (first | with_reducible exact trivial | ((with_reducible apply Fork.mk) <;> intro hb) | with_reducible apply Two.mk))
    refine hK _ _ ?_
    have e : atL (binds.drop j) j = setB (atL (binds.drop (j + 1)) (j + 1)) b.name j := by rw [List.drop_eq_getElem_cons hj, hbe]; rfl
    simp only [List.append_assoc, List.cons_append, List.nil_append, e]
    rw [show ∀ (x1 x2 x3 x4 x5 : Blk), H ++ x1 :: x2 :: x3 :: x4 :: (Y ++ [x5]) = (H ++ x1 :: x2 :: x3 :: x4 :: Y) ++ [x5] from fun _ _ _ _ _ => by simp]
    have hcl2 : closed (H ++ .cells 0 8 [body.sv] :: .map none (esB (setB (atL (binds.drop (j + 1)) (j + 1)) b.name j)) :: .cells 0 1 [.map (H.length + 1)] :: LB :: Y) := by
      refine closed_swap hcl' (by simp) (fun q hq => ?_)
      simp only [List.mem_cons] at hq
      rcases hq with rfl | rfl | rfl | rfl | hq
      · simp only [Blk.under, SV.underL, Ex.sv_under, Bool.and_self]
      · exact esB_under _ _
      · simp only [Blk.under, SV.underL, SV.under, List.length_cons, Bool.and_true, decide_eq_true_eq]; omega
      · exact Blk.under_mono (Nat.zero_le _) hLB
      · have := hcl' q (by simp [hq])
        simpa using this
    exact Wk.tell hG' (fun C0 h0 => by have := hB' C0 h0; rw [hCH] at this; simpa using this) (by rw [hCH]; simp) hcl2 trivial
  · intro s LO hs hLO
    subst hs
    simp only [List.append_assoc, List.cons_append, List.nil_append, List.drop_zero]
    (refine run ?_; repeat' (first | with_reducible exact trivial | ((with_reducible apply Fork.mk) <;> intro hb) | with_reducible apply Two.mk))
    refine callS (free_ok G hG body _ hw) ?_
    rintro r H' ⟨rfl, rfl⟩
    simp only [List.append_assoc, List.cons_append, List.nil_append, List.length_append, List.length_cons, List.length_nil, List.length_set, X, Nat.reduceAdd]
    (refine run ?_; repeat' (first | with_reducible exact trivial | ((with_reducible apply Fork.mk) <;> intro hb) | with_reducible apply Two.mk))
    have hfl := unb_zero_len body
    have hpe := pend_le binds []
    generalize hμ : (freeS body).length + pend binds [] = μ0
    refine go_loop (fun a : List Str × List Int => [(5, .ptr (H.length + 1) 0 0 0), (1, .list 9 (bdCells binds)), (9, .sl (H.length + 3) 0 0 a.1.length), (8, .sl (H.length + 2) 0 0 a.2.length)])
      (fun a => H ++ [.map none (esB (atL binds 0)), .cells 0 1 [.map H.length], .cells 0 1 (a.2.map (.int .i64)), .cells 0 1 (a.1.map .str)])
      (fun a => a.1.length + pend binds a.2) (fun a => a.1.length + pend binds a.2 ≤ μ0 ∧ a.2.length ≤ binds.length ∧ (∀ i ∈ a.2, ∃ k : Nat, k < binds.length ∧ i = k) ∧ a.2.Nodup ∧ liveF binds (a.1.length + pend binds a.2) a.1 a.2 = liveF binds μ0 (freeS body) []) (freeS body, []) ⟨by simp only; omega, by simp, by simp, List.nodup_nil, by rw [hμ]⟩ ?_ ?_
    · simp only [List.length_nil, List.map_nil]
      exact wkS (n0 := H.length) [(H.length + 1, 0), (H.length + 2, 0), (H.length + 4, 0), (H.length + 5, 0)] hG hB hC' hcl
    · rintro K ⟨todo, out⟩ ⟨h1, h2, h3, h4, h5⟩ hK
      simp only at h1 h2 h3 h4 h5
      rcases todo with _ | ⟨s, rest⟩
      · simp only [List.length_nil, List.map_nil]
        (refine run ?_; repeat' (first | with_reducible exact trivial | ((with_reducible apply Fork.mk) <;> intro hb) | with_reducible apply Two.mk))
        refine callS (sort_ints G (H.length + 2) 0 out _ (by rw [get_app]; rfl) (by omega)) ?_
        rintro r H' ⟨rfl, rfl⟩
        simp only [set_app, List.set_cons_succ, List.set_cons_zero]
        (refine run ?_; repeat' (first | with_reducible exact trivial | ((with_reducible apply Fork.mk) <;> intro hb) | with_reducible apply Two.mk))
        have hls : liveS body binds = sortI out := by
          rw [liveS, hμ, ← h5]
          generalize ([] : List Str).length + pend binds out = f
          cases f <;> rfl
        have hlo : (sortI out).length = out.length := (List.mergeSort_perm out _).length_eq
        rw [← hls] at hlo ⊢
        rw [← hlo]
        exact finK [(H.length + 2, 0)] (.sl H.length 0 0 (liveS body binds).length) [.cells 0 1 ((liveS body binds).map (.int .i64))] hR hC' hcl ⟨rfl, rfl⟩
      · have hun : ∀ f, liveF binds (f + 1) (s :: rest) out = if s ∈ binds.map Bd.name ∧ idxFrom 0 (binds.map Bd.name) s ∉ out then liveF binds f (rest ++ freeAt binds (idxFrom 0 (binds.map Bd.name) s).toNat) (out ++ [idxFrom 0 (binds.map Bd.name) s]) else liveF binds f rest out := fun f => rfl
        rw [show (s :: rest).length + pend binds out = (rest.length + pend binds out) + 1 by simp only [List.length_cons]; omega, hun] at h5
        simp only [List.length_cons] at h1
        by_cases hs : s ∈ (atL binds 0).map Prod.fst
        · have hs2 := (at_has binds 0 s).1 hs
          have hcnt := at_cnt binds 0 s hs2
          obtain ⟨k, hk1, hk2⟩ := idx_get (binds.map Bd.name) 0 s hs2
          have hkl : k < binds.length := by have := (List.getElem?_eq_some_iff.1 hk2).1; simpa using this
          rw [Nat.zero_add] at hk1
          rw [hk1] at hcnt h5
          have X := And.intro noX hcnt
          simp only [List.length_cons, List.map_cons]
          (refine run ?_; repeat' (first | with_reducible exact trivial | ((with_reducible apply Fork.mk) <;> intro hb) | with_reducible apply Two.mk))
          · refine callS (contains_ints G (H.length + 2) 0 out k _ (by rw [get_app]; rfl) (by omega)) ?_
            rintro r H' ⟨rfl, rfl⟩
            (refine run ?_; repeat' (first | with_reducible exact trivial | ((with_reducible apply Fork.mk) <;> intro hb) | with_reducible apply Two.mk))
            · have hpo := pend_out binds out hkl hb
              have hfw := bdsWt_mem (List.getElem_mem hkl)
              have hfg := (binds[k]).wt_gt
              have hfl := unb_zero_len binds[k].e
              rw [freeAt_get hkl] at hpo
              rw [if_pos ⟨hs2, hb⟩, Int.toNat_natCast, freeAt_get hkl] at h5
              refine callS (free_ok G hG binds[k].e _ (by omega)) ?_
              rintro r H' ⟨rfl, rfl⟩
              simp only [List.append_assoc, List.cons_append, List.nil_append, List.length_append, List.length_cons, List.length_nil, List.length_set, X, Nat.reduceAdd]
              (refine run ?_; repeat' (first | with_reducible exact trivial | ((with_reducible apply Fork.mk) <;> intro hb) | with_reducible apply Two.mk))
              have hol : (out ++ [(k : Int)]).length ≤ binds.length := by
                have hnd : (out ++ [(k : Int)]).Nodup := List.nodup_append.2 ⟨h4, by simp, by simp; exact fun a ha e => hb (e ▸ ha)⟩
                have h6 : ∀ i ∈ (out ++ [(k : Int)]), ∃ q : Nat, q < binds.length ∧ i = q := fun i hi => by
                  rcases List.mem_append.1 hi with hi | hi
                  · exact h3 i hi
                  · exact ⟨k, hkl, List.mem_singleton.1 hi⟩
                have h7 : ((out ++ [(k : Int)]).map Int.toNat).Nodup := List.pairwise_map.2 (hnd.imp_of_mem fun {p q} hp hq hne e => hne (by
                  obtain ⟨a, _, rfl⟩ := h6 p hp
                  obtain ⟨b, _, rfl⟩ := h6 q hq
                  exact congrArg _ (by simpa using e)))
                have := met_le (n := binds.length) h7 (fun i hi => by
                  obtain ⟨p, hp, rfl⟩ := List.mem_map.1 hi
                  obtain ⟨a, ha, rfl⟩ := h6 p hp
                  simpa using ha)
                simpa using this
              refine hK _ _ (rest ++ freeS binds[k].e, out ++ [(k : Int)]) (by simp only [List.length_append, List.length_cons]; omega) ⟨by simp only [List.length_append]; omega, hol, fun i hi => ?_, List.nodup_append.2 ⟨h4, by simp, by simp; exact fun a ha e => hb (e ▸ ha)⟩, ?_⟩ ?_
              · rcases List.mem_append.1 hi with hi | hi
                · exact h3 i hi
                · exact ⟨k, hkl, List.mem_singleton.1 hi⟩
              · rw [← h5]
                congr 1
                simp only [List.length_append]; omega
              · simp only [List.length_append, List.map_append, List.map_cons, List.map_nil, List.length_cons, List.length_nil]
                exact wkS (n0 := H.length) [(H.length, 0), (H.length + 1, 0), (H.length + 2, 0), (H.length + 3, 0)] hG hB hC' hcl
            · rw [if_neg (fun h => hb h.2)] at h5
              refine hK _ _ (rest, out) (by simp only [List.length_cons]; omega) ⟨by simp only; omega, h2, h3, h4, h5⟩ ?_
              dsimp only
              exact wkS (n0 := H.length) [(H.length, 0), (H.length + 1, 0), (H.length + 2, 0), (H.length + 3, 1)] hG hB hC' hcl
          · exact absurd hs hb
        · have hs2 : s ∉ binds.map Bd.name := fun h => hs ((at_has binds 0 s).2 h)
          rw [if_neg (fun h => hs2 h.1)] at h5
          simp only [List.length_cons, List.map_cons]
          (refine run ?_; repeat' (first | with_reducible exact trivial | ((with_reducible apply Fork.mk) <;> intro hb) | with_reducible apply Two.mk))
          · exact absurd hb hs
          · refine hK _ _ (rest, out) (by simp only [List.length_cons]; omega) ⟨by simp only; omega, h2, h3, h4, h5⟩ ?_
            dsimp only
            exact wkS (n0 := H.length) [(H.length, 0), (H.length + 1, 0), (H.length + 2, 0), (H.length + 3, 1)] hG hB hC' hcl
end Go.Proofs.Ytgnmngflfillkaa
end

section
namespace Go.Proofs.Ytgnmngflfillkaa
open Go
set_option linter.unusedSimpArgs false
set_option linter.unusedVariables false
set_option maxRecDepth 10000
set_option maxHeartbeats 4000000

def vE (s : Str) : Ex := .mk 1 s 0 0 [] [] [] []
theorem freeS_v (s : Str) : freeS (vE s) = [s] := by
  have : (unbF (vE s).wt (vE s) ([], [])).2 = [s] := by
    have : (vE s).wt = s.length + 1 := by simp [vE, Ex.wt, strsWt, exsWt, bdsWt, alsWt]; omega
    rw [this, unbF, if_pos (by rfl), if_pos (by rfl)]
    rfl
  rw [freeS, this, sortS, List.mergeSort_singleton]
theorem freeS_l (n : Int) : freeS (.mk 2 [] n 0 [] [] [] []) = [] := by
  have : (unbF (Ex.mk 2 [] n 0 [] [] [] []).wt (.mk 2 [] n 0 [] [] [] []) ([], [])).2 = [] := by
    have : (Ex.mk 2 [] n 0 [] [] [] []).wt = 0 + 1 := by simp [Ex.wt, strsWt, exsWt, bdsWt, alsWt]
    rw [this, unbF, if_neg (by show ¬ (2 : Int) = 1; omega)]
    rfl
  rw [freeS, this, sortS, List.mergeSort_nil]
def awFx : Ex := .mk 4 [] 0 0 [] [vE [102], vE [120]] [] []
def awE : Ex := .mk 4 [] 0 0 [] [vE [102], vE [120], .mk 3 [] 0 0 [[121]] [awFx] [] []] [] []
def awB : List Bd := [.mk [97] (vE [98]), .mk [98] (.mk 2 [] 1 0 [] [] [] []), .mk [99] (vE [97])]
theorem awL : liveS (vE [97]) awB = [0, 1] := by
  have h0 : freeAt awB 0 = [[98]] := freeS_v _
  have h1 : freeAt awB 1 = [] := freeS_l _
  have h2 : freeAt awB 2 = [[97]] := freeS_v _
  have hp : pend awB [] = 2 := by
    unfold pend
    have : (List.range awB.length).filter (fun (i : Nat) => decide ((i : Int) ∉ ([] : List Int))) = [0, 1, 2] := by decide
    rw [this]
    simp [h0, h1, h2]
  rw [liveS, freeS_v, hp]
  have n : awB.map Bd.name = [[97], [98], [99]] := rfl
  have e : liveF awB 3 [[97]] [] = [0, 1] := by
    have i0 : idxFrom 0 [[97], [98], [99]] [97] = 0 := by decide
    have i1 : idxFrom 0 [[97], [98], [99]] [98] = 1 := by decide
    simp [liveF, n, i0, i1, h0, h1]
  simp only [List.length_cons, List.length_nil, Nat.zero_add, Nat.reduceAdd, e, sortI]
  exact List.mergeSort_of_pairwise (by decide)

theorem awake_ok (G : Gl) (hG : GClosed G) (H : List Blk) : ACall Try.prog G 8 [] H (fun r H' => H' = H ∧ r = .bool true) := by
  refine ACall.of_go TB [] tabOK _ Try.func8 rfl (by decide) Try.ntmps8 (by simp) rfl (by simp only [initEnv, Nat.reduceAdd]; rfl) fun C R' hR hC hcl hB => ?_; have X := noX; have hC' := congrArg List.length hC
  have c1 := fun s H => v_ok G hG s H
  have c2 : ∀ H, ACall Try.prog G 9 [awE.sv, .str [102]] H (fun r H' => H' = H ∧ r = .tuple [.int .i64 2, .bool true]) := fun H => uses_ok G hG awE [102] H (by decide)
  have c3 : ∀ H, ACall Try.prog G 9 [awE.sv, .str [121]] H (fun r H' => H' = H ∧ r = .tuple [.int .i64 0, .bool false]) := fun H => uses_ok G hG awE [121] H (by decide)
  have c4 : ∀ H, ACall Try.prog G 14 [(vE [97]).sv, .list 9 (bdCells awB)] H (fun r H' => H' = H ++ [.cells 0 1 [.int .i64 0, .int .i64 1]] ∧ r = .sl H.length 0 0 2) := fun H => by
    have := live_ok G hG (vE [97]) awB H (by decide) (by decide)
    rwa [awL] at this
  have c5 : ∀ H, ACall Try.prog G 11 [awFx.sv, .str [120]] H (fun r H' => H' = H ∧ r = .bool true) := fun H => once_ok G hG awFx [120] H (by decide)
  have c6 : ∀ H, ACall Try.prog G 11 [awE.sv, .str [120]] H (fun r H' => H' = H ∧ r = .bool false) := fun H => once_ok G hG awE [120] H (by decide)
  (refine run ?_; repeat' (first | with_reducible exact trivial | ((with_reducible apply Fork.mk) <;> intro hb) | with_reducible apply Two.mk))
  all_goals
    simp only [List.append_assoc, List.cons_append, List.nil_append]
    exact Fin.tellN (n0 := H.length) hR rfl hC' hcl (.same _ rfl) ⟨rfl, rfl⟩
end Go.Proofs.Ytgnmngflfillkaa
end
