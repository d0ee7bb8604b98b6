/- CoreStands (teasellaw10): each bind stands in just one group, and uses but binds of its own group and of groups ahead, for binds of a bulk of at most 2^20. -/
import Derived.Test.YtcopfafknmpneaaGreatDoorMk
import Derived.Test.YtcopfafknmpneaaGreatDoorCards
import Derived.Test.YtcopfafknmpneaaGreatDoorTie
import Derived.Deep.DeepHandedRow
import Derived.Lib.LaidTab
import Derived.Stop.LaidErr

section
namespace Go.Proofs.YtcopfafknmpneaaGreatDoor
open Go Go.ChangeShapes Go.WideShapes Go.RowKit
set_option linter.unusedVariables false

section
variable {H : Type} {enc : TypeId × Value → H} {W : World} {sp : Nat → Bool}

theorem read_str (n : Nat) : Rd enc Tryz.prog W sp n 9 (fun s : Str => [.str s]) (fun s => s.length + 1) := rd_str (by kernel_rfl) (by kernel_rfl)
theorem read_int (n : Nat) : Rd enc Tryz.prog W sp n 3 (fun i : Int => [.int .i64 i]) (fun _ => 1) := rd_int (by kernel_rfl) (by kernel_rfl)
theorem read_strs (n : Nat) : Rd enc Tryz.prog W sp n 22 (fun l : List Str => [.list 1 (l.map .str)]) (fun l => 1 + strsWt l) := by
  have h := rd_slice (enc := enc) (P := Tryz.prog) (W := W) (sp := sp) (t := 22) (e := 9) false (f := fun s : Str => [SV.str s]) (wt := fun s => s.length + 1) (n := 1) (N := n) (by kernel_rfl) (by kernel_rfl) (by kernel_rfl) (by omega) (.inr rfl) (fun m _ => read_str m)
  intro cs x hx
  obtain ⟨a, h1, h2, h3⟩ := h cs x hx
  exact ⟨a, h1, h2, by show 1 + strsWt a ≤ _; rw [strsWt_sum]; exact h3⟩

theorem ex_cells (k : Int) (s : Str) (n o : Int) (l : List Str) (subs : List Ex) (binds : List Bd) (alts : List Al) :
    (Ex.mk k s n o l subs binds alts).cells = [.int .i64 k] ++ ([.str s] ++ ([.int .i64 n] ++ ([.int .i64 o] ++ ([.list 1 (l.map .str)] ++ ([.list 8 (subs.map fun x => bx true x.cells)] ++ ([.list 9 (binds.map fun x => bx true x.cells)] ++ ([.list 12 (alts.map fun x => bx true x.cells)] ++ []))))))) := by
  simp only [Ex.cells, exCells_map, bdCells_map, alCells_map]; rfl

theorem read_ex (n : Nat) : Rd enc Tryz.prog W sp n 27 Ex.cells Ex.wt ∧ Rd enc Tryz.prog W sp n 31 Bd.cells Bd.wt ∧ Rd enc Tryz.prog W sp n 33 Al.cells Al.wt := by
  induction n using Nat.strongRecOn with
  | _ n ih =>
  have hE : Rd enc Tryz.prog W sp n 27 Ex.cells Ex.wt := by
    intro cs x hx
    obtain ⟨xs, m, rfl, rfl, hl, hlen, hf⟩ := DataW.trod_struct Tryz.underlying27 hx
    obtain ⟨z0, z1, z2, z3, z4, z5, z6, z7, rfl⟩ := len_eight (show xs.length = 8 from hlen)
    have hsz : Tryz.prog.cellsOf 27 = 8 := by kernel_rfl
    have hsubs : ∀ m', m = m' + 1 → Rd enc Tryz.prog W sp m' 27 Ex.cells Ex.wt := fun m' e => (ih m' (by omega)).1
    have hbinds : ∀ m', m = m' + 1 → Rd enc Tryz.prog W sp m' 31 Bd.cells Bd.wt := fun m' e => (ih m' (by omega)).2.1
    have halts : ∀ m', m = m' + 1 → Rd enc Tryz.prog W sp m' 33 Al.cells Al.wt := fun m' e => (ih m' (by omega)).2.2
    obtain ⟨y0, k, e0, g0, w0⟩ := field_of hf 0 0 1 (by kernel_rfl) (by kernel_rfl) (read_int m) (by simp)
    obtain ⟨y1, s, e1, g1, w1⟩ := field_of hf 1 1 1 (by kernel_rfl) (by kernel_rfl) (read_str m) (by simp)
    obtain ⟨y2, i, e2, g2, w2⟩ := field_of hf 2 2 1 (by kernel_rfl) (by kernel_rfl) (read_int m) (by simp)
    obtain ⟨y3, o, e3, g3, w3⟩ := field_of hf 3 3 1 (by kernel_rfl) (by kernel_rfl) (read_int m) (by simp)
    obtain ⟨y4, l, e4, g4, w4⟩ := field_of hf 4 4 1 (by kernel_rfl) (by kernel_rfl) (read_strs m) (by simp)
    obtain ⟨y5, subs, e5, g5, w5⟩ := field_of hf 5 5 1 (by kernel_rfl) (by kernel_rfl) (rd_slice (t := 23) (e := 27) true (by kernel_rfl) (by kernel_rfl) (n := 8) (by kernel_rfl) (by omega) (.inl rfl) hsubs) (by simp)
    obtain ⟨y6, binds, e6, g6, w6⟩ := field_of hf 6 6 1 (by kernel_rfl) (by kernel_rfl) (rd_slice (t := 24) (e := 31) true (by kernel_rfl) (by kernel_rfl) (n := 9) (by kernel_rfl) (by omega) (.inl rfl) hbinds) (by simp)
    obtain ⟨y7, alts, e7, g7, w7⟩ := field_of hf 7 7 1 (by kernel_rfl) (by kernel_rfl) (rd_slice (t := 25) (e := 33) true (by kernel_rfl) (by kernel_rfl) (n := 12) (by kernel_rfl) (by omega) (.inl rfl) halts) (by simp)
    rw [hsz] at hl
    refine ⟨.mk k s i o l subs binds alts, ?_, by rw [hsz, hl], ?_⟩
    · rw [ex_cells, ← List.drop_zero (l := cs)]
      refine .cut g0 (.cut g1 (.cut g2 (.cut g3 (.cut g4 (.cut g5 (.cut g6 (.cut g7 ?_)))))))
      rw [List.drop_eq_nil_of_le (by omega)]
      exact .nil
    · cases e0; cases e1; cases e2; cases e3; cases e4; cases e5; cases e6; cases e7
      simp only [Rows.uptoBulk, Rows.uptoBulkAll, List.map_cons, List.map_nil, Ex.wt, exsWt_sum, bdsWt_sum, alsWt_sum]
      omega
  have hE' : ∀ m, n = m + 1 → Rd enc Tryz.prog W sp m 27 Ex.cells Ex.wt := fun m e => (ih m (by omega)).1
  refine ⟨hE, ?_, ?_⟩
  · intro cs x hx
    obtain ⟨xs, m, hm, rfl, hl, hlen, hf⟩ := DataW.trod_struct Tryz.underlying31 hx
    obtain ⟨z0, z1, rfl⟩ := len_two (show xs.length = 2 from hlen)
    have hsz : Tryz.prog.cellsOf 31 = 9 := by kernel_rfl
    obtain ⟨y0, s, e0, g0, w0⟩ := field_of hf 0 0 1 (by kernel_rfl) (by kernel_rfl) (read_str m) (by simp)
    obtain ⟨y1, e, e1, g1, w1⟩ := field_of hf 1 1 8 (by kernel_rfl) (by kernel_rfl) (hE' m hm) (by simp)
    rw [hsz] at hl
    refine ⟨.mk s e, ?_, by rw [hsz, hl], ?_⟩
    · have : (Bd.mk s e).cells = [.str s] ++ (e.cells ++ []) := by simp [Bd.cells]
      rw [this, ← List.drop_zero (l := cs)]
      refine .cut g0 (.cut g1 ?_)
      rw [List.drop_eq_nil_of_le (by omega)]
      exact .nil
    · cases e0; cases e1
      simp only [Rows.uptoBulk, Rows.uptoBulkAll, List.map_cons, List.map_nil, Bd.wt]
      omega
  · intro cs x hx
    obtain ⟨xs, m, hm, rfl, hl, hlen, hf⟩ := DataW.trod_struct Tryz.underlying33 hx
    obtain ⟨z0, z1, z2, z3, z4, rfl⟩ := len_five (show xs.length = 5 from hlen)
    have hsz : Tryz.prog.cellsOf 33 = 12 := by kernel_rfl
    obtain ⟨y0, k, e0, g0, w0⟩ := field_of hf 0 0 1 (by kernel_rfl) (by kernel_rfl) (read_int m) (by simp)
    obtain ⟨y1, s, e1, g1, w1⟩ := field_of hf 1 1 1 (by kernel_rfl) (by kernel_rfl) (read_str m) (by simp)
    obtain ⟨y2, i, e2, g2, w2⟩ := field_of hf 2 2 1 (by kernel_rfl) (by kernel_rfl) (read_int m) (by simp)
    obtain ⟨y3, l, e3, g3, w3⟩ := field_of hf 3 3 1 (by kernel_rfl) (by kernel_rfl) (read_strs m) (by simp)
    obtain ⟨y4, e, e4, g4, w4⟩ := field_of hf 4 4 8 (by kernel_rfl) (by kernel_rfl) (hE' m hm) (by simp)
    rw [hsz] at hl
    refine ⟨.mk k s i l e, ?_, by rw [hsz, hl], ?_⟩
    · have : (Al.mk k s i l e).cells = [.int .i64 k] ++ ([.str s] ++ ([.int .i64 i] ++ ([.list 1 (l.map .str)] ++ (e.cells ++ [])))) := by simp [Al.cells]
      rw [this, ← List.drop_zero (l := cs)]
      refine .cut g0 (.cut g1 (.cut g2 (.cut g3 (.cut g4 ?_))))
      rw [List.drop_eq_nil_of_le (by omega)]
      exact .nil
    · cases e0; cases e1; cases e2; cases e3; cases e4
      simp only [Rows.uptoBulk, Rows.uptoBulkAll, List.map_cons, List.map_nil, Al.wt]
      omega
end
end Go.Proofs.YtcopfafknmpneaaGreatDoor
end

section
namespace Go.Proofs.YtcopfafknmpneaaGreatDoor
open Go Go.ChangeShapes Go.WideShapes Go.RowKit
set_option linter.unusedVariables false
set_option linter.unusedSimpArgs false

theorem own : ownKnob Tryz.prog.godebug = none := by kernel_rfl
theorem laid : laidOutB Tryz.prog = true := by kernel_rfl
theorem gES : Tryz.prog.globalNamed "strconv.ErrSyntax" = some 0 := by kernel_rfl
theorem gESType : (Tryz.prog.globals[0]?).map (·.type) = some 103 := by kernel_rfl
theorem cells197 : Tryz.prog.cellsOf 197 = 1 := by kernel_rfl
theorem cells9 : Tryz.prog.cellsOf 9 = 1 := by kernel_rfl
theorem star : "*" ++ "errors.errorString" = "*errors.errorString" := by decide
theorem row195 (u : TypeId) (h : Tryz.prog.typeName? 3 u = some "*errors.errorString") : u = 195 :=
  typeName_ptr_named (nm := "errors.errorString") (by rw [star]; kernel_rfl) (by kernel_rfl) (by decide) u (by rw [star]; exact h)
/-- the laws' surroundings: nothing is known of package variables but through the world that the call begins in -/
def GB (W : World) : Gl := ⟨[], some (rdC W)⟩
theorem gclosedB (W : World) : GClosed (GB W) := fun p hp => by cases hp
theorem gokB (W : World) : GOK (GB W) (rdC W) := ⟨fun p hp => (by cases hp), fun C0 h => (by cases h; exact Grow.refl _)⟩
theorem errAt {W : World} (h : laidMetH Tryz.prog [("math/bits.deBruijn32tab", Rows.laid_math_bits_deBruijn32tab), ("math/bits.deBruijn64tab", Rows.laid_math_bits_deBruijn64tab), ("internal/strconv.uint64pow10", Rows.laid_internal_strconv_uint64pow10), ("strconv.ErrRange", Rows.laid_strconv_ErrRange), ("strconv.ErrSyntax", Rows.laid_strconv_ErrSyntax)] W) : ErrAt (rdC W) := by
  have h2 : laidMet Tryz.prog [("strconv.ErrSyntax", Rows.laid_strconv_ErrSyntax)] W := laidMet.tail (laidMet.tail (laidMet.tail (laidMet.tail h)))
  obtain ⟨a0, s0, hv0, -, -, -⟩ := laid_sentinel h2 gES gESType Tryz.underlying103 row195 Tryz.underlying195 Tryz.underlying197 rfl rfl Tryz.underlying9 cells197 cells9
  exact ⟨rfl, _, (by have h0 := World.var?_cell gES hv0 0; show W.cell? _ = _; simpa using h0), .inr ⟨_, _, rfl⟩⟩
section
variable {H : Type} {enc : TypeId × Value → H} {W : World} {sp : Nat → Bool}
theorem law_callsG {P : Program} {G : Gl} {f : FuncId} {args : List SV} {vs : List Value} (h : ACall P G f args [] (fun r H' => H' = [] ∧ r = .bool true)) (hg : GOK G (rdC W)) (hv : RepL (rdC W) args vs) {R : World → Prop} (hR : ∀ W', Below W.heap.size W W' → R W') :
    Calls P f vs.toArray W fun e W' => ∃ v, e = .returned v ∧ v = .bool true ∧ R W' := by
  refine (callsIn_wide (n := 0)).1 ((h.2 (rdC W) vs rfl (rdC_ok W) hg hv).mono ?_)
  rintro e w' ⟨v, x, c', rfl, hw, ⟨_, rfl⟩, _, hx, hg⟩
  simp only [Rep] at hx
  exact ⟨v, rfl, hx, hR _ (Grow.below hg hw)⟩
end
def valsOf : DataW Unit → List Value
  | .agg l => l.map fun
    | .lit (.int k n) => .int k n
    | _ => .nilFunc
  | _ => []
def putVals (vs : List Value) : Obj → Obj
  | .cells _ t fr => .cells vs.toArray t fr
  | o => o
/-- A WORLD FOR THE WITNESS. -/
noncomputable def laidWorld (os : Os) : World :=
  { World.holding Tryz.prog os ⟨#[], #[], []⟩ with heap := (((((((World.holding Tryz.prog os ⟨#[], #[], []⟩).heap.modify 0 (putVals [.iface 195 (.pointer (some ⟨(World.holding Tryz.prog os ⟨#[], #[], []⟩).heap.size, 0, none⟩))])).modify 1 (putVals [.iface 195 (.pointer (some ⟨(World.holding Tryz.prog os ⟨#[], #[], []⟩).heap.size + 1, 0, none⟩))])).modify 2 (putVals (valsOf Rows.laid_internal_strconv_uint64pow10))).modify 3 (putVals (valsOf Rows.laid_math_bits_deBruijn32tab))).modify 4 (putVals (valsOf Rows.laid_math_bits_deBruijn64tab))).push
      (.cells #[.string ⟨#[105, 110, 118, 97, 108, 105, 100, 32, 115, 121, 110, 116, 97, 120]⟩] 197 (0, 0))).push (.cells #[.string ⟨#[118, 97, 108, 117, 101, 32, 111, 117, 116, 32, 111, 102, 32, 114, 97, 110, 103, 101]⟩] 197 (0, 0)) }
end Go.Proofs.YtcopfafknmpneaaGreatDoor
end

section
namespace Go.Proofs.YtcopfafknmpneaaGreatDoor
open Go Go.ChangeShapes Go.WideShapes Go.RowKit
set_option linter.unusedVariables false
section
variable {H : Type} {enc : TypeId × Value → H} {W : World} {sp : Nat → Bool}
theorem read_bds (n : Nat) : Rd enc Tryz.prog W sp n 24 (fun l : List Bd => [.list 9 (bdCells l)]) (fun l => 1 + bdsWt l) := by
  have h := rd_slice (enc := enc) (P := Tryz.prog) (W := W) (sp := sp) (t := 24) (e := 31) true (f := Bd.cells) (wt := Bd.wt) (n := 9) (N := n) (by kernel_rfl) (by kernel_rfl) (by kernel_rfl) (by omega) (.inl rfl) (fun m _ => (read_ex m).2.1)
  intro cs x hx
  obtain ⟨a, h1, h2, h3⟩ := h cs x hx
  have e : (a.map fun x => bx true x.cells) = bdCells a := by rw [bdCells_map]; rfl
  have h1 : Good W [SV.list 9 (a.map fun x => bx true x.cells)] cs := h1
  rw [e] at h1
  exact ⟨a, h1, h2, by show 1 + bdsWt a ≤ _; rw [bdsWt_sum]; exact h3⟩
end
end Go.Proofs.YtcopfafknmpneaaGreatDoor
end

section
namespace Go.Proofs.YtcopfafknmpneaaGreatDoor
open Go
set_option linter.unusedSimpArgs false
set_option linter.unusedVariables false
set_option maxRecDepth 10000
set_option maxHeartbeats 4000000

theorem freeS_len (e : Ex) : (freeS e).length ≤ e.wt := by
  have := unb_len e.wt e ([], [])
  rw [freeS, sortS_len]
  simpa using this
theorem mem_putO {l : List Str} {s t : Str} : s ∈ putO l t ↔ s ∈ l ∨ s = t := by
  unfold putO
  split
  · rename_i h
    constructor
    · exact .inl
    · rintro (h2 | rfl)
      · exact h2
      · exact h
  · simp
theorem mem_puts {s : Str} : ∀ {l : List Str} {a : List Str}, s ∈ l.foldl putO a ↔ s ∈ a ∨ s ∈ l
  | [], a => by simp
  | t :: r, a => by
    rw [List.foldl_cons, mem_puts (l := r), mem_putO, List.mem_cons]
    constructor
    · rintro ((h | h) | h)
      · exact .inl h
      · exact .inr (.inl h)
      · exact .inr (.inr h)
    · rintro (h | h | h)
      · exact .inl (.inl h)
      · exact .inl (.inr h)
      · exact .inr h
theorem findSV_esO : ∀ (l : List Str) (s : Str), (findSV (esO l) (.str s)).getD (.bool false) = .bool (decide (s ∈ l))
  | [], s => by simp [esO, findSV]
  | x :: r, s => by
    have ih := findSV_esO r s
    have e : findSV (esO (x :: r)) (.str s) = if SV.keyEq (.str s) (.str x) = true then some (.bool true) else findSV (esO r) (.str s) := rfl
    rw [e]
    by_cases h : s = x
    · subst h
      simp [SV.keyEq]
    · rw [if_neg (by simpa [SV.keyEq] using h), ih]
      simp [h]
theorem exCells_snoc (l : List Ex) (x : Ex) : exCells (l ++ [x]) = exCells l ++ [.agg x.cells] := by rw [exCells_app, exCells_one]
theorem coreParts_ok (G : Gl) (hG : GClosed G) (C0 : Cx) (hb : G.base = some C0) (he : ErrAt C0) (e : Ex) (H : List Blk) (hw : e.wt < 1073741824) : ACall Tryz.prog G 3 [e.sv] H (fun r H' => H' = H ∧ r = .bool true) := by
  have hbase := hb
  clear hb
  obtain ⟨kd, nm, nn, op, names, subs, binds, alts⟩ := e
  have hle := Ex.wt_lens kd nm nn op names subs binds alts
  have hparts := Ex.parts_mk kd nm nn op names subs binds alts
  refine ACall.of_go TB [3] tabOK _ Tryz.func3 rfl (by decide) Tryz.ntmps3 (by simp) rfl (by simp only [initEnv, Nat.reduceAdd]; rfl) fun C R' hR hC hcl hB => ?_; have X := noX; have hC' := congrArg List.length hC
  have c1 := awake_ok G hG C0 hbase he
  (refine run ?_; repeat' (first | with_reducible exact trivial | ((with_reducible apply Fork.mk) <;> intro hb) | with_reducible apply Two.mk))
  refine callS (few2_ok G hG (.mk kd nm nn op names subs binds alts) _ (by omega)) ?_
  rintro r H' ⟨rfl, b, rfl, hs⟩
  cases b
  · (refine run ?_; repeat' (first | with_reducible exact trivial | ((with_reducible apply Fork.mk) <;> intro hb) | with_reducible apply Two.mk))
    exact Fin.tellN (n0 := H.length) hR rfl hC' hcl (.same _ rfl) ⟨rfl, rfl⟩
  have hs := hs rfl
  (refine run ?_; repeat' (first | with_reducible exact trivial | ((with_reducible apply Fork.mk) <;> intro hb) | with_reducible apply Two.mk))
  refine go_loop (fun i : Nat => [(1, .ptr H.length 0 0 0), (3, .sl (H.length + 1) 0 0 (subs.length + i)), (4, .int .i64 i)])
    (fun i => H ++ [.cells 0 8 [.agg [.int .i64 kd, .str nm, .int .i64 nn, .int .i64 op, .list 1 (names.map .str), .list 8 (exCells subs), .list 9 (bdCells binds), .list 12 (alCells alts)]], .cells 0 8 (exCells (subs ++ (binds.take i).map Bd.e))]) (fun i => binds.length - i) (fun i => i ≤ binds.length) 0 (Nat.zero_le _) ?_ ?_
  · simp only [List.take_zero, List.map_nil, List.append_nil, Nat.add_zero]
    exact wkS (n0 := H.length) [(H.length, 0), (H.length + 1, 0)] hG hB hC' hcl
  rintro K i hi hK
  rcases Nat.lt_or_ge i binds.length with hlt | hge
  · have hml : (exCells (subs ++ (binds.take i).map Bd.e)).length = subs.length + i := by rw [exCells_len]; simp; omega
    have X := And.intro noX hml
    (refine run ?_; repeat' (first | with_reducible exact trivial | ((with_reducible apply Fork.mk) <;> intro hb) | with_reducible apply Two.mk))
    refine hK _ _ (i + 1) (by omega) (by omega) ?_
    rw [List.take_succ_eq_append_getElem hlt, List.map_append, ← List.append_assoc, List.map_cons, List.map_nil, exCells_snoc]
    exact wkS (n0 := H.length) [(H.length, 0), (H.length + 1, 0)] hG hB hC' hcl
  obtain rfl : i = binds.length := by omega
  clear hK
  rw [List.take_length]
  have hml0 : (exCells (subs ++ binds.map Bd.e)).length = subs.length + binds.length := by rw [exCells_len]; simp
  (refine run ?_; repeat' (first | with_reducible exact trivial | ((with_reducible apply Fork.mk) <;> intro hb) | with_reducible apply Two.mk))
  refine go_loop (fun i : Nat => [(1, .ptr H.length 0 0 0), (3, .sl (H.length + 1) 0 0 (subs.length + binds.length + i)), (5, .int .i64 i)])
    (fun i => H ++ [.cells 0 8 [.agg [.int .i64 kd, .str nm, .int .i64 nn, .int .i64 op, .list 1 (names.map .str), .list 8 (exCells subs), .list 9 (bdCells binds), .list 12 (alCells alts)]], .cells 0 8 (exCells (subs ++ (binds.map Bd.e ++ (alts.take i).map Al.body)))]) (fun i => alts.length - i) (fun i => i ≤ alts.length) 0 (Nat.zero_le _) ?_ ?_
  · simp only [List.take_zero, List.map_nil, List.append_nil, Nat.add_zero]
    exact wkS (n0 := H.length) [(H.length, 0), (H.length + 1, 0)] hG hB hC' hcl
  rintro K i hi hK
  rcases Nat.lt_or_ge i alts.length with hlt | hge
  · have hml : (exCells (subs ++ (binds.map Bd.e ++ (alts.take i).map Al.body))).length = subs.length + binds.length + i := by rw [exCells_len]; simp; omega
    have X := And.intro noX hml
    (refine run ?_; repeat' (first | with_reducible exact trivial | ((with_reducible apply Fork.mk) <;> intro hb) | with_reducible apply Two.mk))
    refine hK _ _ (i + 1) (by omega) (by omega) ?_
    rw [show subs ++ (binds.map Bd.e ++ (alts.take (i + 1)).map Al.body) = (subs ++ (binds.map Bd.e ++ (alts.take i).map Al.body)) ++ [alts[i].body] from by rw [List.take_succ_eq_append_getElem hlt, List.map_append, List.append_assoc, List.append_assoc]; rfl, exCells_snoc]
    exact wkS (n0 := H.length) [(H.length, 0), (H.length + 1, 0)] hG hB hC' hcl
  obtain rfl : i = alts.length := by omega
  clear hK
  rw [List.take_length]
  have hps : subs ++ (binds.map Bd.e ++ alts.map Al.body) = (Ex.mk kd nm nn op names subs binds alts).parts := hparts.symm
  have hpl : subs.length + binds.length + alts.length = (Ex.mk kd nm nn op names subs binds alts).parts.length := by rw [hparts]; simp; omega
  rw [hps, hpl]
  clear hml0
  have hpw : ∀ p ∈ (Ex.mk kd nm nn op names subs binds alts).parts, p.wt < (Ex.mk kd nm nn op names subs binds alts).wt := fun p hp => Ex.wt_parts hp
  have hpb : ∀ p ∈ (Ex.mk kd nm nn op names subs binds alts).parts, ∀ s ∈ bnds p, s ∈ bnds (Ex.mk kd nm nn op names subs binds alts) := fun p hp s h => bnds_sub hp h
  have hpf : kd ≠ 1 → ∀ s ∈ freeS (Ex.mk kd nm nn op names subs binds alts), ∃ p ∈ (Ex.mk kd nm nn op names subs binds alts).parts, s ∈ freeS p := fun h s hs2 => free_part hs h hs2
  have hsz := Ex.size_parts (Ex.mk kd nm nn op names subs binds alts)
  have hdp := dep_parts (Ex.mk kd nm nn op names subs binds alts)
  have hszw : (Ex.mk kd nm nn op names subs binds alts).size ≤ (Ex.mk kd nm nn op names subs binds alts).wt := size_le_wt _ _ (Nat.le_refl _)
  have hbl : (bnds (Ex.mk kd nm nn op names subs binds alts)).length ≤ (Ex.mk kd nm nn op names subs binds alts).wt := bndF_len _ _
  have cb := fun H => binders_ok G hG _ (Ex.mk kd nm nn op names subs binds alts) H (Nat.le_refl _) (by omega)
  have cs := fun H => size_ok G hG (Ex.mk kd nm nn op names subs binds alts) H (by omega) (by omega)
  have cd := fun H => depth_ok G hG _ (by omega) (Ex.mk kd nm nn op names subs binds alts) H (Nat.le_refl _)
  have cf := fun H => free_ok G hG (Ex.mk kd nm nn op names subs binds alts) H (by omega)
  have hfs : ∀ F' : List Str, F' = freeS (Ex.mk kd nm nn op names subs binds alts) → ∀ (i : Nat) (h : i + 1 < F'.length), (strLess F'[i + 1] (F'[i]'(by omega)) || decide (F'[i + 1] = (F'[i]'(by omega)))) = false := by
    rintro _ rfl i h
    exact freeS_step _ h
  have hfl := freeS_len (Ex.mk kd nm nn op names subs binds alts)
  rw [show bndF (Ex.mk kd nm nn op names subs binds alts).wt (Ex.mk kd nm nn op names subs binds alts) = bnds (Ex.mk kd nm nn op names subs binds alts) from rfl] at cb
  rw [show depF (Ex.mk kd nm nn op names subs binds alts).wt (Ex.mk kd nm nn op names subs binds alts) = dep (Ex.mk kd nm nn op names subs binds alts) from rfl] at cd
  have hdw : dep (Ex.mk kd nm nn op names subs binds alts) ≤ (Ex.mk kd nm nn op names subs binds alts).wt := depF_le _ _
  generalize (Ex.mk kd nm nn op names subs binds alts).parts = ps at *
  generalize bnds (Ex.mk kd nm nn op names subs binds alts) = B at *
  generalize freeS (Ex.mk kd nm nn op names subs binds alts) = F at *
  generalize (Ex.mk kd nm nn op names subs binds alts).size = SZ at *
  generalize dep (Ex.mk kd nm nn op names subs binds alts) = DP at *
  have hfs := hfs F rfl
  generalize hW : (Ex.mk kd nm nn op names subs binds alts).wt = W at *
  (refine run ?_; repeat' (first | with_reducible exact trivial | ((with_reducible apply Fork.mk) <;> intro hb) | with_reducible apply Two.mk))
  refine callS (cb _) ?_
  rintro r H' ⟨rfl, rfl⟩
  simp only [List.append_assoc, List.cons_append, List.nil_append, List.length_append, List.length_cons, List.length_nil, List.length_set, X, Nat.reduceAdd]
  (refine run ?_; repeat' (first | with_reducible exact trivial | ((with_reducible apply Fork.mk) <;> intro hb) | with_reducible apply Two.mk))
  refine go_loop (fun a : Nat × List Str => [(1, .ptr H.length 0 0 0), (3, .sl (H.length + 1) 0 0 ps.length), (6, .int .i64 (1 + ((ps.take a.1).map Ex.size).sum : Nat)), (7, .int .i64 (maxL ((ps.take a.1).map dep) : Nat)), (8, .map (H.length + 2)), (9, .list 1 (B.map .str)), (10, .int .i64 a.1)])
    (fun a => H ++ [.cells 0 8 [.agg [.int .i64 kd, .str nm, .int .i64 nn, .int .i64 op, .list 1 (names.map .str), .list 8 (exCells subs), .list 9 (bdCells binds), .list 12 (alCells alts)]], .cells 0 8 (exCells ps), .map none (esO a.2)]) (fun a => ps.length - a.1) (fun a => a.1 ≤ ps.length ∧ ∀ p ∈ ps.take a.1, ∀ s ∈ freeS p, s ∈ a.2) (0, []) ⟨Nat.zero_le _, by simp⟩ ?_ ?_
  · exact wkS (n0 := H.length) [(H.length, 0), (H.length + 1, 0), (H.length + 2, 0)] hG hB hC' hcl
  rintro K ⟨i, fr⟩ ⟨hi, hfr⟩ hK
  dsimp only at hi hfr ⊢
  rcases Nat.lt_or_ge i ps.length with hlt | hge
  · have hpi : ps[i].wt < W := hpw _ (List.getElem_mem hlt)
    have hsi : ps[i].size ≤ ps[i].wt := size_le_wt _ _ (Nat.le_refl _)
    have hdi : dep ps[i] ≤ ps[i].wt := depF_le _ _
    have hsum : ((ps.take (i + 1)).map Ex.size).sum = ((ps.take i).map Ex.size).sum + ps[i].size := by rw [List.take_succ_eq_append_getElem hlt, List.map_append, List.sum_append]; simp only [List.map_cons, List.map_nil, List.sum_cons, List.sum_nil, Nat.add_zero]
    have hsl : ((ps.take (i + 1)).map Ex.size).sum ≤ (ps.map Ex.size).sum := by rw [List.map_take]; exact sum_take_le _
    have hmx : maxL ((ps.take (i + 1)).map dep) = max (maxL ((ps.take i).map dep)) (dep ps[i]) := by rw [List.take_succ_eq_append_getElem hlt, List.map_append]; exact maxL_app _ _
    have hfl2 := freeS_len ps[i]
    have hbl2 : (bnds ps[i]).length ≤ ps[i].wt := bndF_len _ _
    have c1 := fun H => size_ok G hG ps[i] H (by omega) (by omega)
    have c2 := fun H => depth_ok G hG _ (by omega) ps[i] H (Nat.le_refl _)
    rw [show depF ps[i].wt ps[i] = dep ps[i] from rfl] at c2
    have c3 := fun H => free_ok G hG ps[i] H (by omega)
    have X := And.intro noX (show IntKind.i64.min ≤ (dep ps[i] : Int) ∧ (dep ps[i] : Int) ≤ IntKind.i64.max from ⟨by show (-9223372036854775808 : Int) ≤ _; omega, by show _ ≤ (9223372036854775807 : Int); omega⟩)
    have hpb2 := hpb ps[i] (List.getElem_mem hlt)
    (refine run ?_; repeat' (first | with_reducible exact trivial | ((with_reducible apply Fork.mk) <;> intro hb) | with_reducible apply Two.mk))
    simp only [List.append_assoc, List.cons_append, List.nil_append, List.length_append, List.length_cons, List.length_nil, List.length_set, X, Nat.reduceAdd]
    rw [max_nat, ← hmx, show ((1 + ((ps.take i).map Ex.size).sum : Nat) : Int) + (ps[i].size : Int) = ((1 + ((ps.take (i + 1)).map Ex.size).sum : Nat) : Int) from by omega]
    have hfrs : ∀ p ∈ ps.take (i + 1), ∀ s ∈ freeS p, s ∈ (freeS ps[i]).foldl putO fr := fun p hp s hs => by
      rw [mem_puts]
      rw [List.take_succ_eq_append_getElem hlt, List.mem_append, List.mem_singleton] at hp
      rcases hp with hp | rfl
      · exact .inl (hfr p hp s hs)
      · exact .inr hs
    have cbi := fun H => binders_ok G hG _ ps[i] H (Nat.le_refl _) (by omega)
    rw [show bndF ps[i].wt ps[i] = bnds ps[i] from rfl] at cbi
    generalize freeS ps[i] = fs at *
    generalize bnds ps[i] = bs at *
    refine go_loop (fun j : Nat => [(1, .ptr H.length 0 0 0), (3, .sl (H.length + 1) 0 0 ps.length), (6, .int .i64 (1 + ((ps.take (i + 1)).map Ex.size).sum : Nat)), (7, .int .i64 (maxL ((ps.take (i + 1)).map dep) : Nat)), (8, .map (H.length + 2)), (9, .list 1 (B.map .str)), (10, .int .i64 i), (11, .list 1 (fs.map .str)), (12, .int .i64 j)])
      (fun j => H ++ [.cells 0 8 [.agg [.int .i64 kd, .str nm, .int .i64 nn, .int .i64 op, .list 1 (names.map .str), .list 8 (exCells subs), .list 9 (bdCells binds), .list 12 (alCells alts)]], .cells 0 8 (exCells ps), .map none (esO ((fs.take j).foldl putO fr))]) (fun j => fs.length - j) (fun j => j ≤ fs.length) 0 (Nat.zero_le _) ?_ ?_
    · exact wkS (n0 := H.length) [(H.length, 0), (H.length + 1, 0), (H.length + 2, 0)] hG hB hC' hcl
    rintro K2 j hj hK2
    rcases Nat.lt_or_ge j fs.length with hlt2 | hge2
    · have X := noX
      (refine run ?_; repeat' (first | with_reducible exact trivial | ((with_reducible apply Fork.mk) <;> intro hb) | with_reducible apply Two.mk))
      refine hK2 _ _ (j + 1) (by omega) (by omega) ?_
      rw [List.take_succ_eq_append_getElem hlt2, List.foldl_append, List.foldl_cons, List.foldl_nil]
      exact Wk.sub (by simp [subEnv, look])
    obtain rfl : j = fs.length := by omega
    clear hK2
    rw [List.take_length]
    have X := noX
    (refine run ?_; repeat' (first | with_reducible exact trivial | ((with_reducible apply Fork.mk) <;> intro hb) | with_reducible apply Two.mk))
    refine callS (cbi _) ?_
    rintro r H' ⟨rfl, rfl⟩
    simp only [List.append_assoc, List.cons_append, List.nil_append, List.length_append, List.length_cons, List.length_nil, List.length_set, X, Nat.reduceAdd]
    (refine run ?_; repeat' (first | with_reducible exact trivial | ((with_reducible apply Fork.mk) <;> intro hb) | with_reducible apply Two.mk))
    refine go_loop (fun j : Nat => [(1, .ptr H.length 0 0 0), (3, .sl (H.length + 1) 0 0 ps.length), (6, .int .i64 (1 + ((ps.take (i + 1)).map Ex.size).sum : Nat)), (7, .int .i64 (maxL ((ps.take (i + 1)).map dep) : Nat)), (8, .map (H.length + 2)), (9, .list 1 (B.map .str)), (10, .int .i64 i), (13, .list 1 (bs.map .str)), (14, .int .i64 j)])
      (fun j => H ++ [.cells 0 8 [.agg [.int .i64 kd, .str nm, .int .i64 nn, .int .i64 op, .list 1 (names.map .str), .list 8 (exCells subs), .list 9 (bdCells binds), .list 12 (alCells alts)]], .cells 0 8 (exCells ps), .map none (esO (fs.foldl putO fr))]) (fun j => bs.length - j) (fun j => j ≤ bs.length) 0 (Nat.zero_le _) ?_ ?_
    · exact wkS (n0 := H.length) [(H.length, 0), (H.length + 1, 0), (H.length + 2, 0)] hG hB hC' hcl
    rintro K3 j hj hK3
    rcases Nat.lt_or_ge j bs.length with hlt3 | hge3
    · have c1 := fun H => has10_list G B bs[j] H (by omega)
      rw [decide_eq_true (hpb2 bs[j] (List.getElem_mem hlt3))] at c1
      (refine run ?_; repeat' (first | with_reducible exact trivial | ((with_reducible apply Fork.mk) <;> intro hb) | with_reducible apply Two.mk))
      exact hK3 _ _ (j + 1) (by omega) (by omega) (Wk.sub (by simp [subEnv, look]))
    obtain rfl : j = bs.length := by omega
    clear hK3
    (refine run ?_; repeat' (first | with_reducible exact trivial | ((with_reducible apply Fork.mk) <;> intro hb) | with_reducible apply Two.mk))
    exact hK _ _ (i + 1, fs.foldl putO fr) (by simp only; omega) ⟨by simp only; omega, hfrs⟩ (Wk.sub (by simp [subEnv, look]))
  obtain rfl : i = ps.length := by omega
  clear hK
  rw [List.take_length] at hfr ⊢
  rw [← hsz]
  have hin : kd ≠ 1 → ∀ s ∈ F, s ∈ fr := fun h s hs => by
    obtain ⟨p, h1, h2⟩ := hpf h s hs
    exact hfr p h1 s h2
  generalize maxL (ps.map dep) = md at *
  have hff := findSV_esO fr
  have X := noX
  (refine run ?_; repeat' (first | with_reducible exact trivial | ((with_reducible apply Fork.mk) <;> intro hb) | with_reducible apply Two.mk))
  refine callS (cf _) ?_
  rintro r H' ⟨rfl, rfl⟩
  simp only [List.append_assoc, List.cons_append, List.nil_append, List.length_append, List.length_cons, List.length_nil, List.length_set, X, Nat.reduceAdd]
  (refine run ?_; repeat' (first | with_reducible exact trivial | ((with_reducible apply Fork.mk) <;> intro hb) | with_reducible apply Two.mk))
  refine go_loop (fun i : Nat => [(1, .ptr H.length 0 0 0), (6, .int .i64 SZ), (7, .int .i64 md), (8, .map (H.length + 2)), (15, .list 1 (F.map .str)), (16, .int .i64 i)])
    (fun _ => H ++ [.cells 0 8 [.agg [.int .i64 kd, .str nm, .int .i64 nn, .int .i64 op, .list 1 (names.map .str), .list 8 (exCells subs), .list 9 (bdCells binds), .list 12 (alCells alts)]], .cells 0 8 (exCells ps), .map none (esO fr)]) (fun i => F.length - i) (fun i => i ≤ F.length) 0 (Nat.zero_le _) ?_ ?_
  · exact wkS (n0 := H.length) [(H.length, 0), (H.length + 1, 0), (H.length + 2, 0)] hG hB hC' hcl
  rintro K i hi hK
  rcases Nat.lt_or_ge i F.length with hlt | hge
  · have hA : (decide (¬ kd = 1) && decide (¬ F[i] ∈ fr)) = false := by
      by_cases h1 : kd = 1
      · simp [h1]
      · have := hin h1 F[i] (List.getElem_mem hlt)
        simp [this]
    rcases i with _ | k
    · rw [show ((0 : Nat) : Int) = 0 from rfl]
      have X := And.intro noX (And.intro hff (And.intro hA (Int.lt_irrefl (0 : Int))))
      (refine run ?_; repeat' (first | with_reducible exact trivial | ((with_reducible apply Fork.mk) <;> intro hb) | with_reducible apply Two.mk))
      exact hK _ _ 1 (by omega) (by omega) (Wk.sub (by simp [subEnv, look]))
    · have X := And.intro noX (And.intro hff (show ((k + 1 : Nat) : Int) - 1 = (k : Int) from by omega))
      have hB2 := hfs k hlt
      (refine run ?_; repeat' (first | with_reducible exact trivial | ((with_reducible apply Fork.mk) <;> intro hb) | with_reducible apply Two.mk))
      · rw [hA, hB2] at hb
        simp at hb
      · refine hK _ _ (k + 1 + 1) (by omega) (by omega) ?_
        exact Wk.sub (by simp [subEnv, look])
  obtain rfl : i = F.length := by omega
  clear hK
  have c2 : ∀ H, ACall Tryz.prog G 11 [.agg [.int .i64 kd, .str nm, .int .i64 nn, .int .i64 op, .list 1 (names.map .str), .list 8 (exCells subs), .list 9 (bdCells binds), .list 12 (alCells alts)]] H (fun r H' => H' = H ∧ r = .int .i64 SZ) := cs
  have c3 : ∀ H, ACall Tryz.prog G 12 [.agg [.int .i64 kd, .str nm, .int .i64 nn, .int .i64 op, .list 1 (names.map .str), .list 8 (exCells subs), .list 9 (bdCells binds), .list 12 (alCells alts)]] H (fun r H' => H' = H ∧ r = .int .i64 ((md : Int) + 1)) := fun H => (cd H).mono fun r H' h => ⟨h.1, h.2.trans (by rw [hdp]; rfl)⟩
  have X := And.intro noX (And.intro (show decide ((SZ : Int) = (SZ : Int)) = true from decide_eq_true rfl) (show decide ((md : Int) + 1 = (md : Int) + 1) = true from decide_eq_true rfl))
  (refine run ?_; repeat' (first | with_reducible exact trivial | ((with_reducible apply Fork.mk) <;> intro hb) | with_reducible apply Two.mk))
  exact Fin.tellN (n0 := H.length) hR rfl hC' hcl (.same _ rfl) ⟨rfl, rfl⟩
end Go.Proofs.YtcopfafknmpneaaGreatDoor
end

section
namespace Go.Proofs.YtcopfafknmpneaaGreatDoor
open Go
set_option linter.unusedSimpArgs false
set_option linter.unusedVariables false
set_option maxRecDepth 10000
set_option maxHeartbeats 4000000

theorem mul_half1 (x d : Nat) (h : x + (x + d) ≤ 1048576) : x * (x + d) ≤ 274877906944 := by
  have h2 : (x + (x + d)) * (x + (x + d)) ≤ 1048576 * 1048576 := Nat.mul_le_mul h h
  have h3 : (x + (x + d)) * (x + (x + d)) = 4 * (x * x) + 4 * (x * d) + d * d := by
    simp only [Nat.mul_add, Nat.add_mul, Nat.mul_comm d x]
    omega
  rw [h3] at h2
  rw [Nat.mul_add]
  omega
theorem mul_half (x y : Nat) (h : x + y ≤ 1048576) : x * y ≤ 274877906944 := by
  rcases Nat.le_total x y with h1 | h1
  · obtain ⟨d, rfl⟩ := Nat.exists_eq_add_of_le h1
    exact mul_half1 x d h
  · obtain ⟨d, rfl⟩ := Nat.exists_eq_add_of_le h1
    rw [Nat.mul_comm]
    exact mul_half1 y d (by omega)
theorem coreReplaces_ok (G : Gl) (hG : GClosed G) (C0 : Cx) (hb : G.base = some C0) (he : ErrAt C0) (e b : Ex) (s : Str) (H : List Blk) (hw : e.wt + b.wt ≤ 1048576) : ACall Tryz.prog G 5 [e.sv, .str s, b.sv] H (fun r H' => H' = H ∧ r = .bool true) := by
  have hbase := hb
  clear hb
  refine ACall.of_go TB [] tabOK _ Tryz.func5 rfl (by decide) Tryz.ntmps5 (by simp) rfl (by simp only [initEnv, Nat.reduceAdd]; rfl) fun C R' hR hC hcl hB => ?_; have X := noX; have hC' := congrArg List.length hC
  have c1 := awake_ok G hG C0 hbase he
  (refine run ?_; repeat' (first | with_reducible exact trivial | ((with_reducible apply Fork.mk) <;> intro hb) | with_reducible apply Two.mk))
  refine callS (few2_ok G hG e _ (by omega)) ?_
  rintro r H' ⟨rfl, q, rfl, hs⟩
  cases q
  · (refine run ?_; repeat' (first | with_reducible exact trivial | ((with_reducible apply Fork.mk) <;> intro hb) | with_reducible apply Two.mk))
    exact Fin.tellN (n0 := H.length) hR rfl hC' hcl (.same _ rfl) ⟨rfl, rfl⟩
  have hs := hs rfl
  (refine run ?_; repeat' (first | with_reducible exact trivial | ((with_reducible apply Fork.mk) <;> intro hb) | with_reducible apply Two.mk))
  refine callS (few2_ok G hG b _ (by omega)) ?_
  rintro r H' ⟨rfl, q, rfl, hs2⟩
  cases q
  · (refine run ?_; repeat' (first | with_reducible exact trivial | ((with_reducible apply Fork.mk) <;> intro hb) | with_reducible apply Two.mk))
    exact Fin.tellN (n0 := H.length) hR rfl hC' hcl (.same _ rfl) ⟨rfl, rfl⟩
  have hs2 := hs2 rfl
  have hfe := free_used s e hs
  have hfb := free_used s b hs2
  have hrw : (repF s b e.wt e).wt ≤ b.wt * e.wt := rep_wt s b e.wt e
  have hrw2 := mul_half b.wt e.wt (by omega)
  have hfr := free_used s (repF s b e.wt e) (shp_rep s b hs2 e.wt e (Nat.le_refl _) hs _)
  have hmul := occ_mul s b e.wt e (Nat.le_refl _) hs
  have hnone := rep_none s b e.wt e (Nat.le_refl _) hs
  have hsz := size_rep s b e.wt e (Nat.le_refl _) hs
  have hlr := freeS_len (repF s b e.wt e)
  have hlb := freeS_len b
  have hlee := freeS_len e
  have hsw : e.size ≤ e.wt := size_le_wt _ _ (Nat.le_refl _)
  have hsw2 : (repF s b e.wt e).size ≤ (repF s b e.wt e).wt := size_le_wt _ _ (Nat.le_refl _)
  have hbp := b.size_pos
  have cr := fun H => replace_ok G hG s b e.wt e H (Nat.le_refl _) (by omega)
  (refine run ?_; repeat' (first | with_reducible exact trivial | ((with_reducible apply Fork.mk) <;> intro hb) | with_reducible apply Two.mk))
  refine callS (free_ok G hG e _ (by omega)) ?_
  rintro r H' ⟨rfl, rfl⟩
  simp only [List.append_assoc, List.cons_append, List.nil_append, List.length_append, List.length_cons, List.length_nil, List.length_set, X, Nat.reduceAdd]
  (refine run ?_; repeat' (first | with_reducible exact trivial | ((with_reducible apply Fork.mk) <;> intro hb) | with_reducible apply Two.mk))
  refine callS (has10_sl G (freeS e) s _ (H.length + 2) 0 (by simp) (by omega)) ?_
  rintro r H' ⟨rfl, rfl⟩
  by_cases hin : s ∈ freeS e
  · rw [decide_eq_true hin]
    have hoe := hfe.1 hin
    have hz : decide (s ∈ freeS (repF s b e.wt e)) = decide (s ∈ freeS b) := by
      refine decide_eq_decide.2 (hfr.trans ?_)
      rw [hmul, hfb]
      constructor
      · intro h
        rcases Nat.eq_zero_or_pos (occ s b) with h0 | h0
        · rw [h0, Nat.zero_mul] at h; omega
        · exact h0
      · intro h
        exact Nat.mul_pos h hoe
    (refine run ?_; repeat' (first | with_reducible exact trivial | ((with_reducible apply Fork.mk) <;> intro hb) | with_reducible apply Two.mk))
    refine callS (cr _) ?_
    rintro r H' ⟨rfl, rfl⟩
    clear hfr hnone hmul cr
    generalize repF s b e.wt e = R at *
    have c2 := fun H => free_ok G hG R H (by omega)
    have c3 := fun H => has10_sl G (freeS R) s (H ++ [.cells 0 1 ((freeS R).map .str)]) H.length 0 (by simp) (by omega)
    have c4 := fun H => free_ok G hG b H (by omega)
    have c5 := fun H => has10_sl G (freeS b) s (H ++ [.cells 0 1 ((freeS b).map .str)]) H.length 0 (by simp) (by omega)
    rw [hz] at c3
    generalize decide (s ∈ freeS b) = z at *
    have X := And.intro noX (show (!(z == z)) = false by cases z <;> rfl)
    (refine runC ?_; repeat' (first | with_reducible exact trivial | ((with_reducible apply Fork.mk) <;> intro hb) | with_reducible apply Two.mk))
    refine go_condF rfl ?_
    (refine runC ?_; repeat' (first | with_reducible exact trivial | ((with_reducible apply Fork.mk) <;> intro hb) | with_reducible apply Two.mk))
    refine go_condF rfl ?_
    clear c2 c3 c4 c5
    have c2 := fun H => size_ok G hG R H (by omega) (by omega)
    have c3 := fun H => size_ok G hG e H (by omega) (by omega)
    have c4 := fun H => bare_ok G hG e.wt e H (Nat.le_refl _) (by omega)
    by_cases hge : e.size ≤ R.size
    · have X := And.intro noX (show ((e.size : Int) ≤ (R.size : Int)) from by omega)
      (refine run ?_; repeat' (first | with_reducible exact trivial | ((with_reducible apply Fork.mk) <;> intro hb) | with_reducible apply Two.mk))
      all_goals
        rw [List.append_assoc, List.append_assoc]
        exact Fin.tellN (n0 := H.length) hR rfl hC' hcl (.same _ rfl) ⟨rfl, rfl⟩
    · have hbf : bareF e.wt e = false := by
        cases hbf : bareF e.wt e with
        | false => rfl
        | true =>
          have h1 := hsz hbf
          have h2 := Nat.le_mul_of_pos_left (occ s e) hbp
          omega
      rw [hbf] at c4
      have X := And.intro noX (show ¬ ((e.size : Int) ≤ (R.size : Int)) from by omega)
      (refine run ?_; repeat' (first | with_reducible exact trivial | ((with_reducible apply Fork.mk) <;> intro hb) | with_reducible apply Two.mk))
      all_goals
        rw [List.append_assoc, List.append_assoc]
        exact Fin.tellN (n0 := H.length) hR rfl hC' hcl (.same _ rfl) ⟨rfl, rfl⟩
  · rw [decide_eq_false hin]
    have hRe := hnone (by have := mt hfe.2 hin; omega)
    rw [hRe] at cr
    have c2 := fun H => same_ok G hG e.wt e e H (Nat.le_refl _) (by omega) (by omega)
    rw [smE_self e.wt e (Nat.le_refl _)] at c2
    have c3 := cr
    (refine run ?_; repeat' (first | with_reducible exact trivial | ((with_reducible apply Fork.mk) <;> intro hb) | with_reducible apply Two.mk))
    exact Fin.tellN (n0 := H.length) hR rfl hC' hcl (.same _ rfl) ⟨rfl, rfl⟩
end Go.Proofs.YtcopfafknmpneaaGreatDoor
end

section
namespace Go.Proofs.YtcopfafknmpneaaGreatDoor
open Go
set_option linter.unusedSimpArgs false
set_option linter.unusedVariables false
set_option maxRecDepth 10000
set_option maxHeartbeats 4000000

theorem grpsF_len (n : Nat) (R : RelB) : ∀ (k : Nat) (D : Nat → Bool), (grpsF n R k D).length ≤ k
  | 0, _ => Nat.le_refl _
  | k + 1, D => by
    rw [grpsF]
    split
    · simp
    · have := grpsF_len n R k
      simp only [List.length_cons]
      have := this (orD R ‹Nat› D)
      omega
theorem grpsF_mem (n : Nat) (R : RelB) : ∀ (k : Nat) (D : Nat → Bool), ∀ g ∈ grpsF n R k D, g.length ≤ n
  | 0, _, g, h => by cases h
  | k + 1, D, g, h => by
    rw [grpsF] at h
    split at h
    · cases h
    · rcases List.mem_cons.1 h with rfl | h
      · exact Nat.le_trans (List.length_filter_le ..) (by simp)
      · exact grpsF_mem n R k _ g h
theorem coreGroups_ok (G : Gl) (hG : GClosed G) (C0 : Cx) (hb : G.base = some C0) (he : ErrAt C0) (binds : List Bd) (H : List Blk) (hw : bdsWt binds ≤ 1048576) : ACall Tryz.prog G 6 [.list 9 (bdCells binds)] H (fun r H' => H' = H ∧ r = .bool true) := by
  have hbase := hb
  clear hb
  have c1 := awake_ok G hG C0 hbase he
  have hbl := bdsWt_len binds
  refine ACall.of_go TB [] tabOK _ Tryz.func6 rfl (by decide) Tryz.ntmps6 (by simp) rfl (by simp only [initEnv, Nat.reduceAdd]; rfl) fun C R' hR hC hcl hB => ?_; have X := noX; have hC' := congrArg List.length hC
  by_cases hn : binds.length ≤ 60
  · have X := And.intro X (show ¬ ((60 : Int) < (binds.length : Int)) from by omega)
    (refine run ?_; repeat' (first | with_reducible exact trivial | ((with_reducible apply Fork.mk) <;> intro hb) | with_reducible apply Two.mk))
    clear X
    refine go_loop (fun i : Nat => [(0, .list 9 (bdCells binds)), (3, .int .i64 i)]) (fun _ => H) (fun i => binds.length - i) (fun i => i ≤ binds.length) 0 (Nat.zero_le _) (Wk.sub (by simp [subEnv, look])) ?_
    rintro K i hi hK
    rcases Nat.lt_or_ge i binds.length with hlt | hge
    · have hm := bdsWt_mem (List.getElem_mem hlt)
      have hm2 := binds[i].wt_gt
      have X := noX
      (refine run ?_; repeat' (first | with_reducible exact trivial | ((with_reducible apply Fork.mk) <;> intro hb) | with_reducible apply Two.mk))
      refine callS (few2_ok G hG binds[i].e _ (by omega)) ?_
      rintro r H' ⟨rfl, q, rfl, hs⟩
      clear hs
      cases q
      · (refine run ?_; repeat' (first | with_reducible exact trivial | ((with_reducible apply Fork.mk) <;> intro hb) | with_reducible apply Two.mk))
        exact Fin.out hR ⟨rfl, rfl⟩
      · (refine run ?_; repeat' (first | with_reducible exact trivial | ((with_reducible apply Fork.mk) <;> intro hb) | with_reducible apply Two.mk))
        exact hK _ _ (i + 1) (by omega) (by omega) (Wk.sub (by simp [subEnv, look]))
    obtain rfl : i = binds.length := by omega
    clear hK
    have hws : ∀ b ∈ binds, b.e.wt < 4294967296 := fun b hb => by
      have := bdsWt_mem hb
      have := b.wt_gt
      omega
    have c2 := fun H => cgroups_ok G hG binds (by omega) hws H
    have c3 := fun H => rgroups_ok G hG binds (by omega) hws H
    have hgl : (groupsF binds.length (reaF binds)).length ≤ binds.length := grpsF_len _ _ _ _
    have hgm : ∀ g ∈ groupsF binds.length (reaF binds), g.length ≤ binds.length := grpsF_mem _ _ _ _
    generalize groupsF binds.length (reaF binds) = gs at *
    have X := And.intro noX (And.intro (Int.lt_irrefl (binds.length : Int)) (And.intro (show (gs.map gL).length = gs.length from List.length_map ..) (show ((gs.length : Int) = (gs.length : Int)) = True from by simp)))
    (refine run ?_; repeat' (first | with_reducible exact trivial | ((with_reducible apply Fork.mk) <;> intro hb) | with_reducible apply Two.mk))
    clear X
    refine go_loop (fun i : Nat => [(4, .list 1 (gs.map gL)), (5, .list 1 (gs.map gL)), (6, .int .i64 i)]) (fun _ => H) (fun i => gs.length - i) (fun i => i ≤ gs.length) 0 (Nat.zero_le _) (Wk.sub (by simp [subEnv, look])) ?_
    rintro K i hi hK
    rcases Nat.lt_or_ge i gs.length with hlt | hge
    · have d1 : (gs.map gL)[i]? = some (.list 1 (gs[i].map iv)) := by rw [List.getElem?_map, List.getElem?_eq_getElem hlt]; rfl
      have hg1 := hgm gs[i] (List.getElem_mem hlt)
      generalize gs[i] = g at *
      have X := And.intro noX (And.intro d1 (And.intro (show (gs.map gL).length = gs.length from List.length_map ..) (And.intro (show (g.map iv).length = g.length from List.length_map ..) (show ((g.length : Int) = (g.length : Int)) = True from by simp))))
      (refine run ?_; repeat' (first | with_reducible exact trivial | ((with_reducible apply Fork.mk) <;> intro hb) | with_reducible apply Two.mk))
      clear X
      refine go_loop (fun k : Nat => [(4, .list 1 (gs.map gL)), (5, .list 1 (gs.map gL)), (6, .int .i64 i), (7, .int .i64 k)]) (fun _ => H) (fun k => g.length - k) (fun k => k ≤ g.length) 0 (Nat.zero_le _) (Wk.sub (by simp [subEnv, look])) ?_
      rintro K2 k hk hK2
      rcases Nat.lt_or_ge k g.length with hlk | hgk
      · have d2 : (g.map iv)[k]? = some (iv g[k]) := by rw [List.getElem?_map, List.getElem?_eq_getElem hlk]; rfl
        have X := And.intro noX (And.intro d1 (And.intro d2 (And.intro (show (gs.map gL).length = gs.length from List.length_map ..) (And.intro (show (g.map iv).length = g.length from List.length_map ..) (show (((g[k] : Nat) : Int) = ((g[k] : Nat) : Int)) = True from by simp)))))
        (refine run ?_; repeat' (first | with_reducible exact trivial | ((with_reducible apply Fork.mk) <;> intro hb) | with_reducible apply Two.mk))
        exact hK2 _ _ (k + 1) (by omega) (by omega) (Wk.sub (by simp [subEnv, look]))
      · have X := And.intro noX (And.intro d1 (And.intro (show (gs.map gL).length = gs.length from List.length_map ..) (And.intro (show (g.map iv).length = g.length from List.length_map ..) (show ¬ ((k : Int) < (g.length : Int)) from by omega))))
        (refine run ?_; repeat' (first | with_reducible exact trivial | ((with_reducible apply Fork.mk) <;> intro hb) | with_reducible apply Two.mk))
        exact hK _ _ (i + 1) (by omega) (by omega) (Wk.sub (by simp [subEnv, look]))
    · have X := And.intro noX (And.intro (show (gs.map gL).length = gs.length from List.length_map ..) (show ¬ ((i : Int) < (gs.length : Int)) from by omega))
      (refine run ?_; repeat' (first | with_reducible exact trivial | ((with_reducible apply Fork.mk) <;> intro hb) | with_reducible apply Two.mk))
      exact Fin.out hR ⟨rfl, rfl⟩
  · have X := And.intro X (show ((60 : Int) < (binds.length : Int)) from by omega)
    (refine run ?_; repeat' (first | with_reducible exact trivial | ((with_reducible apply Fork.mk) <;> intro hb) | with_reducible apply Two.mk))
    exact Fin.out hR ⟨rfl, rfl⟩
end Go.Proofs.YtcopfafknmpneaaGreatDoor
end

section
namespace Go.Proofs.YtcopfafknmpneaaGreatDoor
open Go
set_option linter.unusedSimpArgs false
set_option linter.unusedVariables false
set_option maxRecDepth 10000
set_option maxHeartbeats 4000000

/-! ### where each one stands -/
structure AtI (gs : List (List Nat)) (i k : Nat) (A : Nat → Nat) : Prop where
  done : ∀ (p : Nat) (g : List Nat) (j : Nat), p < i → gs[p]? = some g → j ∈ g → A j = p + 1
  cur : ∀ (g : List Nat) (j : Nat), gs[i]? = some g → j ∈ g.take k → A j = i + 1
  zero : ∀ j : Nat, (∀ (p : Nat) (g : List Nat), p < i → gs[p]? = some g → j ∉ g) → (∀ g : List Nat, gs[i]? = some g → j ∉ g.take k) → A j = 0
theorem at_zero {n : Nat} {R : RelB} {gs : List (List Nat)} (hg : GrpOK n R (fun _ => false) gs) {i k : Nat} {A : Nat → Nat} (h : AtI gs i k A) {g : List Nat} (hi : gs[i]? = some g) (hk : k < g.length) : A g[k] = 0 := by
  refine h.zero _ (fun p g' hp hg' hm => hg.dj p i g' g hp hg' hi _ hm (List.getElem_mem hk)) fun g' hg' hm => ?_
  rw [hi] at hg'
  cases hg'
  obtain ⟨q, hq, e⟩ := List.mem_take_iff_getElem.1 hm
  have hq2 : q < g.length := by omega
  have := List.pairwise_iff_getElem.1 (hg.ri i g hi) q k hq2 hk (by omega)
  omega
theorem at_step {n : Nat} {R : RelB} {gs : List (List Nat)} (hg : GrpOK n R (fun _ => false) gs) {i k : Nat} {A : Nat → Nat} (h : AtI gs i k A) {g : List Nat} (hi : gs[i]? = some g) (hk : k < g.length) : AtI gs i (k + 1) (fun j => if j = g[k] then i + 1 else A j) := by
  have htk : g.take (k + 1) = g.take k ++ [g[k]] := List.take_succ_eq_append_getElem hk
  refine ⟨fun p g' j hp hg' hj => ?_, fun g' j hg' hj => ?_, fun j h1 h2 => ?_⟩
  · have hne : j ≠ g[k] := fun e => hg.dj p i g' g hp hg' hi j hj (e ▸ List.getElem_mem hk)
    rw [if_neg hne]
    exact h.done p g' j hp hg' hj
  · rw [hi] at hg'
    cases hg'
    rw [htk] at hj
    by_cases e : j = g[k]
    · rw [if_pos e]
    · rw [if_neg e]
      rcases List.mem_append.1 hj with hj | hj
      · exact h.cur g j hi hj
      · exact absurd (List.mem_singleton.1 hj) e
  · have h3 := h2 g hi
    rw [htk, List.mem_append, List.mem_singleton] at h3
    have e : ¬ j = g[k] := fun e => h3 (.inr e)
    rw [if_neg e]
    refine h.zero j h1 fun g' hg' hm => ?_
    rw [hi] at hg'
    cases hg'
    exact h3 (.inl hm)
theorem at_next {gs : List (List Nat)} {i : Nat} {A : Nat → Nat} {g : List Nat} (h : AtI gs i g.length A) (hi : gs[i]? = some g) : AtI gs (i + 1) 0 A := by
  refine ⟨fun p g' j hp hg' hj => ?_, fun g' j hg' hj => by simp at hj, fun j h1 h2 => ?_⟩
  · rcases Nat.lt_or_ge p i with hp2 | hp2
    · exact h.done p g' j hp2 hg' hj
    · obtain rfl : p = i := by omega
      rw [hi] at hg'
      cases hg'
      exact h.cur g j hi (by rw [List.take_length]; exact hj)
  · refine h.zero j (fun p g' hp => h1 p g' (by omega)) fun g' hg' hm => ?_
    rw [hi] at hg'
    cases hg'
    rw [List.take_length] at hm
    exact h1 i g (by omega) hi hm
theorem at_start (gs : List (List Nat)) : AtI gs 0 0 (fun _ => 0) := ⟨fun p g j hp => by omega, fun g j _ hj => by simp at hj, fun j _ _ => rfl⟩
theorem at_le {n : Nat} {R : RelB} {gs : List (List Nat)} (hg : GrpOK n R (fun _ => false) gs) {A : Nat → Nat} {k : Nat} (h : AtI gs gs.length k A) {i j : Nat} (hi : i < n) (hj : j < n) (hr : R i j = true) : A j ≤ A i := by
  obtain ⟨p, g, hp, hm⟩ := hg.al i hi rfl
  have hpl := (List.getElem?_eq_some_iff.1 hp).1
  rcases hg.us p g i j hp hm hr hj with h1 | ⟨q, g', hq, hg', hm'⟩
  · cases h1
  · rw [h.done p g i hpl hp hm, h.done q g' j (by omega) hg' hm']
    omega
theorem at_pos {n : Nat} {R : RelB} {gs : List (List Nat)} (hg : GrpOK n R (fun _ => false) gs) {A : Nat → Nat} {k : Nat} (h : AtI gs gs.length k A) {i : Nat} (hi : i < n) : A i ≠ 0 := by
  obtain ⟨p, g, hp, hm⟩ := hg.al i hi rfl
  have hpl := (List.getElem?_eq_some_iff.1 hp).1
  rw [h.done p g i hpl hp hm]
  omega
def inB (n : Nat) (A : Nat → Nat) : List SV := (List.range n).map fun j => iv (A j)
theorem inB_len (n : Nat) (A : Nat → Nat) : (inB n A).length = n := by simp [inB]
theorem inB_get {n : Nat} {A : Nat → Nat} {j : Nat} (h : j < n) : (inB n A)[j]? = some (iv (A j)) := by simp [inB, h]
theorem inB_zero (n : Nat) : List.replicate n (SV.int .i64 0) = inB n fun _ => 0 := (List.eq_replicate_iff.2 ⟨by simp [inB], by simp [inB]⟩).symm
theorem inB_set {n : Nat} {A : Nat → Nat} {x v : Nat} : (inB n A).set x (iv v) = inB n (fun j => if j = x then v else A j) := by
  apply List.ext_getElem?
  intro k
  rw [List.getElem?_set]
  by_cases hk : k < n
  · rw [inB_get hk, inB_get hk]
    by_cases h : x = k
    · subst h; simp [inB_len, hk]
    · rw [if_neg h, if_neg (fun e => h e.symm)]
  · have h1 : (inB n A)[k]? = none := List.getElem?_eq_none (by rw [inB_len]; omega)
    have h2 : (inB n (fun j => if j = x then v else A j))[k]? = none := List.getElem?_eq_none (by rw [inB_len]; omega)
    rw [h1, h2]
    split
    · rw [if_neg (by rw [inB_len]; omega)]
    · rfl
theorem coreStands_ok (G : Gl) (hG : GClosed G) (C0 : Cx) (hb : G.base = some C0) (he : ErrAt C0) (binds : List Bd) (H : List Blk) (hw : bdsWt binds ≤ 1048576) : ACall Tryz.prog G 7 [.list 9 (bdCells binds)] H (fun r H' => H' = H ∧ r = .bool true) := by
  have hbase := hb
  clear hb
  have c1 := awake_ok G hG C0 hbase he
  have hbl := bdsWt_len binds
  refine ACall.of_go TB [] tabOK _ Tryz.func7 rfl (by decide) Tryz.ntmps7 (by simp) rfl (by simp only [initEnv, Nat.reduceAdd]; rfl) fun C R' hR hC hcl hB => ?_; have X := noX; have hC' := congrArg List.length hC
  by_cases hn : binds.length ≤ 60
  · have X := And.intro X (show ¬ ((60 : Int) < (binds.length : Int)) from by omega)
    (refine run ?_; repeat' (first | with_reducible exact trivial | ((with_reducible apply Fork.mk) <;> intro hb) | with_reducible apply Two.mk))
    clear X
    refine go_loop (fun i : Nat => [(0, .list 9 (bdCells binds)), (3, .int .i64 i)]) (fun _ => H) (fun i => binds.length - i) (fun i => i ≤ binds.length ∧ ∀ (a b : Nat) (ha : a < binds.length) (hb : b < binds.length), a < b → b < i → binds[a].name ≠ binds[b].name) 0 ⟨Nat.zero_le _, fun a b _ _ _ h => by omega⟩ (Wk.sub (by simp [subEnv, look])) ?_
    rintro K i ⟨hi, hun⟩ hK
    rcases Nat.lt_or_ge i binds.length with hlt | hge
    · have hm := bdsWt_mem (List.getElem_mem hlt)
      have hm2 := binds[i].wt_gt
      have X := noX
      (refine run ?_; repeat' (first | with_reducible exact trivial | ((with_reducible apply Fork.mk) <;> intro hb) | with_reducible apply Two.mk))
      refine callS (few2_ok G hG binds[i].e _ (by omega)) ?_
      rintro r H' ⟨rfl, q, rfl, hs⟩
      clear hs
      cases q
      · (refine run ?_; repeat' (first | with_reducible exact trivial | ((with_reducible apply Fork.mk) <;> intro hb) | with_reducible apply Two.mk))
        exact Fin.out hR ⟨rfl, rfl⟩
      · (refine run ?_; repeat' (first | with_reducible exact trivial | ((with_reducible apply Fork.mk) <;> intro hb) | with_reducible apply Two.mk))
        refine go_loop (fun k : Nat => [(0, .list 9 (bdCells binds)), (3, .int .i64 i), (4, .int .i64 k)]) (fun _ => H') (fun k => i - k) (fun k => k ≤ i ∧ ∀ (a : Nat) (ha : a < binds.length), a < k → binds[a].name ≠ binds[i].name) 0 ⟨Nat.zero_le _, fun a _ h => by omega⟩ (Wk.sub (by simp [subEnv, look])) ?_
        rintro K2 k ⟨hk, hne⟩ hK2
        rcases Nat.lt_or_ge k i with hlk | hgk
        · have hkn : k < binds.length := by omega
          have X := noX
          (refine run ?_; repeat' (first | with_reducible exact trivial | ((with_reducible apply Fork.mk) <;> intro hb) | with_reducible apply Two.mk))
          · exact Fin.out hR ⟨rfl, rfl⟩
          · refine hK2 _ _ (k + 1) (by omega) ⟨by omega, fun a ha hak => ?_⟩ (Wk.sub (by simp [subEnv, look]))
            rcases Nat.lt_or_ge a k with h | h
            · exact hne a ha h
            · have : a = k := by omega
              subst this
              exact hb
        · have hke : k = i := by omega
          have X := And.intro noX (show ¬ ((k : Int) < (i : Int)) from by omega)
          (refine run ?_; repeat' (first | with_reducible exact trivial | ((with_reducible apply Fork.mk) <;> intro hb) | with_reducible apply Two.mk))
          refine hK _ _ (i + 1) (by omega) ⟨by omega, fun a b ha hb hab hbi => ?_⟩ (Wk.sub (by simp [subEnv, look]))
          rcases Nat.lt_or_ge b i with h | h
          · exact hun a b ha hb hab h
          · have : b = i := by omega
            subst this
            exact hne a ha (by omega)
    obtain rfl : i = binds.length := by omega
    clear hK
    have hws : ∀ b ∈ binds, b.e.wt < 4294967296 := fun b hb => by
      have := bdsWt_mem hb
      have := b.wt_gt
      omega
    have c2 := fun H => cgroups_ok G hG binds (by omega) hws H
    have hgl : (groupsF binds.length (reaF binds)).length ≤ binds.length := grpsF_len _ _ _ _
    have hgm : ∀ g ∈ groupsF binds.length (reaF binds), g.length ≤ binds.length := grpsF_mem _ _ _ _
    have hgo := groups_ok (reaF_tr binds)
    generalize groupsF binds.length (reaF binds) = gs at *
    have X := And.intro noX (Int.lt_irrefl (binds.length : Int))
    (refine run ?_; repeat' (first | with_reducible exact trivial | ((with_reducible apply Fork.mk) <;> intro hb) | with_reducible apply Two.mk))
    clear X
    rw [inB_zero]
    refine go_loop (fun a : Nat × (Nat → Nat) => [(0, .list 9 (bdCells binds)), (5, .list 1 (gs.map gL)), (6, .sl H.length 0 0 binds.length), (7, .int .i64 a.1)]) (fun a => H ++ [.cells 0 1 (inB binds.length a.2)]) (fun a => gs.length - a.1) (fun a => a.1 ≤ gs.length ∧ AtI gs a.1 0 a.2) (0, fun _ => 0) ⟨Nat.zero_le _, at_start gs⟩ (Wk.sub (by simp [subEnv, look])) ?_
    rintro K ⟨i, A⟩ ⟨hi, hA⟩ hK
    dsimp only at hi hA ⊢
    rcases Nat.lt_or_ge i gs.length with hlt | hge
    · have hgi : gs[i]? = some gs[i] := List.getElem?_eq_getElem hlt
      have d1 : (gs.map gL)[i]? = some (.list 1 (gs[i].map iv)) := by rw [List.getElem?_map, hgi]; rfl
      have hg1 := hgm gs[i] (List.getElem_mem hlt)
      generalize gs[i] = g at *
      have X := And.intro noX (And.intro d1 (show (gs.map gL).length = gs.length from List.length_map ..))
      (refine run ?_; repeat' (first | with_reducible exact trivial | ((with_reducible apply Fork.mk) <;> intro hb) | with_reducible apply Two.mk))
      clear X
      refine go_loop (fun a : Nat × (Nat → Nat) => [(0, .list 9 (bdCells binds)), (5, .list 1 (gs.map gL)), (6, .sl H.length 0 0 binds.length), (7, .int .i64 i), (8, .int .i64 a.1)]) (fun a => H ++ [.cells 0 1 (inB binds.length a.2)]) (fun a => g.length - a.1) (fun a => a.1 ≤ g.length ∧ AtI gs i a.1 a.2) (0, A) ⟨Nat.zero_le _, hA⟩ (Wk.sub (by simp [subEnv, look])) ?_
      rintro K2 ⟨k, A2⟩ ⟨hk, hA2⟩ hK2
      dsimp only at hk hA2 ⊢
      rcases Nat.lt_or_ge k g.length with hlk | hgk
      · have hx := (hgo.nw i g hgi g[k] (List.getElem_mem hlk)).1
        have hz := at_zero hgo hA2 hgi hlk
        have hst := at_step hgo hA2 hgi hlk
        have d2 : (g.map iv)[k]? = some (iv g[k]) := by rw [List.getElem?_map, List.getElem?_eq_getElem hlk]; rfl
        have hpr : ∀ h : 0 < k, g[k - 1] < g[k] := fun h => List.pairwise_iff_getElem.1 (hgo.ri i g hgi) (k - 1) k (by omega) hlk (by omega)
        have d3 : 0 < k → (g.map iv)[k - 1]? = some (iv (g[k - 1]'(by omega))) := fun h => by rw [List.getElem?_map, List.getElem?_eq_getElem (by omega)]; rfl
        have d4 := inB_get (A := A2) hx
        rw [hz] at d4
        have dn : (g.map iv).length = g.length := List.length_map ..
        have dg : (gs.map gL).length = gs.length := List.length_map ..
        generalize g[k] = x at *
        rcases Nat.eq_zero_or_pos k with hk0 | hk0
        · subst hk0
          have X := And.intro noX (And.intro d1 (And.intro d2 (And.intro d4 (And.intro dn (And.intro dg (And.intro (inB_len binds.length A2) (And.intro (show ¬ ((x : Int) < 0) from by omega) (And.intro (show ¬ ((binds.length : Int) ≤ (x : Int)) from by omega) (Int.lt_irrefl 0)))))))))
          (refine run ?_; repeat' (first | with_reducible exact trivial | ((with_reducible apply Fork.mk) <;> intro hb) | with_reducible apply Two.mk))
          have e2 : SV.int .i64 ((i : Int) + 1) = iv (i + 1) := by simp [iv]
          refine hK2 _ _ (0 + 1, fun j => if j = x then i + 1 else A2 j) (by dsimp only; omega) ⟨hlk, hst⟩ ?_
          rw [e2, inB_set]
          exact Wk.sub (by simp [subEnv, look])
        · have hp1 := hpr hk0
          have d5 := d3 hk0
          generalize g[k - 1] = y at *
          have e1 : (k : Int) - 1 = ((k - 1 : Nat) : Int) := by omega
          have X := And.intro noX (And.intro d1 (And.intro d2 (And.intro d4 (And.intro d5 (And.intro e1 (And.intro dn (And.intro dg (And.intro (inB_len binds.length A2) (And.intro (show ¬ ((x : Int) < 0) from by omega) (And.intro (show ¬ ((binds.length : Int) ≤ (x : Int)) from by omega) (And.intro (show ((0 : Int) < (k : Int)) from by omega) (show ¬ ((x : Int) ≤ (y : Int)) from by omega))))))))))))
          (refine run ?_; repeat' (first | with_reducible exact trivial | ((with_reducible apply Fork.mk) <;> intro hb) | with_reducible apply Two.mk))
          have e2 : SV.int .i64 ((i : Int) + 1) = iv (i + 1) := by simp [iv]
          refine hK2 _ _ (k + 1, fun j => if j = x then i + 1 else A2 j) (by dsimp only; omega) ⟨hlk, hst⟩ ?_
          rw [e2, inB_set]
          exact Wk.sub (by simp [subEnv, look])
      · obtain rfl : k = g.length := by omega
        have X := And.intro noX (And.intro d1 (And.intro (show (gs.map gL).length = gs.length from List.length_map ..) (And.intro (show (g.map iv).length = g.length from List.length_map ..) (Int.lt_irrefl (g.length : Int)))))
        (refine run ?_; repeat' (first | with_reducible exact trivial | ((with_reducible apply Fork.mk) <;> intro hb) | with_reducible apply Two.mk))
        exact hK _ _ (i + 1, A2) (by dsimp only; omega) ⟨hlt, at_next hA2 hgi⟩ (Wk.sub (by simp [subEnv, look]))
    obtain rfl : i = gs.length := by omega
    clear hK
    have X := And.intro noX (And.intro (show (gs.map gL).length = gs.length from List.length_map ..) (Int.lt_irrefl (gs.length : Int)))
    (refine run ?_; repeat' (first | with_reducible exact trivial | ((with_reducible apply Fork.mk) <;> intro hb) | with_reducible apply Two.mk))
    clear X
    refine go_loop (fun i : Nat => [(0, .list 9 (bdCells binds)), (6, .sl H.length 0 0 binds.length), (10, .int .i64 i)]) (fun _ => H ++ [.cells 0 1 (inB binds.length A)]) (fun i => binds.length - i) (fun i => i ≤ binds.length) 0 (Nat.zero_le _) (Wk.sub (by simp [subEnv, look])) ?_
    rintro K i hi hK
    rcases Nat.lt_or_ge i binds.length with hlt | hge
    · have c3 := fun H => freeL_ok G hG binds[i].e (by have := hws binds[i] (List.getElem_mem hlt); omega) H
      have hus : usesF binds i = (freeS binds[i].e).filterMap (fstI (binds.map Bd.name)) := by unfold usesF; rw [List.getElem?_eq_getElem hlt]
      have hFl : (freeS binds[i].e).length ≤ binds[i].e.wt := by
        have := unb_len binds[i].e.wt binds[i].e ([], [])
        rw [freeS, sortS_len]
        simpa using this
      have hwi := hws binds[i] (List.getElem_mem hlt)
      have hp := at_pos hgo hA hlt
      generalize freeS binds[i].e = F at *
      have X := And.intro noX (And.intro (inB_len binds.length A) (And.intro (inB_get (A := A) hlt) (show ¬ ((A i : Int) = 0) from by omega)))
      (refine run ?_; repeat' (first | with_reducible exact trivial | ((with_reducible apply Fork.mk) <;> intro hb) | with_reducible apply Two.mk))
      clear X c3
      refine go_loop (fun k : Nat => [(0, .list 9 (bdCells binds)), (6, .sl H.length 0 0 binds.length), (10, .int .i64 i), (11, .list 1 (F.map .str)), (12, .int .i64 k)]) (fun _ => H ++ [.cells 0 1 (inB binds.length A)]) (fun k => F.length - k) (fun k => k ≤ F.length) 0 (Nat.zero_le _) (Wk.sub (by simp [subEnv, look])) ?_
      rintro K2 k hk hK2
      rcases Nat.lt_or_ge k F.length with hlk | hgk
      · have X := noX
        (refine run ?_; repeat' (first | with_reducible exact trivial | ((with_reducible apply Fork.mk) <;> intro hb) | with_reducible apply Two.mk))
        refine go_loop (fun j : Nat => [(0, .list 9 (bdCells binds)), (6, .sl H.length 0 0 binds.length), (10, .int .i64 i), (11, .list 1 (F.map .str)), (12, .int .i64 k), (13, .int .i64 j)]) (fun _ => H ++ [.cells 0 1 (inB binds.length A)]) (fun j => binds.length - j) (fun j => j ≤ binds.length) 0 (Nat.zero_le _) (Wk.sub (by simp [subEnv, look])) ?_
        rintro K3 j hj hK3
        rcases Nat.lt_or_ge j binds.length with hlj | hgj
        · have hle : binds[j].name = F[k] → ¬ ((A i : Int) < (A j : Int)) := fun e => by
            have hfst : fstI (binds.map Bd.name) F[k] = some j := fstI_of (by simpa using hlj) (by simpa using e) (fun a ha haj h => by
              have ha2 : a < binds.length := by omega
              have h2 : binds[a].name = F[k] := by simpa using h
              exact hun a j ha2 hlj haj hlj (h2.trans e.symm))
            have hm : j ∈ usesF binds i := by
              rw [hus]
              exact List.mem_filterMap.2 ⟨F[k], List.getElem_mem hlk, hfst⟩
            have := at_le hgo hA hlt hlj (reaF_edge hm)
            omega
          have X := And.intro noX (And.intro (inB_len binds.length A) (And.intro (inB_get (A := A) hlt) (inB_get (A := A) hlj)))
          (refine run ?_; repeat' (first | with_reducible exact trivial | ((with_reducible apply Fork.mk) <;> intro hb) | with_reducible apply Two.mk))
          · exfalso
            simp only [Bool.and_eq_true, decide_eq_true_eq] at hb
            exact hle hb.1 hb.2
          · exact hK3 _ _ (j + 1) (by omega) (by omega) (Wk.sub (by simp [subEnv, look]))
        · have X := And.intro noX (show ¬ ((j : Int) < (binds.length : Int)) from by omega)
          (refine run ?_; repeat' (first | with_reducible exact trivial | ((with_reducible apply Fork.mk) <;> intro hb) | with_reducible apply Two.mk))
          exact hK2 _ _ (k + 1) (by omega) (by omega) (Wk.sub (by simp [subEnv, look]))
      · have X := And.intro noX (show ¬ ((k : Int) < (F.length : Int)) from by omega)
        (refine run ?_; repeat' (first | with_reducible exact trivial | ((with_reducible apply Fork.mk) <;> intro hb) | with_reducible apply Two.mk))
        exact hK _ _ (i + 1) (by omega) (by omega) (Wk.sub (by simp [subEnv, look]))
    · have X := And.intro noX (show ¬ ((i : Int) < (binds.length : Int)) from by omega)
      (refine run ?_; repeat' (first | with_reducible exact trivial | ((with_reducible apply Fork.mk) <;> intro hb) | with_reducible apply Two.mk))
      exact finS (n0 := H.length) hR hC' hcl (.same _ rfl) ⟨rfl, rfl⟩
  · have X := And.intro X (show ((60 : Int) < (binds.length : Int)) from by omega)
    (refine run ?_; repeat' (first | with_reducible exact trivial | ((with_reducible apply Fork.mk) <;> intro hb) | with_reducible apply Two.mk))
    exact Fin.out hR ⟨rfl, rfl⟩
end Go.Proofs.YtcopfafknmpneaaGreatDoor
end

section
namespace Go.Proofs.YtcopfafknmpneaaGreatDoor.coreStands
open Go Go.ChangeShapes Go.WideShapes Go.RowKit
set_option linter.unusedVariables false
set_option linter.unusedSimpArgs false

set_option maxRecDepth 100000 in
theorem contract (H : Type) (enc : TypeId × Value → H) (W : World) (base : Nat) (args : Array Value) (ds gs : List (DataW H)) (before : List MemPlace)
    (hval : ∀ (j : Nat) t v, Tryz.f7.params[j]? = some t → args[j]? = some v → Value.okWide Tryz.prog W .any base t v)
    (hW : DataW.Whole enc Tryz.prog Tryz.f7.params.toList Rows.coreStandsSpec.vars false W args.toList ds gs before) (hL : laidMetH Tryz.prog Rows.coreStandsUptoRow.laid W) (hk : Rows.uptoSmall H (ds ++ gs) = true) :
    Calls Tryz.prog 7 args W fun e W' => ∃ v, e = .returned v ∧ Rows.coreStandsSpec.post enc Tryz.prog Tryz.f7 false true false false W args v W' := by
  have hW' := hW
  obtain ⟨p, q, hA0, hV, rfl, hfz, hnd⟩ := hW
  have hA : DataW.TrodAll enc Tryz.prog W 0 (fun _ => true) true Tryz.f7.params.toList args.toList ds p := hA0
  rw [Tryz.params7] at hA hval
  obtain ⟨v0, vs0, d0, ds0, p0, q0, hargs, rfl, rfl, h0, r0⟩ := trodAll_cons hA
  obtain ⟨rfl, rfl, rfl⟩ := trodAll_nil r0
  obtain rfl : args = #[v0] := by cases args; simp_all
  obtain ⟨rfl, rfl⟩ := trodVars_none hV
  obtain ⟨a0, len0, cap0, rfl⟩ := okWide_slice Tryz.underlying24 (hval 0 24 v0 (by simp) (by simp))
  obtain ⟨fuel0, hf0⟩ := h0
  obtain ⟨e0, hg0, _, hw0⟩ := read_bds fuel0 _ _ hf0
  have hbulk : bdsWt e0 ≤ 1048576 := by
    simp only [Rows.uptoSmall, decide_eq_true_eq, List.append_nil, Rows.uptoBulkAll] at hk
    simp only at hw0
    omega
  refine (law_callsG (args := [.list 9 (bdCells e0)]) (vs := [.slice a0 len0 cap0]) (coreStands_ok (GB W) (gclosedB W) (rdC W) rfl (errAt hL) e0 [] (by omega)) (gokB W) ?_ (fun W' => law_post laid rfl hW' ?_ rfl (by kernel_rfl) rfl rfl rfl)).mono ?_
  · refine RepL.mk_cons ?_ (RepL.mk_nil)
    · have hq : RepL (rdC W) [.list 9 (bdCells e0)] [Value.slice a0 len0 cap0] := hg0.1
      obtain ⟨u, us, q1, q2, q3⟩ := RepL.cons_iff.1 hq
      cases q3
      exact q1
  · intro t ht
    rw [Tryz.params7] at ht
    simp only [List.mem_cons, List.not_mem_nil, or_false] at ht
    rcases ht with rfl <;> exact ⟨by kernel_rfl, of_decide_eq_true (by kernel_rfl)⟩
  · rintro _ W' ⟨v, rfl, rfl, hp⟩
    exact ⟨_, rfl, hp⟩

theorem laid_met (os : Os) : laidMet Tryz.prog Rows.coreStandsUptoRow.laid ((laidWorld os).forCall (fun _ _ => 0) ⟨#[], #[Value.slice none 0 0], []⟩).memory :=
  laidMet_of_run' 8 (by kernel_rfl) (by kernel_rfl)
theorem reads (os : Os) {H : Type} (enc : TypeId × Value → H) : ∃ places, DataW.whole enc Tryz.prog ((laidWorld os).forCall (fun _ _ => 0) ⟨#[], #[Value.slice none 0 0], []⟩).memory Tryz.f7.params.toList Rows.coreStandsSpec.vars false (#[Value.slice none 0 0] : Array Value).toList 8 = some ([.nil], [], places) :=
  ⟨[], by kernel_rfl⟩
set_option maxRecDepth 100000 in
theorem lifted (os : Os) (started : os.Started) (H : Type) (enc : TypeId × Value → H) (F : Stop.Interp) :
    ReturnsInHanded {} Tryz.checked os 7 .any ((Rows.OpenSpec.upto Rows.coreStandsSpec).preRow enc Tryz.prog Tryz.f7 Rows.coreStandsUptoRow.domain false Rows.coreStandsUptoRow.laid) (((Rows.OpenSpec.upto Rows.coreStandsSpec).at F).post enc Tryz.prog Tryz.f7 false true false false) := by
  obtain ⟨places, hx⟩ := reads os enc
  refine returnsInHanded_of_row (C := Tryz.checked) (s := Rows.OpenSpec.upto Rows.coreStandsSpec) own started (by kernel_rfl) Tryz.func7
    (witness_row_at (enc := enc) (C := Tryz.checked) false (laidWorld os) #[Value.slice none 0 0] rfl (by kernel_rfl) (by kernel_rfl) (by kernel_rfl)
      (OpenSpec.preRow_of_cond 8 hx (by kernel_rfl) (fun k hk => by cases hk; kernel_rfl) (by kernel_rfl) (laid_met os))) ?_
  intro W base args ds gs before hval hW _ hcond _ hL _ _
  exact contract H enc W base args ds gs before hval hW hL (hcond _ rfl)
theorem said : Rows.CoreStandsUptoSaid :=
  OpenClaim.holds_of_cond 7 Tryz.f7 rfl rfl rfl rfl rfl rfl rfl ⟨rfl, rfl, rfl, rfl, rfl⟩ rfl rfl rfl rfl rfl (by kernel_rfl) Tryz.func7 (by kernel_rfl)
    (of_decide_eq_true (by kernel_rfl)) (by unfold Func.isWrapper; first | (rw [if_pos (by decide +kernel)]; kernel_rfl) | (rw [if_neg (by decide +kernel)]; exact ⟨rfl, rfl⟩))
    (fun os started H enc _ F => by rw [OpenClaim.pre_eq_preRow]; exact lifted os started H enc F)
theorem plain (f : FuncId) (fn : Func) (hf : Tryz.pinned.checked.prog.funcNamed "teasel/teasellaw10.CoreStands" = some f) (hfn : Tryz.pinned.checked.prog.funcs[f]? = some fn) :
    true = Tryz.pinned.checked.prog.looks [] ∧ ∀ (j : Nat) t, fn.params[j]? = some t → Tryz.pinned.checked.prog.wantsStandIn t = false := by
  obtain rfl : f = 7 := Option.some.inj ((show Tryz.prog.funcNamed "teasel/teasellaw10.CoreStands" = some 7 by kernel_rfl).symm.trans hf) |>.symm
  obtain rfl : fn = Tryz.f7 := (Option.some.inj (Tryz.func7.symm.trans hfn)).symm
  refine ⟨by kernel_rfl, fun j t ht => ?_⟩
  rw [Tryz.params7] at ht
  have hm := Array.mem_of_getElem? ht
  have hm2 : t = 24 := by
    have h3 : t = 24 := by simpa using hm
    rcases h3 with rfl <;> simp
  subst hm2
  · exact (show Tryz.prog.wantsStandIn 24 = false by kernel_rfl)
theorem proved : Rows.CoreStandsUptoCardSaid :=
  Claim7.holds_tied_plain_at .later [] _ _ _ _ said (fun _ h => by cases h) (by kernel_rfl) (fun _ h => by cases h) coreStandsUpto_row_tie rfl ⟨rfl, rfl⟩ (by kernel_rfl) rfl plain (by kernel_rfl)
end Go.Proofs.YtcopfafknmpneaaGreatDoor.coreStands
end
