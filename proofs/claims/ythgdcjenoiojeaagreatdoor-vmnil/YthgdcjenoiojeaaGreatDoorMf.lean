/- A part of the proof: A1, A2, B0, P1, C1, C2, F1, F2, F3, F4. -/
import Derived.Test.YthgdcjenoiojeaaGreatDoorMe

section
namespace Go.Proofs.YthgdcjenoiojeaaGreatDoor
open Go
set_option linter.unusedSimpArgs false
set_option linter.unusedVariables false
set_option maxRecDepth 10000
set_option maxHeartbeats 4000000

/-! ### which fields operations have -/
def fieldsL : List Int := [0, 9, 3, 7, 7, 7, 7, 7, 7, 7, 7, 9, 25, 25, 11, 3, 19, 82, 66, 66, 11, 106, 42, 72, 1, 2, 64]
abbrev fieldsV : SV := .agg (fieldsL.map (.int .i64))
/-- the variable that is laid -/
def GF (G : Gl) : Prop := look G.l 0 = some fieldsV
def ofS (op : Int) : Int := if op < 1 ∨ 27 ≤ op then 0 else fieldsL.getD op.toNat 0
theorem GF.ev {G : Gl} (h : GF G) : ∀ env : Env, ev G env (.global 0) = some (.pto (.agg (fieldsL.map (.int .i64)))) := fun env => by simp only [Go.Proofs.YthgdcjenoiojeaaGreatDoor.ev, show look G.l 0 = some fieldsV from h]
/-- is the bit n (a power of two) in what an operation has? -/
def bitOf (n : Nat) (op : Int) : Bool := (ofS op).toNat / n % 2 == 1
def b2 (b : Bool) (n : Int) : Int := if b then n else 0
theorem ofS_mem (op : Int) : ofS op ∈ (0 :: fieldsL) := by
  unfold ofS
  split
  · exact List.mem_cons_self ..
  · rename_i h
    have h2 : op.toNat < fieldsL.length := by show _ < 27; omega
    rw [List.getD_eq_getElem?_getD, List.getElem?_eq_getElem h2]
    exact List.mem_cons_of_mem _ (List.getElem_mem h2)
theorem and_bit (op : Int) : bitsI .and .i64 (ofS op) 1 = some (b2 (bitOf 1 op) 1) ∧ bitsI .and .i64 (ofS op) 2 = some (b2 (bitOf 2 op) 2) ∧ bitsI .and .i64 (ofS op) 4 = some (b2 (bitOf 4 op) 4) ∧ bitsI .and .i64 (ofS op) 8 = some (b2 (bitOf 8 op) 8) ∧ bitsI .and .i64 (ofS op) 16 = some (b2 (bitOf 16 op) 16) ∧ bitsI .and .i64 (ofS op) 32 = some (b2 (bitOf 32 op) 32) ∧ bitsI .and .i64 (ofS op) 64 = some (b2 (bitOf 64 op) 64) := by
  have h := ofS_mem op
  simp only [bitOf]
  generalize ofS op = v at h
  revert v
  decide
theorem b2_zero (b : Bool) : decide (b2 b 1 = 0) = !b ∧ decide (b2 b 2 = 0) = !b ∧ decide (b2 b 4 = 0) = !b ∧ decide (b2 b 8 = 0) = !b ∧ decide (b2 b 16 = 0) = !b ∧ decide (b2 b 32 = 0) = !b ∧ decide (b2 b 64 = 0) = !b := by cases b <;> decide
theorem b2_iff (b : Bool) : (b2 b 1 = 0) = (b = false) ∧ (b2 b 2 = 0) = (b = false) ∧ (b2 b 4 = 0) = (b = false) ∧ (b2 b 8 = 0) = (b = false) ∧ (b2 b 16 = 0) = (b = false) ∧ (b2 b 32 = 0) = (b = false) ∧ (b2 b 64 = 0) = (b = false) := by cases b <;> simp [b2]
theorem bitX : (∀ op, bitsI .and .i64 (ofS op) 1 = some (b2 (bitOf 1 op) 1) ∧ bitsI .and .i64 (ofS op) 2 = some (b2 (bitOf 2 op) 2) ∧ bitsI .and .i64 (ofS op) 4 = some (b2 (bitOf 4 op) 4) ∧ bitsI .and .i64 (ofS op) 8 = some (b2 (bitOf 8 op) 8) ∧ bitsI .and .i64 (ofS op) 16 = some (b2 (bitOf 16 op) 16) ∧ bitsI .and .i64 (ofS op) 32 = some (b2 (bitOf 32 op) 32) ∧ bitsI .and .i64 (ofS op) 64 = some (b2 (bitOf 64 op) 64)) ∧
    (∀ b, decide (b2 b 1 = 0) = !b ∧ decide (b2 b 2 = 0) = !b ∧ decide (b2 b 4 = 0) = !b ∧ decide (b2 b 8 = 0) = !b ∧ decide (b2 b 16 = 0) = !b ∧ decide (b2 b 32 = 0) = !b ∧ decide (b2 b 64 = 0) = !b) ∧ (∀ b : Bool, (!!b) = b) := ⟨and_bit, b2_zero, Bool.not_not⟩

theorem of_ok (G : Gl) (hG : GClosed G) (hF : GF G) (op : Int) (H : List Blk) : ACall Tryz.prog G 74 [.int .i64 op] H (fun r H' => H' = H ∧ r = .int .i64 (ofS op)) := by
  refine ACall.of_go TB [] tabOK _ Tryz.func74 rfl (by decide) Tryz.ntmps74 (by simp) rfl (by simp only [initEnv, Nat.reduceAdd]; rfl) fun C R' hR hC hcl hB => ?_; have X := noX; have hC' := congrArg List.length hC
  have hE : look G.l 0 = some (.agg (fieldsL.map (.int .i64))) := hF
  have X := And.intro X hE
  (refine run ?_; repeat' (first | with_reducible exact trivial | ((with_reducible apply Fork.mk) <;> intro hb) | with_reducible apply Two.mk))
  · refine Fin.out hR ⟨rfl, ?_⟩
    simp only [resSV]
    simp only [Bool.or_eq_true, decide_eq_true_eq] at hb
    rw [ofS, if_pos hb]
  · simp only [Bool.or_eq_false_iff, decide_eq_false_iff_not] at hb
    have h2 : op.toNat < fieldsL.length := by show _ < 27; omega
    have h3 : fieldsL[op.toNat]? = some (ofS op) := by
      rw [ofS, if_neg (by omega), List.getD_eq_getElem?_getD, List.getElem?_eq_getElem h2]; rfl
    have X := And.intro X (And.intro h3 (And.intro Nat.mul_one (show (0 ≤ op) = True from by simp; omega)))
    have h4 : op < 27 := by omega
    (refine run ?_; repeat' (first | with_reducible exact trivial | ((with_reducible apply Fork.mk) <;> intro hb) | with_reducible apply Two.mk))
    exact Fin.out hR ⟨rfl, rfl⟩

end Go.Proofs.YthgdcjenoiojeaaGreatDoor
end

section
namespace Go.Proofs.YthgdcjenoiojeaaGreatDoor
open Go
set_option linter.unusedSimpArgs false
set_option linter.unusedVariables false
set_option maxRecDepth 10000
set_option maxHeartbeats 4000000

/-! ### instructions -/
structure Ins where
  op : Int
  a : Int
  b : Int
  c : Int
  n : Int
  l : List Int
  deriving Inhabited
abbrev ints (l : List Int) : SV := .list 1 (l.map (.int .i64))
theorem ints_under (n : Nat) (l : List Int) : SV.underL n (l.map (.int .i64)) = true := under_mint id l
def Ins.cells (i : Ins) : List SV := [.int .i64 i.op, .int .i64 i.a, .int .i64 i.b, .int .i64 i.c, .int .i64 i.n, .list 1 (i.l.map (.int .i64))]
abbrev Ins.sv (i : Ins) : SV := .agg i.cells

/-- which slot is written -/
def wrS (i : Ins) : Int := if bitOf 1 i.op = false ∨ i.op = 14 then -1 else i.a
/-- which are read -/
def rdS (i : Ins) : List Int := (if i.op = 14 then [i.a] else []) ++ (if bitOf 2 i.op then [i.b] else []) ++ (if bitOf 4 i.op then [i.c] else []) ++ (if bitOf 16 i.op then i.l else [])

end Go.Proofs.YthgdcjenoiojeaaGreatDoor
end

section
namespace Go.Proofs.YthgdcjenoiojeaaGreatDoor
open Go
set_option linter.unusedSimpArgs false
set_option linter.unusedVariables false
set_option maxRecDepth 10000
set_option maxHeartbeats 4000000

/-! ### functions -/
structure Fun where
  name : Str
  thunk : Bool
  upd : Bool
  free : Int
  params : Int
  frame : Int
  code : List Ins
def insL (l : List Ins) : List SV := l.map fun i => .agg i.cells
theorem insL_len (l : List Ins) : (insL l).length = l.length := by simp [insL]
theorem insL_get (l : List Ins) (i : Nat) : (insL l)[i]? = l[i]?.map fun i => .agg i.cells := by simp [insL]
theorem Ins.cells_len (i : Ins) : i.cells.length = 6 := rfl
theorem Ins.cells_under (n : Nat) (i : Ins) : SV.underL n i.cells = true := by
  simp only [Ins.cells, SV.underL, SV.under, ints_under, Bool.and_self]
theorem insL_under (n : Nat) (l : List Ins) : SV.underL n (insL l) = true := SV.underL_map fun i _ => Ins.cells_under n i
attribute [go_sem] insL_len insL_get Ins.cells_len
def Fun.cells (f : Fun) : List SV := [.str f.name, .bool f.thunk, .bool f.upd, .int .i64 f.free, .int .i64 f.params, .int .i64 f.frame, .list 6 (insL f.code)]
theorem Fun.cells_under (n : Nat) (f : Fun) : SV.underL n f.cells = true := by
  simp only [Fun.cells, SV.underL, SV.under, insL_under, Bool.and_self]
theorem getX {Q : List Blk} {id : Nat} {x : Blk} (h : Q[id]? = some x) : (∀ L, (Q ++ L)[id]? = some x) ∧ Q[id]? = some x :=
  ⟨fun L => (List.getElem?_append_left (List.getElem?_eq_some_iff.1 h).1).trans h, h⟩
theorem get_set_ne {Q : List Blk} {id id2 : Nat} {x y : Blk} (h : Q[id]? = some x) (hne : id2 ≠ id) : (Q.set id2 y)[id]? = some x := by rw [List.getElem?_set_ne hne]; exact h
theorem get_app_left {Q L : List Blk} {id : Nat} {x : Blk} (h : Q[id]? = some x) : (Q ++ L)[id]? = some x := (getX h).1 L

theorem bit64 (op : Int) : bitOf 64 op = (decide (op = 17) || decide (op = 18) || decide (op = 19) || decide (op = 21) || decide (op = 23) || decide (op = 26)) := by
  by_cases h : op < 1 ∨ 27 ≤ op
  · have : ofS op = 0 := by unfold ofS; rw [if_pos h]
    simp only [bitOf, this]
    have e : ∀ k : Int, 1 ≤ k → k < 27 → decide (op = k) = false := fun k h1 h2 => by rw [decide_eq_false_iff_not]; omega
    simp only [e 17 (by decide) (by decide), e 18 (by decide) (by decide), e 19 (by decide) (by decide), e 21 (by decide) (by decide), e 23 (by decide) (by decide), e 26 (by decide) (by decide)]
    rfl
  · have hk : ∀ k : _root_.Fin 27, bitOf 64 (k.val : Int) = (decide ((k.val : Int) = 17) || decide ((k.val : Int) = 18) || decide ((k.val : Int) = 19) || decide ((k.val : Int) = 21) || decide ((k.val : Int) = 23) || decide ((k.val : Int) = 26)) := by decide
    have := hk ⟨op.toNat, by omega⟩
    rw [show ((⟨op.toNat, by omega⟩ : _root_.Fin 27).val : Int) = op by simp; omega] at this
    exact this
theorem bit32 (op : Int) : bitOf 32 op = (decide (op = 21) || decide (op = 22)) := by
  by_cases h : op < 1 ∨ 27 ≤ op
  · have : ofS op = 0 := by unfold ofS; rw [if_pos h]
    simp only [bitOf, this]
    have e : ∀ k : Int, 1 ≤ k → k < 27 → decide (op = k) = false := fun k h1 h2 => by rw [decide_eq_false_iff_not]; omega
    simp only [e 21 (by decide) (by decide), e 22 (by decide) (by decide)]
    rfl
  · have hk : ∀ k : _root_.Fin 27, bitOf 32 (k.val : Int) = (decide ((k.val : Int) = 21) || decide ((k.val : Int) = 22)) := by decide
    have := hk ⟨op.toNat, by omega⟩
    rw [show ((⟨op.toNat, by omega⟩ : _root_.Fin 27).val : Int) = op by simp; omega] at this
    exact this
end Go.Proofs.YthgdcjenoiojeaaGreatDoor
end

section
namespace Go.Proofs.YthgdcjenoiojeaaGreatDoor
open Go
set_option linter.unusedSimpArgs false
set_option linter.unusedVariables false
set_option maxRecDepth 10000
set_option maxHeartbeats 4000000

/-! ### numbers as bytes, in plain words -/
def vb (u : Nat) : Str := if u < 128 then [UInt8.ofNat u] else UInt8.ofNat (u % 128 + 128) :: vb (u / 128)
termination_by u
decreasing_by omega
def zz (n : Int) : Nat := if 0 ≤ n then (2 * n).toNat else (-2 * n - 1).toNat
def numS (n : Int) : Str := vb (zz n)
def numsS (l : List Int) : Str := l.flatMap numS
def txtS (s : Str) : Str := numS s.length ++ s
def truS (b : Bool) : Str := numS (if b then 1 else 0)
theorem vb_lt {u : Nat} (h : u < 128) : vb u = [UInt8.ofNat u] := by rw [vb, if_pos h]
theorem vb_ge {u : Nat} (h : ¬ u < 128) : vb u = UInt8.ofNat (u % 128 + 128) :: vb (u / 128) := by rw [vb, if_neg h]
theorem vb_len : ∀ (n u : Nat), u < 128 ^ (n + 1) → (vb u).length ≤ n + 1
  | 0, u, h => by rw [vb_lt (by simpa using h)]; simp
  | n + 1, u, h => by
    by_cases h1 : u < 128
    · rw [vb_lt h1]; simp
    · rw [vb_ge h1]
      have := vb_len n (u / 128) (by rw [Nat.div_lt_iff_lt_mul (by omega)]; rw [Nat.pow_succ] at h; exact h)
      simp only [List.length_cons]; omega
theorem vb_pos (u : Nat) : 1 ≤ (vb u).length := by
  by_cases h1 : u < 128
  · rw [vb_lt h1]; simp
  · rw [vb_ge h1]; simp
def isI (n : Int) : Prop := -9223372036854775808 ≤ n ∧ n < 9223372036854775808
theorem zz_lt {n : Int} (h : isI n) : zz n < 18446744073709551616 := by
  obtain ⟨h1, h2⟩ := h
  unfold zz; split <;> omega
theorem numS_len {n : Int} (h : isI n) : (numS n).length ≤ 10 := vb_len 9 _ (Nat.lt_trans (zz_lt h) (by decide))
theorem numS_pos (n : Int) : 1 ≤ (numS n).length := vb_pos _
theorem numsS_cons (n : Int) (l : List Int) : numsS (n :: l) = numS n ++ numsS l := rfl
theorem numsS_len : ∀ {l : List Int}, (∀ n ∈ l, isI n) → (numsS l).length ≤ 10 * l.length
  | [], _ => by simp [numsS]
  | n :: l, h => by
    have := numsS_len (l := l) fun m hm => h m (List.mem_cons_of_mem _ hm)
    have := numS_len (h n (List.mem_cons_self ..))
    rw [numsS_cons, List.length_append, List.length_cons]; omega
theorem strBytes_len (s : Str) : (strBytes s).length = s.length := by simp [strBytes]
theorem strBytes_app (s t : Str) : strBytes (s ++ t) = strBytes s ++ strBytes t := by simp [strBytes]
theorem strBytes_under (n : Nat) (s : Str) : SV.underL n (strBytes s) = true := SV.underL_map fun _ _ => rfl
theorem strBytes_take (s : Str) : (strBytes s).take s.length = strBytes s := List.take_of_length_le (by rw [strBytes_len]; exact Nat.le_refl _)
attribute [go_sem] strBytes_len strBytes_take

theorem wrap64 (n : Int) : IntKind.i64.wrap n = (n + 9223372036854775808) % 18446744073709551616 - 9223372036854775808 := by
  simp only [IntKind.wrap, IntKind.bits, IntKind.signed]
  simp
  omega
theorem wrapU64 (n : Int) : IntKind.u64.wrap n = n % 18446744073709551616 := by
  simp only [IntKind.wrap, IntKind.bits, IntKind.signed]
  simp
theorem wrapU8 (n : Int) : IntKind.u8.wrap n = n % 256 := by
  simp only [IntKind.wrap, IntKind.bits, IntKind.signed]
  simp
/-! ### or, xor: told by names, so that a walk leaves them as they are -/
def borI (k : IntKind) (x y : Int) : Int := k.wrap (BitVec.ofInt k.bits x ||| BitVec.ofInt k.bits y).toNat
def bxorI (k : IntKind) (x y : Int) : Int := k.wrap (BitVec.ofInt k.bits x ^^^ BitVec.ofInt k.bits y).toNat
theorem bitsI_or (k : IntKind) (x y : Int) : bitsI .or k x y = some (borI k x y) := rfl
theorem bitsI_xor (k : IntKind) (x y : Int) : bitsI .xor k x y = some (bxorI k x y) := rfl
attribute [go_sem] bitsI_or bitsI_xor
theorem zz_xor {n : Int} (h : isI n) : IntKind.u64.wrap (bxorI .i64 (IntKind.i64.wrap (n * 2 ^ min 1 64)) (n.fdiv (2 ^ min 63 64))) = (zz n : Int) := by
  obtain ⟨h1, h2⟩ := h
  show IntKind.u64.wrap (IntKind.i64.wrap ↑(BitVec.ofInt 64 (IntKind.i64.wrap (n * 2 ^ min 1 64)) ^^^ BitVec.ofInt 64 (n.fdiv (2 ^ min 63 64))).toNat) = (zz n : Int)
  rw [show min 1 64 = 1 from rfl, show min 63 64 = 63 from rfl, wrapU64, wrap64, wrap64]
  rcases Int.lt_or_le n 0 with h0 | h0
  · have : n.fdiv (2 ^ 63) = -1 := by
      rw [Int.fdiv_eq_ediv_of_nonneg _ (by decide)]
      omega
    rw [this, show BitVec.ofInt 64 (-1) = BitVec.allOnes 64 from by decide, BitVec.xor_allOnes, BitVec.toNat_not, BitVec.toNat_ofInt]
    unfold zz
    rw [if_neg (by omega)]
    omega
  · have : n.fdiv (2 ^ 63) = 0 := by
      rw [Int.fdiv_eq_ediv_of_nonneg _ (by decide)]
      omega
    rw [this, show BitVec.ofInt 64 0 = 0#64 from rfl, BitVec.xor_zero, BitVec.toNat_ofInt]
    unfold zz
    rw [if_pos h0]
    omega
theorem u8_or {u : Nat} : borI .u8 (IntKind.u8.wrap u) 128 = ((u % 128 + 128 : Nat) : Int) := by
  show IntKind.u8.wrap ↑(BitVec.ofInt 8 (IntKind.u8.wrap u) ||| BitVec.ofInt 8 128).toNat = ((u % 128 + 128 : Nat) : Int)
  rw [wrapU8, wrapU8]
  have h : ∀ v : _root_.Fin 256, (((BitVec.ofInt 8 (v.val : Int) ||| BitVec.ofInt 8 128).toNat : Nat) : Int) % 256 = ((v.val % 128 + 128 : Nat) : Int) := by decide +kernel
  have := h ⟨u % 256, Nat.mod_lt _ (by decide)⟩
  simp only [Nat.mod_mod_of_dvd _ (show 128 ∣ 256 by decide)] at this
  rw [show ((u % 256 : Nat) : Int) = (u : Int) % 256 by omega] at this
  exact this
theorem strBytes_snoc (s : Str) (n : Nat) (h : n < 256) : strBytes s ++ [SV.int .u8 (n : Int)] = strBytes (s ++ [UInt8.ofNat n]) := by
  simp [strBytes, Nat.mod_eq_of_lt h]

/-! ### the writer's two blocks -/
def wset (H : List Blk) (w b g : Nat) (bs : Str) : List Blk := (H.set w (.cells 0 1 [.agg [.sl b g 0 bs.length]])).set b (.cells g 1 (strBytes bs))
structure WrOK (H : List Blk) (w b g : Nat) (bs : Str) : Prop where
  w : H[w]? = some (.cells 0 1 [.agg [.sl b g 0 bs.length]])
  b : H[b]? = some (.cells g 1 (strBytes bs))
theorem WrOK.ne {H : List Blk} {w b g : Nat} {bs : Str} (h : WrOK H w b g bs) : w ≠ b := fun e => by
  have h1 := h.w; rw [e, h.b] at h1
  injection h1 with h1
  injection h1 with e1 e2 e3
  cases bs with
  | nil => simp [strBytes] at e3
  | cons x l => simp [strBytes] at e3
theorem WrOK.lw {H : List Blk} {w b g : Nat} {bs : Str} (h : WrOK H w b g bs) : w < H.length := (List.getElem?_eq_some_iff.1 h.w).1
theorem WrOK.lb {H : List Blk} {w b g : Nat} {bs : Str} (h : WrOK H w b g bs) : b < H.length := (List.getElem?_eq_some_iff.1 h.b).1
theorem wset_len (H : List Blk) (w b g : Nat) (bs : Str) : (wset H w b g bs).length = H.length := by simp [wset]
theorem WrOK.set {H : List Blk} {w b g : Nat} {bs : Str} (h : WrOK H w b g bs) (g' : Nat) (bs' : Str) : WrOK (wset H w b g' bs') w b g' bs' :=
  ⟨by unfold wset; rw [List.getElem?_set_ne (Ne.symm h.ne), List.getElem?_set_self h.lw], by unfold wset; rw [List.getElem?_set_self (by simpa using h.lb)]⟩
theorem WrOK.same {H : List Blk} {w b g : Nat} {bs : Str} (h : WrOK H w b g bs) : wset H w b g bs = H := by unfold wset; rw [set_same h.w, set_same h.b]
theorem wset_wset {H : List Blk} {w b g g' : Nat} {bs bs' : Str} (hne : w ≠ b) : wset (wset H w b g bs) w b g' bs' = wset H w b g' bs' := by
  unfold wset
  rw [List.set_comm _ _ (Ne.symm hne), List.set_set, List.set_set]
theorem wset_swap {H : List Blk} {w b g : Nat} {bs : Str} (hne : w ≠ b) {x y : Blk} : ((wset H w b g bs).set b y).set w x = (H.set w x).set b y := by
  unfold wset
  rw [List.set_set, List.set_comm _ _ (Ne.symm hne), List.set_set]
theorem WrOK.app {H L : List Blk} {w b g : Nat} {bs : Str} (h : WrOK H w b g bs) : WrOK (H ++ L) w b g bs := ⟨get_app_left h.w, get_app_left h.b⟩
theorem wset_closed {H : List Blk} {w b g : Nat} {bs : Str} (hc : closed H) (hb : b < H.length) : closed (wset H w b g bs) := by
  unfold wset
  refine closed.set (closed.set hc ?_) ?_
  · simp [Blk.under, SV.underL, SV.under, hb]
  · simp only [Blk.under, strBytes_under]
end Go.Proofs.YthgdcjenoiojeaaGreatDoor
end

section
namespace Go.Proofs.YthgdcjenoiojeaaGreatDoor
open Go
set_option linter.unusedSimpArgs false
set_option linter.unusedVariables false
set_option maxRecDepth 10000
set_option maxHeartbeats 4000000

theorem wnum_ok (G : Gl) (hG : GClosed G) (ns : List Int) (w b g : Nat) (bs : Str) (H : List Blk) (hw : WrOK H w b g bs) (hi : ∀ n ∈ ns, isI n) (hl : bs.length + (numsS ns).length < 1099511627776) (hn : ns.length < 1099511627776) :
    ACall Tryz.prog G 78 [.ptr w 0 0 0, .list 1 (ns.map (.int .i64))] H (fun r H' => H' = wset H w b (g + (numsS ns).length) (bs ++ numsS ns) ∧ r = .tuple []) := by
  have hne := hw.ne
  refine ACall.of_go TB [] tabOK _ Tryz.func78 rfl (by decide) Tryz.ntmps78 (by simp) rfl (by simp only [initEnv, Nat.reduceAdd]; rfl) fun C R' hR hC hcl hB => ?_; have X := noX; have hC' := congrArg List.length hC
  (refine run ?_; repeat' (first | with_reducible exact trivial | ((with_reducible apply Fork.mk) <;> intro hb) | with_reducible apply Two.mk))
  refine go_loop (fun k : Nat => [(0, .ptr w 0 0 0), (7, .list 1 (ns.map (.int .i64))), (8, .int .i64 ns.length), (9, .int .i64 k)]) (fun k => wset H w b (g + (numsS (ns.take k)).length) (bs ++ numsS (ns.take k))) (fun k => ns.length - k) (fun k => k ≤ ns.length) 0 (Nat.zero_le _) (by
    rw [show numsS (ns.take 0) = [] from rfl, List.append_nil, List.length_nil, Nat.add_zero, hw.same]
    exact Wk.sub (by simp [subEnv, look])) ?_
  rintro K k hk hK
  rcases Nat.lt_or_ge k ns.length with hlt | hge
  · have e1 : (ns.map (SV.int .i64))[k]? = some (SV.int .i64 ns[k]) := by simp [hlt]
    have X := And.intro X e1
    have hik := hi _ (List.getElem_mem hlt)
    have htk := List.take_succ_eq_append_getElem hlt
    have hnt : numsS (ns.take (k + 1)) = numsS (ns.take k) ++ vb (zz ns[k]) := by rw [htk]; simp only [numsS, List.flatMap_append, List.flatMap_cons, List.flatMap_nil, List.append_nil]; rfl
    have hle : (numsS (ns.take (k + 1))).length ≤ (numsS ns).length := by
      rw [show numsS ns = numsS (ns.take (k + 1)) ++ numsS (ns.drop (k + 1)) from by simp only [numsS]; rw [← List.flatMap_append, List.take_append_drop], List.length_append]; omega
    have hz := zz_lt hik
    have hzx := zz_xor hik
    generalize zz ns[k] = z at *
    generalize ns[k] = x at *
    generalize hS : numsS (ns.take k) = S at *
    have X := And.intro X (And.intro e1 hzx)
    (refine run ?_; repeat' (first | with_reducible exact trivial | ((with_reducible apply Fork.mk) <;> intro hb) | with_reducible apply Two.mk))
    clear X
    refine go_loop (fun a : Nat × Str => [(6, .int .u64 a.1), (0, .ptr w 0 0 0), (7, .list 1 (ns.map (.int .i64))), (8, .int .i64 ns.length), (9, .int .i64 k)]) (fun a => wset H w b (g + S.length + a.2.length) (bs ++ S ++ a.2)) (fun a => a.1) (fun a => a.1 < 18446744073709551616 ∧ a.2 ++ vb a.1 = vb z) (z, []) ⟨hz, rfl⟩ (by
      rw [List.append_nil, List.length_nil, Nat.add_zero]
      exact Wk.sub (by simp [subEnv, look])) ?_
    rintro K2 ⟨u, o⟩ ⟨hu, ho⟩ hK2
    simp only at hu ho
    dsimp only
    have hs := hw.set (g + S.length + o.length) (bs ++ S ++ o)
    have hstep : ∀ x : Nat, x < 256 → ((wset H w b (g + S.length + o.length) (bs ++ S ++ o)).set b (.cells (g + S.length + o.length + 1) 1 (strBytes (bs ++ S ++ o) ++ [SV.int .u8 (x : Int)]))).set w (.cells 0 1 [.agg [.sl b (g + S.length + o.length + 1) 0 ((bs ++ S ++ o).length + 1)]]) = wset H w b (g + S.length + (o ++ [UInt8.ofNat x]).length) (bs ++ S ++ (o ++ [UInt8.ofNat x])) := by
      intro x hx
      rw [strBytes_snoc _ _ hx, wset_swap hne, wset]
      simp only [List.length_append, List.length_cons, List.length_nil, Nat.add_assoc, List.append_assoc]
    have hbl : (bs ++ S ++ o).length + 1 < 1099511627776 := by
      have : o.length + 1 ≤ (vb z).length := by rw [← ho, List.length_append]; have := vb_pos u; omega
      simp only [hnt, List.length_append] at hle ⊢
      omega
    generalize hQ : wset H w b (g + S.length + o.length) (bs ++ S ++ o) = Q at *
    generalize g + S.length + o.length = g1 at *
    generalize hB1 : bs ++ S ++ o = b1 at *
    have hsb := fun y => get_set_ne (y := y) hs.w (Ne.symm hne)
    have X := And.intro noX (And.intro hs.w (And.intro hs.b hsb))
    by_cases hu1 : u < 128
    · have X := And.intro X hu1
      have hw8 : IntKind.u8.wrap (u : Int) = (u : Int) := by rw [wrapU8]; omega
      (refine run ?_; repeat' (first | with_reducible exact trivial | ((with_reducible apply Fork.mk) <;> intro hb) | with_reducible apply Two.mk))
      rw [hw8, hstep u (by omega)]
      rw [vb_lt hu1] at ho
      refine hK _ _ (k + 1) (by omega) (by omega) ?_
      have e3 : ∀ q : Str, wset H w b (g + (S ++ q).length) (bs ++ (S ++ q)) = wset H w b (g + S.length + q.length) (bs ++ S ++ q) := fun q => by simp only [List.length_append, Nat.add_assoc, List.append_assoc]
      rw [hnt, ← ho, e3]
      refine Wk.sub ?_
      simp [subEnv, look]
    · have X := And.intro X hu1
      have hu8 := u8_or (u := u)
      have hd : (u : Int).fdiv (2 ^ min 7 64) = ((u / 128 : Nat) : Int) := by
        rw [show min 7 64 = 7 from rfl, Int.fdiv_eq_ediv_of_nonneg _ (by decide)]; omega
      (refine run ?_; repeat' (first | with_reducible exact trivial | ((with_reducible apply Fork.mk) <;> intro hb) | with_reducible apply Two.mk))
      rw [hu8, hstep (u % 128 + 128) (by omega)]
      rw [vb_ge hu1] at ho
      refine hK2 _ _ (u / 128, o ++ [UInt8.ofNat (u % 128 + 128)]) (show u / 128 < u by omega) ⟨by show u / 128 < _; omega, by rw [← ho]; simp⟩ ?_
      exact Wk.sub ⟨congrArg (fun q => some (SV.int IntKind.u64 q)) hd, rfl, rfl, rfl, rfl, trivial⟩
  · have : k = ns.length := by omega
    subst this
    clear hK
    have X := And.intro X (Int.lt_irrefl (ns.length : Int))
    (refine run ?_; repeat' (first | with_reducible exact trivial | ((with_reducible apply Fork.mk) <;> intro hb) | with_reducible apply Two.mk))
    refine Fin.out hR ⟨?_, rfl⟩
    rw [List.take_length]
end Go.Proofs.YthgdcjenoiojeaaGreatDoor
end

section
namespace Go.Proofs.YthgdcjenoiojeaaGreatDoor
open Go
set_option linter.unusedSimpArgs false
set_option linter.unusedVariables false
set_option maxRecDepth 10000
set_option maxHeartbeats 4000000

theorem isI_len {n : Nat} (h : n < 1099511627776) : isI (n : Int) := ⟨by omega, by omega⟩
theorem numsS_one (n : Int) : numsS [n] = numS n := by simp [numsS]
theorem wtext_ok (G : Gl) (hG : GClosed G) (s : Str) (w b g : Nat) (bs : Str) (H : List Blk) (hw : WrOK H w b g bs) (hl : bs.length + (txtS s).length < 1099511627776) :
    ACall Tryz.prog G 79 [.ptr w 0 0 0, .str s] H (fun r H' => H' = wset H w b (g + (numS s.length).length + 1) (bs ++ txtS s) ∧ r = .tuple []) := by
  have hne := hw.ne
  have hl2 : bs.length + (numS s.length).length + s.length < 1099511627776 := by simp only [txtS, List.length_append] at hl; omega
  have hi : isI (s.length : Int) := isI_len (by omega)
  have c1 := wnum_ok G hG [(s.length : Int)] w b g bs H hw (fun m hm => by rw [List.mem_singleton.1 hm]; exact hi) (by rw [numsS_one]; omega) (by simp)
  rw [numsS_one] at c1
  simp only [List.map_cons, List.map_nil] at c1
  have hs := hw.set (g + (numS s.length).length) (bs ++ numS s.length)
  have hfin : ((wset H w b (g + (numS s.length).length) (bs ++ numS s.length)).set b (.cells (g + (numS s.length).length + 1) 1 (strBytes (bs ++ numS s.length) ++ strBytes s))).set w (.cells 0 1 [.agg [.sl b (g + (numS s.length).length + 1) 0 ((bs ++ numS s.length).length + s.length)]]) = wset H w b (g + (numS s.length).length + 1) (bs ++ txtS s) := by
    rw [← strBytes_app, wset_swap hne, wset, txtS]
    simp only [List.length_append, Nat.add_assoc, List.append_assoc]
  have hbl : (bs ++ numS s.length).length + s.length < 1099511627776 := by simp only [List.length_append]; omega
  refine ACall.of_go TB [] tabOK _ Tryz.func79 rfl (by decide) Tryz.ntmps79 (by simp) rfl (by simp only [initEnv, Nat.reduceAdd]; rfl) fun C R' hR hC hcl hB => ?_; have X := noX; have hC' := congrArg List.length hC
  clear hw
  generalize hQ : wset H w b (g + (numS s.length).length) (bs ++ numS s.length) = Q at *
  generalize g + (numS s.length).length = g1 at *
  generalize bs ++ numS s.length = b1 at *
  have hsb := fun y => get_set_ne (y := y) hs.w (Ne.symm hne)
  have X := And.intro noX (And.intro hs.w (And.intro hs.b hsb))
  (refine run ?_; repeat' (first | with_reducible exact trivial | ((with_reducible apply Fork.mk) <;> intro hb) | with_reducible apply Two.mk))
  exact Fin.out hR ⟨hfin, rfl⟩
theorem wtruth_ok (G : Gl) (hG : GClosed G) (t : Bool) (w b g : Nat) (bs : Str) (H : List Blk) (hw : WrOK H w b g bs) (hl : bs.length + 1 < 1099511627776) :
    ACall Tryz.prog G 80 [.ptr w 0 0 0, .bool t] H (fun r H' => H' = wset H w b (g + 1) (bs ++ truS t) ∧ r = .tuple []) := by
  have k : ∀ n : Nat, n < 2 → ACall Tryz.prog G 78 [.ptr w 0 0 0, .list 1 [.int .i64 n]] H (fun r H' => H' = wset H w b (g + 1) (bs ++ numS n) ∧ r = .tuple []) := fun n hn => by
    have hz : numS (n : Int) = [UInt8.ofNat (2 * n)] := by
      rw [numS, zz, if_pos (by omega), vb_lt (by omega)]; congr 2
    have := wnum_ok G hG [(n : Int)] w b g bs H hw (fun m hm => by rw [List.mem_singleton.1 hm]; exact ⟨by omega, by omega⟩) (by rw [numsS_one, hz]; simpa using hl) (by simp)
    rw [numsS_one, hz] at this
    rw [hz]
    exact this
  have c1 := k 0 (by omega)
  have c2 := k 1 (by omega)
  cases t with
  | true =>
    refine ACall.of_go TB [] tabOK _ Tryz.func80 rfl (by decide) Tryz.ntmps80 (by simp) rfl (by simp only [initEnv, Nat.reduceAdd]; rfl) fun C R' hR hC hcl hB => ?_; have X := noX; have hC' := congrArg List.length hC
    (refine run ?_; repeat' (first | with_reducible exact trivial | ((with_reducible apply Fork.mk) <;> intro hb) | with_reducible apply Two.mk))
    exact Fin.out hR ⟨rfl, rfl⟩
  | false =>
    refine ACall.of_go TB [] tabOK _ Tryz.func80 rfl (by decide) Tryz.ntmps80 (by simp) rfl (by simp only [initEnv, Nat.reduceAdd]; rfl) fun C R' hR hC hcl hB => ?_; have X := noX; have hC' := congrArg List.length hC
    (refine run ?_; repeat' (first | with_reducible exact trivial | ((with_reducible apply Fork.mk) <;> intro hb) | with_reducible apply Two.mk))
    exact Fin.out hR ⟨rfl, rfl⟩
end Go.Proofs.YthgdcjenoiojeaaGreatDoor
end

section
namespace Go.Proofs.YthgdcjenoiojeaaGreatDoor
open Go
set_option linter.unusedSimpArgs false
set_option linter.unusedVariables false
set_option maxRecDepth 10000
set_option maxHeartbeats 4000000

/-! ### images -/
structure Con where
  name : Str
  arity : Int
  tag : Int
  family : Int
def Con.cells (c : Con) : List SV := [.str c.name, .int .i64 c.arity, .int .i64 c.tag, .int .i64 c.family]
structure Glb where
  kind : Int
  n : Int
  args : List (Int × Int)
abbrev encR : Int × Int → SV := fun x => .agg [.int .i64 x.1, .int .i64 x.2]
def Glb.cells (g : Glb) : List SV := [.int .i64 g.kind, .int .i64 g.n, .list 2 (g.args.map encR)]
structure Img where
  cons : List Con
  funcs : List Fun
  globals : List Glb
  main : Int
def consL (l : List Con) : List SV := l.map fun c => .agg c.cells
def funsL (l : List Fun) : List SV := l.map fun f => .agg f.cells
def glbsL (l : List Glb) : List SV := l.map fun g => .agg g.cells
def Img.cells (m : Img) : List SV := [.list 4 (consL m.cons), .list 7 (funsL m.funcs), .list 3 (glbsL m.globals), .int .i64 m.main]
theorem Fun.cells_len (f : Fun) : f.cells.length = 7 := rfl
theorem Glb.cells_len (g : Glb) : g.cells.length = 3 := rfl
theorem Con.cells_len (c : Con) : c.cells.length = 4 := rfl
attribute [go_sem] Fun.cells_len Glb.cells_len Con.cells_len
theorem consL_len (l : List Con) : (consL l).length = l.length := by simp [consL]
theorem funsL_len (l : List Fun) : (funsL l).length = l.length := by simp [funsL]
theorem glbsL_len (l : List Glb) : (glbsL l).length = l.length := by simp [glbsL]
attribute [go_sem] consL_len funsL_len glbsL_len
theorem Con.cells_under (n : Nat) (c : Con) : SV.underL n c.cells = true := rfl
theorem Glb.cells_under (n : Nat) (g : Glb) : SV.underL n g.cells = true := by
  simp only [Glb.cells, SV.underL, SV.under, SV.underL_map (f := encR) (fun _ _ => rfl), Bool.and_self]
theorem consL_under (n : Nat) (l : List Con) : SV.underL n (consL l) = true := SV.underL_map fun i _ => Con.cells_under n i
theorem funsL_under (n : Nat) (l : List Fun) : SV.underL n (funsL l) = true := SV.underL_map fun i _ => Fun.cells_under n i
theorem glbsL_under (n : Nat) (l : List Glb) : SV.underL n (glbsL l) = true := SV.underL_map fun i _ => Glb.cells_under n i
theorem Img.cells_under (n : Nat) (m : Img) : SV.underL n m.cells = true := by
  simp only [Img.cells, SV.underL, SV.under, consL_under, funsL_under, glbsL_under, Bool.and_self]

theorem idxP_any {α : Type} (p : α → Bool) (l : List α) : (match l.findIdx? p with | some i => decide (0 ≤ (i : Int)) | none => false) = l.any p := by
  cases h : l.findIdx? p with
  | none => rw [List.findIdx?_eq_none_iff] at h; simp only; symm; rw [List.any_eq_false]; intro x hx; simp [h x hx]
  | some i =>
    obtain ⟨hi, hp, _⟩ := List.findIdx?_eq_some_iff_getElem.1 h
    have : (0 : Int) ≤ i := by omega
    simp only [this, decide_true]
    symm; rw [List.any_eq_true]
    exact ⟨_, List.getElem_mem hi, hp⟩

theorem anyFun_ok (G : Gl) (hG : GClosed G) (f : SV) (p : Fun → Bool) (V : List (Fun)) (H : List Blk) (hl : V.length < 1125899906842624) (hfu : f.under H.length = true)
    (hf : ∀ x ∈ V, ACallV Tryz.prog G f [(fun x : Fun => SV.agg x.cells) x] H (fun r H' => H' = H ∧ r = .bool (p x))) :
    ACall Tryz.prog G 54 [.list 7 (V.map (fun x : Fun => SV.agg x.cells)), f] H (fun r H' => H' = H ∧ r = .bool (V.any p)) := by
  have hidx : ACall Tryz.prog G 70 [.list 7 (V.map (fun x : Fun => SV.agg x.cells)), f] H (fun r H' => H' = H ∧ r = .int .i64 (match V.findIdx? p with | some i => (i : Int) | none => -1)) := by
    have hlm : (V.map (fun x : Fun => SV.agg x.cells)).length = V.length := by simp
    refine ACall.of_go TB [] tabOK _ Tryz.func70 rfl (by decide) Tryz.ntmps70 (by simp) rfl (by simp only [initEnv, Nat.reduceAdd]; rfl) fun C R' hR hC hcl hB => ?_; have X := noX; have hC' := congrArg List.length hC
    have X := And.intro X hlm
    have hcl1 := hcl
    (refine run ?_; repeat' (first | with_reducible exact trivial | ((with_reducible apply Fork.mk) <;> intro hb) | with_reducible apply Two.mk))
    refine go_loop (fun k : Nat => [(0, .list 7 (V.map (fun x : Fun => SV.agg x.cells))), (1, f), (7, .int .i64 V.length), (8, .int .i64 k)]) (fun _ => H) (fun k => V.length - k) (fun k => k ≤ V.length ∧ ∀ x ∈ V.take k, p x = false) 0 ⟨Nat.zero_le _, by simp⟩ (Wk.sub (by simp [subEnv, look])) ?_
    rintro K k ⟨hk, hno⟩ hK
    rcases Nat.lt_or_ge k V.length with hlt | hge
    · have e1 : (V.map (fun x : Fun => SV.agg x.cells))[k]? = some (SV.agg V[k].cells) := by simp [hlt]
      have hfk := hf V[k] (List.getElem_mem hlt)
      simp only at hfk
      have X := And.intro X e1
      (refine run ?_; repeat' (first | with_reducible exact trivial | ((with_reducible apply Fork.mk) <;> intro hb) | with_reducible apply Two.mk))
      refine callV hfk ?_
      rintro r H' ⟨rfl, rfl⟩
      (refine run ?_; repeat' (first | with_reducible exact trivial | ((with_reducible apply Fork.mk) <;> intro hb) | with_reducible apply Two.mk))
      · have hfi : V.findIdx? p = some k := by
          rw [List.findIdx?_eq_some_iff_getElem]
          refine ⟨hlt, by simpa using hb, fun j hj => ?_⟩
          have := hno (V[j]'(by omega)) (by rw [List.mem_take_iff_getElem]; exact ⟨j, by omega, rfl⟩)
          simp [this]
        refine Fin.out hR ⟨rfl, ?_⟩
        simp only [resSV, hfi]
      · refine hK _ _ (k + 1) (by omega) ⟨by omega, ?_⟩ (Wk.sub (by simp [subEnv, look]))
        rw [List.take_succ_eq_append_getElem hlt]
        intro x hx
        rcases List.mem_append.1 hx with hx | hx
        · exact hno x hx
        · rw [List.mem_singleton.1 hx]; exact hb
    · have : k = V.length := by omega
      subst this
      clear hK
      have X := And.intro X (Int.lt_irrefl (V.length : Int))
      (refine run ?_; repeat' (first | with_reducible exact trivial | ((with_reducible apply Fork.mk) <;> intro hb) | with_reducible apply Two.mk))
      have hfi : V.findIdx? p = none := by rw [List.findIdx?_eq_none_iff]; rw [List.take_length] at hno; exact hno
      refine Fin.out hR ⟨rfl, ?_⟩
      simp only [resSV, hfi]
  have h2 := idxP_any p V
  generalize hI : (match V.findIdx? p with | some i => (i : Int) | none => -1) = I at hidx
  refine ACall.of_go TB [] tabOK _ Tryz.func54 rfl (by decide) Tryz.ntmps54 (by simp) rfl (by simp only [initEnv, Nat.reduceAdd]; rfl) fun C R' hR hC hcl hB => ?_; have X := noX; have hC' := congrArg List.length hC
  (refine run ?_; repeat' (first | with_reducible exact trivial | ((with_reducible apply Fork.mk) <;> intro hb) | with_reducible apply Two.mk))
  refine callS hidx ?_
  rintro r H' ⟨rfl, rfl⟩
  (refine run ?_; repeat' (first | with_reducible exact trivial | ((with_reducible apply Fork.mk) <;> intro hb) | with_reducible apply Two.mk))
  refine Fin.out hR ⟨rfl, ?_⟩
  rw [← h2, ← hI]
  simp only [resSV]
  cases V.findIdx? p with
  | none => rfl
  | some i => rfl

theorem anyIns_ok (G : Gl) (hG : GClosed G) (f : SV) (p : Ins → Bool) (V : List (Ins)) (H : List Blk) (hl : V.length < 1125899906842624) (hfu : f.under H.length = true)
    (hf : ∀ x ∈ V, ACallV Tryz.prog G f [(fun x : Ins => SV.agg x.cells) x] H (fun r H' => H' = H ∧ r = .bool (p x))) :
    ACall Tryz.prog G 71 [.list 6 (V.map (fun x : Ins => SV.agg x.cells)), f] H (fun r H' => H' = H ∧ r = .bool (V.any p)) := by
  have hidx : ACall Tryz.prog G 100 [.list 6 (V.map (fun x : Ins => SV.agg x.cells)), f] H (fun r H' => H' = H ∧ r = .int .i64 (match V.findIdx? p with | some i => (i : Int) | none => -1)) := by
    have hlm : (V.map (fun x : Ins => SV.agg x.cells)).length = V.length := by simp
    refine ACall.of_go TB [] tabOK _ Tryz.func100 rfl (by decide) Tryz.ntmps100 (by simp) rfl (by simp only [initEnv, Nat.reduceAdd]; rfl) fun C R' hR hC hcl hB => ?_; have X := noX; have hC' := congrArg List.length hC
    have X := And.intro X hlm
    have hcl1 := hcl
    (refine run ?_; repeat' (first | with_reducible exact trivial | ((with_reducible apply Fork.mk) <;> intro hb) | with_reducible apply Two.mk))
    refine go_loop (fun k : Nat => [(0, .list 6 (V.map (fun x : Ins => SV.agg x.cells))), (1, f), (7, .int .i64 V.length), (8, .int .i64 k)]) (fun _ => H) (fun k => V.length - k) (fun k => k ≤ V.length ∧ ∀ x ∈ V.take k, p x = false) 0 ⟨Nat.zero_le _, by simp⟩ (Wk.sub (by simp [subEnv, look])) ?_
    rintro K k ⟨hk, hno⟩ hK
    rcases Nat.lt_or_ge k V.length with hlt | hge
    · have e1 : (V.map (fun x : Ins => SV.agg x.cells))[k]? = some (SV.agg V[k].cells) := by simp [hlt]
      have hfk := hf V[k] (List.getElem_mem hlt)
      simp only at hfk
      have X := And.intro X e1
      (refine run ?_; repeat' (first | with_reducible exact trivial | ((with_reducible apply Fork.mk) <;> intro hb) | with_reducible apply Two.mk))
      refine callV hfk ?_
      rintro r H' ⟨rfl, rfl⟩
      (refine run ?_; repeat' (first | with_reducible exact trivial | ((with_reducible apply Fork.mk) <;> intro hb) | with_reducible apply Two.mk))
      · have hfi : V.findIdx? p = some k := by
          rw [List.findIdx?_eq_some_iff_getElem]
          refine ⟨hlt, by simpa using hb, fun j hj => ?_⟩
          have := hno (V[j]'(by omega)) (by rw [List.mem_take_iff_getElem]; exact ⟨j, by omega, rfl⟩)
          simp [this]
        refine Fin.out hR ⟨rfl, ?_⟩
        simp only [resSV, hfi]
      · refine hK _ _ (k + 1) (by omega) ⟨by omega, ?_⟩ (Wk.sub (by simp [subEnv, look]))
        rw [List.take_succ_eq_append_getElem hlt]
        intro x hx
        rcases List.mem_append.1 hx with hx | hx
        · exact hno x hx
        · rw [List.mem_singleton.1 hx]; exact hb
    · have : k = V.length := by omega
      subst this
      clear hK
      have X := And.intro X (Int.lt_irrefl (V.length : Int))
      (refine run ?_; repeat' (first | with_reducible exact trivial | ((with_reducible apply Fork.mk) <;> intro hb) | with_reducible apply Two.mk))
      have hfi : V.findIdx? p = none := by rw [List.findIdx?_eq_none_iff]; rw [List.take_length] at hno; exact hno
      refine Fin.out hR ⟨rfl, ?_⟩
      simp only [resSV, hfi]
  have h2 := idxP_any p V
  generalize hI : (match V.findIdx? p with | some i => (i : Int) | none => -1) = I at hidx
  refine ACall.of_go TB [] tabOK _ Tryz.func71 rfl (by decide) Tryz.ntmps71 (by simp) rfl (by simp only [initEnv, Nat.reduceAdd]; rfl) fun C R' hR hC hcl hB => ?_; have X := noX; have hC' := congrArg List.length hC
  (refine run ?_; repeat' (first | with_reducible exact trivial | ((with_reducible apply Fork.mk) <;> intro hb) | with_reducible apply Two.mk))
  refine callS hidx ?_
  rintro r H' ⟨rfl, rfl⟩
  (refine run ?_; repeat' (first | with_reducible exact trivial | ((with_reducible apply Fork.mk) <;> intro hb) | with_reducible apply Two.mk))
  refine Fin.out hR ⟨rfl, ?_⟩
  rw [← h2, ← hI]
  simp only [resSV]
  cases V.findIdx? p with
  | none => rfl
  | some i => rfl

theorem anyGlb_ok (G : Gl) (hG : GClosed G) (f : SV) (p : Glb → Bool) (V : List (Glb)) (H : List Blk) (hl : V.length < 1125899906842624) (hfu : f.under H.length = true)
    (hf : ∀ x ∈ V, ACallV Tryz.prog G f [(fun x : Glb => SV.agg x.cells) x] H (fun r H' => H' = H ∧ r = .bool (p x))) :
    ACall Tryz.prog G 57 [.list 3 (V.map (fun x : Glb => SV.agg x.cells)), f] H (fun r H' => H' = H ∧ r = .bool (V.any p)) := by
  have hidx : ACall Tryz.prog G 75 [.list 3 (V.map (fun x : Glb => SV.agg x.cells)), f] H (fun r H' => H' = H ∧ r = .int .i64 (match V.findIdx? p with | some i => (i : Int) | none => -1)) := by
    have hlm : (V.map (fun x : Glb => SV.agg x.cells)).length = V.length := by simp
    refine ACall.of_go TB [] tabOK _ Tryz.func75 rfl (by decide) Tryz.ntmps75 (by simp) rfl (by simp only [initEnv, Nat.reduceAdd]; rfl) fun C R' hR hC hcl hB => ?_; have X := noX; have hC' := congrArg List.length hC
    have X := And.intro X hlm
    have hcl1 := hcl
    (refine run ?_; repeat' (first | with_reducible exact trivial | ((with_reducible apply Fork.mk) <;> intro hb) | with_reducible apply Two.mk))
    refine go_loop (fun k : Nat => [(0, .list 3 (V.map (fun x : Glb => SV.agg x.cells))), (1, f), (7, .int .i64 V.length), (8, .int .i64 k)]) (fun _ => H) (fun k => V.length - k) (fun k => k ≤ V.length ∧ ∀ x ∈ V.take k, p x = false) 0 ⟨Nat.zero_le _, by simp⟩ (Wk.sub (by simp [subEnv, look])) ?_
    rintro K k ⟨hk, hno⟩ hK
    rcases Nat.lt_or_ge k V.length with hlt | hge
    · have e1 : (V.map (fun x : Glb => SV.agg x.cells))[k]? = some (SV.agg V[k].cells) := by simp [hlt]
      have hfk := hf V[k] (List.getElem_mem hlt)
      simp only at hfk
      have X := And.intro X e1
      (refine run ?_; repeat' (first | with_reducible exact trivial | ((with_reducible apply Fork.mk) <;> intro hb) | with_reducible apply Two.mk))
      refine callV hfk ?_
      rintro r H' ⟨rfl, rfl⟩
      (refine run ?_; repeat' (first | with_reducible exact trivial | ((with_reducible apply Fork.mk) <;> intro hb) | with_reducible apply Two.mk))
      · have hfi : V.findIdx? p = some k := by
          rw [List.findIdx?_eq_some_iff_getElem]
          refine ⟨hlt, by simpa using hb, fun j hj => ?_⟩
          have := hno (V[j]'(by omega)) (by rw [List.mem_take_iff_getElem]; exact ⟨j, by omega, rfl⟩)
          simp [this]
        refine Fin.out hR ⟨rfl, ?_⟩
        simp only [resSV, hfi]
      · refine hK _ _ (k + 1) (by omega) ⟨by omega, ?_⟩ (Wk.sub (by simp [subEnv, look]))
        rw [List.take_succ_eq_append_getElem hlt]
        intro x hx
        rcases List.mem_append.1 hx with hx | hx
        · exact hno x hx
        · rw [List.mem_singleton.1 hx]; exact hb
    · have : k = V.length := by omega
      subst this
      clear hK
      have X := And.intro X (Int.lt_irrefl (V.length : Int))
      (refine run ?_; repeat' (first | with_reducible exact trivial | ((with_reducible apply Fork.mk) <;> intro hb) | with_reducible apply Two.mk))
      have hfi : V.findIdx? p = none := by rw [List.findIdx?_eq_none_iff]; rw [List.take_length] at hno; exact hno
      refine Fin.out hR ⟨rfl, ?_⟩
      simp only [resSV, hfi]
  have h2 := idxP_any p V
  generalize hI : (match V.findIdx? p with | some i => (i : Int) | none => -1) = I at hidx
  refine ACall.of_go TB [] tabOK _ Tryz.func57 rfl (by decide) Tryz.ntmps57 (by simp) rfl (by simp only [initEnv, Nat.reduceAdd]; rfl) fun C R' hR hC hcl hB => ?_; have X := noX; have hC' := congrArg List.length hC
  (refine run ?_; repeat' (first | with_reducible exact trivial | ((with_reducible apply Fork.mk) <;> intro hb) | with_reducible apply Two.mk))
  refine callS hidx ?_
  rintro r H' ⟨rfl, rfl⟩
  (refine run ?_; repeat' (first | with_reducible exact trivial | ((with_reducible apply Fork.mk) <;> intro hb) | with_reducible apply Two.mk))
  refine Fin.out hR ⟨rfl, ?_⟩
  rw [← h2, ← hI]
  simp only [resSV]
  cases V.findIdx? p with
  | none => rfl
  | some i => rfl

theorem anyRef_ok (G : Gl) (hG : GClosed G) (f : SV) (p : Int × Int → Bool) (V : List (Int × Int)) (H : List Blk) (hl : V.length < 1125899906842624) (hfu : f.under H.length = true)
    (hf : ∀ x ∈ V, ACallV Tryz.prog G f [(fun x : Int × Int => SV.agg [.int .i64 x.1, .int .i64 x.2]) x] H (fun r H' => H' = H ∧ r = .bool (p x))) :
    ACall Tryz.prog G 76 [.list 2 (V.map (fun x : Int × Int => SV.agg [.int .i64 x.1, .int .i64 x.2])), f] H (fun r H' => H' = H ∧ r = .bool (V.any p)) := by
  have hidx : ACall Tryz.prog G 106 [.list 2 (V.map (fun x : Int × Int => SV.agg [.int .i64 x.1, .int .i64 x.2])), f] H (fun r H' => H' = H ∧ r = .int .i64 (match V.findIdx? p with | some i => (i : Int) | none => -1)) := by
    have hlm : (V.map (fun x : Int × Int => SV.agg [.int .i64 x.1, .int .i64 x.2])).length = V.length := by simp
    refine ACall.of_go TB [] tabOK _ Tryz.func106 rfl (by decide) Tryz.ntmps106 (by simp) rfl (by simp only [initEnv, Nat.reduceAdd]; rfl) fun C R' hR hC hcl hB => ?_; have X := noX; have hC' := congrArg List.length hC
    have X := And.intro X hlm
    have hcl1 := hcl
    (refine run ?_; repeat' (first | with_reducible exact trivial | ((with_reducible apply Fork.mk) <;> intro hb) | with_reducible apply Two.mk))
    refine go_loop (fun k : Nat => [(0, .list 2 (V.map (fun x : Int × Int => SV.agg [.int .i64 x.1, .int .i64 x.2]))), (1, f), (7, .int .i64 V.length), (8, .int .i64 k)]) (fun _ => H) (fun k => V.length - k) (fun k => k ≤ V.length ∧ ∀ x ∈ V.take k, p x = false) 0 ⟨Nat.zero_le _, by simp⟩ (Wk.sub (by simp [subEnv, look])) ?_
    rintro K k ⟨hk, hno⟩ hK
    rcases Nat.lt_or_ge k V.length with hlt | hge
    · have e1 : (V.map (fun x : Int × Int => SV.agg [.int .i64 x.1, .int .i64 x.2]))[k]? = some (SV.agg [.int .i64 V[k].1, .int .i64 V[k].2]) := by simp [hlt]
      have hfk := hf V[k] (List.getElem_mem hlt)
      simp only at hfk
      have X := And.intro X e1
      (refine run ?_; repeat' (first | with_reducible exact trivial | ((with_reducible apply Fork.mk) <;> intro hb) | with_reducible apply Two.mk))
      refine callV hfk ?_
      rintro r H' ⟨rfl, rfl⟩
      (refine run ?_; repeat' (first | with_reducible exact trivial | ((with_reducible apply Fork.mk) <;> intro hb) | with_reducible apply Two.mk))
      · have hfi : V.findIdx? p = some k := by
          rw [List.findIdx?_eq_some_iff_getElem]
          refine ⟨hlt, by simpa using hb, fun j hj => ?_⟩
          have := hno (V[j]'(by omega)) (by rw [List.mem_take_iff_getElem]; exact ⟨j, by omega, rfl⟩)
          simp [this]
        refine Fin.out hR ⟨rfl, ?_⟩
        simp only [resSV, hfi]
      · refine hK _ _ (k + 1) (by omega) ⟨by omega, ?_⟩ (Wk.sub (by simp [subEnv, look]))
        rw [List.take_succ_eq_append_getElem hlt]
        intro x hx
        rcases List.mem_append.1 hx with hx | hx
        · exact hno x hx
        · rw [List.mem_singleton.1 hx]; exact hb
    · have : k = V.length := by omega
      subst this
      clear hK
      have X := And.intro X (Int.lt_irrefl (V.length : Int))
      (refine run ?_; repeat' (first | with_reducible exact trivial | ((with_reducible apply Fork.mk) <;> intro hb) | with_reducible apply Two.mk))
      have hfi : V.findIdx? p = none := by rw [List.findIdx?_eq_none_iff]; rw [List.take_length] at hno; exact hno
      refine Fin.out hR ⟨rfl, ?_⟩
      simp only [resSV, hfi]
  have h2 := idxP_any p V
  generalize hI : (match V.findIdx? p with | some i => (i : Int) | none => -1) = I at hidx
  refine ACall.of_go TB [] tabOK _ Tryz.func76 rfl (by decide) Tryz.ntmps76 (by simp) rfl (by simp only [initEnv, Nat.reduceAdd]; rfl) fun C R' hR hC hcl hB => ?_; have X := noX; have hC' := congrArg List.length hC
  (refine run ?_; repeat' (first | with_reducible exact trivial | ((with_reducible apply Fork.mk) <;> intro hb) | with_reducible apply Two.mk))
  refine callS hidx ?_
  rintro r H' ⟨rfl, rfl⟩
  (refine run ?_; repeat' (first | with_reducible exact trivial | ((with_reducible apply Fork.mk) <;> intro hb) | with_reducible apply Two.mk))
  refine Fin.out hR ⟨rfl, ?_⟩
  rw [← h2, ← hI]
  simp only [resSV]
  cases V.findIdx? p with
  | none => rfl
  | some i => rfl

theorem anyInt_ok (G : Gl) (hG : GClosed G) (f : SV) (p : Int → Bool) (V : List (Int)) (H : List Blk) (hl : V.length < 1125899906842624) (hfu : f.under H.length = true)
    (hf : ∀ x ∈ V, ACallV Tryz.prog G f [(fun x : Int => SV.int .i64 x) x] H (fun r H' => H' = H ∧ r = .bool (p x))) :
    ACall Tryz.prog G 103 [.list 1 (V.map (fun x : Int => SV.int .i64 x)), f] H (fun r H' => H' = H ∧ r = .bool (V.any p)) := by
  have hidx : ACall Tryz.prog G 116 [.list 1 (V.map (fun x : Int => SV.int .i64 x)), f] H (fun r H' => H' = H ∧ r = .int .i64 (match V.findIdx? p with | some i => (i : Int) | none => -1)) := by
    have hlm : (V.map (fun x : Int => SV.int .i64 x)).length = V.length := by simp
    refine ACall.of_go TB [] tabOK _ Tryz.func116 rfl (by decide) Tryz.ntmps116 (by simp) rfl (by simp only [initEnv, Nat.reduceAdd]; rfl) fun C R' hR hC hcl hB => ?_; have X := noX; have hC' := congrArg List.length hC
    have X := And.intro X hlm
    have hcl1 := hcl
    (refine run ?_; repeat' (first | with_reducible exact trivial | ((with_reducible apply Fork.mk) <;> intro hb) | with_reducible apply Two.mk))
    refine go_loop (fun k : Nat => [(0, .list 1 (V.map (fun x : Int => SV.int .i64 x))), (1, f), (7, .int .i64 V.length), (8, .int .i64 k)]) (fun _ => H) (fun k => V.length - k) (fun k => k ≤ V.length ∧ ∀ x ∈ V.take k, p x = false) 0 ⟨Nat.zero_le _, by simp⟩ (Wk.sub (by simp [subEnv, look])) ?_
    rintro K k ⟨hk, hno⟩ hK
    rcases Nat.lt_or_ge k V.length with hlt | hge
    · have e1 : (V.map (fun x : Int => SV.int .i64 x))[k]? = some (SV.int .i64 V[k]) := by simp [hlt]
      have hfk := hf V[k] (List.getElem_mem hlt)
      simp only at hfk
      have X := And.intro X e1
      (refine run ?_; repeat' (first | with_reducible exact trivial | ((with_reducible apply Fork.mk) <;> intro hb) | with_reducible apply Two.mk))
      refine callV hfk ?_
      rintro r H' ⟨rfl, rfl⟩
      (refine run ?_; repeat' (first | with_reducible exact trivial | ((with_reducible apply Fork.mk) <;> intro hb) | with_reducible apply Two.mk))
      · have hfi : V.findIdx? p = some k := by
          rw [List.findIdx?_eq_some_iff_getElem]
          refine ⟨hlt, by simpa using hb, fun j hj => ?_⟩
          have := hno (V[j]'(by omega)) (by rw [List.mem_take_iff_getElem]; exact ⟨j, by omega, rfl⟩)
          simp [this]
        refine Fin.out hR ⟨rfl, ?_⟩
        simp only [resSV, hfi]
      · refine hK _ _ (k + 1) (by omega) ⟨by omega, ?_⟩ (Wk.sub (by simp [subEnv, look]))
        rw [List.take_succ_eq_append_getElem hlt]
        intro x hx
        rcases List.mem_append.1 hx with hx | hx
        · exact hno x hx
        · rw [List.mem_singleton.1 hx]; exact hb
    · have : k = V.length := by omega
      subst this
      clear hK
      have X := And.intro X (Int.lt_irrefl (V.length : Int))
      (refine run ?_; repeat' (first | with_reducible exact trivial | ((with_reducible apply Fork.mk) <;> intro hb) | with_reducible apply Two.mk))
      have hfi : V.findIdx? p = none := by rw [List.findIdx?_eq_none_iff]; rw [List.take_length] at hno; exact hno
      refine Fin.out hR ⟨rfl, ?_⟩
      simp only [resSV, hfi]
  have h2 := idxP_any p V
  generalize hI : (match V.findIdx? p with | some i => (i : Int) | none => -1) = I at hidx
  refine ACall.of_go TB [] tabOK _ Tryz.func103 rfl (by decide) Tryz.ntmps103 (by simp) rfl (by simp only [initEnv, Nat.reduceAdd]; rfl) fun C R' hR hC hcl hB => ?_; have X := noX; have hC' := congrArg List.length hC
  (refine run ?_; repeat' (first | with_reducible exact trivial | ((with_reducible apply Fork.mk) <;> intro hb) | with_reducible apply Two.mk))
  refine callS hidx ?_
  rintro r H' ⟨rfl, rfl⟩
  (refine run ?_; repeat' (first | with_reducible exact trivial | ((with_reducible apply Fork.mk) <;> intro hb) | with_reducible apply Two.mk))
  refine Fin.out hR ⟨rfl, ?_⟩
  rw [← h2, ← hI]
  simp only [resSV]
  cases V.findIdx? p with
  | none => rfl
  | some i => rfl
end Go.Proofs.YthgdcjenoiojeaaGreatDoor
end

section
namespace Go.Proofs.YthgdcjenoiojeaaGreatDoor
open Go
set_option linter.unusedSimpArgs false
set_option linter.unusedVariables false
set_option maxRecDepth 10000
set_option maxHeartbeats 4000000

def inR (n lo hi : Int) : Bool := decide (lo ≤ n) && decide (n ≤ hi)
theorem within_ok (G : Gl) (hG : GClosed G) (n lo hi : Int) (H : List Blk) : ACall Tryz.prog G 52 [.int .i64 n, .int .i64 lo, .int .i64 hi] H (fun r H' => H' = H ∧ r = .bool (inR n lo hi)) := by
  refine ACall.of_go TB [] tabOK _ Tryz.func52 rfl (by decide) Tryz.ntmps52 (by simp) rfl (by simp only [initEnv, Nat.reduceAdd]; rfl) fun C R' hR hC hcl hB => ?_; have X := noX; have hC' := congrArg List.length hC
  (refine run ?_; repeat' (first | with_reducible exact trivial | ((with_reducible apply Fork.mk) <;> intro hb) | with_reducible apply Two.mk))
  all_goals exact Fin.out hR ⟨rfl, rfl⟩
/-- a field that names a slot -/
def slotB (has : Bool) (top n : Int) : Bool := if has then inR n 0 (top - 1) else decide (n = 0)
theorem slot_ok (G : Gl) (hG : GClosed G) (own top bit n : Int) (has : Bool) (b1 b2' : Nat) (H : List Blk) (h1 : H[b1]? = some (.cells 0 1 [.int .i64 own])) (h2 : H[b2']? = some (.cells 0 1 [.int .i64 top]))
    (hbit : bitsI .and .i64 own bit = some (b2 has bit)) (hz : decide (b2 has bit = 0) = !has) (ht : -1099511627776 < top ∧ top < 1099511627776) :
    ACall Tryz.prog G 101 [.int .i64 bit, .int .i64 n, .ptr b1 0 0 0, .ptr b2' 0 0 0] H (fun r H' => H' = H ∧ r = .bool (slotB has top n)) := by
  have c1 := fun n hi H => within_ok G hG n 0 hi H
  have hl1 := (List.getElem?_eq_some_iff.1 h1).1
  have hl2 := (List.getElem?_eq_some_iff.1 h2).1
  refine ACall.of_go TB [] tabOK _ Tryz.func101 rfl (by decide) Tryz.ntmps101 (by simp) rfl (by simp only [initEnv, Nat.reduceAdd]; rfl) fun C R' hR hC hcl hB => ?_; have X := noX; have hC' := congrArg List.length hC
  have X := And.intro X (And.intro (getX h1) (And.intro (getX h2) (And.intro hbit hz)))
  cases has with
  | false =>
    (refine run ?_; repeat' (first | with_reducible exact trivial | ((with_reducible apply Fork.mk) <;> intro hb) | with_reducible apply Two.mk))
    all_goals exact Fin.out hR ⟨rfl, rfl⟩
  | true =>
    (refine run ?_; repeat' (first | with_reducible exact trivial | ((with_reducible apply Fork.mk) <;> intro hb) | with_reducible apply Two.mk))
    all_goals exact Fin.out hR ⟨rfl, rfl⟩
theorem place_ok (G : Gl) (hG : GClosed G) (n : Int) (code : List Ins) (fc : List SV) (b : Nat) (H : List Blk) (hb : H[b]? = some (.cells 0 7 [.agg fc])) (hfcl : fc.length = 7) (hfc6 : fc[6]? = some (.list 6 (insL code))) (hn : code.length < 1125899906842624) :
    ACall Tryz.prog G 102 [.int .i64 n, .ptr b 0 0 0] H (fun r H' => H' = H ∧ r = .bool (inR n 0 ((code.length : Int) - 1))) := by
  have c1 := fun n hi H => within_ok G hG n 0 hi H
  have hl1 := (List.getElem?_eq_some_iff.1 hb).1
  refine ACall.of_go TB [] tabOK _ Tryz.func102 rfl (by decide) Tryz.ntmps102 (by simp) rfl (by simp only [initEnv, Nat.reduceAdd]; rfl) fun C R' hR hC hcl hB => ?_; have X := noX; have hC' := congrArg List.length hC
  have X := And.intro X (And.intro (getX hb) (And.intro hfcl hfc6))
  (refine run ?_; repeat' (first | with_reducible exact trivial | ((with_reducible apply Fork.mk) <;> intro hb) | with_reducible apply Two.mk))
  all_goals exact Fin.out hR ⟨rfl, rfl⟩
theorem notIn_ok (G : Gl) (hG : GClosed G) (n frame : Int) (fc : List SV) (b : Nat) (H : List Blk) (hb : H[b]? = some (.cells 0 7 [.agg fc])) (hfcl : fc.length = 7) (hfc5 : fc[5]? = some (.int .i64 frame)) (hfr : 0 ≤ frame ∧ frame ≤ 65536) :
    ACall Tryz.prog G 104 [.int .i64 n, .ptr b 0 0 0] H (fun r H' => H' = H ∧ r = .bool (!inR n 0 (frame - 1))) := by
  have c1 := fun n hi H => within_ok G hG n 0 hi H
  have hl1 := (List.getElem?_eq_some_iff.1 hb).1
  refine ACall.of_go TB [] tabOK _ Tryz.func104 rfl (by decide) Tryz.ntmps104 (by simp) rfl (by simp only [initEnv, Nat.reduceAdd]; rfl) fun C R' hR hC hcl hB => ?_; have X := noX; have hC' := congrArg List.length hC
  have X := And.intro X (And.intro (getX hb) (And.intro hfcl hfc5))
  (refine run ?_; repeat' (first | with_reducible exact trivial | ((with_reducible apply Fork.mk) <;> intro hb) | with_reducible apply Two.mk))
  all_goals exact Fin.out hR ⟨rfl, rfl⟩
/-- no place -/
def badP (op : Int) (len : Nat) (n : Int) : Bool := !inR n 0 ((len : Int) - 1) && !(decide (op = 21) && decide (n = -1))
theorem badP_ok (G : Gl) (hG : GClosed G) (n op : Int) (code : List Ins) (fc ic : List SV) (b bf bi : Nat) (H : List Blk) (hb : H[b]? = some (.cells 0 7 [.agg fc])) (hfcl : fc.length = 7) (hfc6 : fc[6]? = some (.list 6 (insL code))) (hn : code.length < 1125899906842624)
    (hf : H[bf]? = some (.cells 0 1 [.fn (.func 102) [] [.ptr b 0 0 0]])) (hi : H[bi]? = some (.cells 0 6 [.agg ic])) (hicl : ic.length = 6) (hic : ic[0]? = some (.int .i64 op)) :
    ACall Tryz.prog G 105 [.int .i64 n, .ptr bf 0 0 0, .ptr bi 0 0 0] H (fun r H' => H' = H ∧ r = .bool (badP op code.length n)) := by
  have v1 : ∀ s, ACallV Tryz.prog G (.fn (.func 102) [] [.ptr b 0 0 0]) [.int .i64 s] H (fun r H' => H' = H ∧ r = .bool (inR s 0 ((code.length : Int) - 1))) := fun s => ACallV.of (place_ok G hG s code fc b H hb hfcl hfc6 hn)
  have hl1 := (List.getElem?_eq_some_iff.1 hf).1
  have hl2 := (List.getElem?_eq_some_iff.1 hi).1
  refine ACall.of_go TB [] tabOK _ Tryz.func105 rfl (by decide) Tryz.ntmps105 (by simp) rfl (by simp only [initEnv, Nat.reduceAdd]; rfl) fun C R' hR hC hcl hB => ?_; have X := noX; have hC' := congrArg List.length hC
  have X := And.intro X (And.intro (getX hf) (And.intro (getX hi) (And.intro hicl hic)))
  (refine run ?_; repeat' (first | with_reducible exact trivial | ((with_reducible apply Fork.mk) <;> intro hb) | with_reducible apply Two.mk))
  all_goals exact Fin.out hR ⟨rfl, rfl⟩
end Go.Proofs.YthgdcjenoiojeaaGreatDoor
end

section
namespace Go.Proofs.YthgdcjenoiojeaaGreatDoor
open Go
set_option linter.unusedSimpArgs false
set_option linter.unusedVariables false
set_option maxRecDepth 10000
set_option maxHeartbeats 4000000

def insTop (op slots frame : Int) : Int := if op = 2 then frame else (if slots < frame then slots else frame)
def lstOK (op frame : Int) (n : Nat) (l : List Int) : Bool := if bitOf 16 op then !(l.any fun n => !inR n 0 (frame - 1)) else if bitOf 32 op then !(l.any (badP op n)) else !decide ((0 : Int) < l.length)
def getA (l : List Con) (n : Int) : Int := match l[n.toNat]? with | some c => c.arity | none => 0
def getF (l : List Fun) (n : Int) : Int := match l[n.toNat]? with | some c => c.free | none => 0
def finOK (m : Img) (len : Nat) (i : Ins) : Bool :=
  if i.op = 12 then inR i.n 0 ((m.cons.length : Int) - 1) && decide (getA m.cons i.n = (i.l.length : Int))
  else if i.op = 13 then inR i.n 0 ((m.funcs.length : Int) - 1) && decide (getF m.funcs i.n = (i.l.length : Int))
  else if i.op = 11 then inR i.n 0 ((m.globals.length : Int) - 1)
  else if i.op = 14 then inR i.n 0 1000
  else if i.op = 20 then inR i.n 0 99
  else if i.op = 21 then inR i.n 0 ((len : Int) - 1) && decide ((i.l.length : Int) ≤ 1000)
  else if i.op = 23 then inR i.n 0 ((len : Int) - 1)
  else if i.op = 22 then decide ((i.l.length : Int) = 1)
  else if i.op = 16 ∨ i.op = 17 then decide ((0 : Int) < i.l.length)
  else true
def insOK (m : Img) (slots : Int) (frame : Int) (len : Nat) (i : Ins) : Bool :=
  !decide (ofS i.op = 0) && slotB (bitOf 1 i.op) (insTop i.op slots frame) i.a && slotB (bitOf 2 i.op) (insTop i.op slots frame) i.b && slotB (bitOf 4 i.op) (insTop i.op slots frame) i.c && (bitOf 8 i.op || decide (i.n = 0)) && lstOK i.op frame len i.l && finOK m len i
theorem bit16 (op : Int) : bitOf 16 op = (decide (op = 12) || decide (op = 13) || decide (op = 16) || decide (op = 17)) := by
  by_cases h : op < 1 ∨ 27 ≤ op
  · have : ofS op = 0 := by unfold ofS; rw [if_pos h]
    simp only [bitOf, this]
    have e : ∀ k : Int, 1 ≤ k → k < 27 → decide (op = k) = false := fun k h1 h2 => by rw [decide_eq_false_iff_not]; omega
    simp only [e 12 (by decide) (by decide), e 13 (by decide) (by decide), e 16 (by decide) (by decide), e 17 (by decide) (by decide)]
    rfl
  · have hk : ∀ k : _root_.Fin 27, bitOf 16 (k.val : Int) = (decide ((k.val : Int) = 12) || decide ((k.val : Int) = 13) || decide ((k.val : Int) = 16) || decide ((k.val : Int) = 17)) := by decide
    have := hk ⟨op.toNat, by omega⟩
    rw [show ((⟨op.toNat, by omega⟩ : _root_.Fin 27).val : Int) = op by simp; omega] at this
    exact this
def chkC (m : Img) (slots : Int) : List SV := m.cells ++ [.int .i64 slots]

theorem insElse_ok (G : Gl) (hG : GClosed G) (hF : GF G) (m : Img) (slots frame : Int) (fc : List SV) (code : List Ins) (hfcl : fc.length = 7) (hfc5 : fc[5]? = some (.int .i64 frame)) (hfc6 : fc[6]? = some (.list 6 (insL code))) (i : Ins) (hn : code.length < 1099511627776) (hl : i.l.length < 1099511627776)
    (hm1 : m.cons.length < 1099511627776) (hm2 : m.funcs.length < 1099511627776) (hm3 : m.globals.length < 1099511627776) (hs : 1 ≤ slots ∧ slots ≤ 65536) (hfr : 0 ≤ frame ∧ frame ≤ 65536) (hop : i.op ≠ 2 ∧ i.op ≠ 11 ∧ i.op ≠ 12 ∧ i.op ≠ 13 ∧ i.op ≠ 14 ∧ i.op ≠ 16 ∧ i.op ≠ 17 ∧ i.op ≠ 20 ∧ i.op ≠ 21 ∧ i.op ≠ 22 ∧ i.op ≠ 23) (c : Nat) (H : List Blk) (hc : H[c]? = some (.cells 0 5 [.agg (chkC m slots)])) :
    ACall Tryz.prog G 73 [.ptr c 0 0 0, .agg fc, .agg i.cells] H (fun r H' => H' = H ∧ r = .bool (insOK m slots frame code.length i)) := by
  have hcl0 := (List.getElem?_eq_some_iff.1 hc).1
  have hmcl : (chkC m slots).length = 5 := rfl
  have hmc0 : (chkC m slots)[0]? = some (.list 4 (consL m.cons)) := rfl
  have hmc1 : (chkC m slots)[1]? = some (.list 7 (funsL m.funcs)) := rfl
  have hmc2 : (chkC m slots)[2]? = some (.list 3 (glbsL m.globals)) := rfl
  have hmc4 : (chkC m slots)[4]? = some (.int .i64 slots) := rfl
  have hgoal : insOK m slots frame code.length i = insOK m slots frame code.length i := rfl
  obtain ⟨op, a, b, c', n, l⟩ := i
  simp only at hop hl
  generalize htop : insTop op slots frame = top
  have htb : -1099511627776 < top ∧ top < 1099511627776 := by subst htop; unfold insTop; (repeat' split) <;> omega
  have hlm : (l.map (SV.int .i64)).length = l.length := by simp
  simp only [insOK, htop] at hgoal
  generalize hmc : chkC m slots = mc at hc hmcl hmc0 hmc1 hmc2 hmc4
  simp only [Ins.cells]
  have hicl : ([.int .i64 op, .int .i64 a, .int .i64 b, .int .i64 c', .int .i64 n, .list 1 (l.map (.int .i64))] : List SV).length = 6 := rfl
  generalize hic : ([.int .i64 op, .int .i64 a, .int .i64 b, .int .i64 c', .int .i64 n, .list 1 (l.map (.int .i64))] : List SV) = ic at hicl
  have i0 : ic[0]? = some (.int .i64 op) := by subst hic; rfl
  have i1 : ic[1]? = some (.int .i64 a) := by subst hic; rfl
  have i2 : ic[2]? = some (.int .i64 b) := by subst hic; rfl
  have i3 : ic[3]? = some (.int .i64 c') := by subst hic; rfl
  have i4 : ic[4]? = some (.int .i64 n) := by subst hic; rfl
  have i5 : ic[5]? = some (.list 1 (l.map (.int .i64))) := by subst hic; rfl
  clear hic hmc
  have c1 := fun n hi H => within_ok G hG n 0 hi H
  have c2 := fun H => of_ok G hG hF op H
  obtain ⟨a1, a2, a4, a8, a16, a32, _⟩ := and_bit op
  generalize hB1 : bitOf 1 op = B1 at a1
  generalize hB2 : bitOf 2 op = B2 at a2
  generalize hB4 : bitOf 4 op = B4 at a4
  generalize hB8 : bitOf 8 op = B8 at a8
  generalize hB16 : bitOf 16 op = B16 at a16
  generalize hB32 : bitOf 32 op = B32 at a32
  generalize hown : ofS op = own at a1 a2 a4 a8 a16 a32 c2
  have v1 : ∀ s, ACallV Tryz.prog G (.fn (.func 101) [] [.ptr (H.length + 2) 0 0 0, .ptr (H.length + 3) 0 0 0]) [.int .i64 1, .int .i64 s] (H ++ [.cells 0 7 [.agg fc], .cells 0 6 [.agg ic], .cells 0 1 [.int .i64 own], .cells 0 1 [.int .i64 top]]) (fun r H' => H' = (H ++ [.cells 0 7 [.agg fc], .cells 0 6 [.agg ic], .cells 0 1 [.int .i64 own], .cells 0 1 [.int .i64 top]]) ∧ r = .bool (slotB B1 top s)) := fun s => ACallV.of (slot_ok G hG own top 1 s B1 (H.length + 2) (H.length + 3) _ (by simp) (by simp) a1 (b2_zero B1).1 htb)
  have v2 : ∀ s, ACallV Tryz.prog G (.fn (.func 101) [] [.ptr (H.length + 2) 0 0 0, .ptr (H.length + 3) 0 0 0]) [.int .i64 2, .int .i64 s] (H ++ [.cells 0 7 [.agg fc], .cells 0 6 [.agg ic], .cells 0 1 [.int .i64 own], .cells 0 1 [.int .i64 top]]) (fun r H' => H' = (H ++ [.cells 0 7 [.agg fc], .cells 0 6 [.agg ic], .cells 0 1 [.int .i64 own], .cells 0 1 [.int .i64 top]]) ∧ r = .bool (slotB B2 top s)) := fun s => ACallV.of (slot_ok G hG own top 2 s B2 (H.length + 2) (H.length + 3) _ (by simp) (by simp) a2 (b2_zero B2).2.1 htb)
  have v3 : ∀ s, ACallV Tryz.prog G (.fn (.func 101) [] [.ptr (H.length + 2) 0 0 0, .ptr (H.length + 3) 0 0 0]) [.int .i64 4, .int .i64 s] (H ++ [.cells 0 7 [.agg fc], .cells 0 6 [.agg ic], .cells 0 1 [.int .i64 own], .cells 0 1 [.int .i64 top]]) (fun r H' => H' = (H ++ [.cells 0 7 [.agg fc], .cells 0 6 [.agg ic], .cells 0 1 [.int .i64 own], .cells 0 1 [.int .i64 top]]) ∧ r = .bool (slotB B4 top s)) := fun s => ACallV.of (slot_ok G hG own top 4 s B4 (H.length + 2) (H.length + 3) _ (by simp) (by simp) a4 (b2_zero B4).2.2.1 htb)
  refine ACall.of_go TB [] tabOK _ Tryz.func73 rfl (by decide) Tryz.ntmps73 (by simp) rfl (by simp only [initEnv, Nat.reduceAdd]; rfl) fun C R' hR hC hcl hB => ?_; have X := noX; have hC' := congrArg List.length hC
  have hr1 : IntKind.i64.min ≤ slots := by simp [IntKind.min, IntKind.signed, IntKind.bits]; omega
  have hr2 : slots ≤ IntKind.i64.max := by simp [IntKind.max, IntKind.signed, IntKind.bits]; omega
  have X0 := And.intro X (And.intro hlm (And.intro hfcl (And.intro hfc5 (And.intro hfc6 (And.intro (getX hc) (And.intro hmcl (And.intro hmc0 (And.intro hmc1 (And.intro hmc2 (And.intro hmc4 (And.intro hicl (And.intro i0 (And.intro i1 (And.intro i2 (And.intro i3 (And.intro i4 (And.intro i5 (And.intro a8 (And.intro a16 (And.intro a32 (And.intro (b2_zero B8) (And.intro (b2_zero B16) (And.intro (b2_zero B32) (And.intro hr1 hr2))))))))))))))))))))))))
  clear X

  obtain ⟨n2, n11, n12, n13, n14, n16, n17, n20, n21, n22, n23⟩ := hop
  have e16 : B16 = false := by rw [← hB16, bit16]; simp [n12, n13, n16, n17]
  have e32 : B32 = false := by rw [← hB32, bit32]; simp [n21, n22]
  subst e16
  subst e32
  have htop2 : (if slots < frame then slots else frame) = top := by rw [← htop]; unfold insTop; rw [if_neg n2]
  have X := And.intro X0 (And.intro n2 (And.intro n11 (And.intro n12 (And.intro n13 (And.intro n14 (And.intro n16 (And.intro n17 (And.intro n20 (And.intro n21 (And.intro n22 (And.intro n23 htop2)))))))))))
  (refine run ?_; repeat' (first | with_reducible exact trivial | ((with_reducible apply Fork.mk) <;> intro hb) | with_reducible apply Two.mk))
  all_goals
    refine finS hR hC' hcl (.same _ rfl) ⟨rfl, ?_⟩
    clear X X0 v1 v2 v3 c1 c2 hR hC hC' hcl hB hc hG hF a1 a2 a4 a8 a16 a32 hgoal i0 i1 i2 i3 i4 i5 hmc0 hmc1 hmc2 hmc4 hmcl hcl0 hicl hfc5 hfc6 hfcl hr1 hr2 hlm htb hl hn hs hfr hm1 hm2 hm3
    simp only [insOK, lstOK, finOK, htop, hown, hB1, hB2, hB4, hB8, hB16, hB32]
    simp only [resSV]
    congr 1
    generalize slotB B4 top c' = S4 at *
    cases S4 <;> cases B8 <;> simp_all
theorem ins2_ok (G : Gl) (hG : GClosed G) (hF : GF G) (m : Img) (slots frame : Int) (fc : List SV) (code : List Ins) (hfcl : fc.length = 7) (hfc5 : fc[5]? = some (.int .i64 frame)) (hfc6 : fc[6]? = some (.list 6 (insL code))) (i : Ins) (hn : code.length < 1099511627776) (hl : i.l.length < 1099511627776)
    (hm1 : m.cons.length < 1099511627776) (hm2 : m.funcs.length < 1099511627776) (hm3 : m.globals.length < 1099511627776) (hs : 1 ≤ slots ∧ slots ≤ 65536) (hfr : 0 ≤ frame ∧ frame ≤ 65536) (hop : i.op = 2) (c : Nat) (H : List Blk) (hc : H[c]? = some (.cells 0 5 [.agg (chkC m slots)])) :
    ACall Tryz.prog G 73 [.ptr c 0 0 0, .agg fc, .agg i.cells] H (fun r H' => H' = H ∧ r = .bool (insOK m slots frame code.length i)) := by
  have hcl0 := (List.getElem?_eq_some_iff.1 hc).1
  have hmcl : (chkC m slots).length = 5 := rfl
  have hmc0 : (chkC m slots)[0]? = some (.list 4 (consL m.cons)) := rfl
  have hmc1 : (chkC m slots)[1]? = some (.list 7 (funsL m.funcs)) := rfl
  have hmc2 : (chkC m slots)[2]? = some (.list 3 (glbsL m.globals)) := rfl
  have hmc4 : (chkC m slots)[4]? = some (.int .i64 slots) := rfl
  have hgoal : insOK m slots frame code.length i = insOK m slots frame code.length i := rfl
  obtain ⟨op, a, b, c', n, l⟩ := i
  simp only at hop hl
  generalize htop : insTop op slots frame = top
  have htb : -1099511627776 < top ∧ top < 1099511627776 := by subst htop; unfold insTop; (repeat' split) <;> omega
  have hlm : (l.map (SV.int .i64)).length = l.length := by simp
  simp only [insOK, htop] at hgoal
  generalize hmc : chkC m slots = mc at hc hmcl hmc0 hmc1 hmc2 hmc4
  simp only [Ins.cells]
  have hicl : ([.int .i64 op, .int .i64 a, .int .i64 b, .int .i64 c', .int .i64 n, .list 1 (l.map (.int .i64))] : List SV).length = 6 := rfl
  generalize hic : ([.int .i64 op, .int .i64 a, .int .i64 b, .int .i64 c', .int .i64 n, .list 1 (l.map (.int .i64))] : List SV) = ic at hicl
  have i0 : ic[0]? = some (.int .i64 op) := by subst hic; rfl
  have i1 : ic[1]? = some (.int .i64 a) := by subst hic; rfl
  have i2 : ic[2]? = some (.int .i64 b) := by subst hic; rfl
  have i3 : ic[3]? = some (.int .i64 c') := by subst hic; rfl
  have i4 : ic[4]? = some (.int .i64 n) := by subst hic; rfl
  have i5 : ic[5]? = some (.list 1 (l.map (.int .i64))) := by subst hic; rfl
  clear hic hmc
  have c1 := fun n hi H => within_ok G hG n 0 hi H
  have c2 := fun H => of_ok G hG hF op H
  obtain ⟨a1, a2, a4, a8, a16, a32, _⟩ := and_bit op
  generalize hB1 : bitOf 1 op = B1 at a1
  generalize hB2 : bitOf 2 op = B2 at a2
  generalize hB4 : bitOf 4 op = B4 at a4
  generalize hB8 : bitOf 8 op = B8 at a8
  generalize hB16 : bitOf 16 op = B16 at a16
  generalize hB32 : bitOf 32 op = B32 at a32
  generalize hown : ofS op = own at a1 a2 a4 a8 a16 a32 c2
  have v1 : ∀ s, ACallV Tryz.prog G (.fn (.func 101) [] [.ptr (H.length + 2) 0 0 0, .ptr (H.length + 3) 0 0 0]) [.int .i64 1, .int .i64 s] (H ++ [.cells 0 7 [.agg fc], .cells 0 6 [.agg ic], .cells 0 1 [.int .i64 own], .cells 0 1 [.int .i64 top]]) (fun r H' => H' = (H ++ [.cells 0 7 [.agg fc], .cells 0 6 [.agg ic], .cells 0 1 [.int .i64 own], .cells 0 1 [.int .i64 top]]) ∧ r = .bool (slotB B1 top s)) := fun s => ACallV.of (slot_ok G hG own top 1 s B1 (H.length + 2) (H.length + 3) _ (by simp) (by simp) a1 (b2_zero B1).1 htb)
  have v2 : ∀ s, ACallV Tryz.prog G (.fn (.func 101) [] [.ptr (H.length + 2) 0 0 0, .ptr (H.length + 3) 0 0 0]) [.int .i64 2, .int .i64 s] (H ++ [.cells 0 7 [.agg fc], .cells 0 6 [.agg ic], .cells 0 1 [.int .i64 own], .cells 0 1 [.int .i64 top]]) (fun r H' => H' = (H ++ [.cells 0 7 [.agg fc], .cells 0 6 [.agg ic], .cells 0 1 [.int .i64 own], .cells 0 1 [.int .i64 top]]) ∧ r = .bool (slotB B2 top s)) := fun s => ACallV.of (slot_ok G hG own top 2 s B2 (H.length + 2) (H.length + 3) _ (by simp) (by simp) a2 (b2_zero B2).2.1 htb)
  have v3 : ∀ s, ACallV Tryz.prog G (.fn (.func 101) [] [.ptr (H.length + 2) 0 0 0, .ptr (H.length + 3) 0 0 0]) [.int .i64 4, .int .i64 s] (H ++ [.cells 0 7 [.agg fc], .cells 0 6 [.agg ic], .cells 0 1 [.int .i64 own], .cells 0 1 [.int .i64 top]]) (fun r H' => H' = (H ++ [.cells 0 7 [.agg fc], .cells 0 6 [.agg ic], .cells 0 1 [.int .i64 own], .cells 0 1 [.int .i64 top]]) ∧ r = .bool (slotB B4 top s)) := fun s => ACallV.of (slot_ok G hG own top 4 s B4 (H.length + 2) (H.length + 3) _ (by simp) (by simp) a4 (b2_zero B4).2.2.1 htb)
  refine ACall.of_go TB [] tabOK _ Tryz.func73 rfl (by decide) Tryz.ntmps73 (by simp) rfl (by simp only [initEnv, Nat.reduceAdd]; rfl) fun C R' hR hC hcl hB => ?_; have X := noX; have hC' := congrArg List.length hC
  have hr1 : IntKind.i64.min ≤ slots := by simp [IntKind.min, IntKind.signed, IntKind.bits]; omega
  have hr2 : slots ≤ IntKind.i64.max := by simp [IntKind.max, IntKind.signed, IntKind.bits]; omega
  have X0 := And.intro X (And.intro hlm (And.intro hfcl (And.intro hfc5 (And.intro hfc6 (And.intro (getX hc) (And.intro hmcl (And.intro hmc0 (And.intro hmc1 (And.intro hmc2 (And.intro hmc4 (And.intro hicl (And.intro i0 (And.intro i1 (And.intro i2 (And.intro i3 (And.intro i4 (And.intro i5 (And.intro a8 (And.intro a16 (And.intro a32 (And.intro (b2_zero B8) (And.intro (b2_zero B16) (And.intro (b2_zero B32) (And.intro hr1 hr2))))))))))))))))))))))))
  clear X

  subst hop
  have e16 : B16 = false := by rw [← hB16]; decide
  have e32 : B32 = false := by rw [← hB32]; decide
  subst e16
  subst e32
  have htop2 : frame = top := by rw [← htop]; rfl
  have c3 := True.intro
  have X := And.intro X0 htop2
  (refine run ?_; repeat' (first | with_reducible exact trivial | ((with_reducible apply Fork.mk) <;> intro hb) | with_reducible apply Two.mk))
  all_goals
    refine finS hR hC' hcl (.same _ rfl) ⟨rfl, ?_⟩
    clear X X0 v1 v2 v3 c1 c2 c3 hR hC hC' hcl hB hc hG hF a1 a2 a4 a8 a16 a32 hgoal i0 i1 i2 i3 i4 i5 hmc0 hmc1 hmc2 hmc4 hmcl hcl0 hicl hfc5 hfc6 hfcl hr1 hr2 hlm htb hl hn hs hfr hm1 hm2 hm3
    simp only [insOK, lstOK, finOK, htop, hown, hB1, hB2, hB4, hB8, hB16, hB32]
    simp only [resSV]
    congr 1
    generalize slotB B4 top c' = S4 at *
    cases S4 <;> cases B8 <;> simp_all
theorem ins11_ok (G : Gl) (hG : GClosed G) (hF : GF G) (m : Img) (slots frame : Int) (fc : List SV) (code : List Ins) (hfcl : fc.length = 7) (hfc5 : fc[5]? = some (.int .i64 frame)) (hfc6 : fc[6]? = some (.list 6 (insL code))) (i : Ins) (hn : code.length < 1099511627776) (hl : i.l.length < 1099511627776)
    (hm1 : m.cons.length < 1099511627776) (hm2 : m.funcs.length < 1099511627776) (hm3 : m.globals.length < 1099511627776) (hs : 1 ≤ slots ∧ slots ≤ 65536) (hfr : 0 ≤ frame ∧ frame ≤ 65536) (hop : i.op = 11) (c : Nat) (H : List Blk) (hc : H[c]? = some (.cells 0 5 [.agg (chkC m slots)])) :
    ACall Tryz.prog G 73 [.ptr c 0 0 0, .agg fc, .agg i.cells] H (fun r H' => H' = H ∧ r = .bool (insOK m slots frame code.length i)) := by
  have hcl0 := (List.getElem?_eq_some_iff.1 hc).1
  have hmcl : (chkC m slots).length = 5 := rfl
  have hmc0 : (chkC m slots)[0]? = some (.list 4 (consL m.cons)) := rfl
  have hmc1 : (chkC m slots)[1]? = some (.list 7 (funsL m.funcs)) := rfl
  have hmc2 : (chkC m slots)[2]? = some (.list 3 (glbsL m.globals)) := rfl
  have hmc4 : (chkC m slots)[4]? = some (.int .i64 slots) := rfl
  have hgoal : insOK m slots frame code.length i = insOK m slots frame code.length i := rfl
  obtain ⟨op, a, b, c', n, l⟩ := i
  simp only at hop hl
  generalize htop : insTop op slots frame = top
  have htb : -1099511627776 < top ∧ top < 1099511627776 := by subst htop; unfold insTop; (repeat' split) <;> omega
  have hlm : (l.map (SV.int .i64)).length = l.length := by simp
  simp only [insOK, htop] at hgoal
  generalize hmc : chkC m slots = mc at hc hmcl hmc0 hmc1 hmc2 hmc4
  simp only [Ins.cells]
  have hicl : ([.int .i64 op, .int .i64 a, .int .i64 b, .int .i64 c', .int .i64 n, .list 1 (l.map (.int .i64))] : List SV).length = 6 := rfl
  generalize hic : ([.int .i64 op, .int .i64 a, .int .i64 b, .int .i64 c', .int .i64 n, .list 1 (l.map (.int .i64))] : List SV) = ic at hicl
  have i0 : ic[0]? = some (.int .i64 op) := by subst hic; rfl
  have i1 : ic[1]? = some (.int .i64 a) := by subst hic; rfl
  have i2 : ic[2]? = some (.int .i64 b) := by subst hic; rfl
  have i3 : ic[3]? = some (.int .i64 c') := by subst hic; rfl
  have i4 : ic[4]? = some (.int .i64 n) := by subst hic; rfl
  have i5 : ic[5]? = some (.list 1 (l.map (.int .i64))) := by subst hic; rfl
  clear hic hmc
  have c1 := fun n hi H => within_ok G hG n 0 hi H
  have c2 := fun H => of_ok G hG hF op H
  obtain ⟨a1, a2, a4, a8, a16, a32, _⟩ := and_bit op
  generalize hB1 : bitOf 1 op = B1 at a1
  generalize hB2 : bitOf 2 op = B2 at a2
  generalize hB4 : bitOf 4 op = B4 at a4
  generalize hB8 : bitOf 8 op = B8 at a8
  generalize hB16 : bitOf 16 op = B16 at a16
  generalize hB32 : bitOf 32 op = B32 at a32
  generalize hown : ofS op = own at a1 a2 a4 a8 a16 a32 c2
  have v1 : ∀ s, ACallV Tryz.prog G (.fn (.func 101) [] [.ptr (H.length + 2) 0 0 0, .ptr (H.length + 3) 0 0 0]) [.int .i64 1, .int .i64 s] (H ++ [.cells 0 7 [.agg fc], .cells 0 6 [.agg ic], .cells 0 1 [.int .i64 own], .cells 0 1 [.int .i64 top]]) (fun r H' => H' = (H ++ [.cells 0 7 [.agg fc], .cells 0 6 [.agg ic], .cells 0 1 [.int .i64 own], .cells 0 1 [.int .i64 top]]) ∧ r = .bool (slotB B1 top s)) := fun s => ACallV.of (slot_ok G hG own top 1 s B1 (H.length + 2) (H.length + 3) _ (by simp) (by simp) a1 (b2_zero B1).1 htb)
  have v2 : ∀ s, ACallV Tryz.prog G (.fn (.func 101) [] [.ptr (H.length + 2) 0 0 0, .ptr (H.length + 3) 0 0 0]) [.int .i64 2, .int .i64 s] (H ++ [.cells 0 7 [.agg fc], .cells 0 6 [.agg ic], .cells 0 1 [.int .i64 own], .cells 0 1 [.int .i64 top]]) (fun r H' => H' = (H ++ [.cells 0 7 [.agg fc], .cells 0 6 [.agg ic], .cells 0 1 [.int .i64 own], .cells 0 1 [.int .i64 top]]) ∧ r = .bool (slotB B2 top s)) := fun s => ACallV.of (slot_ok G hG own top 2 s B2 (H.length + 2) (H.length + 3) _ (by simp) (by simp) a2 (b2_zero B2).2.1 htb)
  have v3 : ∀ s, ACallV Tryz.prog G (.fn (.func 101) [] [.ptr (H.length + 2) 0 0 0, .ptr (H.length + 3) 0 0 0]) [.int .i64 4, .int .i64 s] (H ++ [.cells 0 7 [.agg fc], .cells 0 6 [.agg ic], .cells 0 1 [.int .i64 own], .cells 0 1 [.int .i64 top]]) (fun r H' => H' = (H ++ [.cells 0 7 [.agg fc], .cells 0 6 [.agg ic], .cells 0 1 [.int .i64 own], .cells 0 1 [.int .i64 top]]) ∧ r = .bool (slotB B4 top s)) := fun s => ACallV.of (slot_ok G hG own top 4 s B4 (H.length + 2) (H.length + 3) _ (by simp) (by simp) a4 (b2_zero B4).2.2.1 htb)
  refine ACall.of_go TB [] tabOK _ Tryz.func73 rfl (by decide) Tryz.ntmps73 (by simp) rfl (by simp only [initEnv, Nat.reduceAdd]; rfl) fun C R' hR hC hcl hB => ?_; have X := noX; have hC' := congrArg List.length hC
  have hr1 : IntKind.i64.min ≤ slots := by simp [IntKind.min, IntKind.signed, IntKind.bits]; omega
  have hr2 : slots ≤ IntKind.i64.max := by simp [IntKind.max, IntKind.signed, IntKind.bits]; omega
  have X0 := And.intro X (And.intro hlm (And.intro hfcl (And.intro hfc5 (And.intro hfc6 (And.intro (getX hc) (And.intro hmcl (And.intro hmc0 (And.intro hmc1 (And.intro hmc2 (And.intro hmc4 (And.intro hicl (And.intro i0 (And.intro i1 (And.intro i2 (And.intro i3 (And.intro i4 (And.intro i5 (And.intro a8 (And.intro a16 (And.intro a32 (And.intro (b2_zero B8) (And.intro (b2_zero B16) (And.intro (b2_zero B32) (And.intro hr1 hr2))))))))))))))))))))))))
  clear X

  subst hop
  have e16 : B16 = false := by rw [← hB16]; decide
  have e32 : B32 = false := by rw [← hB32]; decide
  subst e16
  subst e32
  have htop2 : (if slots < frame then slots else frame) = top := by rw [← htop]; rfl
  have c3 := True.intro
  have X := And.intro X0 htop2
  (refine run ?_; repeat' (first | with_reducible exact trivial | ((with_reducible apply Fork.mk) <;> intro hb) | with_reducible apply Two.mk))
  all_goals
    refine finS hR hC' hcl (.same _ rfl) ⟨rfl, ?_⟩
    clear X X0 v1 v2 v3 c1 c2 c3 hR hC hC' hcl hB hc hG hF a1 a2 a4 a8 a16 a32 hgoal i0 i1 i2 i3 i4 i5 hmc0 hmc1 hmc2 hmc4 hmcl hcl0 hicl hfc5 hfc6 hfcl hr1 hr2 hlm htb hl hn hs hfr hm1 hm2 hm3
    simp only [insOK, lstOK, finOK, htop, hown, hB1, hB2, hB4, hB8, hB16, hB32]
    simp only [resSV]
    congr 1
    generalize slotB B4 top c' = S4 at *
    cases S4 <;> cases B8 <;> simp_all
theorem ins14_ok (G : Gl) (hG : GClosed G) (hF : GF G) (m : Img) (slots frame : Int) (fc : List SV) (code : List Ins) (hfcl : fc.length = 7) (hfc5 : fc[5]? = some (.int .i64 frame)) (hfc6 : fc[6]? = some (.list 6 (insL code))) (i : Ins) (hn : code.length < 1099511627776) (hl : i.l.length < 1099511627776)
    (hm1 : m.cons.length < 1099511627776) (hm2 : m.funcs.length < 1099511627776) (hm3 : m.globals.length < 1099511627776) (hs : 1 ≤ slots ∧ slots ≤ 65536) (hfr : 0 ≤ frame ∧ frame ≤ 65536) (hop : i.op = 14) (c : Nat) (H : List Blk) (hc : H[c]? = some (.cells 0 5 [.agg (chkC m slots)])) :
    ACall Tryz.prog G 73 [.ptr c 0 0 0, .agg fc, .agg i.cells] H (fun r H' => H' = H ∧ r = .bool (insOK m slots frame code.length i)) := by
  have hcl0 := (List.getElem?_eq_some_iff.1 hc).1
  have hmcl : (chkC m slots).length = 5 := rfl
  have hmc0 : (chkC m slots)[0]? = some (.list 4 (consL m.cons)) := rfl
  have hmc1 : (chkC m slots)[1]? = some (.list 7 (funsL m.funcs)) := rfl
  have hmc2 : (chkC m slots)[2]? = some (.list 3 (glbsL m.globals)) := rfl
  have hmc4 : (chkC m slots)[4]? = some (.int .i64 slots) := rfl
  have hgoal : insOK m slots frame code.length i = insOK m slots frame code.length i := rfl
  obtain ⟨op, a, b, c', n, l⟩ := i
  simp only at hop hl
  generalize htop : insTop op slots frame = top
  have htb : -1099511627776 < top ∧ top < 1099511627776 := by subst htop; unfold insTop; (repeat' split) <;> omega
  have hlm : (l.map (SV.int .i64)).length = l.length := by simp
  simp only [insOK, htop] at hgoal
  generalize hmc : chkC m slots = mc at hc hmcl hmc0 hmc1 hmc2 hmc4
  simp only [Ins.cells]
  have hicl : ([.int .i64 op, .int .i64 a, .int .i64 b, .int .i64 c', .int .i64 n, .list 1 (l.map (.int .i64))] : List SV).length = 6 := rfl
  generalize hic : ([.int .i64 op, .int .i64 a, .int .i64 b, .int .i64 c', .int .i64 n, .list 1 (l.map (.int .i64))] : List SV) = ic at hicl
  have i0 : ic[0]? = some (.int .i64 op) := by subst hic; rfl
  have i1 : ic[1]? = some (.int .i64 a) := by subst hic; rfl
  have i2 : ic[2]? = some (.int .i64 b) := by subst hic; rfl
  have i3 : ic[3]? = some (.int .i64 c') := by subst hic; rfl
  have i4 : ic[4]? = some (.int .i64 n) := by subst hic; rfl
  have i5 : ic[5]? = some (.list 1 (l.map (.int .i64))) := by subst hic; rfl
  clear hic hmc
  have c1 := fun n hi H => within_ok G hG n 0 hi H
  have c2 := fun H => of_ok G hG hF op H
  obtain ⟨a1, a2, a4, a8, a16, a32, _⟩ := and_bit op
  generalize hB1 : bitOf 1 op = B1 at a1
  generalize hB2 : bitOf 2 op = B2 at a2
  generalize hB4 : bitOf 4 op = B4 at a4
  generalize hB8 : bitOf 8 op = B8 at a8
  generalize hB16 : bitOf 16 op = B16 at a16
  generalize hB32 : bitOf 32 op = B32 at a32
  generalize hown : ofS op = own at a1 a2 a4 a8 a16 a32 c2
  have v1 : ∀ s, ACallV Tryz.prog G (.fn (.func 101) [] [.ptr (H.length + 2) 0 0 0, .ptr (H.length + 3) 0 0 0]) [.int .i64 1, .int .i64 s] (H ++ [.cells 0 7 [.agg fc], .cells 0 6 [.agg ic], .cells 0 1 [.int .i64 own], .cells 0 1 [.int .i64 top]]) (fun r H' => H' = (H ++ [.cells 0 7 [.agg fc], .cells 0 6 [.agg ic], .cells 0 1 [.int .i64 own], .cells 0 1 [.int .i64 top]]) ∧ r = .bool (slotB B1 top s)) := fun s => ACallV.of (slot_ok G hG own top 1 s B1 (H.length + 2) (H.length + 3) _ (by simp) (by simp) a1 (b2_zero B1).1 htb)
  have v2 : ∀ s, ACallV Tryz.prog G (.fn (.func 101) [] [.ptr (H.length + 2) 0 0 0, .ptr (H.length + 3) 0 0 0]) [.int .i64 2, .int .i64 s] (H ++ [.cells 0 7 [.agg fc], .cells 0 6 [.agg ic], .cells 0 1 [.int .i64 own], .cells 0 1 [.int .i64 top]]) (fun r H' => H' = (H ++ [.cells 0 7 [.agg fc], .cells 0 6 [.agg ic], .cells 0 1 [.int .i64 own], .cells 0 1 [.int .i64 top]]) ∧ r = .bool (slotB B2 top s)) := fun s => ACallV.of (slot_ok G hG own top 2 s B2 (H.length + 2) (H.length + 3) _ (by simp) (by simp) a2 (b2_zero B2).2.1 htb)
  have v3 : ∀ s, ACallV Tryz.prog G (.fn (.func 101) [] [.ptr (H.length + 2) 0 0 0, .ptr (H.length + 3) 0 0 0]) [.int .i64 4, .int .i64 s] (H ++ [.cells 0 7 [.agg fc], .cells 0 6 [.agg ic], .cells 0 1 [.int .i64 own], .cells 0 1 [.int .i64 top]]) (fun r H' => H' = (H ++ [.cells 0 7 [.agg fc], .cells 0 6 [.agg ic], .cells 0 1 [.int .i64 own], .cells 0 1 [.int .i64 top]]) ∧ r = .bool (slotB B4 top s)) := fun s => ACallV.of (slot_ok G hG own top 4 s B4 (H.length + 2) (H.length + 3) _ (by simp) (by simp) a4 (b2_zero B4).2.2.1 htb)
  refine ACall.of_go TB [] tabOK _ Tryz.func73 rfl (by decide) Tryz.ntmps73 (by simp) rfl (by simp only [initEnv, Nat.reduceAdd]; rfl) fun C R' hR hC hcl hB => ?_; have X := noX; have hC' := congrArg List.length hC
  have hr1 : IntKind.i64.min ≤ slots := by simp [IntKind.min, IntKind.signed, IntKind.bits]; omega
  have hr2 : slots ≤ IntKind.i64.max := by simp [IntKind.max, IntKind.signed, IntKind.bits]; omega
  have X0 := And.intro X (And.intro hlm (And.intro hfcl (And.intro hfc5 (And.intro hfc6 (And.intro (getX hc) (And.intro hmcl (And.intro hmc0 (And.intro hmc1 (And.intro hmc2 (And.intro hmc4 (And.intro hicl (And.intro i0 (And.intro i1 (And.intro i2 (And.intro i3 (And.intro i4 (And.intro i5 (And.intro a8 (And.intro a16 (And.intro a32 (And.intro (b2_zero B8) (And.intro (b2_zero B16) (And.intro (b2_zero B32) (And.intro hr1 hr2))))))))))))))))))))))))
  clear X

  subst hop
  have e16 : B16 = false := by rw [← hB16]; decide
  have e32 : B32 = false := by rw [← hB32]; decide
  subst e16
  subst e32
  have htop2 : (if slots < frame then slots else frame) = top := by rw [← htop]; rfl
  have c3 := True.intro
  have X := And.intro X0 htop2
  (refine run ?_; repeat' (first | with_reducible exact trivial | ((with_reducible apply Fork.mk) <;> intro hb) | with_reducible apply Two.mk))
  all_goals
    refine finS hR hC' hcl (.same _ rfl) ⟨rfl, ?_⟩
    clear X X0 v1 v2 v3 c1 c2 c3 hR hC hC' hcl hB hc hG hF a1 a2 a4 a8 a16 a32 hgoal i0 i1 i2 i3 i4 i5 hmc0 hmc1 hmc2 hmc4 hmcl hcl0 hicl hfc5 hfc6 hfcl hr1 hr2 hlm htb hl hn hs hfr hm1 hm2 hm3
    simp only [insOK, lstOK, finOK, htop, hown, hB1, hB2, hB4, hB8, hB16, hB32]
    simp only [resSV]
    congr 1
    generalize slotB B4 top c' = S4 at *
    cases S4 <;> cases B8 <;> simp_all
theorem ins16_ok (G : Gl) (hG : GClosed G) (hF : GF G) (m : Img) (slots frame : Int) (fc : List SV) (code : List Ins) (hfcl : fc.length = 7) (hfc5 : fc[5]? = some (.int .i64 frame)) (hfc6 : fc[6]? = some (.list 6 (insL code))) (i : Ins) (hn : code.length < 1099511627776) (hl : i.l.length < 1099511627776)
    (hm1 : m.cons.length < 1099511627776) (hm2 : m.funcs.length < 1099511627776) (hm3 : m.globals.length < 1099511627776) (hs : 1 ≤ slots ∧ slots ≤ 65536) (hfr : 0 ≤ frame ∧ frame ≤ 65536) (hop : i.op = 16) (c : Nat) (H : List Blk) (hc : H[c]? = some (.cells 0 5 [.agg (chkC m slots)])) :
    ACall Tryz.prog G 73 [.ptr c 0 0 0, .agg fc, .agg i.cells] H (fun r H' => H' = H ∧ r = .bool (insOK m slots frame code.length i)) := by
  have hcl0 := (List.getElem?_eq_some_iff.1 hc).1
  have hmcl : (chkC m slots).length = 5 := rfl
  have hmc0 : (chkC m slots)[0]? = some (.list 4 (consL m.cons)) := rfl
  have hmc1 : (chkC m slots)[1]? = some (.list 7 (funsL m.funcs)) := rfl
  have hmc2 : (chkC m slots)[2]? = some (.list 3 (glbsL m.globals)) := rfl
  have hmc4 : (chkC m slots)[4]? = some (.int .i64 slots) := rfl
  have hgoal : insOK m slots frame code.length i = insOK m slots frame code.length i := rfl
  obtain ⟨op, a, b, c', n, l⟩ := i
  simp only at hop hl
  generalize htop : insTop op slots frame = top
  have htb : -1099511627776 < top ∧ top < 1099511627776 := by subst htop; unfold insTop; (repeat' split) <;> omega
  have hlm : (l.map (SV.int .i64)).length = l.length := by simp
  simp only [insOK, htop] at hgoal
  generalize hmc : chkC m slots = mc at hc hmcl hmc0 hmc1 hmc2 hmc4
  simp only [Ins.cells]
  have hicl : ([.int .i64 op, .int .i64 a, .int .i64 b, .int .i64 c', .int .i64 n, .list 1 (l.map (.int .i64))] : List SV).length = 6 := rfl
  generalize hic : ([.int .i64 op, .int .i64 a, .int .i64 b, .int .i64 c', .int .i64 n, .list 1 (l.map (.int .i64))] : List SV) = ic at hicl
  have i0 : ic[0]? = some (.int .i64 op) := by subst hic; rfl
  have i1 : ic[1]? = some (.int .i64 a) := by subst hic; rfl
  have i2 : ic[2]? = some (.int .i64 b) := by subst hic; rfl
  have i3 : ic[3]? = some (.int .i64 c') := by subst hic; rfl
  have i4 : ic[4]? = some (.int .i64 n) := by subst hic; rfl
  have i5 : ic[5]? = some (.list 1 (l.map (.int .i64))) := by subst hic; rfl
  clear hic hmc
  have c1 := fun n hi H => within_ok G hG n 0 hi H
  have c2 := fun H => of_ok G hG hF op H
  obtain ⟨a1, a2, a4, a8, a16, a32, _⟩ := and_bit op
  generalize hB1 : bitOf 1 op = B1 at a1
  generalize hB2 : bitOf 2 op = B2 at a2
  generalize hB4 : bitOf 4 op = B4 at a4
  generalize hB8 : bitOf 8 op = B8 at a8
  generalize hB16 : bitOf 16 op = B16 at a16
  generalize hB32 : bitOf 32 op = B32 at a32
  generalize hown : ofS op = own at a1 a2 a4 a8 a16 a32 c2
  have v1 : ∀ s, ACallV Tryz.prog G (.fn (.func 101) [] [.ptr (H.length + 2) 0 0 0, .ptr (H.length + 3) 0 0 0]) [.int .i64 1, .int .i64 s] (H ++ [.cells 0 7 [.agg fc], .cells 0 6 [.agg ic], .cells 0 1 [.int .i64 own], .cells 0 1 [.int .i64 top]]) (fun r H' => H' = (H ++ [.cells 0 7 [.agg fc], .cells 0 6 [.agg ic], .cells 0 1 [.int .i64 own], .cells 0 1 [.int .i64 top]]) ∧ r = .bool (slotB B1 top s)) := fun s => ACallV.of (slot_ok G hG own top 1 s B1 (H.length + 2) (H.length + 3) _ (by simp) (by simp) a1 (b2_zero B1).1 htb)
  have v2 : ∀ s, ACallV Tryz.prog G (.fn (.func 101) [] [.ptr (H.length + 2) 0 0 0, .ptr (H.length + 3) 0 0 0]) [.int .i64 2, .int .i64 s] (H ++ [.cells 0 7 [.agg fc], .cells 0 6 [.agg ic], .cells 0 1 [.int .i64 own], .cells 0 1 [.int .i64 top]]) (fun r H' => H' = (H ++ [.cells 0 7 [.agg fc], .cells 0 6 [.agg ic], .cells 0 1 [.int .i64 own], .cells 0 1 [.int .i64 top]]) ∧ r = .bool (slotB B2 top s)) := fun s => ACallV.of (slot_ok G hG own top 2 s B2 (H.length + 2) (H.length + 3) _ (by simp) (by simp) a2 (b2_zero B2).2.1 htb)
  have v3 : ∀ s, ACallV Tryz.prog G (.fn (.func 101) [] [.ptr (H.length + 2) 0 0 0, .ptr (H.length + 3) 0 0 0]) [.int .i64 4, .int .i64 s] (H ++ [.cells 0 7 [.agg fc], .cells 0 6 [.agg ic], .cells 0 1 [.int .i64 own], .cells 0 1 [.int .i64 top]]) (fun r H' => H' = (H ++ [.cells 0 7 [.agg fc], .cells 0 6 [.agg ic], .cells 0 1 [.int .i64 own], .cells 0 1 [.int .i64 top]]) ∧ r = .bool (slotB B4 top s)) := fun s => ACallV.of (slot_ok G hG own top 4 s B4 (H.length + 2) (H.length + 3) _ (by simp) (by simp) a4 (b2_zero B4).2.2.1 htb)
  refine ACall.of_go TB [] tabOK _ Tryz.func73 rfl (by decide) Tryz.ntmps73 (by simp) rfl (by simp only [initEnv, Nat.reduceAdd]; rfl) fun C R' hR hC hcl hB => ?_; have X := noX; have hC' := congrArg List.length hC
  have hr1 : IntKind.i64.min ≤ slots := by simp [IntKind.min, IntKind.signed, IntKind.bits]; omega
  have hr2 : slots ≤ IntKind.i64.max := by simp [IntKind.max, IntKind.signed, IntKind.bits]; omega
  have X0 := And.intro X (And.intro hlm (And.intro hfcl (And.intro hfc5 (And.intro hfc6 (And.intro (getX hc) (And.intro hmcl (And.intro hmc0 (And.intro hmc1 (And.intro hmc2 (And.intro hmc4 (And.intro hicl (And.intro i0 (And.intro i1 (And.intro i2 (And.intro i3 (And.intro i4 (And.intro i5 (And.intro a8 (And.intro a16 (And.intro a32 (And.intro (b2_zero B8) (And.intro (b2_zero B16) (And.intro (b2_zero B32) (And.intro hr1 hr2))))))))))))))))))))))))
  clear X

  subst hop
  have e16 : B16 = true := by rw [← hB16]; decide
  have e32 : B32 = false := by rw [← hB32]; decide
  subst e16
  subst e32
  have htop2 : (if slots < frame then slots else frame) = top := by rw [← htop]; rfl
  have c3 : ACall Tryz.prog G 103 [.list 1 (l.map (.int .i64)), .fn (.func 104) [] [.ptr H.length 0 0 0]] (H ++ [.cells 0 7 [.agg fc], .cells 0 6 [.agg ic], .cells 0 1 [.int .i64 own], .cells 0 1 [.int .i64 top], .cells 0 1 [.fn (.func 102) [] [.ptr H.length 0 0 0]]]) (fun r H' => H' = (H ++ [.cells 0 7 [.agg fc], .cells 0 6 [.agg ic], .cells 0 1 [.int .i64 own], .cells 0 1 [.int .i64 top], .cells 0 1 [.fn (.func 102) [] [.ptr H.length 0 0 0]]]) ∧ r = .bool (l.any fun n => !inR n 0 (frame - 1))) :=
    anyInt_ok G hG _ (fun n => !inR n 0 (frame - 1)) l _ (by omega) (by simp [SV.under, SV.underL]) (fun x hx => ACallV.of (notIn_ok G hG x frame fc H.length _ (by simp) hfcl hfc5 hfr))
  have X := And.intro X0 htop2
  (refine run ?_; repeat' (first | with_reducible exact trivial | ((with_reducible apply Fork.mk) <;> intro hb) | with_reducible apply Two.mk))
  all_goals
    refine finS hR hC' hcl (.same _ rfl) ⟨rfl, ?_⟩
    clear X X0 v1 v2 v3 c1 c2 c3 hR hC hC' hcl hB hc hG hF a1 a2 a4 a8 a16 a32 hgoal i0 i1 i2 i3 i4 i5 hmc0 hmc1 hmc2 hmc4 hmcl hcl0 hicl hfc5 hfc6 hfcl hr1 hr2 hlm htb hl hn hs hfr hm1 hm2 hm3
    simp only [insOK, lstOK, finOK, htop, hown, hB1, hB2, hB4, hB8, hB16, hB32]
    simp only [resSV]
    congr 1
    generalize slotB B4 top c' = S4 at *
    generalize (l.any fun n => !inR n 0 (frame - 1)) = S5 at *
    cases S5 <;> cases S4 <;> cases B8 <;> simp_all
theorem ins17_ok (G : Gl) (hG : GClosed G) (hF : GF G) (m : Img) (slots frame : Int) (fc : List SV) (code : List Ins) (hfcl : fc.length = 7) (hfc5 : fc[5]? = some (.int .i64 frame)) (hfc6 : fc[6]? = some (.list 6 (insL code))) (i : Ins) (hn : code.length < 1099511627776) (hl : i.l.length < 1099511627776)
    (hm1 : m.cons.length < 1099511627776) (hm2 : m.funcs.length < 1099511627776) (hm3 : m.globals.length < 1099511627776) (hs : 1 ≤ slots ∧ slots ≤ 65536) (hfr : 0 ≤ frame ∧ frame ≤ 65536) (hop : i.op = 17) (c : Nat) (H : List Blk) (hc : H[c]? = some (.cells 0 5 [.agg (chkC m slots)])) :
    ACall Tryz.prog G 73 [.ptr c 0 0 0, .agg fc, .agg i.cells] H (fun r H' => H' = H ∧ r = .bool (insOK m slots frame code.length i)) := by
  have hcl0 := (List.getElem?_eq_some_iff.1 hc).1
  have hmcl : (chkC m slots).length = 5 := rfl
  have hmc0 : (chkC m slots)[0]? = some (.list 4 (consL m.cons)) := rfl
  have hmc1 : (chkC m slots)[1]? = some (.list 7 (funsL m.funcs)) := rfl
  have hmc2 : (chkC m slots)[2]? = some (.list 3 (glbsL m.globals)) := rfl
  have hmc4 : (chkC m slots)[4]? = some (.int .i64 slots) := rfl
  have hgoal : insOK m slots frame code.length i = insOK m slots frame code.length i := rfl
  obtain ⟨op, a, b, c', n, l⟩ := i
  simp only at hop hl
  generalize htop : insTop op slots frame = top
  have htb : -1099511627776 < top ∧ top < 1099511627776 := by subst htop; unfold insTop; (repeat' split) <;> omega
  have hlm : (l.map (SV.int .i64)).length = l.length := by simp
  simp only [insOK, htop] at hgoal
  generalize hmc : chkC m slots = mc at hc hmcl hmc0 hmc1 hmc2 hmc4
  simp only [Ins.cells]
  have hicl : ([.int .i64 op, .int .i64 a, .int .i64 b, .int .i64 c', .int .i64 n, .list 1 (l.map (.int .i64))] : List SV).length = 6 := rfl
  generalize hic : ([.int .i64 op, .int .i64 a, .int .i64 b, .int .i64 c', .int .i64 n, .list 1 (l.map (.int .i64))] : List SV) = ic at hicl
  have i0 : ic[0]? = some (.int .i64 op) := by subst hic; rfl
  have i1 : ic[1]? = some (.int .i64 a) := by subst hic; rfl
  have i2 : ic[2]? = some (.int .i64 b) := by subst hic; rfl
  have i3 : ic[3]? = some (.int .i64 c') := by subst hic; rfl
  have i4 : ic[4]? = some (.int .i64 n) := by subst hic; rfl
  have i5 : ic[5]? = some (.list 1 (l.map (.int .i64))) := by subst hic; rfl
  clear hic hmc
  have c1 := fun n hi H => within_ok G hG n 0 hi H
  have c2 := fun H => of_ok G hG hF op H
  obtain ⟨a1, a2, a4, a8, a16, a32, _⟩ := and_bit op
  generalize hB1 : bitOf 1 op = B1 at a1
  generalize hB2 : bitOf 2 op = B2 at a2
  generalize hB4 : bitOf 4 op = B4 at a4
  generalize hB8 : bitOf 8 op = B8 at a8
  generalize hB16 : bitOf 16 op = B16 at a16
  generalize hB32 : bitOf 32 op = B32 at a32
  generalize hown : ofS op = own at a1 a2 a4 a8 a16 a32 c2
  have v1 : ∀ s, ACallV Tryz.prog G (.fn (.func 101) [] [.ptr (H.length + 2) 0 0 0, .ptr (H.length + 3) 0 0 0]) [.int .i64 1, .int .i64 s] (H ++ [.cells 0 7 [.agg fc], .cells 0 6 [.agg ic], .cells 0 1 [.int .i64 own], .cells 0 1 [.int .i64 top]]) (fun r H' => H' = (H ++ [.cells 0 7 [.agg fc], .cells 0 6 [.agg ic], .cells 0 1 [.int .i64 own], .cells 0 1 [.int .i64 top]]) ∧ r = .bool (slotB B1 top s)) := fun s => ACallV.of (slot_ok G hG own top 1 s B1 (H.length + 2) (H.length + 3) _ (by simp) (by simp) a1 (b2_zero B1).1 htb)
  have v2 : ∀ s, ACallV Tryz.prog G (.fn (.func 101) [] [.ptr (H.length + 2) 0 0 0, .ptr (H.length + 3) 0 0 0]) [.int .i64 2, .int .i64 s] (H ++ [.cells 0 7 [.agg fc], .cells 0 6 [.agg ic], .cells 0 1 [.int .i64 own], .cells 0 1 [.int .i64 top]]) (fun r H' => H' = (H ++ [.cells 0 7 [.agg fc], .cells 0 6 [.agg ic], .cells 0 1 [.int .i64 own], .cells 0 1 [.int .i64 top]]) ∧ r = .bool (slotB B2 top s)) := fun s => ACallV.of (slot_ok G hG own top 2 s B2 (H.length + 2) (H.length + 3) _ (by simp) (by simp) a2 (b2_zero B2).2.1 htb)
  have v3 : ∀ s, ACallV Tryz.prog G (.fn (.func 101) [] [.ptr (H.length + 2) 0 0 0, .ptr (H.length + 3) 0 0 0]) [.int .i64 4, .int .i64 s] (H ++ [.cells 0 7 [.agg fc], .cells 0 6 [.agg ic], .cells 0 1 [.int .i64 own], .cells 0 1 [.int .i64 top]]) (fun r H' => H' = (H ++ [.cells 0 7 [.agg fc], .cells 0 6 [.agg ic], .cells 0 1 [.int .i64 own], .cells 0 1 [.int .i64 top]]) ∧ r = .bool (slotB B4 top s)) := fun s => ACallV.of (slot_ok G hG own top 4 s B4 (H.length + 2) (H.length + 3) _ (by simp) (by simp) a4 (b2_zero B4).2.2.1 htb)
  refine ACall.of_go TB [] tabOK _ Tryz.func73 rfl (by decide) Tryz.ntmps73 (by simp) rfl (by simp only [initEnv, Nat.reduceAdd]; rfl) fun C R' hR hC hcl hB => ?_; have X := noX; have hC' := congrArg List.length hC
  have hr1 : IntKind.i64.min ≤ slots := by simp [IntKind.min, IntKind.signed, IntKind.bits]; omega
  have hr2 : slots ≤ IntKind.i64.max := by simp [IntKind.max, IntKind.signed, IntKind.bits]; omega
  have X0 := And.intro X (And.intro hlm (And.intro hfcl (And.intro hfc5 (And.intro hfc6 (And.intro (getX hc) (And.intro hmcl (And.intro hmc0 (And.intro hmc1 (And.intro hmc2 (And.intro hmc4 (And.intro hicl (And.intro i0 (And.intro i1 (And.intro i2 (And.intro i3 (And.intro i4 (And.intro i5 (And.intro a8 (And.intro a16 (And.intro a32 (And.intro (b2_zero B8) (And.intro (b2_zero B16) (And.intro (b2_zero B32) (And.intro hr1 hr2))))))))))))))))))))))))
  clear X

  subst hop
  have e16 : B16 = true := by rw [← hB16]; decide
  have e32 : B32 = false := by rw [← hB32]; decide
  subst e16
  subst e32
  have htop2 : (if slots < frame then slots else frame) = top := by rw [← htop]; rfl
  have c3 : ACall Tryz.prog G 103 [.list 1 (l.map (.int .i64)), .fn (.func 104) [] [.ptr H.length 0 0 0]] (H ++ [.cells 0 7 [.agg fc], .cells 0 6 [.agg ic], .cells 0 1 [.int .i64 own], .cells 0 1 [.int .i64 top], .cells 0 1 [.fn (.func 102) [] [.ptr H.length 0 0 0]]]) (fun r H' => H' = (H ++ [.cells 0 7 [.agg fc], .cells 0 6 [.agg ic], .cells 0 1 [.int .i64 own], .cells 0 1 [.int .i64 top], .cells 0 1 [.fn (.func 102) [] [.ptr H.length 0 0 0]]]) ∧ r = .bool (l.any fun n => !inR n 0 (frame - 1))) :=
    anyInt_ok G hG _ (fun n => !inR n 0 (frame - 1)) l _ (by omega) (by simp [SV.under, SV.underL]) (fun x hx => ACallV.of (notIn_ok G hG x frame fc H.length _ (by simp) hfcl hfc5 hfr))
  have X := And.intro X0 htop2
  (refine run ?_; repeat' (first | with_reducible exact trivial | ((with_reducible apply Fork.mk) <;> intro hb) | with_reducible apply Two.mk))
  all_goals
    refine finS hR hC' hcl (.same _ rfl) ⟨rfl, ?_⟩
    clear X X0 v1 v2 v3 c1 c2 c3 hR hC hC' hcl hB hc hG hF a1 a2 a4 a8 a16 a32 hgoal i0 i1 i2 i3 i4 i5 hmc0 hmc1 hmc2 hmc4 hmcl hcl0 hicl hfc5 hfc6 hfcl hr1 hr2 hlm htb hl hn hs hfr hm1 hm2 hm3
    simp only [insOK, lstOK, finOK, htop, hown, hB1, hB2, hB4, hB8, hB16, hB32]
    simp only [resSV]
    congr 1
    generalize slotB B4 top c' = S4 at *
    generalize (l.any fun n => !inR n 0 (frame - 1)) = S5 at *
    cases S5 <;> cases S4 <;> cases B8 <;> simp_all
theorem ins20_ok (G : Gl) (hG : GClosed G) (hF : GF G) (m : Img) (slots frame : Int) (fc : List SV) (code : List Ins) (hfcl : fc.length = 7) (hfc5 : fc[5]? = some (.int .i64 frame)) (hfc6 : fc[6]? = some (.list 6 (insL code))) (i : Ins) (hn : code.length < 1099511627776) (hl : i.l.length < 1099511627776)
    (hm1 : m.cons.length < 1099511627776) (hm2 : m.funcs.length < 1099511627776) (hm3 : m.globals.length < 1099511627776) (hs : 1 ≤ slots ∧ slots ≤ 65536) (hfr : 0 ≤ frame ∧ frame ≤ 65536) (hop : i.op = 20) (c : Nat) (H : List Blk) (hc : H[c]? = some (.cells 0 5 [.agg (chkC m slots)])) :
    ACall Tryz.prog G 73 [.ptr c 0 0 0, .agg fc, .agg i.cells] H (fun r H' => H' = H ∧ r = .bool (insOK m slots frame code.length i)) := by
  have hcl0 := (List.getElem?_eq_some_iff.1 hc).1
  have hmcl : (chkC m slots).length = 5 := rfl
  have hmc0 : (chkC m slots)[0]? = some (.list 4 (consL m.cons)) := rfl
  have hmc1 : (chkC m slots)[1]? = some (.list 7 (funsL m.funcs)) := rfl
  have hmc2 : (chkC m slots)[2]? = some (.list 3 (glbsL m.globals)) := rfl
  have hmc4 : (chkC m slots)[4]? = some (.int .i64 slots) := rfl
  have hgoal : insOK m slots frame code.length i = insOK m slots frame code.length i := rfl
  obtain ⟨op, a, b, c', n, l⟩ := i
  simp only at hop hl
  generalize htop : insTop op slots frame = top
  have htb : -1099511627776 < top ∧ top < 1099511627776 := by subst htop; unfold insTop; (repeat' split) <;> omega
  have hlm : (l.map (SV.int .i64)).length = l.length := by simp
  simp only [insOK, htop] at hgoal
  generalize hmc : chkC m slots = mc at hc hmcl hmc0 hmc1 hmc2 hmc4
  simp only [Ins.cells]
  have hicl : ([.int .i64 op, .int .i64 a, .int .i64 b, .int .i64 c', .int .i64 n, .list 1 (l.map (.int .i64))] : List SV).length = 6 := rfl
  generalize hic : ([.int .i64 op, .int .i64 a, .int .i64 b, .int .i64 c', .int .i64 n, .list 1 (l.map (.int .i64))] : List SV) = ic at hicl
  have i0 : ic[0]? = some (.int .i64 op) := by subst hic; rfl
  have i1 : ic[1]? = some (.int .i64 a) := by subst hic; rfl
  have i2 : ic[2]? = some (.int .i64 b) := by subst hic; rfl
  have i3 : ic[3]? = some (.int .i64 c') := by subst hic; rfl
  have i4 : ic[4]? = some (.int .i64 n) := by subst hic; rfl
  have i5 : ic[5]? = some (.list 1 (l.map (.int .i64))) := by subst hic; rfl
  clear hic hmc
  have c1 := fun n hi H => within_ok G hG n 0 hi H
  have c2 := fun H => of_ok G hG hF op H
  obtain ⟨a1, a2, a4, a8, a16, a32, _⟩ := and_bit op
  generalize hB1 : bitOf 1 op = B1 at a1
  generalize hB2 : bitOf 2 op = B2 at a2
  generalize hB4 : bitOf 4 op = B4 at a4
  generalize hB8 : bitOf 8 op = B8 at a8
  generalize hB16 : bitOf 16 op = B16 at a16
  generalize hB32 : bitOf 32 op = B32 at a32
  generalize hown : ofS op = own at a1 a2 a4 a8 a16 a32 c2
  have v1 : ∀ s, ACallV Tryz.prog G (.fn (.func 101) [] [.ptr (H.length + 2) 0 0 0, .ptr (H.length + 3) 0 0 0]) [.int .i64 1, .int .i64 s] (H ++ [.cells 0 7 [.agg fc], .cells 0 6 [.agg ic], .cells 0 1 [.int .i64 own], .cells 0 1 [.int .i64 top]]) (fun r H' => H' = (H ++ [.cells 0 7 [.agg fc], .cells 0 6 [.agg ic], .cells 0 1 [.int .i64 own], .cells 0 1 [.int .i64 top]]) ∧ r = .bool (slotB B1 top s)) := fun s => ACallV.of (slot_ok G hG own top 1 s B1 (H.length + 2) (H.length + 3) _ (by simp) (by simp) a1 (b2_zero B1).1 htb)
  have v2 : ∀ s, ACallV Tryz.prog G (.fn (.func 101) [] [.ptr (H.length + 2) 0 0 0, .ptr (H.length + 3) 0 0 0]) [.int .i64 2, .int .i64 s] (H ++ [.cells 0 7 [.agg fc], .cells 0 6 [.agg ic], .cells 0 1 [.int .i64 own], .cells 0 1 [.int .i64 top]]) (fun r H' => H' = (H ++ [.cells 0 7 [.agg fc], .cells 0 6 [.agg ic], .cells 0 1 [.int .i64 own], .cells 0 1 [.int .i64 top]]) ∧ r = .bool (slotB B2 top s)) := fun s => ACallV.of (slot_ok G hG own top 2 s B2 (H.length + 2) (H.length + 3) _ (by simp) (by simp) a2 (b2_zero B2).2.1 htb)
  have v3 : ∀ s, ACallV Tryz.prog G (.fn (.func 101) [] [.ptr (H.length + 2) 0 0 0, .ptr (H.length + 3) 0 0 0]) [.int .i64 4, .int .i64 s] (H ++ [.cells 0 7 [.agg fc], .cells 0 6 [.agg ic], .cells 0 1 [.int .i64 own], .cells 0 1 [.int .i64 top]]) (fun r H' => H' = (H ++ [.cells 0 7 [.agg fc], .cells 0 6 [.agg ic], .cells 0 1 [.int .i64 own], .cells 0 1 [.int .i64 top]]) ∧ r = .bool (slotB B4 top s)) := fun s => ACallV.of (slot_ok G hG own top 4 s B4 (H.length + 2) (H.length + 3) _ (by simp) (by simp) a4 (b2_zero B4).2.2.1 htb)
  refine ACall.of_go TB [] tabOK _ Tryz.func73 rfl (by decide) Tryz.ntmps73 (by simp) rfl (by simp only [initEnv, Nat.reduceAdd]; rfl) fun C R' hR hC hcl hB => ?_; have X := noX; have hC' := congrArg List.length hC
  have hr1 : IntKind.i64.min ≤ slots := by simp [IntKind.min, IntKind.signed, IntKind.bits]; omega
  have hr2 : slots ≤ IntKind.i64.max := by simp [IntKind.max, IntKind.signed, IntKind.bits]; omega
  have X0 := And.intro X (And.intro hlm (And.intro hfcl (And.intro hfc5 (And.intro hfc6 (And.intro (getX hc) (And.intro hmcl (And.intro hmc0 (And.intro hmc1 (And.intro hmc2 (And.intro hmc4 (And.intro hicl (And.intro i0 (And.intro i1 (And.intro i2 (And.intro i3 (And.intro i4 (And.intro i5 (And.intro a8 (And.intro a16 (And.intro a32 (And.intro (b2_zero B8) (And.intro (b2_zero B16) (And.intro (b2_zero B32) (And.intro hr1 hr2))))))))))))))))))))))))
  clear X

  subst hop
  have e16 : B16 = false := by rw [← hB16]; decide
  have e32 : B32 = false := by rw [← hB32]; decide
  subst e16
  subst e32
  have htop2 : (if slots < frame then slots else frame) = top := by rw [← htop]; rfl
  have c3 := True.intro
  have X := And.intro X0 htop2
  (refine run ?_; repeat' (first | with_reducible exact trivial | ((with_reducible apply Fork.mk) <;> intro hb) | with_reducible apply Two.mk))
  all_goals
    refine finS hR hC' hcl (.same _ rfl) ⟨rfl, ?_⟩
    clear X X0 v1 v2 v3 c1 c2 c3 hR hC hC' hcl hB hc hG hF a1 a2 a4 a8 a16 a32 hgoal i0 i1 i2 i3 i4 i5 hmc0 hmc1 hmc2 hmc4 hmcl hcl0 hicl hfc5 hfc6 hfcl hr1 hr2 hlm htb hl hn hs hfr hm1 hm2 hm3
    simp only [insOK, lstOK, finOK, htop, hown, hB1, hB2, hB4, hB8, hB16, hB32]
    simp only [resSV]
    congr 1
    generalize slotB B4 top c' = S4 at *
    cases S4 <;> cases B8 <;> simp_all
theorem ins22_ok (G : Gl) (hG : GClosed G) (hF : GF G) (m : Img) (slots frame : Int) (fc : List SV) (code : List Ins) (hfcl : fc.length = 7) (hfc5 : fc[5]? = some (.int .i64 frame)) (hfc6 : fc[6]? = some (.list 6 (insL code))) (i : Ins) (hn : code.length < 1099511627776) (hl : i.l.length < 1099511627776)
    (hm1 : m.cons.length < 1099511627776) (hm2 : m.funcs.length < 1099511627776) (hm3 : m.globals.length < 1099511627776) (hs : 1 ≤ slots ∧ slots ≤ 65536) (hfr : 0 ≤ frame ∧ frame ≤ 65536) (hop : i.op = 22) (c : Nat) (H : List Blk) (hc : H[c]? = some (.cells 0 5 [.agg (chkC m slots)])) :
    ACall Tryz.prog G 73 [.ptr c 0 0 0, .agg fc, .agg i.cells] H (fun r H' => H' = H ∧ r = .bool (insOK m slots frame code.length i)) := by
  have hcl0 := (List.getElem?_eq_some_iff.1 hc).1
  have hmcl : (chkC m slots).length = 5 := rfl
  have hmc0 : (chkC m slots)[0]? = some (.list 4 (consL m.cons)) := rfl
  have hmc1 : (chkC m slots)[1]? = some (.list 7 (funsL m.funcs)) := rfl
  have hmc2 : (chkC m slots)[2]? = some (.list 3 (glbsL m.globals)) := rfl
  have hmc4 : (chkC m slots)[4]? = some (.int .i64 slots) := rfl
  have hgoal : insOK m slots frame code.length i = insOK m slots frame code.length i := rfl
  obtain ⟨op, a, b, c', n, l⟩ := i
  simp only at hop hl
  generalize htop : insTop op slots frame = top
  have htb : -1099511627776 < top ∧ top < 1099511627776 := by subst htop; unfold insTop; (repeat' split) <;> omega
  have hlm : (l.map (SV.int .i64)).length = l.length := by simp
  simp only [insOK, htop] at hgoal
  generalize hmc : chkC m slots = mc at hc hmcl hmc0 hmc1 hmc2 hmc4
  simp only [Ins.cells]
  have hicl : ([.int .i64 op, .int .i64 a, .int .i64 b, .int .i64 c', .int .i64 n, .list 1 (l.map (.int .i64))] : List SV).length = 6 := rfl
  generalize hic : ([.int .i64 op, .int .i64 a, .int .i64 b, .int .i64 c', .int .i64 n, .list 1 (l.map (.int .i64))] : List SV) = ic at hicl
  have i0 : ic[0]? = some (.int .i64 op) := by subst hic; rfl
  have i1 : ic[1]? = some (.int .i64 a) := by subst hic; rfl
  have i2 : ic[2]? = some (.int .i64 b) := by subst hic; rfl
  have i3 : ic[3]? = some (.int .i64 c') := by subst hic; rfl
  have i4 : ic[4]? = some (.int .i64 n) := by subst hic; rfl
  have i5 : ic[5]? = some (.list 1 (l.map (.int .i64))) := by subst hic; rfl
  clear hic hmc
  have c1 := fun n hi H => within_ok G hG n 0 hi H
  have c2 := fun H => of_ok G hG hF op H
  obtain ⟨a1, a2, a4, a8, a16, a32, _⟩ := and_bit op
  generalize hB1 : bitOf 1 op = B1 at a1
  generalize hB2 : bitOf 2 op = B2 at a2
  generalize hB4 : bitOf 4 op = B4 at a4
  generalize hB8 : bitOf 8 op = B8 at a8
  generalize hB16 : bitOf 16 op = B16 at a16
  generalize hB32 : bitOf 32 op = B32 at a32
  generalize hown : ofS op = own at a1 a2 a4 a8 a16 a32 c2
  have v1 : ∀ s, ACallV Tryz.prog G (.fn (.func 101) [] [.ptr (H.length + 2) 0 0 0, .ptr (H.length + 3) 0 0 0]) [.int .i64 1, .int .i64 s] (H ++ [.cells 0 7 [.agg fc], .cells 0 6 [.agg ic], .cells 0 1 [.int .i64 own], .cells 0 1 [.int .i64 top]]) (fun r H' => H' = (H ++ [.cells 0 7 [.agg fc], .cells 0 6 [.agg ic], .cells 0 1 [.int .i64 own], .cells 0 1 [.int .i64 top]]) ∧ r = .bool (slotB B1 top s)) := fun s => ACallV.of (slot_ok G hG own top 1 s B1 (H.length + 2) (H.length + 3) _ (by simp) (by simp) a1 (b2_zero B1).1 htb)
  have v2 : ∀ s, ACallV Tryz.prog G (.fn (.func 101) [] [.ptr (H.length + 2) 0 0 0, .ptr (H.length + 3) 0 0 0]) [.int .i64 2, .int .i64 s] (H ++ [.cells 0 7 [.agg fc], .cells 0 6 [.agg ic], .cells 0 1 [.int .i64 own], .cells 0 1 [.int .i64 top]]) (fun r H' => H' = (H ++ [.cells 0 7 [.agg fc], .cells 0 6 [.agg ic], .cells 0 1 [.int .i64 own], .cells 0 1 [.int .i64 top]]) ∧ r = .bool (slotB B2 top s)) := fun s => ACallV.of (slot_ok G hG own top 2 s B2 (H.length + 2) (H.length + 3) _ (by simp) (by simp) a2 (b2_zero B2).2.1 htb)
  have v3 : ∀ s, ACallV Tryz.prog G (.fn (.func 101) [] [.ptr (H.length + 2) 0 0 0, .ptr (H.length + 3) 0 0 0]) [.int .i64 4, .int .i64 s] (H ++ [.cells 0 7 [.agg fc], .cells 0 6 [.agg ic], .cells 0 1 [.int .i64 own], .cells 0 1 [.int .i64 top]]) (fun r H' => H' = (H ++ [.cells 0 7 [.agg fc], .cells 0 6 [.agg ic], .cells 0 1 [.int .i64 own], .cells 0 1 [.int .i64 top]]) ∧ r = .bool (slotB B4 top s)) := fun s => ACallV.of (slot_ok G hG own top 4 s B4 (H.length + 2) (H.length + 3) _ (by simp) (by simp) a4 (b2_zero B4).2.2.1 htb)
  refine ACall.of_go TB [] tabOK _ Tryz.func73 rfl (by decide) Tryz.ntmps73 (by simp) rfl (by simp only [initEnv, Nat.reduceAdd]; rfl) fun C R' hR hC hcl hB => ?_; have X := noX; have hC' := congrArg List.length hC
  have hr1 : IntKind.i64.min ≤ slots := by simp [IntKind.min, IntKind.signed, IntKind.bits]; omega
  have hr2 : slots ≤ IntKind.i64.max := by simp [IntKind.max, IntKind.signed, IntKind.bits]; omega
  have X0 := And.intro X (And.intro hlm (And.intro hfcl (And.intro hfc5 (And.intro hfc6 (And.intro (getX hc) (And.intro hmcl (And.intro hmc0 (And.intro hmc1 (And.intro hmc2 (And.intro hmc4 (And.intro hicl (And.intro i0 (And.intro i1 (And.intro i2 (And.intro i3 (And.intro i4 (And.intro i5 (And.intro a8 (And.intro a16 (And.intro a32 (And.intro (b2_zero B8) (And.intro (b2_zero B16) (And.intro (b2_zero B32) (And.intro hr1 hr2))))))))))))))))))))))))
  clear X

  subst hop
  have e16 : B16 = false := by rw [← hB16]; decide
  have e32 : B32 = true := by rw [← hB32]; decide
  subst e16
  subst e32
  have htop2 : (if slots < frame then slots else frame) = top := by rw [← htop]; rfl
  have c3 : ACall Tryz.prog G 103 [.list 1 (l.map (.int .i64)), .fn (.func 105) [] [.ptr (H.length + 4) 0 0 0, .ptr (H.length + 1) 0 0 0]] (H ++ [.cells 0 7 [.agg fc], .cells 0 6 [.agg ic], .cells 0 1 [.int .i64 own], .cells 0 1 [.int .i64 top], .cells 0 1 [.fn (.func 102) [] [.ptr H.length 0 0 0]]]) (fun r H' => H' = (H ++ [.cells 0 7 [.agg fc], .cells 0 6 [.agg ic], .cells 0 1 [.int .i64 own], .cells 0 1 [.int .i64 top], .cells 0 1 [.fn (.func 102) [] [.ptr H.length 0 0 0]]]) ∧ r = .bool (l.any (badP 22 code.length))) :=
    anyInt_ok G hG _ (badP 22 code.length) l _ (by omega) (by simp [SV.under, SV.underL]) (fun x hx => ACallV.of (badP_ok G hG x 22 code fc ic H.length (H.length + 4) (H.length + 1) _ (by simp) hfcl hfc6 (by omega) (by simp) (by simp) hicl i0))
  have X := And.intro X0 htop2
  (refine run ?_; repeat' (first | with_reducible exact trivial | ((with_reducible apply Fork.mk) <;> intro hb) | with_reducible apply Two.mk))
  all_goals
    refine finS hR hC' hcl (.same _ rfl) ⟨rfl, ?_⟩
    clear X X0 v1 v2 v3 c1 c2 c3 hR hC hC' hcl hB hc hG hF a1 a2 a4 a8 a16 a32 hgoal i0 i1 i2 i3 i4 i5 hmc0 hmc1 hmc2 hmc4 hmcl hcl0 hicl hfc5 hfc6 hfcl hr1 hr2 hlm htb hl hn hs hfr hm1 hm2 hm3
    simp only [insOK, lstOK, finOK, htop, hown, hB1, hB2, hB4, hB8, hB16, hB32]
    simp only [resSV]
    congr 1
    generalize slotB B4 top c' = S4 at *
    generalize l.any (badP 22 code.length) = S5 at *
    cases S5 <;> cases S4 <;> cases B8 <;> simp_all
end Go.Proofs.YthgdcjenoiojeaaGreatDoor
end

section
namespace Go.Proofs.YthgdcjenoiojeaaGreatDoor
open Go
set_option linter.unusedSimpArgs false
set_option linter.unusedVariables false
set_option maxRecDepth 10000
set_option maxHeartbeats 4000000

theorem ins21_ok (G : Gl) (hG : GClosed G) (hF : GF G) (m : Img) (slots frame : Int) (fc : List SV) (code : List Ins) (hfcl : fc.length = 7) (hfc5 : fc[5]? = some (.int .i64 frame)) (hfc6 : fc[6]? = some (.list 6 (insL code))) (i : Ins) (hn : code.length < 1099511627776) (hl : i.l.length < 1099511627776)
    (hm1 : m.cons.length < 1099511627776) (hm2 : m.funcs.length < 1099511627776) (hm3 : m.globals.length < 1099511627776) (hs : 1 ≤ slots ∧ slots ≤ 65536) (hfr : 0 ≤ frame ∧ frame ≤ 65536) (hop : i.op = 21) (c : Nat) (H : List Blk) (hc : H[c]? = some (.cells 0 5 [.agg (chkC m slots)])) :
    ACall Tryz.prog G 73 [.ptr c 0 0 0, .agg fc, .agg i.cells] H (fun r H' => H' = H ∧ r = .bool (insOK m slots frame code.length i)) := by
  have hcl0 := (List.getElem?_eq_some_iff.1 hc).1
  have hmcl : (chkC m slots).length = 5 := rfl
  have hmc0 : (chkC m slots)[0]? = some (.list 4 (consL m.cons)) := rfl
  have hmc1 : (chkC m slots)[1]? = some (.list 7 (funsL m.funcs)) := rfl
  have hmc2 : (chkC m slots)[2]? = some (.list 3 (glbsL m.globals)) := rfl
  have hmc4 : (chkC m slots)[4]? = some (.int .i64 slots) := rfl
  have hgoal : insOK m slots frame code.length i = insOK m slots frame code.length i := rfl
  obtain ⟨op, a, b, c', n, l⟩ := i
  simp only at hop hl
  generalize htop : insTop op slots frame = top
  have htb : -1099511627776 < top ∧ top < 1099511627776 := by subst htop; unfold insTop; (repeat' split) <;> omega
  have hlm : (l.map (SV.int .i64)).length = l.length := by simp
  simp only [insOK, htop] at hgoal
  generalize hmc : chkC m slots = mc at hc hmcl hmc0 hmc1 hmc2 hmc4
  simp only [Ins.cells]
  have hicl : ([.int .i64 op, .int .i64 a, .int .i64 b, .int .i64 c', .int .i64 n, .list 1 (l.map (.int .i64))] : List SV).length = 6 := rfl
  generalize hic : ([.int .i64 op, .int .i64 a, .int .i64 b, .int .i64 c', .int .i64 n, .list 1 (l.map (.int .i64))] : List SV) = ic at hicl
  have i0 : ic[0]? = some (.int .i64 op) := by subst hic; rfl
  have i1 : ic[1]? = some (.int .i64 a) := by subst hic; rfl
  have i2 : ic[2]? = some (.int .i64 b) := by subst hic; rfl
  have i3 : ic[3]? = some (.int .i64 c') := by subst hic; rfl
  have i4 : ic[4]? = some (.int .i64 n) := by subst hic; rfl
  have i5 : ic[5]? = some (.list 1 (l.map (.int .i64))) := by subst hic; rfl
  clear hic hmc
  have c1 := fun n hi H => within_ok G hG n 0 hi H
  have c2 := fun H => of_ok G hG hF op H
  obtain ⟨a1, a2, a4, a8, a16, a32, _⟩ := and_bit op
  generalize hB1 : bitOf 1 op = B1 at a1
  generalize hB2 : bitOf 2 op = B2 at a2
  generalize hB4 : bitOf 4 op = B4 at a4
  generalize hB8 : bitOf 8 op = B8 at a8
  generalize hB16 : bitOf 16 op = B16 at a16
  generalize hB32 : bitOf 32 op = B32 at a32
  generalize hown : ofS op = own at a1 a2 a4 a8 a16 a32 c2
  have v1 : ∀ s, ACallV Tryz.prog G (.fn (.func 101) [] [.ptr (H.length + 2) 0 0 0, .ptr (H.length + 3) 0 0 0]) [.int .i64 1, .int .i64 s] (H ++ [.cells 0 7 [.agg fc], .cells 0 6 [.agg ic], .cells 0 1 [.int .i64 own], .cells 0 1 [.int .i64 top]]) (fun r H' => H' = (H ++ [.cells 0 7 [.agg fc], .cells 0 6 [.agg ic], .cells 0 1 [.int .i64 own], .cells 0 1 [.int .i64 top]]) ∧ r = .bool (slotB B1 top s)) := fun s => ACallV.of (slot_ok G hG own top 1 s B1 (H.length + 2) (H.length + 3) _ (by simp) (by simp) a1 (b2_zero B1).1 htb)
  have v2 : ∀ s, ACallV Tryz.prog G (.fn (.func 101) [] [.ptr (H.length + 2) 0 0 0, .ptr (H.length + 3) 0 0 0]) [.int .i64 2, .int .i64 s] (H ++ [.cells 0 7 [.agg fc], .cells 0 6 [.agg ic], .cells 0 1 [.int .i64 own], .cells 0 1 [.int .i64 top]]) (fun r H' => H' = (H ++ [.cells 0 7 [.agg fc], .cells 0 6 [.agg ic], .cells 0 1 [.int .i64 own], .cells 0 1 [.int .i64 top]]) ∧ r = .bool (slotB B2 top s)) := fun s => ACallV.of (slot_ok G hG own top 2 s B2 (H.length + 2) (H.length + 3) _ (by simp) (by simp) a2 (b2_zero B2).2.1 htb)
  have v3 : ∀ s, ACallV Tryz.prog G (.fn (.func 101) [] [.ptr (H.length + 2) 0 0 0, .ptr (H.length + 3) 0 0 0]) [.int .i64 4, .int .i64 s] (H ++ [.cells 0 7 [.agg fc], .cells 0 6 [.agg ic], .cells 0 1 [.int .i64 own], .cells 0 1 [.int .i64 top]]) (fun r H' => H' = (H ++ [.cells 0 7 [.agg fc], .cells 0 6 [.agg ic], .cells 0 1 [.int .i64 own], .cells 0 1 [.int .i64 top]]) ∧ r = .bool (slotB B4 top s)) := fun s => ACallV.of (slot_ok G hG own top 4 s B4 (H.length + 2) (H.length + 3) _ (by simp) (by simp) a4 (b2_zero B4).2.2.1 htb)
  refine ACall.of_go TB [] tabOK _ Tryz.func73 rfl (by decide) Tryz.ntmps73 (by simp) rfl (by simp only [initEnv, Nat.reduceAdd]; rfl) fun C R' hR hC hcl hB => ?_; have X := noX; have hC' := congrArg List.length hC
  have hr1 : IntKind.i64.min ≤ slots := by simp [IntKind.min, IntKind.signed, IntKind.bits]; omega
  have hr2 : slots ≤ IntKind.i64.max := by simp [IntKind.max, IntKind.signed, IntKind.bits]; omega
  have X0 := And.intro X (And.intro hlm (And.intro hfcl (And.intro hfc5 (And.intro hfc6 (And.intro (getX hc) (And.intro hmcl (And.intro hmc0 (And.intro hmc1 (And.intro hmc2 (And.intro hmc4 (And.intro hicl (And.intro i0 (And.intro i1 (And.intro i2 (And.intro i3 (And.intro i4 (And.intro i5 (And.intro a8 (And.intro a16 (And.intro a32 (And.intro (b2_zero B8) (And.intro (b2_zero B16) (And.intro (b2_zero B32) (And.intro hr1 hr2))))))))))))))))))))))))
  clear X

  subst hop
  have e16 : B16 = false := by rw [← hB16]; decide
  have e32 : B32 = true := by rw [← hB32]; decide
  subst e16
  subst e32
  have htop2 : (if slots < frame then slots else frame) = top := by rw [← htop]; rfl
  have c3 : ACall Tryz.prog G 103 [.list 1 (l.map (.int .i64)), .fn (.func 105) [] [.ptr (H.length + 4) 0 0 0, .ptr (H.length + 1) 0 0 0]] (H ++ [.cells 0 7 [.agg fc], .cells 0 6 [.agg ic], .cells 0 1 [.int .i64 own], .cells 0 1 [.int .i64 top], .cells 0 1 [.fn (.func 102) [] [.ptr H.length 0 0 0]]]) (fun r H' => H' = (H ++ [.cells 0 7 [.agg fc], .cells 0 6 [.agg ic], .cells 0 1 [.int .i64 own], .cells 0 1 [.int .i64 top], .cells 0 1 [.fn (.func 102) [] [.ptr H.length 0 0 0]]]) ∧ r = .bool (l.any (badP 21 code.length))) :=
    anyInt_ok G hG _ (badP 21 code.length) l _ (by omega) (by simp [SV.under, SV.underL]) (fun x hx => ACallV.of (badP_ok G hG x 21 code fc ic H.length (H.length + 4) (H.length + 1) _ (by simp) hfcl hfc6 (by omega) (by simp) (by simp) hicl i0))
  have X := And.intro X0 htop2
  (refine run ?_; repeat' (first | with_reducible exact trivial | ((with_reducible apply Fork.mk) <;> intro hb) | with_reducible apply Two.mk))
  all_goals try
    refine callV (ACallV.of (place_ok G hG n code fc H.length (H ++ [.cells 0 7 [.agg fc], .cells 0 6 [.agg ic], .cells 0 1 [.int .i64 own], .cells 0 1 [.int .i64 top], .cells 0 1 [.fn (.func 102) [] [.ptr H.length 0 0 0]]]) (by simp) hfcl hfc6 (by omega))) ?_
    rintro r H' ⟨rfl, rfl⟩
    (refine run ?_; repeat' (first | with_reducible exact trivial | ((with_reducible apply Fork.mk) <;> intro hb) | with_reducible apply Two.mk))
  all_goals
    refine finS hR hC' hcl (.same _ rfl) ⟨rfl, ?_⟩
    clear X X0 v1 v2 v3 c1 c2 c3 hR hC hC' hcl hB hc hG hF a1 a2 a4 a8 a16 a32 hgoal i0 i1 i2 i3 i4 i5 hmc0 hmc1 hmc2 hmc4 hmcl hcl0 hicl hfc5 hfc6 hfcl hr1 hr2 hlm htb hl hn hs hfr hm1 hm2 hm3
    simp only [insOK, lstOK, finOK, htop, hown, hB1, hB2, hB4, hB8, hB16, hB32]
    simp only [resSV]
    congr 1
    generalize slotB B4 top c' = S4 at *
    generalize l.any (badP 21 code.length) = S5 at *
    cases S5 <;> cases S4 <;> cases B8 <;> simp_all
theorem ins23_ok (G : Gl) (hG : GClosed G) (hF : GF G) (m : Img) (slots frame : Int) (fc : List SV) (code : List Ins) (hfcl : fc.length = 7) (hfc5 : fc[5]? = some (.int .i64 frame)) (hfc6 : fc[6]? = some (.list 6 (insL code))) (i : Ins) (hn : code.length < 1099511627776) (hl : i.l.length < 1099511627776)
    (hm1 : m.cons.length < 1099511627776) (hm2 : m.funcs.length < 1099511627776) (hm3 : m.globals.length < 1099511627776) (hs : 1 ≤ slots ∧ slots ≤ 65536) (hfr : 0 ≤ frame ∧ frame ≤ 65536) (hop : i.op = 23) (c : Nat) (H : List Blk) (hc : H[c]? = some (.cells 0 5 [.agg (chkC m slots)])) :
    ACall Tryz.prog G 73 [.ptr c 0 0 0, .agg fc, .agg i.cells] H (fun r H' => H' = H ∧ r = .bool (insOK m slots frame code.length i)) := by
  have hcl0 := (List.getElem?_eq_some_iff.1 hc).1
  have hmcl : (chkC m slots).length = 5 := rfl
  have hmc0 : (chkC m slots)[0]? = some (.list 4 (consL m.cons)) := rfl
  have hmc1 : (chkC m slots)[1]? = some (.list 7 (funsL m.funcs)) := rfl
  have hmc2 : (chkC m slots)[2]? = some (.list 3 (glbsL m.globals)) := rfl
  have hmc4 : (chkC m slots)[4]? = some (.int .i64 slots) := rfl
  have hgoal : insOK m slots frame code.length i = insOK m slots frame code.length i := rfl
  obtain ⟨op, a, b, c', n, l⟩ := i
  simp only at hop hl
  generalize htop : insTop op slots frame = top
  have htb : -1099511627776 < top ∧ top < 1099511627776 := by subst htop; unfold insTop; (repeat' split) <;> omega
  have hlm : (l.map (SV.int .i64)).length = l.length := by simp
  simp only [insOK, htop] at hgoal
  generalize hmc : chkC m slots = mc at hc hmcl hmc0 hmc1 hmc2 hmc4
  simp only [Ins.cells]
  have hicl : ([.int .i64 op, .int .i64 a, .int .i64 b, .int .i64 c', .int .i64 n, .list 1 (l.map (.int .i64))] : List SV).length = 6 := rfl
  generalize hic : ([.int .i64 op, .int .i64 a, .int .i64 b, .int .i64 c', .int .i64 n, .list 1 (l.map (.int .i64))] : List SV) = ic at hicl
  have i0 : ic[0]? = some (.int .i64 op) := by subst hic; rfl
  have i1 : ic[1]? = some (.int .i64 a) := by subst hic; rfl
  have i2 : ic[2]? = some (.int .i64 b) := by subst hic; rfl
  have i3 : ic[3]? = some (.int .i64 c') := by subst hic; rfl
  have i4 : ic[4]? = some (.int .i64 n) := by subst hic; rfl
  have i5 : ic[5]? = some (.list 1 (l.map (.int .i64))) := by subst hic; rfl
  clear hic hmc
  have c1 := fun n hi H => within_ok G hG n 0 hi H
  have c2 := fun H => of_ok G hG hF op H
  obtain ⟨a1, a2, a4, a8, a16, a32, _⟩ := and_bit op
  generalize hB1 : bitOf 1 op = B1 at a1
  generalize hB2 : bitOf 2 op = B2 at a2
  generalize hB4 : bitOf 4 op = B4 at a4
  generalize hB8 : bitOf 8 op = B8 at a8
  generalize hB16 : bitOf 16 op = B16 at a16
  generalize hB32 : bitOf 32 op = B32 at a32
  generalize hown : ofS op = own at a1 a2 a4 a8 a16 a32 c2
  have v1 : ∀ s, ACallV Tryz.prog G (.fn (.func 101) [] [.ptr (H.length + 2) 0 0 0, .ptr (H.length + 3) 0 0 0]) [.int .i64 1, .int .i64 s] (H ++ [.cells 0 7 [.agg fc], .cells 0 6 [.agg ic], .cells 0 1 [.int .i64 own], .cells 0 1 [.int .i64 top]]) (fun r H' => H' = (H ++ [.cells 0 7 [.agg fc], .cells 0 6 [.agg ic], .cells 0 1 [.int .i64 own], .cells 0 1 [.int .i64 top]]) ∧ r = .bool (slotB B1 top s)) := fun s => ACallV.of (slot_ok G hG own top 1 s B1 (H.length + 2) (H.length + 3) _ (by simp) (by simp) a1 (b2_zero B1).1 htb)
  have v2 : ∀ s, ACallV Tryz.prog G (.fn (.func 101) [] [.ptr (H.length + 2) 0 0 0, .ptr (H.length + 3) 0 0 0]) [.int .i64 2, .int .i64 s] (H ++ [.cells 0 7 [.agg fc], .cells 0 6 [.agg ic], .cells 0 1 [.int .i64 own], .cells 0 1 [.int .i64 top]]) (fun r H' => H' = (H ++ [.cells 0 7 [.agg fc], .cells 0 6 [.agg ic], .cells 0 1 [.int .i64 own], .cells 0 1 [.int .i64 top]]) ∧ r = .bool (slotB B2 top s)) := fun s => ACallV.of (slot_ok G hG own top 2 s B2 (H.length + 2) (H.length + 3) _ (by simp) (by simp) a2 (b2_zero B2).2.1 htb)
  have v3 : ∀ s, ACallV Tryz.prog G (.fn (.func 101) [] [.ptr (H.length + 2) 0 0 0, .ptr (H.length + 3) 0 0 0]) [.int .i64 4, .int .i64 s] (H ++ [.cells 0 7 [.agg fc], .cells 0 6 [.agg ic], .cells 0 1 [.int .i64 own], .cells 0 1 [.int .i64 top]]) (fun r H' => H' = (H ++ [.cells 0 7 [.agg fc], .cells 0 6 [.agg ic], .cells 0 1 [.int .i64 own], .cells 0 1 [.int .i64 top]]) ∧ r = .bool (slotB B4 top s)) := fun s => ACallV.of (slot_ok G hG own top 4 s B4 (H.length + 2) (H.length + 3) _ (by simp) (by simp) a4 (b2_zero B4).2.2.1 htb)
  refine ACall.of_go TB [] tabOK _ Tryz.func73 rfl (by decide) Tryz.ntmps73 (by simp) rfl (by simp only [initEnv, Nat.reduceAdd]; rfl) fun C R' hR hC hcl hB => ?_; have X := noX; have hC' := congrArg List.length hC
  have hr1 : IntKind.i64.min ≤ slots := by simp [IntKind.min, IntKind.signed, IntKind.bits]; omega
  have hr2 : slots ≤ IntKind.i64.max := by simp [IntKind.max, IntKind.signed, IntKind.bits]; omega
  have X0 := And.intro X (And.intro hlm (And.intro hfcl (And.intro hfc5 (And.intro hfc6 (And.intro (getX hc) (And.intro hmcl (And.intro hmc0 (And.intro hmc1 (And.intro hmc2 (And.intro hmc4 (And.intro hicl (And.intro i0 (And.intro i1 (And.intro i2 (And.intro i3 (And.intro i4 (And.intro i5 (And.intro a8 (And.intro a16 (And.intro a32 (And.intro (b2_zero B8) (And.intro (b2_zero B16) (And.intro (b2_zero B32) (And.intro hr1 hr2))))))))))))))))))))))))
  clear X

  subst hop
  have e16 : B16 = false := by rw [← hB16]; decide
  have e32 : B32 = false := by rw [← hB32]; decide
  subst e16
  subst e32
  have htop2 : (if slots < frame then slots else frame) = top := by rw [← htop]; rfl
  have c3 := True.intro
  have X := And.intro X0 htop2
  (refine run ?_; repeat' (first | with_reducible exact trivial | ((with_reducible apply Fork.mk) <;> intro hb) | with_reducible apply Two.mk))
  all_goals try
    refine callV (ACallV.of (place_ok G hG n code fc H.length (H ++ [.cells 0 7 [.agg fc], .cells 0 6 [.agg ic], .cells 0 1 [.int .i64 own], .cells 0 1 [.int .i64 top], .cells 0 1 [.fn (.func 102) [] [.ptr H.length 0 0 0]]]) (by simp) hfcl hfc6 (by omega))) ?_
    rintro r H' ⟨rfl, rfl⟩
    (refine run ?_; repeat' (first | with_reducible exact trivial | ((with_reducible apply Fork.mk) <;> intro hb) | with_reducible apply Two.mk))
  all_goals
    refine finS hR hC' hcl (.same _ rfl) ⟨rfl, ?_⟩
    clear X X0 v1 v2 v3 c1 c2 c3 hR hC hC' hcl hB hc hG hF a1 a2 a4 a8 a16 a32 hgoal i0 i1 i2 i3 i4 i5 hmc0 hmc1 hmc2 hmc4 hmcl hcl0 hicl hfc5 hfc6 hfcl hr1 hr2 hlm htb hl hn hs hfr hm1 hm2 hm3
    simp only [insOK, lstOK, finOK, htop, hown, hB1, hB2, hB4, hB8, hB16, hB32]
    simp only [resSV]
    congr 1
    generalize slotB B4 top c' = S4 at *
    cases S4 <;> cases B8 <;> simp_all
theorem ins12_ok (G : Gl) (hG : GClosed G) (hF : GF G) (m : Img) (slots frame : Int) (fc : List SV) (code : List Ins) (hfcl : fc.length = 7) (hfc5 : fc[5]? = some (.int .i64 frame)) (hfc6 : fc[6]? = some (.list 6 (insL code))) (i : Ins) (hn : code.length < 1099511627776) (hl : i.l.length < 1099511627776)
    (hm1 : m.cons.length < 1099511627776) (hm2 : m.funcs.length < 1099511627776) (hm3 : m.globals.length < 1099511627776) (hs : 1 ≤ slots ∧ slots ≤ 65536) (hfr : 0 ≤ frame ∧ frame ≤ 65536) (hop : i.op = 12) (c : Nat) (H : List Blk) (hc : H[c]? = some (.cells 0 5 [.agg (chkC m slots)])) :
    ACall Tryz.prog G 73 [.ptr c 0 0 0, .agg fc, .agg i.cells] H (fun r H' => H' = H ∧ r = .bool (insOK m slots frame code.length i)) := by
  have hcl0 := (List.getElem?_eq_some_iff.1 hc).1
  have hmcl : (chkC m slots).length = 5 := rfl
  have hmc0 : (chkC m slots)[0]? = some (.list 4 (consL m.cons)) := rfl
  have hmc1 : (chkC m slots)[1]? = some (.list 7 (funsL m.funcs)) := rfl
  have hmc2 : (chkC m slots)[2]? = some (.list 3 (glbsL m.globals)) := rfl
  have hmc4 : (chkC m slots)[4]? = some (.int .i64 slots) := rfl
  have hgoal : insOK m slots frame code.length i = insOK m slots frame code.length i := rfl
  obtain ⟨op, a, b, c', n, l⟩ := i
  simp only at hop hl
  generalize htop : insTop op slots frame = top
  have htb : -1099511627776 < top ∧ top < 1099511627776 := by subst htop; unfold insTop; (repeat' split) <;> omega
  have hlm : (l.map (SV.int .i64)).length = l.length := by simp
  simp only [insOK, htop] at hgoal
  generalize hmc : chkC m slots = mc at hc hmcl hmc0 hmc1 hmc2 hmc4
  simp only [Ins.cells]
  have hicl : ([.int .i64 op, .int .i64 a, .int .i64 b, .int .i64 c', .int .i64 n, .list 1 (l.map (.int .i64))] : List SV).length = 6 := rfl
  generalize hic : ([.int .i64 op, .int .i64 a, .int .i64 b, .int .i64 c', .int .i64 n, .list 1 (l.map (.int .i64))] : List SV) = ic at hicl
  have i0 : ic[0]? = some (.int .i64 op) := by subst hic; rfl
  have i1 : ic[1]? = some (.int .i64 a) := by subst hic; rfl
  have i2 : ic[2]? = some (.int .i64 b) := by subst hic; rfl
  have i3 : ic[3]? = some (.int .i64 c') := by subst hic; rfl
  have i4 : ic[4]? = some (.int .i64 n) := by subst hic; rfl
  have i5 : ic[5]? = some (.list 1 (l.map (.int .i64))) := by subst hic; rfl
  clear hic hmc
  have c1 := fun n hi H => within_ok G hG n 0 hi H
  have c2 := fun H => of_ok G hG hF op H
  obtain ⟨a1, a2, a4, a8, a16, a32, _⟩ := and_bit op
  generalize hB1 : bitOf 1 op = B1 at a1
  generalize hB2 : bitOf 2 op = B2 at a2
  generalize hB4 : bitOf 4 op = B4 at a4
  generalize hB8 : bitOf 8 op = B8 at a8
  generalize hB16 : bitOf 16 op = B16 at a16
  generalize hB32 : bitOf 32 op = B32 at a32
  generalize hown : ofS op = own at a1 a2 a4 a8 a16 a32 c2
  have v1 : ∀ s, ACallV Tryz.prog G (.fn (.func 101) [] [.ptr (H.length + 2) 0 0 0, .ptr (H.length + 3) 0 0 0]) [.int .i64 1, .int .i64 s] (H ++ [.cells 0 7 [.agg fc], .cells 0 6 [.agg ic], .cells 0 1 [.int .i64 own], .cells 0 1 [.int .i64 top]]) (fun r H' => H' = (H ++ [.cells 0 7 [.agg fc], .cells 0 6 [.agg ic], .cells 0 1 [.int .i64 own], .cells 0 1 [.int .i64 top]]) ∧ r = .bool (slotB B1 top s)) := fun s => ACallV.of (slot_ok G hG own top 1 s B1 (H.length + 2) (H.length + 3) _ (by simp) (by simp) a1 (b2_zero B1).1 htb)
  have v2 : ∀ s, ACallV Tryz.prog G (.fn (.func 101) [] [.ptr (H.length + 2) 0 0 0, .ptr (H.length + 3) 0 0 0]) [.int .i64 2, .int .i64 s] (H ++ [.cells 0 7 [.agg fc], .cells 0 6 [.agg ic], .cells 0 1 [.int .i64 own], .cells 0 1 [.int .i64 top]]) (fun r H' => H' = (H ++ [.cells 0 7 [.agg fc], .cells 0 6 [.agg ic], .cells 0 1 [.int .i64 own], .cells 0 1 [.int .i64 top]]) ∧ r = .bool (slotB B2 top s)) := fun s => ACallV.of (slot_ok G hG own top 2 s B2 (H.length + 2) (H.length + 3) _ (by simp) (by simp) a2 (b2_zero B2).2.1 htb)
  have v3 : ∀ s, ACallV Tryz.prog G (.fn (.func 101) [] [.ptr (H.length + 2) 0 0 0, .ptr (H.length + 3) 0 0 0]) [.int .i64 4, .int .i64 s] (H ++ [.cells 0 7 [.agg fc], .cells 0 6 [.agg ic], .cells 0 1 [.int .i64 own], .cells 0 1 [.int .i64 top]]) (fun r H' => H' = (H ++ [.cells 0 7 [.agg fc], .cells 0 6 [.agg ic], .cells 0 1 [.int .i64 own], .cells 0 1 [.int .i64 top]]) ∧ r = .bool (slotB B4 top s)) := fun s => ACallV.of (slot_ok G hG own top 4 s B4 (H.length + 2) (H.length + 3) _ (by simp) (by simp) a4 (b2_zero B4).2.2.1 htb)
  refine ACall.of_go TB [] tabOK _ Tryz.func73 rfl (by decide) Tryz.ntmps73 (by simp) rfl (by simp only [initEnv, Nat.reduceAdd]; rfl) fun C R' hR hC hcl hB => ?_; have X := noX; have hC' := congrArg List.length hC
  have hr1 : IntKind.i64.min ≤ slots := by simp [IntKind.min, IntKind.signed, IntKind.bits]; omega
  have hr2 : slots ≤ IntKind.i64.max := by simp [IntKind.max, IntKind.signed, IntKind.bits]; omega
  have X0 := And.intro X (And.intro hlm (And.intro hfcl (And.intro hfc5 (And.intro hfc6 (And.intro (getX hc) (And.intro hmcl (And.intro hmc0 (And.intro hmc1 (And.intro hmc2 (And.intro hmc4 (And.intro hicl (And.intro i0 (And.intro i1 (And.intro i2 (And.intro i3 (And.intro i4 (And.intro i5 (And.intro a8 (And.intro a16 (And.intro a32 (And.intro (b2_zero B8) (And.intro (b2_zero B16) (And.intro (b2_zero B32) (And.intro hr1 hr2))))))))))))))))))))))))
  clear X

  subst hop
  have e16 : B16 = true := by rw [← hB16]; decide
  have e32 : B32 = false := by rw [← hB32]; decide
  subst e16
  subst e32
  have htop2 : (if slots < frame then slots else frame) = top := by rw [← htop]; rfl
  have c3 : ACall Tryz.prog G 103 [.list 1 (l.map (.int .i64)), .fn (.func 104) [] [.ptr H.length 0 0 0]] (H ++ [.cells 0 7 [.agg fc], .cells 0 6 [.agg ic], .cells 0 1 [.int .i64 own], .cells 0 1 [.int .i64 top], .cells 0 1 [.fn (.func 102) [] [.ptr H.length 0 0 0]]]) (fun r H' => H' = (H ++ [.cells 0 7 [.agg fc], .cells 0 6 [.agg ic], .cells 0 1 [.int .i64 own], .cells 0 1 [.int .i64 top], .cells 0 1 [.fn (.func 102) [] [.ptr H.length 0 0 0]]]) ∧ r = .bool (l.any fun n => !inR n 0 (frame - 1))) :=
    anyInt_ok G hG _ (fun n => !inR n 0 (frame - 1)) l _ (by omega) (by simp [SV.under, SV.underL]) (fun x hx => ACallV.of (notIn_ok G hG x frame fc H.length _ (by simp) hfcl hfc5 hfr))
  by_cases hin : inR n 0 ((m.cons.length : Int) - 1) = true
  · have hin2 : 0 ≤ n ∧ n < m.cons.length := by simp [inR] at hin; omega
    obtain ⟨k, rfl⟩ := Int.eq_ofNat_of_zero_le hin2.1
    have hk : k < m.cons.length := by omega
    have hget : getA m.cons k = (m.cons[k]).arity := by unfold getA; rw [Int.toNat_natCast, List.getElem?_eq_getElem hk]
    have hx : (consL m.cons)[k]? = some (.agg (m.cons[k]).cells) := by simp [consL, hk]
    generalize m.cons[k] = x at hget hx
    have hx : (consL m.cons)[k]? = some (.agg [.str x.name, .int .i64 x.arity, .int .i64 x.tag, .int .i64 x.family]) := hx
    have X := And.intro X0 (And.intro htop2 (And.intro hin hx))
    (refine run ?_; repeat' (first | with_reducible exact trivial | ((with_reducible apply Fork.mk) <;> intro hb) | with_reducible apply Two.mk))
    all_goals
      refine finS hR hC' hcl (.same _ rfl) ⟨rfl, ?_⟩
      clear X X0 v1 v2 v3 c1 c2 c3 hR hC hC' hcl hB hc hG hF a1 a2 a4 a8 a16 a32 hgoal i0 i1 i2 i3 i4 i5 hmc0 hmc1 hmc2 hmc4 hmcl hcl0 hicl hfc5 hfc6 hfcl hr1 hr2 hlm htb hl hn hs hfr hm1 hm2 hm3
      simp only [hget, hin, insOK, lstOK, finOK, htop, hown, hB1, hB2, hB4, hB8, hB16, hB32]
      simp only [resSV]
      congr 1
      generalize slotB B4 top c' = S4 at *
      generalize (l.any fun n => !inR n 0 (frame - 1)) = S5 at *
      cases S5 <;> cases S4 <;> cases B8 <;> simp_all
  · have hin : inR n 0 ((m.cons.length : Int) - 1) = false := by simpa using hin
    have X := And.intro X0 (And.intro htop2 hin)
    (refine run ?_; repeat' (first | with_reducible exact trivial | ((with_reducible apply Fork.mk) <;> intro hb) | with_reducible apply Two.mk))
    all_goals
      refine finS hR hC' hcl (.same _ rfl) ⟨rfl, ?_⟩
      clear X X0 v1 v2 v3 c1 c2 c3 hR hC hC' hcl hB hc hG hF a1 a2 a4 a8 a16 a32 hgoal i0 i1 i2 i3 i4 i5 hmc0 hmc1 hmc2 hmc4 hmcl hcl0 hicl hfc5 hfc6 hfcl hr1 hr2 hlm htb hl hn hs hfr hm1 hm2 hm3
      simp only [hin, insOK, lstOK, finOK, htop, hown, hB1, hB2, hB4, hB8, hB16, hB32]
      simp only [resSV]
      congr 1
      generalize slotB B4 top c' = S4 at *
      generalize (l.any fun n => !inR n 0 (frame - 1)) = S5 at *
      cases S5 <;> cases S4 <;> cases B8 <;> simp_all
theorem ins13_ok (G : Gl) (hG : GClosed G) (hF : GF G) (m : Img) (slots frame : Int) (fc : List SV) (code : List Ins) (hfcl : fc.length = 7) (hfc5 : fc[5]? = some (.int .i64 frame)) (hfc6 : fc[6]? = some (.list 6 (insL code))) (i : Ins) (hn : code.length < 1099511627776) (hl : i.l.length < 1099511627776)
    (hm1 : m.cons.length < 1099511627776) (hm2 : m.funcs.length < 1099511627776) (hm3 : m.globals.length < 1099511627776) (hs : 1 ≤ slots ∧ slots ≤ 65536) (hfr : 0 ≤ frame ∧ frame ≤ 65536) (hop : i.op = 13) (c : Nat) (H : List Blk) (hc : H[c]? = some (.cells 0 5 [.agg (chkC m slots)])) :
    ACall Tryz.prog G 73 [.ptr c 0 0 0, .agg fc, .agg i.cells] H (fun r H' => H' = H ∧ r = .bool (insOK m slots frame code.length i)) := by
  have hcl0 := (List.getElem?_eq_some_iff.1 hc).1
  have hmcl : (chkC m slots).length = 5 := rfl
  have hmc0 : (chkC m slots)[0]? = some (.list 4 (consL m.cons)) := rfl
  have hmc1 : (chkC m slots)[1]? = some (.list 7 (funsL m.funcs)) := rfl
  have hmc2 : (chkC m slots)[2]? = some (.list 3 (glbsL m.globals)) := rfl
  have hmc4 : (chkC m slots)[4]? = some (.int .i64 slots) := rfl
  have hgoal : insOK m slots frame code.length i = insOK m slots frame code.length i := rfl
  obtain ⟨op, a, b, c', n, l⟩ := i
  simp only at hop hl
  generalize htop : insTop op slots frame = top
  have htb : -1099511627776 < top ∧ top < 1099511627776 := by subst htop; unfold insTop; (repeat' split) <;> omega
  have hlm : (l.map (SV.int .i64)).length = l.length := by simp
  simp only [insOK, htop] at hgoal
  generalize hmc : chkC m slots = mc at hc hmcl hmc0 hmc1 hmc2 hmc4
  simp only [Ins.cells]
  have hicl : ([.int .i64 op, .int .i64 a, .int .i64 b, .int .i64 c', .int .i64 n, .list 1 (l.map (.int .i64))] : List SV).length = 6 := rfl
  generalize hic : ([.int .i64 op, .int .i64 a, .int .i64 b, .int .i64 c', .int .i64 n, .list 1 (l.map (.int .i64))] : List SV) = ic at hicl
  have i0 : ic[0]? = some (.int .i64 op) := by subst hic; rfl
  have i1 : ic[1]? = some (.int .i64 a) := by subst hic; rfl
  have i2 : ic[2]? = some (.int .i64 b) := by subst hic; rfl
  have i3 : ic[3]? = some (.int .i64 c') := by subst hic; rfl
  have i4 : ic[4]? = some (.int .i64 n) := by subst hic; rfl
  have i5 : ic[5]? = some (.list 1 (l.map (.int .i64))) := by subst hic; rfl
  clear hic hmc
  have c1 := fun n hi H => within_ok G hG n 0 hi H
  have c2 := fun H => of_ok G hG hF op H
  obtain ⟨a1, a2, a4, a8, a16, a32, _⟩ := and_bit op
  generalize hB1 : bitOf 1 op = B1 at a1
  generalize hB2 : bitOf 2 op = B2 at a2
  generalize hB4 : bitOf 4 op = B4 at a4
  generalize hB8 : bitOf 8 op = B8 at a8
  generalize hB16 : bitOf 16 op = B16 at a16
  generalize hB32 : bitOf 32 op = B32 at a32
  generalize hown : ofS op = own at a1 a2 a4 a8 a16 a32 c2
  have v1 : ∀ s, ACallV Tryz.prog G (.fn (.func 101) [] [.ptr (H.length + 2) 0 0 0, .ptr (H.length + 3) 0 0 0]) [.int .i64 1, .int .i64 s] (H ++ [.cells 0 7 [.agg fc], .cells 0 6 [.agg ic], .cells 0 1 [.int .i64 own], .cells 0 1 [.int .i64 top]]) (fun r H' => H' = (H ++ [.cells 0 7 [.agg fc], .cells 0 6 [.agg ic], .cells 0 1 [.int .i64 own], .cells 0 1 [.int .i64 top]]) ∧ r = .bool (slotB B1 top s)) := fun s => ACallV.of (slot_ok G hG own top 1 s B1 (H.length + 2) (H.length + 3) _ (by simp) (by simp) a1 (b2_zero B1).1 htb)
  have v2 : ∀ s, ACallV Tryz.prog G (.fn (.func 101) [] [.ptr (H.length + 2) 0 0 0, .ptr (H.length + 3) 0 0 0]) [.int .i64 2, .int .i64 s] (H ++ [.cells 0 7 [.agg fc], .cells 0 6 [.agg ic], .cells 0 1 [.int .i64 own], .cells 0 1 [.int .i64 top]]) (fun r H' => H' = (H ++ [.cells 0 7 [.agg fc], .cells 0 6 [.agg ic], .cells 0 1 [.int .i64 own], .cells 0 1 [.int .i64 top]]) ∧ r = .bool (slotB B2 top s)) := fun s => ACallV.of (slot_ok G hG own top 2 s B2 (H.length + 2) (H.length + 3) _ (by simp) (by simp) a2 (b2_zero B2).2.1 htb)
  have v3 : ∀ s, ACallV Tryz.prog G (.fn (.func 101) [] [.ptr (H.length + 2) 0 0 0, .ptr (H.length + 3) 0 0 0]) [.int .i64 4, .int .i64 s] (H ++ [.cells 0 7 [.agg fc], .cells 0 6 [.agg ic], .cells 0 1 [.int .i64 own], .cells 0 1 [.int .i64 top]]) (fun r H' => H' = (H ++ [.cells 0 7 [.agg fc], .cells 0 6 [.agg ic], .cells 0 1 [.int .i64 own], .cells 0 1 [.int .i64 top]]) ∧ r = .bool (slotB B4 top s)) := fun s => ACallV.of (slot_ok G hG own top 4 s B4 (H.length + 2) (H.length + 3) _ (by simp) (by simp) a4 (b2_zero B4).2.2.1 htb)
  refine ACall.of_go TB [] tabOK _ Tryz.func73 rfl (by decide) Tryz.ntmps73 (by simp) rfl (by simp only [initEnv, Nat.reduceAdd]; rfl) fun C R' hR hC hcl hB => ?_; have X := noX; have hC' := congrArg List.length hC
  have hr1 : IntKind.i64.min ≤ slots := by simp [IntKind.min, IntKind.signed, IntKind.bits]; omega
  have hr2 : slots ≤ IntKind.i64.max := by simp [IntKind.max, IntKind.signed, IntKind.bits]; omega
  have X0 := And.intro X (And.intro hlm (And.intro hfcl (And.intro hfc5 (And.intro hfc6 (And.intro (getX hc) (And.intro hmcl (And.intro hmc0 (And.intro hmc1 (And.intro hmc2 (And.intro hmc4 (And.intro hicl (And.intro i0 (And.intro i1 (And.intro i2 (And.intro i3 (And.intro i4 (And.intro i5 (And.intro a8 (And.intro a16 (And.intro a32 (And.intro (b2_zero B8) (And.intro (b2_zero B16) (And.intro (b2_zero B32) (And.intro hr1 hr2))))))))))))))))))))))))
  clear X

  subst hop
  have e16 : B16 = true := by rw [← hB16]; decide
  have e32 : B32 = false := by rw [← hB32]; decide
  subst e16
  subst e32
  have htop2 : (if slots < frame then slots else frame) = top := by rw [← htop]; rfl
  have c3 : ACall Tryz.prog G 103 [.list 1 (l.map (.int .i64)), .fn (.func 104) [] [.ptr H.length 0 0 0]] (H ++ [.cells 0 7 [.agg fc], .cells 0 6 [.agg ic], .cells 0 1 [.int .i64 own], .cells 0 1 [.int .i64 top], .cells 0 1 [.fn (.func 102) [] [.ptr H.length 0 0 0]]]) (fun r H' => H' = (H ++ [.cells 0 7 [.agg fc], .cells 0 6 [.agg ic], .cells 0 1 [.int .i64 own], .cells 0 1 [.int .i64 top], .cells 0 1 [.fn (.func 102) [] [.ptr H.length 0 0 0]]]) ∧ r = .bool (l.any fun n => !inR n 0 (frame - 1))) :=
    anyInt_ok G hG _ (fun n => !inR n 0 (frame - 1)) l _ (by omega) (by simp [SV.under, SV.underL]) (fun x hx => ACallV.of (notIn_ok G hG x frame fc H.length _ (by simp) hfcl hfc5 hfr))
  by_cases hin : inR n 0 ((m.funcs.length : Int) - 1) = true
  · have hin2 : 0 ≤ n ∧ n < m.funcs.length := by simp [inR] at hin; omega
    obtain ⟨k, rfl⟩ := Int.eq_ofNat_of_zero_le hin2.1
    have hk : k < m.funcs.length := by omega
    have hget : getF m.funcs k = (m.funcs[k]).free := by unfold getF; rw [Int.toNat_natCast, List.getElem?_eq_getElem hk]
    have hx : (funsL m.funcs)[k]? = some (.agg (m.funcs[k]).cells) := by simp [funsL, hk]
    generalize m.funcs[k] = x at hget hx
    have hx : (funsL m.funcs)[k]? = some (.agg [.str x.name, .bool x.thunk, .bool x.upd, .int .i64 x.free, .int .i64 x.params, .int .i64 x.frame, .list 6 (insL x.code)]) := hx
    have X := And.intro X0 (And.intro htop2 (And.intro hin hx))
    (refine run ?_; repeat' (first | with_reducible exact trivial | ((with_reducible apply Fork.mk) <;> intro hb) | with_reducible apply Two.mk))
    all_goals
      refine finS hR hC' hcl (.same _ rfl) ⟨rfl, ?_⟩
      clear X X0 v1 v2 v3 c1 c2 c3 hR hC hC' hcl hB hc hG hF a1 a2 a4 a8 a16 a32 hgoal i0 i1 i2 i3 i4 i5 hmc0 hmc1 hmc2 hmc4 hmcl hcl0 hicl hfc5 hfc6 hfcl hr1 hr2 hlm htb hl hn hs hfr hm1 hm2 hm3
      simp only [hget, hin, insOK, lstOK, finOK, htop, hown, hB1, hB2, hB4, hB8, hB16, hB32]
      simp only [resSV]
      congr 1
      generalize slotB B4 top c' = S4 at *
      generalize (l.any fun n => !inR n 0 (frame - 1)) = S5 at *
      cases S5 <;> cases S4 <;> cases B8 <;> simp_all
  · have hin : inR n 0 ((m.funcs.length : Int) - 1) = false := by simpa using hin
    have X := And.intro X0 (And.intro htop2 hin)
    (refine run ?_; repeat' (first | with_reducible exact trivial | ((with_reducible apply Fork.mk) <;> intro hb) | with_reducible apply Two.mk))
    all_goals
      refine finS hR hC' hcl (.same _ rfl) ⟨rfl, ?_⟩
      clear X X0 v1 v2 v3 c1 c2 c3 hR hC hC' hcl hB hc hG hF a1 a2 a4 a8 a16 a32 hgoal i0 i1 i2 i3 i4 i5 hmc0 hmc1 hmc2 hmc4 hmcl hcl0 hicl hfc5 hfc6 hfcl hr1 hr2 hlm htb hl hn hs hfr hm1 hm2 hm3
      simp only [hin, insOK, lstOK, finOK, htop, hown, hB1, hB2, hB4, hB8, hB16, hB32]
      simp only [resSV]
      congr 1
      generalize slotB B4 top c' = S4 at *
      generalize (l.any fun n => !inR n 0 (frame - 1)) = S5 at *
      cases S5 <;> cases S4 <;> cases B8 <;> simp_all
end Go.Proofs.YthgdcjenoiojeaaGreatDoor
end
