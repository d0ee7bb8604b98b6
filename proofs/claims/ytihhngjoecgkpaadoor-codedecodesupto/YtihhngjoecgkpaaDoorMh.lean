/- A part of the proof: P1, C1, C2, P2, C3, P3, C4, C5, P4, C6, C7, C8. -/
import Derived.Test.YtihhngjoecgkpaaDoorMg

section
namespace Go.Proofs.YtihhngjoecgkpaaDoor
open Go
set_option linter.unusedSimpArgs false
set_option linter.unusedVariables false
set_option maxRecDepth 10000
set_option maxHeartbeats 4000000

/-! ### numbers as bytes, in plain words -/
def vb (u : Nat) : Str := if u < 128 then [UInt8.ofNat u] else UInt8.ofNat (u % 128 + 128) :: vb (u / 128)
termination_by u
decreasing_by omega
def zz (n : Int) : Nat := if 0 ≤ n then (2 * n).toNat else (-2 * n - 1).toNat
def numS (n : Int) : Str := vb (zz n)
def numsS (l : List Int) : Str := l.flatMap numS
def txtS (s : Str) : Str := numS s.length ++ s
def truS (b : Bool) : Str := numS (if b then 1 else 0)
theorem vb_lt {u : Nat} (h : u < 128) : vb u = [UInt8.ofNat u] := by rw [vb, if_pos h]
theorem vb_ge {u : Nat} (h : ¬ u < 128) : vb u = UInt8.ofNat (u % 128 + 128) :: vb (u / 128) := by rw [vb, if_neg h]
theorem vb_len : ∀ (n u : Nat), u < 128 ^ (n + 1) → (vb u).length ≤ n + 1
  | 0, u, h => by rw [vb_lt (by simpa using h)]; simp
  | n + 1, u, h => by
    by_cases h1 : u < 128
    · rw [vb_lt h1]; simp
    · rw [vb_ge h1]
      have := vb_len n (u / 128) (by rw [Nat.div_lt_iff_lt_mul (by omega)]; rw [Nat.pow_succ] at h; exact h)
      simp only [List.length_cons]; omega
theorem vb_pos (u : Nat) : 1 ≤ (vb u).length := by
  by_cases h1 : u < 128
  · rw [vb_lt h1]; simp
  · rw [vb_ge h1]; simp
def isI (n : Int) : Prop := -9223372036854775808 ≤ n ∧ n < 9223372036854775808
theorem zz_lt {n : Int} (h : isI n) : zz n < 18446744073709551616 := by
  obtain ⟨h1, h2⟩ := h
  unfold zz; split <;> omega
theorem numS_len {n : Int} (h : isI n) : (numS n).length ≤ 10 := vb_len 9 _ (Nat.lt_trans (zz_lt h) (by decide))
theorem numS_pos (n : Int) : 1 ≤ (numS n).length := vb_pos _
theorem numsS_cons (n : Int) (l : List Int) : numsS (n :: l) = numS n ++ numsS l := rfl
theorem numsS_len : ∀ {l : List Int}, (∀ n ∈ l, isI n) → (numsS l).length ≤ 10 * l.length
  | [], _ => by simp [numsS]
  | n :: l, h => by
    have := numsS_len (l := l) fun m hm => h m (List.mem_cons_of_mem _ hm)
    have := numS_len (h n (List.mem_cons_self ..))
    rw [numsS_cons, List.length_append, List.length_cons]; omega
theorem strBytes_len (s : Str) : (strBytes s).length = s.length := by simp [strBytes]
theorem strBytes_app (s t : Str) : strBytes (s ++ t) = strBytes s ++ strBytes t := by simp [strBytes]
theorem strBytes_under (n : Nat) (s : Str) : SV.underL n (strBytes s) = true := SV.underL_map fun _ _ => rfl
theorem strBytes_take (s : Str) : (strBytes s).take s.length = strBytes s := List.take_of_length_le (by rw [strBytes_len]; exact Nat.le_refl _)
attribute [go_sem] strBytes_len strBytes_take

theorem wrap64 (n : Int) : IntKind.i64.wrap n = (n + 9223372036854775808) % 18446744073709551616 - 9223372036854775808 := by
  simp only [IntKind.wrap, IntKind.bits, IntKind.signed]
  simp
  omega
theorem wrapU64 (n : Int) : IntKind.u64.wrap n = n % 18446744073709551616 := by
  simp only [IntKind.wrap, IntKind.bits, IntKind.signed]
  simp
theorem wrapU8 (n : Int) : IntKind.u8.wrap n = n % 256 := by
  simp only [IntKind.wrap, IntKind.bits, IntKind.signed]
  simp
/-! ### or, xor: told by names, so that a walk leaves them as they are -/
def borI (k : IntKind) (x y : Int) : Int := k.wrap (BitVec.ofInt k.bits x ||| BitVec.ofInt k.bits y).toNat
def bxorI (k : IntKind) (x y : Int) : Int := k.wrap (BitVec.ofInt k.bits x ^^^ BitVec.ofInt k.bits y).toNat
theorem bitsI_or (k : IntKind) (x y : Int) : bitsI .or k x y = some (borI k x y) := rfl
theorem bitsI_xor (k : IntKind) (x y : Int) : bitsI .xor k x y = some (bxorI k x y) := rfl
attribute [go_sem] bitsI_or bitsI_xor
theorem zz_xor {n : Int} (h : isI n) : IntKind.u64.wrap (bxorI .i64 (IntKind.i64.wrap (n * 2 ^ min 1 64)) (n.fdiv (2 ^ min 63 64))) = (zz n : Int) := by
  obtain ⟨h1, h2⟩ := h
  show IntKind.u64.wrap (IntKind.i64.wrap ↑(BitVec.ofInt 64 (IntKind.i64.wrap (n * 2 ^ min 1 64)) ^^^ BitVec.ofInt 64 (n.fdiv (2 ^ min 63 64))).toNat) = (zz n : Int)
  rw [show min 1 64 = 1 from rfl, show min 63 64 = 63 from rfl, wrapU64, wrap64, wrap64]
  rcases Int.lt_or_le n 0 with h0 | h0
  · have : n.fdiv (2 ^ 63) = -1 := by
      rw [Int.fdiv_eq_ediv_of_nonneg _ (by decide)]
      omega
    rw [this, show BitVec.ofInt 64 (-1) = BitVec.allOnes 64 from by decide, BitVec.xor_allOnes, BitVec.toNat_not, BitVec.toNat_ofInt]
    unfold zz
    rw [if_neg (by omega)]
    omega
  · have : n.fdiv (2 ^ 63) = 0 := by
      rw [Int.fdiv_eq_ediv_of_nonneg _ (by decide)]
      omega
    rw [this, show BitVec.ofInt 64 0 = 0#64 from rfl, BitVec.xor_zero, BitVec.toNat_ofInt]
    unfold zz
    rw [if_pos h0]
    omega
theorem u8_or {u : Nat} : borI .u8 (IntKind.u8.wrap u) 128 = ((u % 128 + 128 : Nat) : Int) := by
  show IntKind.u8.wrap ↑(BitVec.ofInt 8 (IntKind.u8.wrap u) ||| BitVec.ofInt 8 128).toNat = ((u % 128 + 128 : Nat) : Int)
  rw [wrapU8, wrapU8]
  have h : ∀ v : _root_.Fin 256, (((BitVec.ofInt 8 (v.val : Int) ||| BitVec.ofInt 8 128).toNat : Nat) : Int) % 256 = ((v.val % 128 + 128 : Nat) : Int) := by decide +kernel
  have := h ⟨u % 256, Nat.mod_lt _ (by decide)⟩
  simp only [Nat.mod_mod_of_dvd _ (show 128 ∣ 256 by decide)] at this
  rw [show ((u % 256 : Nat) : Int) = (u : Int) % 256 by omega] at this
  exact this
theorem strBytes_snoc (s : Str) (n : Nat) (h : n < 256) : strBytes s ++ [SV.int .u8 (n : Int)] = strBytes (s ++ [UInt8.ofNat n]) := by
  simp [strBytes, Nat.mod_eq_of_lt h]

/-! ### the writer's two blocks -/
def wset (H : List Blk) (w b g : Nat) (bs : Str) : List Blk := (H.set w (.cells 0 1 [.agg [.sl b g 0 bs.length]])).set b (.cells g 1 (strBytes bs))
structure WrOK (H : List Blk) (w b g : Nat) (bs : Str) : Prop where
  w : H[w]? = some (.cells 0 1 [.agg [.sl b g 0 bs.length]])
  b : H[b]? = some (.cells g 1 (strBytes bs))
theorem WrOK.ne {H : List Blk} {w b g : Nat} {bs : Str} (h : WrOK H w b g bs) : w ≠ b := fun e => by
  have h1 := h.w; rw [e, h.b] at h1
  injection h1 with h1
  injection h1 with e1 e2 e3
  cases bs with
  | nil => simp [strBytes] at e3
  | cons x l => simp [strBytes] at e3
theorem WrOK.lw {H : List Blk} {w b g : Nat} {bs : Str} (h : WrOK H w b g bs) : w < H.length := (List.getElem?_eq_some_iff.1 h.w).1
theorem WrOK.lb {H : List Blk} {w b g : Nat} {bs : Str} (h : WrOK H w b g bs) : b < H.length := (List.getElem?_eq_some_iff.1 h.b).1
theorem wset_len (H : List Blk) (w b g : Nat) (bs : Str) : (wset H w b g bs).length = H.length := by simp [wset]
theorem WrOK.set {H : List Blk} {w b g : Nat} {bs : Str} (h : WrOK H w b g bs) (g' : Nat) (bs' : Str) : WrOK (wset H w b g' bs') w b g' bs' :=
  ⟨by unfold wset; rw [List.getElem?_set_ne (Ne.symm h.ne), List.getElem?_set_self h.lw], by unfold wset; rw [List.getElem?_set_self (by simpa using h.lb)]⟩
theorem WrOK.same {H : List Blk} {w b g : Nat} {bs : Str} (h : WrOK H w b g bs) : wset H w b g bs = H := by unfold wset; rw [set_same h.w, set_same h.b]
theorem wset_wset {H : List Blk} {w b g g' : Nat} {bs bs' : Str} (hne : w ≠ b) : wset (wset H w b g bs) w b g' bs' = wset H w b g' bs' := by
  unfold wset
  rw [List.set_comm _ _ (Ne.symm hne), List.set_set, List.set_set]
theorem wset_swap {H : List Blk} {w b g : Nat} {bs : Str} (hne : w ≠ b) {x y : Blk} : ((wset H w b g bs).set b y).set w x = (H.set w x).set b y := by
  unfold wset
  rw [List.set_set, List.set_comm _ _ (Ne.symm hne), List.set_set]
theorem WrOK.app {H L : List Blk} {w b g : Nat} {bs : Str} (h : WrOK H w b g bs) : WrOK (H ++ L) w b g bs := ⟨get_app_left h.w, get_app_left h.b⟩
theorem wset_closed {H : List Blk} {w b g : Nat} {bs : Str} (hc : closed H) (hb : b < H.length) : closed (wset H w b g bs) := by
  unfold wset
  refine closed.set (closed.set hc ?_) ?_
  · simp [Blk.under, SV.underL, SV.under, hb]
  · simp only [Blk.under, strBytes_under]
end Go.Proofs.YtihhngjoecgkpaaDoor
end

section
namespace Go.Proofs.YtihhngjoecgkpaaDoor
open Go
set_option linter.unusedSimpArgs false
set_option linter.unusedVariables false
set_option maxRecDepth 10000
set_option maxHeartbeats 4000000

theorem wnum_ok (G : Gl) (hG : GClosed G) (ns : List Int) (w b g : Nat) (bs : Str) (H : List Blk) (hw : WrOK H w b g bs) (hi : ∀ n ∈ ns, isI n) (hl : bs.length + (numsS ns).length < 1099511627776) (hn : ns.length < 1099511627776) :
    ACall Tryd.prog G 21 [.ptr w 0 0 0, .list 1 (ns.map (.int .i64))] H (fun r H' => H' = wset H w b (g + (numsS ns).length) (bs ++ numsS ns) ∧ r = .tuple []) := by
  have hne := hw.ne
  refine ACall.of_go TB [] tabOK _ Tryd.func21 rfl (by decide) Tryd.ntmps21 (by simp) rfl (by simp only [initEnv, Nat.reduceAdd]; rfl) fun C R' hR hC hcl hB => ?_; have X := noX; have hC' := congrArg List.length hC
  (refine run ?_; repeat' (first | with_reducible exact trivial | ((with_reducible apply Fork.mk) <;> intro hb) | with_reducible apply Two.mk))
  refine go_loop (fun k : Nat => [(0, .ptr w 0 0 0), (7, .list 1 (ns.map (.int .i64))), (8, .int .i64 ns.length), (9, .int .i64 k)]) (fun k => wset H w b (g + (numsS (ns.take k)).length) (bs ++ numsS (ns.take k))) (fun k => ns.length - k) (fun k => k ≤ ns.length) 0 (Nat.zero_le _) (by
    rw [show numsS (ns.take 0) = [] from rfl, List.append_nil, List.length_nil, Nat.add_zero, hw.same]
    exact Wk.sub (by simp [subEnv, look])) ?_
  rintro K k hk hK
  rcases Nat.lt_or_ge k ns.length with hlt | hge
  · have e1 : (ns.map (SV.int .i64))[k]? = some (SV.int .i64 ns[k]) := by simp [hlt]
    have X := And.intro X e1
    have hik := hi _ (List.getElem_mem hlt)
    have htk := List.take_succ_eq_append_getElem hlt
    have hnt : numsS (ns.take (k + 1)) = numsS (ns.take k) ++ vb (zz ns[k]) := by rw [htk]; simp only [numsS, List.flatMap_append, List.flatMap_cons, List.flatMap_nil, List.append_nil]; rfl
    have hle : (numsS (ns.take (k + 1))).length ≤ (numsS ns).length := by
      rw [show numsS ns = numsS (ns.take (k + 1)) ++ numsS (ns.drop (k + 1)) from by simp only [numsS]; rw [← List.flatMap_append, List.take_append_drop], List.length_append]; omega
    have hz := zz_lt hik
    have hzx := zz_xor hik
    generalize zz ns[k] = z at *
    generalize ns[k] = x at *
    generalize hS : numsS (ns.take k) = S at *
    have X := And.intro X (And.intro e1 hzx)
    (refine run ?_; repeat' (first | with_reducible exact trivial | ((with_reducible apply Fork.mk) <;> intro hb) | with_reducible apply Two.mk))
    clear X
    refine go_loop (fun a : Nat × Str => [(6, .int .u64 a.1), (0, .ptr w 0 0 0), (7, .list 1 (ns.map (.int .i64))), (8, .int .i64 ns.length), (9, .int .i64 k)]) (fun a => wset H w b (g + S.length + a.2.length) (bs ++ S ++ a.2)) (fun a => a.1) (fun a => a.1 < 18446744073709551616 ∧ a.2 ++ vb a.1 = vb z) (z, []) ⟨hz, rfl⟩ (by
      rw [List.append_nil, List.length_nil, Nat.add_zero]
      exact Wk.sub (by simp [subEnv, look])) ?_
    rintro K2 ⟨u, o⟩ ⟨hu, ho⟩ hK2
    simp only at hu ho
    dsimp only
    have hs := hw.set (g + S.length + o.length) (bs ++ S ++ o)
    have hstep : ∀ x : Nat, x < 256 → ((wset H w b (g + S.length + o.length) (bs ++ S ++ o)).set b (.cells (g + S.length + o.length + 1) 1 (strBytes (bs ++ S ++ o) ++ [SV.int .u8 (x : Int)]))).set w (.cells 0 1 [.agg [.sl b (g + S.length + o.length + 1) 0 ((bs ++ S ++ o).length + 1)]]) = wset H w b (g + S.length + (o ++ [UInt8.ofNat x]).length) (bs ++ S ++ (o ++ [UInt8.ofNat x])) := by
      intro x hx
      rw [strBytes_snoc _ _ hx, wset_swap hne, wset]
      simp only [List.length_append, List.length_cons, List.length_nil, Nat.add_assoc, List.append_assoc]
    have hbl : (bs ++ S ++ o).length + 1 < 1099511627776 := by
      have : o.length + 1 ≤ (vb z).length := by rw [← ho, List.length_append]; have := vb_pos u; omega
      simp only [hnt, List.length_append] at hle ⊢
      omega
    generalize hQ : wset H w b (g + S.length + o.length) (bs ++ S ++ o) = Q at *
    generalize g + S.length + o.length = g1 at *
    generalize hB1 : bs ++ S ++ o = b1 at *
    have hsb := fun y => get_set_ne (y := y) hs.w (Ne.symm hne)
    have X := And.intro noX (And.intro hs.w (And.intro hs.b hsb))
    by_cases hu1 : u < 128
    · have X := And.intro X hu1
      have hw8 : IntKind.u8.wrap (u : Int) = (u : Int) := by rw [wrapU8]; omega
      (refine run ?_; repeat' (first | with_reducible exact trivial | ((with_reducible apply Fork.mk) <;> intro hb) | with_reducible apply Two.mk))
      rw [hw8, hstep u (by omega)]
      rw [vb_lt hu1] at ho
      refine hK _ _ (k + 1) (by omega) (by omega) ?_
      have e3 : ∀ q : Str, wset H w b (g + (S ++ q).length) (bs ++ (S ++ q)) = wset H w b (g + S.length + q.length) (bs ++ S ++ q) := fun q => by simp only [List.length_append, Nat.add_assoc, List.append_assoc]
      rw [hnt, ← ho, e3]
      refine Wk.sub ?_
      simp [subEnv, look]
    · have X := And.intro X hu1
      have hu8 := u8_or (u := u)
      have hd : (u : Int).fdiv (2 ^ min 7 64) = ((u / 128 : Nat) : Int) := by
        rw [show min 7 64 = 7 from rfl, Int.fdiv_eq_ediv_of_nonneg _ (by decide)]; omega
      (refine run ?_; repeat' (first | with_reducible exact trivial | ((with_reducible apply Fork.mk) <;> intro hb) | with_reducible apply Two.mk))
      rw [hu8, hstep (u % 128 + 128) (by omega)]
      rw [vb_ge hu1] at ho
      refine hK2 _ _ (u / 128, o ++ [UInt8.ofNat (u % 128 + 128)]) (show u / 128 < u by omega) ⟨by show u / 128 < _; omega, by rw [← ho]; simp⟩ ?_
      exact Wk.sub ⟨congrArg (fun q => some (SV.int IntKind.u64 q)) hd, rfl, rfl, rfl, rfl, trivial⟩
  · have : k = ns.length := by omega
    subst this
    clear hK
    have X := And.intro X (Int.lt_irrefl (ns.length : Int))
    (refine run ?_; repeat' (first | with_reducible exact trivial | ((with_reducible apply Fork.mk) <;> intro hb) | with_reducible apply Two.mk))
    refine Fin.out hR ⟨?_, rfl⟩
    rw [List.take_length]
end Go.Proofs.YtihhngjoecgkpaaDoor
end

section
namespace Go.Proofs.YtihhngjoecgkpaaDoor
open Go
set_option linter.unusedSimpArgs false
set_option linter.unusedVariables false
set_option maxRecDepth 10000
set_option maxHeartbeats 4000000

theorem isI_len {n : Nat} (h : n < 1099511627776) : isI (n : Int) := ⟨by omega, by omega⟩
theorem numsS_one (n : Int) : numsS [n] = numS n := by simp [numsS]
theorem wtext_ok (G : Gl) (hG : GClosed G) (s : Str) (w b g : Nat) (bs : Str) (H : List Blk) (hw : WrOK H w b g bs) (hl : bs.length + (txtS s).length < 1099511627776) :
    ACall Tryd.prog G 22 [.ptr w 0 0 0, .str s] H (fun r H' => H' = wset H w b (g + (numS s.length).length + 1) (bs ++ txtS s) ∧ r = .tuple []) := by
  have hne := hw.ne
  have hl2 : bs.length + (numS s.length).length + s.length < 1099511627776 := by simp only [txtS, List.length_append] at hl; omega
  have hi : isI (s.length : Int) := isI_len (by omega)
  have c1 := wnum_ok G hG [(s.length : Int)] w b g bs H hw (fun m hm => by rw [List.mem_singleton.1 hm]; exact hi) (by rw [numsS_one]; omega) (by simp)
  rw [numsS_one] at c1
  simp only [List.map_cons, List.map_nil] at c1
  have hs := hw.set (g + (numS s.length).length) (bs ++ numS s.length)
  have hfin : ((wset H w b (g + (numS s.length).length) (bs ++ numS s.length)).set b (.cells (g + (numS s.length).length + 1) 1 (strBytes (bs ++ numS s.length) ++ strBytes s))).set w (.cells 0 1 [.agg [.sl b (g + (numS s.length).length + 1) 0 ((bs ++ numS s.length).length + s.length)]]) = wset H w b (g + (numS s.length).length + 1) (bs ++ txtS s) := by
    rw [← strBytes_app, wset_swap hne, wset, txtS]
    simp only [List.length_append, Nat.add_assoc, List.append_assoc]
  have hbl : (bs ++ numS s.length).length + s.length < 1099511627776 := by simp only [List.length_append]; omega
  refine ACall.of_go TB [] tabOK _ Tryd.func22 rfl (by decide) Tryd.ntmps22 (by simp) rfl (by simp only [initEnv, Nat.reduceAdd]; rfl) fun C R' hR hC hcl hB => ?_; have X := noX; have hC' := congrArg List.length hC
  clear hw
  generalize hQ : wset H w b (g + (numS s.length).length) (bs ++ numS s.length) = Q at *
  generalize g + (numS s.length).length = g1 at *
  generalize bs ++ numS s.length = b1 at *
  have hsb := fun y => get_set_ne (y := y) hs.w (Ne.symm hne)
  have X := And.intro noX (And.intro hs.w (And.intro hs.b hsb))
  (refine run ?_; repeat' (first | with_reducible exact trivial | ((with_reducible apply Fork.mk) <;> intro hb) | with_reducible apply Two.mk))
  exact Fin.out hR ⟨hfin, rfl⟩
theorem wtruth_ok (G : Gl) (hG : GClosed G) (t : Bool) (w b g : Nat) (bs : Str) (H : List Blk) (hw : WrOK H w b g bs) (hl : bs.length + 1 < 1099511627776) :
    ACall Tryd.prog G 23 [.ptr w 0 0 0, .bool t] H (fun r H' => H' = wset H w b (g + 1) (bs ++ truS t) ∧ r = .tuple []) := by
  have k : ∀ n : Nat, n < 2 → ACall Tryd.prog G 21 [.ptr w 0 0 0, .list 1 [.int .i64 n]] H (fun r H' => H' = wset H w b (g + 1) (bs ++ numS n) ∧ r = .tuple []) := fun n hn => by
    have hz : numS (n : Int) = [UInt8.ofNat (2 * n)] := by
      rw [numS, zz, if_pos (by omega), vb_lt (by omega)]; congr 2
    have := wnum_ok G hG [(n : Int)] w b g bs H hw (fun m hm => by rw [List.mem_singleton.1 hm]; exact ⟨by omega, by omega⟩) (by rw [numsS_one, hz]; simpa using hl) (by simp)
    rw [numsS_one, hz] at this
    rw [hz]
    exact this
  have c1 := k 0 (by omega)
  have c2 := k 1 (by omega)
  cases t with
  | true =>
    refine ACall.of_go TB [] tabOK _ Tryd.func23 rfl (by decide) Tryd.ntmps23 (by simp) rfl (by simp only [initEnv, Nat.reduceAdd]; rfl) fun C R' hR hC hcl hB => ?_; have X := noX; have hC' := congrArg List.length hC
    (refine run ?_; repeat' (first | with_reducible exact trivial | ((with_reducible apply Fork.mk) <;> intro hb) | with_reducible apply Two.mk))
    exact Fin.out hR ⟨rfl, rfl⟩
  | false =>
    refine ACall.of_go TB [] tabOK _ Tryd.func23 rfl (by decide) Tryd.ntmps23 (by simp) rfl (by simp only [initEnv, Nat.reduceAdd]; rfl) fun C R' hR hC hcl hB => ?_; have X := noX; have hC' := congrArg List.length hC
    (refine run ?_; repeat' (first | with_reducible exact trivial | ((with_reducible apply Fork.mk) <;> intro hb) | with_reducible apply Two.mk))
    exact Fin.out hR ⟨rfl, rfl⟩
end Go.Proofs.YtihhngjoecgkpaaDoor
end

section
namespace Go.Proofs.YtihhngjoecgkpaaDoor
open Go
set_option linter.unusedSimpArgs false
set_option linter.unusedVariables false
set_option maxRecDepth 10000
set_option maxHeartbeats 4000000

/-! ### an image's bytes, in plain words -/
def conS (c : Con) : Str := txtS c.name ++ numsS [c.arity, c.tag, c.family]
def insS (i : Ins) : Str := numsS [i.op, i.a, i.b, i.c, i.n, (i.l.length : Int)] ++ numsS i.l
def funH (f : Fun) : Str := txtS f.name ++ truS f.thunk ++ truS f.upd ++ numsS [f.free, f.params, f.frame, (f.code.length : Int)]
def funS (f : Fun) : Str := funH f ++ f.code.flatMap insS
def refS (r : Int × Int) : Str := numsS [r.1, r.2]
def glbS (g : Glb) : Str := numsS [g.kind, g.n, (g.args.length : Int)] ++ g.args.flatMap refS
def magicS : Str := [84, 83, 76, 49]
def encB (m : Img) : Str := magicS ++ numS m.cons.length ++ m.cons.flatMap conS ++ numS m.funcs.length ++ m.funcs.flatMap funS ++ numS m.globals.length ++ m.globals.flatMap glbS ++ numS m.main
def encS (m : Img) : Str := if chkS m 65536 = 0 then encB m else []

/-! ### numbers that are in range -/
def insI (i : Ins) : Prop := isI i.op ∧ isI i.a ∧ isI i.b ∧ isI i.c ∧ isI i.n ∧ ∀ n ∈ i.l, isI n
structure ImgI (m : Img) : Prop where
  cons : ∀ c ∈ m.cons, isI c.arity ∧ isI c.tag ∧ isI c.family
  funcs : ∀ f ∈ m.funcs, isI f.free ∧ isI f.params ∧ isI f.frame ∧ ∀ i ∈ f.code, insI i
  globals : ∀ g ∈ m.globals, isI g.kind ∧ isI g.n ∧ ∀ r ∈ g.args, isI r.1 ∧ isI r.2
  main : isI m.main

/-! ### the writer's blocks behind another block -/
theorem wset3 (H L : List Blk) (I x y : Blk) (g : Nat) (bs : Str) : wset (H ++ I :: x :: y :: L) (H.length + 2) (H.length + 1) g bs = H ++ I :: .cells g 1 (strBytes bs) :: .cells 0 1 [.agg [.sl (H.length + 1) g 0 bs.length]] :: L := by
  simp [wset]
theorem wr3 (H L : List Blk) (I : Blk) (g : Nat) (bs : Str) : WrOK (H ++ I :: .cells g 1 (strBytes bs) :: .cells 0 1 [.agg [.sl (H.length + 1) g 0 bs.length]] :: L) (H.length + 2) (H.length + 1) g bs :=
  ⟨by simp, by simp⟩
theorem wnum3 (G : Gl) (hG : GClosed G) (ns : List Int) (g : Nat) (bs : Str) (H L : List Blk) (I : Blk) (hi : ∀ n ∈ ns, isI n) (hl : bs.length + (numsS ns).length < 1099511627776) (hn : ns.length < 1099511627776) :
    ACall Tryd.prog G 21 [.ptr (H.length + 2) 0 0 0, .list 1 (ns.map (.int .i64))] (H ++ I :: .cells g 1 (strBytes bs) :: .cells 0 1 [.agg [.sl (H.length + 1) g 0 bs.length]] :: L) (fun r H' => (∃ g', H' = H ++ I :: .cells g' 1 (strBytes (bs ++ numsS ns)) :: .cells 0 1 [.agg [.sl (H.length + 1) g' 0 (bs ++ numsS ns).length]] :: L) ∧ r = .tuple []) :=
  (wnum_ok G hG ns _ _ g bs _ (wr3 H L I g bs) hi hl hn).mono fun r H' h => ⟨⟨_, h.1.trans (wset3 ..)⟩, h.2⟩
theorem wtext3 (G : Gl) (hG : GClosed G) (s : Str) (g : Nat) (bs : Str) (H L : List Blk) (I : Blk) (hl : bs.length + (txtS s).length < 1099511627776) :
    ACall Tryd.prog G 22 [.ptr (H.length + 2) 0 0 0, .str s] (H ++ I :: .cells g 1 (strBytes bs) :: .cells 0 1 [.agg [.sl (H.length + 1) g 0 bs.length]] :: L) (fun r H' => (∃ g', H' = H ++ I :: .cells g' 1 (strBytes (bs ++ txtS s)) :: .cells 0 1 [.agg [.sl (H.length + 1) g' 0 (bs ++ txtS s).length]] :: L) ∧ r = .tuple []) :=
  (wtext_ok G hG s _ _ g bs _ (wr3 H L I g bs) hl).mono fun r H' h => ⟨⟨_, h.1.trans (wset3 ..)⟩, h.2⟩
theorem wtruth3 (G : Gl) (hG : GClosed G) (t : Bool) (g : Nat) (bs : Str) (H L : List Blk) (I : Blk) (hl : bs.length + 1 < 1099511627776) :
    ACall Tryd.prog G 23 [.ptr (H.length + 2) 0 0 0, .bool t] (H ++ I :: .cells g 1 (strBytes bs) :: .cells 0 1 [.agg [.sl (H.length + 1) g 0 bs.length]] :: L) (fun r H' => (∃ g', H' = H ++ I :: .cells g' 1 (strBytes (bs ++ truS t)) :: .cells 0 1 [.agg [.sl (H.length + 1) g' 0 (bs ++ truS t).length]] :: L) ∧ r = .tuple []) :=
  (wtruth_ok G hG t _ _ g bs _ (wr3 H L I g bs) hl).mono fun r H' h => ⟨⟨_, h.1.trans (wset3 ..)⟩, h.2⟩
theorem flat_take {α : Type} (l : List α) (f : α → Str) {k : Nat} (h : k < l.length) : (l.take (k + 1)).flatMap f = (l.take k).flatMap f ++ f l[k] := by
  rw [List.take_succ_eq_append_getElem h, List.flatMap_append, List.flatMap_cons, List.flatMap_nil, List.append_nil]
theorem flat_le {α : Type} (l : List α) (f : α → Str) (k : Nat) : ((l.take k).flatMap f).length ≤ (l.flatMap f).length := by
  conv => rhs; rw [← List.take_append_drop k l, List.flatMap_append, List.length_append]
  omega
theorem flat_leS {α : Type} (l : List α) (f : α → Str) {k : Nat} (h : k < l.length) : ((l.take k).flatMap f).length + (f l[k]).length ≤ (l.flatMap f).length := by
  have := flat_le l f (k + 1)
  rw [flat_take l f h, List.length_append] at this
  exact this
theorem keepW {H L : List Blk} {mc : List SV} (hmu : ∀ n, SV.underL n mc = true) {g : Nat} {bs : Str} {r ks : Keep} {BS : List Blk} (hks : ks = (H.length, 0) :: (H.length + 1, 0) :: (H.length + 2, 0) :: r)
    (ht : KeepB (H ++ .cells 0 4 [.agg mc] :: .cells g 1 (strBytes bs) :: .cells 0 1 [.agg [.sl (H.length + 1) g 0 bs.length]] :: L) H.length ks r BS) :
    KeepB (H ++ .cells 0 4 [.agg mc] :: .cells g 1 (strBytes bs) :: .cells 0 1 [.agg [.sl (H.length + 1) g 0 bs.length]] :: L) H.length ks ks (.cells 0 4 [.agg mc] :: .cells 0 1 (strBytes bs) :: .cells 0 1 [.agg [.sl (H.length + 1) 0 0 bs.length]] :: BS) := by
  subst hks
  refine KeepB.cells H.length 0 0 4 [.agg mc] _ _ _ (by simp) (Nat.le_refl _) (Nat.zero_le _) (FrzL.same (by simp only [List.drop_zero, SV.underL, SV.under, hmu, Bool.and_self])) ?_
  refine KeepB.cells (H.length + 1) 0 g 1 (strBytes bs) _ _ _ (by simp) (by omega) (Nat.zero_le _) (FrzL.same (strBytes_under ..)) ?_
  refine KeepB.cells (H.length + 2) 0 0 1 _ _ _ _ (by simp; rfl) (by omega) (Nat.zero_le _) ?_ ht
  exact FrzL.cons _ _ _ _ (Frz.agg _ _ (FrzL.cons _ _ _ _ (Frz.keepSl 1 (H.length + 1) 0 g 0 bs.length 1 (strBytes bs) (by simp) (by simp) (Nat.le_refl _)) .nil)) .nil
theorem keepC {H : List Blk} {n : Nat} {ks r : Keep} {BS : List Blk} (id : Nat) {g sz : Nat} {vals : List SV} (hb : H[id]? = some (.cells g sz vals)) (hn : n ≤ id) (hv : SV.underL n vals = true) (ht : KeepB H n ks r BS) : KeepB H n ks ((id, 0) :: r) (.cells 0 sz vals :: BS) :=
  KeepB.cells id 0 g sz vals _ _ _ hb hn (Nat.zero_le _) (FrzL.same hv) ht
end Go.Proofs.YtihhngjoecgkpaaDoor
end

section
namespace Go.Proofs.YtihhngjoecgkpaaDoor
open Go
set_option linter.unusedSimpArgs false
set_option linter.unusedVariables false
set_option maxRecDepth 10000
set_option maxHeartbeats 4000000

theorem encode_ok (G : Gl) (hG : GClosed G) (hF : GF G) (m : Img) (hmb : ImgB m) (hi : ImgI m) (hl : (encB m).length < 1099511627776) (H : List Blk) :
    ACall Tryd.prog G 9 [.agg m.cells] H (fun r H' => H' = H ∧ r = .tuple [.str (encS m), .int .i64 (chkS m 65536)]) := by
  have hml : m.cells.length = 4 := rfl
  have c1 := fun H => check_ok G hG hF m 65536 hmb H
  refine ACall.of_go TB [21] tabOK _ Tryd.func9 rfl (by decide) Tryd.ntmps9 (by simp) rfl (by simp only [initEnv, Nat.reduceAdd]; rfl) fun C R' hR hC hcl hB => ?_; have X := noX; have hC' := congrArg List.length hC
  have X := And.intro X hml
  have hm0 : m.cells[0]? = some (.list 4 (consL m.cons)) := rfl
  have hm1 : m.cells[1]? = some (.list 7 (funsL m.funcs)) := rfl
  have hm2 : m.cells[2]? = some (.list 3 (glbsL m.globals)) := rfl
  have hm3 : m.cells[3]? = some (.int .i64 m.main) := rfl
  have hmu := fun n => Img.cells_under n m
  have hlc := hmb.c
  have hlf := hmb.f
  have hlg := hmb.g
  have hu1 := funsL_under H.length m.funcs
  have hu2 := glbsL_under H.length m.globals
  generalize hmc : m.cells = mc at *
  have X := And.intro X (And.intro hm0 (And.intro hm1 (And.intro hm2 hm3)))
  (refine run ?_; repeat' (first | with_reducible exact trivial | ((with_reducible apply Fork.mk) <;> intro hb) | with_reducible apply Two.mk))
  · refine finS hR hC' hcl (.same _ rfl) ⟨rfl, ?_⟩
    unfold encS; rw [if_neg hb]; rfl
  have hchk : chkS m 65536 = 0 := by simpa using hb
  have l0 : magicS.length = 4 := rfl
  obtain ⟨B1, hB1⟩ : ∃ B1, B1 = magicS ++ numS m.cons.length := ⟨_, rfl⟩
  obtain ⟨B2, hB2⟩ : ∃ B2, B2 = B1 ++ m.cons.flatMap conS ++ numS m.funcs.length := ⟨_, rfl⟩
  obtain ⟨B3, hB3⟩ : ∃ B3, B3 = B2 ++ m.funcs.flatMap funS ++ numS m.globals.length := ⟨_, rfl⟩
  have hen : encB m = B3 ++ m.globals.flatMap glbS ++ numS m.main := by rw [hB3, hB2, hB1]; rfl
  rw [hen] at hl
  have l3 : B3.length + (m.globals.flatMap glbS).length + (numS m.main).length < 1099511627776 := by simpa only [List.length_append] using hl
  have l2 : B2.length + (m.funcs.flatMap funS).length + (numS m.globals.length).length ≤ B3.length := by rw [hB3]; simp only [List.length_append]; omega
  have l1 : B1.length + (m.cons.flatMap conS).length + (numS m.funcs.length).length ≤ B2.length := by rw [hB2]; simp only [List.length_append]; omega
  have l0' : magicS.length + (numS m.cons.length).length ≤ B1.length := by rw [hB1]; simp only [List.length_append]; omega
  refine callS (wnum3 G hG [(m.cons.length : Int)] 0 magicS H [] (.cells 0 4 [.agg mc]) (fun n hn => by rw [List.mem_singleton.1 hn]; exact isI_len hlc) (by rw [numsS_one]; omega) (by simp)) ?_
  rintro _ _ ⟨⟨g1, rfl⟩, rfl⟩
  (refine run ?_; repeat' (first | with_reducible exact trivial | ((with_reducible apply Fork.mk) <;> intro hb) | with_reducible apply Two.mk))
  clear X
  rw [numsS_one, ← hB1]
  refine go_loop (fun k : Nat => [(1, .ptr H.length 0 0 0), (5, .ptr (H.length + 2) 0 0 0), (32, .list 4 (consL m.cons)), (33, .int .i64 m.cons.length), (34, .int .i64 k)]) (fun k => H ++ [.cells 0 4 [.agg mc], .cells 0 1 (strBytes (B1 ++ (m.cons.take k).flatMap conS)), .cells 0 1 [.agg [.sl (H.length + 1) 0 0 (B1 ++ (m.cons.take k).flatMap conS).length]]]) (fun k => m.cons.length - k) (fun k => k ≤ m.cons.length) 0 (Nat.zero_le _) (by
    rw [show (m.cons.take 0).flatMap conS = [] from rfl, List.append_nil]
    exact wkS (n0 := H.length) [(H.length, 0), (H.length + 1, 0), (H.length + 2, 0)] hG hB hC' hcl (hk := keepW hmu rfl .nil)) ?_
  rintro K k hk hK
  rcases Nat.lt_or_ge k m.cons.length with hlt | hge
  · have e1 : (consL m.cons)[k]? = some (.agg m.cons[k].cells) := by simp [consL, hlt]
    have hfs := flat_take m.cons conS hlt
    have hfl := flat_leS m.cons conS hlt
    obtain ⟨i1, i2, i3⟩ := hi.cons _ (List.getElem_mem hlt)
    generalize hx : m.cons[k] = x at *
    obtain ⟨name, arity, tag, family⟩ := x
    simp only [Con.cells] at e1
    simp only at i1 i2 i3
    have hcs : conS ⟨name, arity, tag, family⟩ = txtS name ++ numsS [arity, tag, family] := rfl
    rw [hcs, List.length_append] at hfl
    have e3 : B1 ++ (m.cons.take (k + 1)).flatMap conS = B1 ++ (m.cons.take k).flatMap conS ++ txtS name ++ numsS [arity, tag, family] := by rw [hfs, hcs]; simp only [List.append_assoc]
    obtain ⟨P, hP⟩ : ∃ P, P = B1 ++ (m.cons.take k).flatMap conS := ⟨_, rfl⟩
    have hPl : P.length = B1.length + ((m.cons.take k).flatMap conS).length := by rw [hP, List.length_append]
    rw [← hP] at e3 ⊢
    have X := And.intro noX (And.intro hml (And.intro hm0 (And.intro hm1 (And.intro hm2 (And.intro hm3 e1)))))
    (refine run ?_; repeat' (first | with_reducible exact trivial | ((with_reducible apply Fork.mk) <;> intro hb) | with_reducible apply Two.mk))
    refine callS (wtext3 G hG name 0 P H [.cells 0 4 [.agg [.str name, .int .i64 arity, .int .i64 tag, .int .i64 family]]] (.cells 0 4 [.agg mc]) (by omega)) ?_
    rintro _ _ ⟨⟨g1, rfl⟩, rfl⟩
    obtain ⟨P2, hP2⟩ : ∃ P2, P2 = P ++ txtS name := ⟨_, rfl⟩
    have hPl2 : P2.length = P.length + (txtS name).length := by rw [hP2, List.length_append]
    rw [← hP2] at e3 ⊢
    (refine run ?_; repeat' (first | with_reducible exact trivial | ((with_reducible apply Fork.mk) <;> intro hb) | with_reducible apply Two.mk))
    refine callS (wnum3 G hG [arity, tag, family] g1 P2 H [.cells 0 4 [.agg [.str name, .int .i64 arity, .int .i64 tag, .int .i64 family]]] (.cells 0 4 [.agg mc]) (by simpa using ⟨i1, i2, i3⟩) (by omega) (by simp)) ?_
    rintro _ _ ⟨⟨g2, rfl⟩, rfl⟩
    (refine run ?_; repeat' (first | with_reducible exact trivial | ((with_reducible apply Fork.mk) <;> intro hb) | with_reducible apply Two.mk))
    refine hK _ _ (k + 1) (by omega) (by omega) ?_
    rw [e3]
    exact wkS (n0 := H.length) [(H.length, 0), (H.length + 1, 0), (H.length + 2, 0)] hG hB hC' hcl (hk := keepW hmu rfl .nil)
  have : k = m.cons.length := by omega
  subst this
  clear hK
  rw [List.take_length]
  have X := And.intro noX (And.intro hml (And.intro hm0 (And.intro hm1 (And.intro hm2 (And.intro hm3 (Int.lt_irrefl (m.cons.length : Int)))))))
  obtain ⟨P, hP⟩ : ∃ P, P = B1 ++ m.cons.flatMap conS := ⟨_, rfl⟩
  have hPl : P.length = B1.length + (m.cons.flatMap conS).length := by rw [hP, List.length_append]
  rw [← hP] at hB2 ⊢
  (refine run ?_; repeat' (first | with_reducible exact trivial | ((with_reducible apply Fork.mk) <;> intro hb) | with_reducible apply Two.mk))
  refine callS (wnum3 G hG [(m.funcs.length : Int)] 0 P H [] (.cells 0 4 [.agg mc]) (fun n hn => by rw [List.mem_singleton.1 hn]; exact isI_len hlf) (by rw [numsS_one]; omega) (by simp)) ?_
  rintro _ _ ⟨⟨g1, rfl⟩, rfl⟩
  (refine run ?_; repeat' (first | with_reducible exact trivial | ((with_reducible apply Fork.mk) <;> intro hb) | with_reducible apply Two.mk))
  clear X
  rw [numsS_one, ← hB2]
  refine go_loop (fun k : Nat => [(1, .ptr H.length 0 0 0), (5, .ptr (H.length + 2) 0 0 0), (59, .list 7 (funsL m.funcs)), (60, .int .i64 m.funcs.length), (61, .int .i64 k)]) (fun k => H ++ [.cells 0 4 [.agg mc], .cells 0 1 (strBytes (B2 ++ (m.funcs.take k).flatMap funS)), .cells 0 1 [.agg [.sl (H.length + 1) 0 0 (B2 ++ (m.funcs.take k).flatMap funS).length]]]) (fun k => m.funcs.length - k) (fun k => k ≤ m.funcs.length) 0 (Nat.zero_le _) (by
    rw [show (m.funcs.take 0).flatMap funS = [] from rfl, List.append_nil]
    exact wkS (n0 := H.length) [(H.length, 0), (H.length + 1, 0), (H.length + 2, 0)] hG hB hC' hcl (hk := keepW hmu rfl .nil)) ?_
  clear g1
  rintro K k hk hK
  rcases Nat.lt_or_ge k m.funcs.length with hlt | hge
  · have e1 : (funsL m.funcs)[k]? = some (.agg m.funcs[k].cells) := by simp [funsL, hlt]
    have hfs := flat_take m.funcs funS hlt
    have hfl := flat_leS m.funcs funS hlt
    obtain ⟨i1, i2, i3, i4⟩ := hi.funcs _ (List.getElem_mem hlt)
    obtain ⟨j1, j2⟩ := hmb.code _ (List.getElem_mem hlt)
    generalize hx : m.funcs[k] = x at *
    obtain ⟨name, thunk, upd, free, params, frame, code⟩ := x
    simp only [Fun.cells] at e1
    simp only at i1 i2 i3 i4 j1 j2
    have hcs : funS ⟨name, thunk, upd, free, params, frame, code⟩ = txtS name ++ truS thunk ++ truS upd ++ numsS [free, params, frame, (code.length : Int)] ++ code.flatMap insS := rfl
    have hux := insL_under H.length code
    have ht1 : ∀ t, (truS t).length = 1 := fun t => by cases t <;> exact congrArg List.length (vb_lt (by decide))
    rw [hcs] at hfl
    simp only [List.length_append, ht1] at hfl
    obtain ⟨P, hP⟩ : ∃ P, P = B2 ++ (m.funcs.take k).flatMap funS := ⟨_, rfl⟩
    have hPl : P.length = B2.length + ((m.funcs.take k).flatMap funS).length := by rw [hP, List.length_append]
    have e3 : B2 ++ (m.funcs.take (k + 1)).flatMap funS = P ++ txtS name ++ truS thunk ++ truS upd ++ numsS [free, params, frame, (code.length : Int)] ++ code.flatMap insS := by rw [hfs, hcs, hP]; simp only [List.append_assoc]
    rw [← hP]
    have X := And.intro noX (And.intro hml (And.intro hm0 (And.intro hm1 (And.intro hm2 (And.intro hm3 e1)))))
    (refine run ?_; repeat' (first | with_reducible exact trivial | ((with_reducible apply Fork.mk) <;> intro hb) | with_reducible apply Two.mk))
    refine callS (wtext3 G hG name 0 P H [.cells 0 7 [.agg [.str name, .bool thunk, .bool upd, .int .i64 free, .int .i64 params, .int .i64 frame, .list 6 (insL code)]]] (.cells 0 4 [.agg mc]) (by omega)) ?_
    rintro _ _ ⟨⟨g1, rfl⟩, rfl⟩
    obtain ⟨P2, hP2⟩ : ∃ P2, P2 = P ++ txtS name := ⟨_, rfl⟩
    have hPl2 : P2.length = P.length + (txtS name).length := by rw [hP2, List.length_append]
    rw [← hP2] at e3 ⊢
    (refine run ?_; repeat' (first | with_reducible exact trivial | ((with_reducible apply Fork.mk) <;> intro hb) | with_reducible apply Two.mk))
    refine callS (wtruth3 G hG thunk g1 P2 H [.cells 0 7 [.agg [.str name, .bool thunk, .bool upd, .int .i64 free, .int .i64 params, .int .i64 frame, .list 6 (insL code)]]] (.cells 0 4 [.agg mc]) (by omega)) ?_
    rintro _ _ ⟨⟨g2, rfl⟩, rfl⟩
    obtain ⟨P3, hP3⟩ : ∃ P3, P3 = P2 ++ truS thunk := ⟨_, rfl⟩
    have hPl3 : P3.length = P2.length + 1 := by rw [hP3, List.length_append, ht1]
    rw [← hP3] at e3 ⊢
    (refine run ?_; repeat' (first | with_reducible exact trivial | ((with_reducible apply Fork.mk) <;> intro hb) | with_reducible apply Two.mk))
    refine callS (wtruth3 G hG upd g2 P3 H [.cells 0 7 [.agg [.str name, .bool thunk, .bool upd, .int .i64 free, .int .i64 params, .int .i64 frame, .list 6 (insL code)]]] (.cells 0 4 [.agg mc]) (by omega)) ?_
    rintro _ _ ⟨⟨g3, rfl⟩, rfl⟩
    obtain ⟨P4, hP4⟩ : ∃ P4, P4 = P3 ++ truS upd := ⟨_, rfl⟩
    have hPl4 : P4.length = P3.length + 1 := by rw [hP4, List.length_append, ht1]
    rw [← hP4] at e3 ⊢
    (refine run ?_; repeat' (first | with_reducible exact trivial | ((with_reducible apply Fork.mk) <;> intro hb) | with_reducible apply Two.mk))
    refine callS (wnum3 G hG [free, params, frame, (code.length : Int)] g3 P4 H [.cells 0 7 [.agg [.str name, .bool thunk, .bool upd, .int .i64 free, .int .i64 params, .int .i64 frame, .list 6 (insL code)]]] (.cells 0 4 [.agg mc]) (by simpa using ⟨i1, i2, i3, isI_len j1⟩) (by omega) (by simp)) ?_
    rintro _ _ ⟨⟨g4, rfl⟩, rfl⟩
    obtain ⟨Q, hQ⟩ : ∃ Q, Q = P4 ++ numsS [free, params, frame, (code.length : Int)] := ⟨_, rfl⟩
    have hQl : Q.length = P4.length + (numsS [free, params, frame, (code.length : Int)]).length := by rw [hQ, List.length_append]
    rw [← hQ] at e3 ⊢
    (refine run ?_; repeat' (first | with_reducible exact trivial | ((with_reducible apply Fork.mk) <;> intro hb) | with_reducible apply Two.mk))
    clear X
    refine go_loop (fun j : Nat => [(1, .ptr H.length 0 0 0), (5, .ptr (H.length + 2) 0 0 0), (9, .ptr (H.length + 3) 0 0 0), (59, .list 7 (funsL m.funcs)), (60, .int .i64 m.funcs.length), (61, .int .i64 k), (90, .list 6 (insL code)), (91, .int .i64 code.length), (92, .int .i64 j)]) (fun j => H ++ [.cells 0 4 [.agg mc], .cells 0 1 (strBytes (Q ++ (code.take j).flatMap insS)), .cells 0 1 [.agg [.sl (H.length + 1) 0 0 (Q ++ (code.take j).flatMap insS).length]], .cells 0 7 [.agg [.str name, .bool thunk, .bool upd, .int .i64 free, .int .i64 params, .int .i64 frame, .list 6 (insL code)]]]) (fun j => code.length - j) (fun j => j ≤ code.length) 0 (Nat.zero_le _) (by
      rw [show (code.take 0).flatMap insS = [] from rfl, List.append_nil]
      exact wkS (n0 := H.length) [(H.length, 0), (H.length + 1, 0), (H.length + 2, 0), (H.length + 3, 0)] hG hB hC' hcl (hk := keepW hmu rfl (keepC (g := 0) (H.length + 3) (by simp) (by omega) (by simp only [SV.underL, SV.under, hux, Bool.and_self]) .nil))) ?_
    clear g1 g2 g3 g4
    rintro K2 j hj hK2
    rcases Nat.lt_or_ge j code.length with hjt | hjg
    · have e2 : (insL code)[j]? = some (.agg code[j].cells) := by simp [insL, hjt]
      have hgs := flat_take code insS hjt
      have hgl := flat_leS code insS hjt
      obtain ⟨q1, q2, q3, q4, q5, q6⟩ := i4 _ (List.getElem_mem hjt)
      have q7 := j2 _ (List.getElem_mem hjt)
      generalize hy : code[j] = y at *
      obtain ⟨op, a, b, c, n, l⟩ := y
      simp only [Ins.cells] at e2
      simp only at q1 q2 q3 q4 q5 q6 q7
      have hds : insS ⟨op, a, b, c, n, l⟩ = numsS [op, a, b, c, n, (l.length : Int)] ++ numsS l := rfl
      rw [hds, List.length_append] at hgl
      have e4 : Q ++ (code.take (j + 1)).flatMap insS = Q ++ (code.take j).flatMap insS ++ numsS [op, a, b, c, n, (l.length : Int)] ++ numsS l := by rw [hgs, hds]; simp only [List.append_assoc]
      obtain ⟨R, hRr⟩ : ∃ R, R = Q ++ (code.take j).flatMap insS := ⟨_, rfl⟩
      have hRl : R.length = Q.length + ((code.take j).flatMap insS).length := by rw [hRr, List.length_append]
      rw [← hRr] at e4 ⊢
      have X := And.intro noX (And.intro hml (And.intro hm0 (And.intro hm1 (And.intro hm2 (And.intro hm3 e2)))))
      (refine run ?_; repeat' (first | with_reducible exact trivial | ((with_reducible apply Fork.mk) <;> intro hb) | with_reducible apply Two.mk))
      refine callS (wnum3 G hG [op, a, b, c, n, (l.length : Int)] 0 R H [.cells 0 7 [.agg [.str name, .bool thunk, .bool upd, .int .i64 free, .int .i64 params, .int .i64 frame, .list 6 (insL code)]], .cells 0 6 [.agg [.int .i64 op, .int .i64 a, .int .i64 b, .int .i64 c, .int .i64 n, .list 1 (l.map (.int .i64))]]] (.cells 0 4 [.agg mc]) (by simpa using ⟨q1, q2, q3, q4, q5, isI_len q7⟩) (by omega) (by simp)) ?_
      rintro _ _ ⟨⟨g1, rfl⟩, rfl⟩
      obtain ⟨R2, hR2⟩ : ∃ R2, R2 = R ++ numsS [op, a, b, c, n, (l.length : Int)] := ⟨_, rfl⟩
      have hRl2 : R2.length = R.length + (numsS [op, a, b, c, n, (l.length : Int)]).length := by rw [hR2, List.length_append]
      rw [← hR2] at e4 ⊢
      (refine run ?_; repeat' (first | with_reducible exact trivial | ((with_reducible apply Fork.mk) <;> intro hb) | with_reducible apply Two.mk))
      refine callS (wnum3 G hG l g1 R2 H [.cells 0 7 [.agg [.str name, .bool thunk, .bool upd, .int .i64 free, .int .i64 params, .int .i64 frame, .list 6 (insL code)]], .cells 0 6 [.agg [.int .i64 op, .int .i64 a, .int .i64 b, .int .i64 c, .int .i64 n, .list 1 (l.map (.int .i64))]]] (.cells 0 4 [.agg mc]) q6 (by omega) q7) ?_
      rintro _ _ ⟨⟨g2, rfl⟩, rfl⟩
      (refine run ?_; repeat' (first | with_reducible exact trivial | ((with_reducible apply Fork.mk) <;> intro hb) | with_reducible apply Two.mk))
      refine hK2 _ _ (j + 1) (by omega) (by omega) ?_
      rw [e4]
      exact wkS (n0 := H.length) [(H.length, 0), (H.length + 1, 0), (H.length + 2, 0), (H.length + 3, 0)] hG hB hC' hcl (hk := keepW hmu rfl (keepC (g := 0) (H.length + 3) (by simp) (by omega) (by simp only [SV.underL, SV.under, hux, Bool.and_self]) .nil))
    have : j = code.length := by omega
    subst this
    clear hK2
    rw [List.take_length]
    have X := And.intro noX (And.intro hml (And.intro hm0 (And.intro hm1 (And.intro hm2 (And.intro hm3 (Int.lt_irrefl (code.length : Int)))))))
    (refine run ?_; repeat' (first | with_reducible exact trivial | ((with_reducible apply Fork.mk) <;> intro hb) | with_reducible apply Two.mk))
    refine hK _ _ (k + 1) (by omega) (by omega) ?_
    rw [e3]
    exact wkS (n0 := H.length) [(H.length, 0), (H.length + 1, 0), (H.length + 2, 0)] hG hB hC' hcl (hk := keepW hmu rfl .nil)
  have : k = m.funcs.length := by omega
  subst this
  clear hK
  rw [List.take_length]
  have X := And.intro noX (And.intro hml (And.intro hm0 (And.intro hm1 (And.intro hm2 (And.intro hm3 (Int.lt_irrefl (m.funcs.length : Int)))))))
  clear hPl hP
  obtain ⟨P, hP⟩ : ∃ P, P = B2 ++ m.funcs.flatMap funS := ⟨_, rfl⟩
  have hPl : P.length = B2.length + (m.funcs.flatMap funS).length := by rw [hP, List.length_append]
  rw [← hP] at hB3 ⊢
  (refine run ?_; repeat' (first | with_reducible exact trivial | ((with_reducible apply Fork.mk) <;> intro hb) | with_reducible apply Two.mk))
  refine callS (wnum3 G hG [(m.globals.length : Int)] 0 P H [] (.cells 0 4 [.agg mc]) (fun n hn => by rw [List.mem_singleton.1 hn]; exact isI_len hlg) (by rw [numsS_one]; omega) (by simp)) ?_
  rintro _ _ ⟨⟨g1, rfl⟩, rfl⟩
  (refine run ?_; repeat' (first | with_reducible exact trivial | ((with_reducible apply Fork.mk) <;> intro hb) | with_reducible apply Two.mk))
  clear X
  rw [numsS_one, ← hB3]
  refine go_loop (fun k : Nat => [(1, .ptr H.length 0 0 0), (5, .ptr (H.length + 2) 0 0 0), (125, .list 3 (glbsL m.globals)), (126, .int .i64 m.globals.length), (127, .int .i64 k)]) (fun k => H ++ [.cells 0 4 [.agg mc], .cells 0 1 (strBytes (B3 ++ (m.globals.take k).flatMap glbS)), .cells 0 1 [.agg [.sl (H.length + 1) 0 0 (B3 ++ (m.globals.take k).flatMap glbS).length]]]) (fun k => m.globals.length - k) (fun k => k ≤ m.globals.length) 0 (Nat.zero_le _) (by
    rw [show (m.globals.take 0).flatMap glbS = [] from rfl, List.append_nil]
    exact wkS (n0 := H.length) [(H.length, 0), (H.length + 1, 0), (H.length + 2, 0)] hG hB hC' hcl (hk := keepW hmu rfl .nil)) ?_
  clear g1
  rintro K k hk hK
  rcases Nat.lt_or_ge k m.globals.length with hlt | hge
  · have e1 : (glbsL m.globals)[k]? = some (.agg m.globals[k].cells) := by simp [glbsL, hlt]
    have hfs := flat_take m.globals glbS hlt
    have hfl := flat_leS m.globals glbS hlt
    obtain ⟨i1, i2, i3⟩ := hi.globals _ (List.getElem_mem hlt)
    have j1 := hmb.args _ (List.getElem_mem hlt)
    generalize hx : m.globals[k] = x at *
    obtain ⟨kind, gn, args⟩ := x
    simp only [Glb.cells] at e1
    simp only at i1 i2 i3 j1
    have hcs : glbS ⟨kind, gn, args⟩ = numsS [kind, gn, (args.length : Int)] ++ args.flatMap refS := rfl
    rw [hcs, List.length_append] at hfl
    obtain ⟨P, hP⟩ : ∃ P, P = B3 ++ (m.globals.take k).flatMap glbS := ⟨_, rfl⟩
    have hPl : P.length = B3.length + ((m.globals.take k).flatMap glbS).length := by rw [hP, List.length_append]
    have e3 : B3 ++ (m.globals.take (k + 1)).flatMap glbS = P ++ numsS [kind, gn, (args.length : Int)] ++ args.flatMap refS := by rw [hfs, hcs, hP]; simp only [List.append_assoc]
    rw [← hP]
    have hux : SV.underL H.length (args.map encR) = true := SV.underL_map fun _ _ => rfl
    have hll : (args.map encR).length = args.length := by simp
    have X := And.intro noX (And.intro hml (And.intro hm0 (And.intro hm1 (And.intro hm2 (And.intro hm3 e1)))))
    (refine run ?_; repeat' (first | with_reducible exact trivial | ((with_reducible apply Fork.mk) <;> intro hb) | with_reducible apply Two.mk))
    refine callS (wnum3 G hG [kind, gn, (args.length : Int)] 0 P H [.cells 0 3 [.agg [.int .i64 kind, .int .i64 gn, .list 2 (args.map encR)]]] (.cells 0 4 [.agg mc]) (by simpa using ⟨i1, i2, isI_len j1⟩) (by omega) (by simp)) ?_
    rintro _ _ ⟨⟨g1, rfl⟩, rfl⟩
    obtain ⟨Q, hQ⟩ : ∃ Q, Q = P ++ numsS [kind, gn, (args.length : Int)] := ⟨_, rfl⟩
    have hQl : Q.length = P.length + (numsS [kind, gn, (args.length : Int)]).length := by rw [hQ, List.length_append]
    rw [← hQ] at e3 ⊢
    (refine run ?_; repeat' (first | with_reducible exact trivial | ((with_reducible apply Fork.mk) <;> intro hb) | with_reducible apply Two.mk))
    clear X
    refine go_loop (fun j : Nat => [(1, .ptr H.length 0 0 0), (5, .ptr (H.length + 2) 0 0 0), (13, .ptr (H.length + 3) 0 0 0), (125, .list 3 (glbsL m.globals)), (126, .int .i64 m.globals.length), (127, .int .i64 k), (142, .list 2 (args.map encR)), (143, .int .i64 args.length), (144, .int .i64 j)]) (fun j => H ++ [.cells 0 4 [.agg mc], .cells 0 1 (strBytes (Q ++ (args.take j).flatMap refS)), .cells 0 1 [.agg [.sl (H.length + 1) 0 0 (Q ++ (args.take j).flatMap refS).length]], .cells 0 3 [.agg [.int .i64 kind, .int .i64 gn, .list 2 (args.map encR)]]]) (fun j => args.length - j) (fun j => j ≤ args.length) 0 (Nat.zero_le _) (by
      rw [show (args.take 0).flatMap refS = [] from rfl, List.append_nil]
      exact wkS (n0 := H.length) [(H.length, 0), (H.length + 1, 0), (H.length + 2, 0), (H.length + 3, 0)] hG hB hC' hcl (hk := keepW hmu rfl (keepC (g := 0) (H.length + 3) (by simp) (by omega) (by simp only [SV.underL, SV.under, hux, Bool.and_self]) .nil))) ?_
    clear g1
    rintro K2 j hj hK2
    rcases Nat.lt_or_ge j args.length with hjt | hjg
    · have e2 : (args.map encR)[j]? = some (encR args[j]) := by simp [hjt]
      have hgs := flat_take args refS hjt
      have hgl := flat_leS args refS hjt
      obtain ⟨q1, q2⟩ := i3 _ (List.getElem_mem hjt)
      generalize hy : args[j] = y at *
      obtain ⟨a, b⟩ := y
      simp only [encR] at e2
      simp only at q1 q2
      have hds : refS (a, b) = numsS [a, b] := rfl
      rw [hds] at hgl
      have e4 : Q ++ (args.take (j + 1)).flatMap refS = Q ++ (args.take j).flatMap refS ++ numsS [a, b] := by rw [hgs, hds]; simp only [List.append_assoc]
      obtain ⟨R, hRr⟩ : ∃ R, R = Q ++ (args.take j).flatMap refS := ⟨_, rfl⟩
      have hRl : R.length = Q.length + ((args.take j).flatMap refS).length := by rw [hRr, List.length_append]
      rw [← hRr] at e4 ⊢
      have X := And.intro noX (And.intro hml (And.intro hm0 (And.intro hm1 (And.intro hm2 (And.intro hm3 e2)))))
      (refine run ?_; repeat' (first | with_reducible exact trivial | ((with_reducible apply Fork.mk) <;> intro hb) | with_reducible apply Two.mk))
      refine callS (wnum3 G hG [a, b] 0 R H [.cells 0 3 [.agg [.int .i64 kind, .int .i64 gn, .list 2 (args.map encR)]], .cells 0 2 [.agg [.int .i64 a, .int .i64 b]]] (.cells 0 4 [.agg mc]) (by simpa using ⟨q1, q2⟩) (by omega) (by simp)) ?_
      rintro _ _ ⟨⟨g1, rfl⟩, rfl⟩
      (refine run ?_; repeat' (first | with_reducible exact trivial | ((with_reducible apply Fork.mk) <;> intro hb) | with_reducible apply Two.mk))
      refine hK2 _ _ (j + 1) (by omega) (by omega) ?_
      rw [e4]
      exact wkS (n0 := H.length) [(H.length, 0), (H.length + 1, 0), (H.length + 2, 0), (H.length + 3, 0)] hG hB hC' hcl (hk := keepW hmu rfl (keepC (g := 0) (H.length + 3) (by simp) (by omega) (by simp only [SV.underL, SV.under, hux, Bool.and_self]) .nil))
    have : j = args.length := by omega
    subst this
    clear hK2
    rw [List.take_length]
    have X := And.intro noX (And.intro hml (And.intro hm0 (And.intro hm1 (And.intro hm2 (And.intro hm3 (Int.lt_irrefl (args.length : Int)))))))
    (refine run ?_; repeat' (first | with_reducible exact trivial | ((with_reducible apply Fork.mk) <;> intro hb) | with_reducible apply Two.mk))
    refine hK _ _ (k + 1) (by omega) (by omega) ?_
    rw [e3]
    exact wkS (n0 := H.length) [(H.length, 0), (H.length + 1, 0), (H.length + 2, 0)] hG hB hC' hcl (hk := keepW hmu rfl .nil)
  have : k = m.globals.length := by omega
  subst this
  clear hK
  rw [List.take_length]
  have X := And.intro noX (And.intro hml (And.intro hm0 (And.intro hm1 (And.intro hm2 (And.intro hm3 (Int.lt_irrefl (m.globals.length : Int)))))))
  clear hPl hP
  obtain ⟨P, hP⟩ : ∃ P, P = B3 ++ m.globals.flatMap glbS := ⟨_, rfl⟩
  have hPl : P.length = B3.length + (m.globals.flatMap glbS).length := by rw [hP, List.length_append]
  rw [← hP] at hen ⊢
  (refine run ?_; repeat' (first | with_reducible exact trivial | ((with_reducible apply Fork.mk) <;> intro hb) | with_reducible apply Two.mk))
  refine callS (wnum3 G hG [m.main] 0 P H [] (.cells 0 4 [.agg mc]) (fun n hn => by rw [List.mem_singleton.1 hn]; exact hi.main) (by rw [numsS_one]; omega) (by simp)) ?_
  rintro _ _ ⟨⟨g1, rfl⟩, rfl⟩
  rw [numsS_one, ← hen]
  (refine run ?_; repeat' (first | with_reducible exact trivial | ((with_reducible apply Fork.mk) <;> intro hb) | with_reducible apply Two.mk))
  refine finS hR hC' hcl (.same _ ?_) ⟨rfl, ?_⟩
  · rfl
  unfold encS; rw [if_pos hchk, hchk]; rfl
end Go.Proofs.YtihhngjoecgkpaaDoor
end

section
namespace Go.Proofs.YtihhngjoecgkpaaDoor
open Go
set_option linter.unusedSimpArgs false
set_option linter.unusedVariables false
set_option maxRecDepth 10000
set_option maxHeartbeats 4000000

/-! ### reading numbers and texts, in plain words -/
structure RS where
  s : Str
  bad : Bool
def rdN (k u : Nat) : Str → Option (Nat × Str)
  | [] => none
  | b :: r => if 10 ≤ k then none else if 127 < b.toNat then rdN (k + 1) (u + (b.toNat - 128) * 128 ^ k) r
    else if (b.toNat = 0 ∧ 0 < k) ∨ (k = 9 ∧ 1 < b.toNat) then none else some (u + b.toNat * 128 ^ k, r)
def unz (u : Nat) : Int := if u % 2 = 0 then ((u / 2 : Nat) : Int) else -((u / 2 : Nat) : Int) - 1
def RS.num (q : RS) : Int × RS := match rdN 0 0 q.s with
  | some (u, r) => (unz u, ⟨r, q.bad⟩)
  | none => (0, ⟨[], true⟩)
def RS.text (q : RS) : Str × RS := if q.num.1 < 0 ∨ (q.num.2.s.length : Int) < q.num.1 then ([], ⟨q.num.2.s, true⟩) else (q.num.2.s.take q.num.1.toNat, ⟨q.num.2.s.drop q.num.1.toNat, q.num.2.bad⟩)
def RS.truth (q : RS) : Bool × RS := (decide (q.num.1 = 1), ⟨q.num.2.s, q.num.2.bad || (decide (q.num.1 ≠ 0) && decide (q.num.1 ≠ 1))⟩)
def eachN {α : Type} (f : RS → α × RS) : Nat → RS → List α × RS
  | 0, q => ([], q)
  | n + 1, q => if q.bad then ([], q) else ((f q).1 :: (eachN f n (f q).2).1, (eachN f n (f q).2).2)
def RS.each {α : Type} (f : RS → α × RS) (q : RS) : List α × RS := if q.num.1 < 0 ∨ (q.num.2.s.length : Int) < q.num.1 then ([], ⟨q.num.2.s, true⟩) else eachN f q.num.1.toNat q.num.2
theorem rdN_len : ∀ (s : Str) (k u : Nat) {v : Nat} {r : Str}, rdN k u s = some (v, r) → r.length < s.length
  | [], k, u, v, r, h => by cases h
  | b :: l, k, u, v, r, h => by
    unfold rdN at h
    split at h
    · cases h
    · split at h
      · have := rdN_len l _ _ h; simp only [List.length_cons]; omega
      · split at h
        · cases h
        · cases h; simp
theorem RS.num_len (q : RS) : q.num.2.s.length ≤ q.s.length := by
  unfold RS.num
  cases h : rdN 0 0 q.s with
  | none => simp
  | some p => obtain ⟨u, r⟩ := p; have := rdN_len _ _ _ h; simp only; omega
theorem RS.text_len (q : RS) : q.text.2.s.length ≤ q.s.length := by
  have := q.num_len
  unfold RS.text
  split
  · exact this
  · simp only [List.length_drop]; omega
theorem RS.truth_len (q : RS) : q.truth.2.s.length ≤ q.s.length := q.num_len
theorem eachN_len {α : Type} {f : RS → α × RS} (hf : ∀ q, (f q).2.s.length ≤ q.s.length) : ∀ (n : Nat) (q : RS), (eachN f n q).2.s.length ≤ q.s.length
  | 0, q => Nat.le_refl _
  | n + 1, q => by
    unfold eachN
    split
    · exact Nat.le_refl _
    · exact Nat.le_trans (eachN_len hf n _) (hf q)
theorem RS.each_len {α : Type} {f : RS → α × RS} (hf : ∀ q, (f q).2.s.length ≤ q.s.length) (q : RS) : (q.each f).2.s.length ≤ q.s.length := by
  have := q.num_len
  unfold RS.each
  split
  · exact this
  · exact Nat.le_trans (eachN_len hf _ _) this
theorem eachN_size {α : Type} {f : RS → α × RS} : ∀ (n : Nat) (q : RS), (eachN f n q).1.length ≤ n
  | 0, q => Nat.le_refl _
  | n + 1, q => by
    unfold eachN
    split
    · simp
    · have := eachN_size (f := f) n (f q).2; simp only [List.length_cons]; omega
theorem RS.each_size {α : Type} {f : RS → α × RS} (q : RS) : (q.each f).1.length ≤ q.s.length := by
  have := q.num_len
  unfold RS.each
  split
  · simp
  · rename_i h
    have := eachN_size (f := f) q.num.1.toNat q.num.2
    omega

/-! ### how the program reckons them -/
theorem and127 (b : UInt8) : bitsI .and .u8 (b.toNat : Int) 127 = some ((b.toNat % 128 : Nat) : Int) := by
  have h : ∀ v : _root_.Fin 256, bitsI .and .u8 (v.val : Int) 127 = some ((v.val % 128 : Nat) : Int) := by decide +kernel
  exact h ⟨b.toNat, b.toNat_lt⟩
theorem ofNat64 {x : Nat} (h : x < 18446744073709551616) : (BitVec.ofInt 64 (x : Int)).toNat = x := by
  rw [BitVec.toNat_ofInt]; omega
theorem and1 {u : Nat} (h : u < 18446744073709551616) : bitsI .and .u64 (u : Int) 1 = some ((u % 2 : Nat) : Int) := by
  show some (IntKind.u64.wrap ((BitVec.ofInt 64 (u : Int) &&& BitVec.ofInt 64 1).toNat : Int)) = _
  rw [BitVec.toNat_and, ofNat64 h, show (BitVec.ofInt 64 1).toNat = 1 from rfl, Nat.and_one_is_mod, wrapU64]
  congr 1; omega
theorem borU {x y : Nat} (hx : x < 18446744073709551616) (hy : y < 18446744073709551616) : borI .u64 (x : Int) (y : Int) = ((x ||| y : Nat) : Int) := by
  show IntKind.u64.wrap ((BitVec.ofInt 64 (x : Int) ||| BitVec.ofInt 64 (y : Int)).toNat : Int) = _
  have : (x ||| y) < 2 ^ 64 := Nat.or_lt_two_pow (n := 64) hx hy
  rw [BitVec.toNat_or, ofNat64 hx, ofNat64 hy, wrapU64]
  omega
/-- what u is once the byte b has been taken up -/
def nextU (k u : Nat) (b : Nat) : Nat := u ||| (b % 128 * 2 ^ (7 * k) % 18446744073709551616)
theorem nextU_lt {k u b : Nat} (h : u < 18446744073709551616) : nextU k u b < 18446744073709551616 := Nat.or_lt_two_pow (n := 64) h (Nat.mod_lt _ (by decide))
theorem nextU_eq {k u b : Nat} (h : u < 128 ^ k) (hk : k ≤ 8 ∨ (k = 9 ∧ b ≤ 1)) (hb : b < 256) : nextU k u b = u + (b % 128) * 128 ^ k ∧ u + (b % 128) * 128 ^ k < 128 ^ (k + 1) := by
  have e : 2 ^ (7 * k) = 128 ^ k := by rw [Nat.pow_mul]
  have hm : b % 128 < 128 := Nat.mod_lt _ (by decide)
  have h1 : u + (b % 128) * 128 ^ k < 128 ^ (k + 1) := by
    have := Nat.mul_le_mul_right (128 ^ k) (show b % 128 ≤ 127 by omega)
    rw [Nat.pow_succ]; omega
  have h2 : (b % 128) * 128 ^ k < 18446744073709551616 := by
    rcases hk with hk | ⟨rfl, hb1⟩
    · have := Nat.pow_le_pow_right (n := 128) (by decide) (show k + 1 ≤ 9 by omega)
      have e9 : 128 ^ 9 = 9223372036854775808 := by decide
      omega
    · have : b % 128 ≤ 1 := by omega
      have e9 : 128 ^ 9 = 9223372036854775808 := by decide
      rw [e9]; omega
  refine ⟨?_, h1⟩
  unfold nextU
  rw [e, Nat.mod_eq_of_lt h2, Nat.or_comm]
  have := Nat.two_pow_add_eq_or_of_lt (i := 7 * k) (b := u) (by rw [e]; exact h) (b % 128)
  rw [e, Nat.mul_comm] at this
  omega
theorem shl7 {k b : Nat} (hk : k ≤ 9) : IntKind.u64.wrap (((b % 128 : Nat) : Int) * 2 ^ min (7 * (k : Int)).toNat 64) = ((b % 128 * 2 ^ (7 * k) % 18446744073709551616 : Nat) : Int) := by
  have : min (7 * (k : Int)).toNat 64 = 7 * k := by omega
  rw [this, wrapU64]
  simp only [Int.natCast_emod, Int.natCast_mul, Int.natCast_pow, Int.cast_ofNat_Int]
theorem unz_xor {u : Nat} (h : u < 18446744073709551616) : bxorI .i64 (IntKind.i64.wrap ((u : Int).fdiv (2 ^ min 1 64))) (IntKind.i64.wrap (0 - IntKind.i64.wrap ((u % 2 : Nat) : Int))) = unz u := by
  have h1 : (u : Int).fdiv (2 ^ min 1 64) = ((u / 2 : Nat) : Int) := by
    rw [show min 1 64 = 1 from rfl, Int.fdiv_eq_ediv_of_nonneg _ (by decide)]; omega
  have h2 : IntKind.i64.wrap ((u / 2 : Nat) : Int) = ((u / 2 : Nat) : Int) := by rw [wrap64]; omega
  rw [h1, h2]
  show IntKind.i64.wrap ((BitVec.ofInt 64 ((u / 2 : Nat) : Int) ^^^ BitVec.ofInt 64 _).toNat : Int) = _
  unfold unz
  rcases Nat.mod_two_eq_zero_or_one u with e | e
  · rw [e, if_pos rfl, show BitVec.ofInt 64 (IntKind.i64.wrap (0 - IntKind.i64.wrap ((0 : Nat) : Int))) = 0#64 from by decide, BitVec.xor_zero, ofNat64 (by omega), wrap64]; omega
  · rw [e, if_neg (by decide), show BitVec.ofInt 64 (IntKind.i64.wrap (0 - IntKind.i64.wrap ((1 : Nat) : Int))) = BitVec.allOnes 64 from by decide, BitVec.xor_allOnes, BitVec.toNat_not, ofNat64 (by omega), wrap64]; omega
theorem get_set_self' {H : List Blk} {id : Nat} (h : id < H.length) : ∀ x, (H.set id x)[id]? = some x := fun x => List.getElem?_set_self h
def rsC (q : RS) : Blk := .cells 0 2 [.agg [.str q.s, .bool q.bad]]
end Go.Proofs.YtihhngjoecgkpaaDoor
end

section
namespace Go.Proofs.YtihhngjoecgkpaaDoor
open Go
set_option linter.unusedSimpArgs false
set_option linter.unusedVariables false
set_option maxRecDepth 10000
set_option maxHeartbeats 4000000

theorem rnum_ok (G : Gl) (hG : GClosed G) (q : RS) (rb : Nat) (H : List Blk) (hr : H[rb]? = some (rsC q)) :
    ACall Tryd.prog G 50 [.ptr rb 0 0 0] H (fun r H' => H' = H.set rb (rsC q.num.2) ∧ r = .int .i64 q.num.1) := by
  have hrl := (List.getElem?_eq_some_iff.1 hr).1
  obtain ⟨s, bad⟩ := q
  simp only [rsC] at hr
  have hn : ∀ u r, rdN 0 0 s = some (u, r) → H.set rb (.cells 0 2 [.agg [.str r, .bool bad]]) = H.set rb (rsC (RS.num ⟨s, bad⟩).2) ∧ unz u = (RS.num ⟨s, bad⟩).1 := fun u r h => by
    simp only [RS.num, h, rsC]; exact ⟨trivial, trivial⟩
  have hno : rdN 0 0 s = none → H.set rb (.cells 0 2 [.agg [.str [], .bool true]]) = H.set rb (rsC (RS.num ⟨s, bad⟩).2) ∧ 0 = (RS.num ⟨s, bad⟩).1 := fun h => by
    simp only [RS.num, h, rsC]; exact ⟨trivial, trivial⟩
  refine ACall.of_go TB [] tabOK _ Tryd.func50 rfl (by decide) Tryd.ntmps50 (by simp) rfl (by simp only [initEnv, Nat.reduceAdd]; rfl) fun C R' hR hC hcl hB => ?_; have X := noX; have hC' := congrArg List.length hC
  (refine run ?_; repeat' (first | with_reducible exact trivial | ((with_reducible apply Fork.mk) <;> intro hb) | with_reducible apply Two.mk))
  refine go_loop (fun a : Nat × Nat => [(0, .ptr rb 0 0 0), (3, .int .u64 a.2), (6, .int .i64 a.1)]) (fun _ => H) (fun a => 10 - a.1) (fun a => a.1 ≤ 10 ∧ a.2 < 18446744073709551616 ∧ (a.1 ≤ 9 → a.2 < 128 ^ a.1 ∧ rdN 0 0 s = rdN a.1 a.2 (s.drop a.1)) ∧ (a.1 = 10 → rdN 0 0 s = none)) (0, 0) ⟨by decide, by decide, fun _ => ⟨by decide, rfl⟩, fun h => by simp at h⟩ (Wk.sub (by simp [subEnv, look])) ?_
  rintro K ⟨k, u⟩ ⟨hk, hu, h9, h10⟩ hK
  simp only at hk hu h9 h10
  dsimp only
  have hgs := get_set_self' hrl
  have X := And.intro X (And.intro hr hgs)
  rcases Nat.lt_or_ge k 10 with hk10 | hk10
  · obtain ⟨hu9, hrd⟩ := h9 (by omega)
    rcases Nat.lt_or_ge k s.length with hlt | hge
    · have e1 : s[k]? = some s[k] := by simp [hlt]
      rw [List.drop_eq_getElem_cons hlt] at hrd
      generalize s[k] = b at *
      have hbl := b.toNat_lt
      have a0 : IntKind.u64.wrap ((b.toNat % 128 : Nat) : Int) = ((b.toNat % 128 : Nat) : Int) := by rw [wrapU64]; omega
      have a1 := and127 b
      have a2 := shl7 (k := k) (b := b.toNat) (by omega)
      have a3 := borU (x := u) (y := b.toNat % 128 * 2 ^ (7 * k) % 18446744073709551616) hu (Nat.mod_lt _ (by decide))
      have hvl := nextU_lt (k := k) (b := b.toNat) hu
      have hve := nextU_eq (k := k) (b := b.toNat) hu9
      rw [show (u ||| (b.toNat % 128 * 2 ^ (7 * k) % 18446744073709551616)) = nextU k u b.toNat from rfl] at a3
      generalize nextU k u b.toNat = v at *
      have a4 := and1 hvl
      have a6 : ((k : Int) + 1).toNat = k + 1 := by omega
      have a7 : (s.drop (k + 1)).take (s.length - (k + 1)) = s.drop (k + 1) := List.take_of_length_le (by simp)
      have X := And.intro X (And.intro e1 (And.intro a0 (And.intro a1 (And.intro a2 (And.intro a3 (And.intro a4 (And.intro a6 a7)))))))
      (refine run ?_; repeat' (first | with_reducible exact trivial | ((with_reducible apply Fork.mk) <;> intro hb) | with_reducible apply Two.mk))
      · refine hK _ _ (k + 1, v) (show 10 - (k + 1) < 10 - k by omega) ⟨show k + 1 ≤ 10 by omega, hvl, fun h => ?_, fun h => ?_⟩ (Wk.sub (by simp [subEnv, look]))
        · simp only at h ⊢
          obtain ⟨g1, g2⟩ := hve (by omega) hbl
          refine ⟨by rw [g1]; exact g2, ?_⟩
          rw [hrd, rdN, if_neg (by omega), if_pos (by omega), g1]
          congr 2
          have : b.toNat % 128 = b.toNat - 128 := by omega
          rw [this]
        · simp only at h
          rw [hrd, rdN, if_neg (by omega), if_pos (by omega)]
          have : k + 1 = 10 := h
          rw [this]
          cases s.drop 10 with
          | nil => rfl
          | cons x l => rw [rdN, if_pos (by omega)]
      · have hfail : rdN 0 0 s = none := by
          simp only [Bool.or_eq_true, Bool.and_eq_true, decide_eq_true_eq] at hb
          rw [hrd, rdN, if_neg (by omega), if_neg (by omega), if_pos (by omega)]
        obtain ⟨g1, g2⟩ := hno hfail
        refine Fin.out hR ⟨g1, ?_⟩
        rw [← g2]; rfl
      · have hlow : ¬ 127 < b.toNat := by omega
        simp only [Bool.or_eq_false_iff, Bool.and_eq_false_iff, decide_eq_false_iff_not] at hb
        obtain ⟨g1, g2⟩ := hve (by omega) hbl
        have hsome : rdN 0 0 s = some (v, s.drop (k + 1)) := by
          rw [hrd, rdN, if_neg (by omega), if_neg hlow, if_neg (by omega), g1, Nat.mod_eq_of_lt (show b.toNat < 128 by omega)]
        obtain ⟨g3, g4⟩ := hn _ _ hsome
        refine Fin.out hR ⟨g3, ?_⟩
        rw [← g4, ← unz_xor hvl, ← Option.some.inj a4]; rfl
    · (refine run ?_; repeat' (first | with_reducible exact trivial | ((with_reducible apply Fork.mk) <;> intro hb) | with_reducible apply Two.mk))
      have hfail : rdN 0 0 s = none := by rw [hrd, List.drop_eq_nil_of_le hge]; rfl
      obtain ⟨g1, g2⟩ := hno hfail
      refine Fin.out hR ⟨g1, ?_⟩
      rw [← g2]; rfl
  · have : k = 10 := by omega
    subst this
    (refine run ?_; repeat' (first | with_reducible exact trivial | ((with_reducible apply Fork.mk) <;> intro hb) | with_reducible apply Two.mk))
    obtain ⟨g1, g2⟩ := hno (h10 rfl)
    refine Fin.out hR ⟨g1, ?_⟩
    rw [← g2]; rfl

theorem rtext_ok (G : Gl) (hG : GClosed G) (q : RS) (rb : Nat) (H : List Blk) (hr : H[rb]? = some (rsC q)) :
    ACall Tryd.prog G 49 [.ptr rb 0 0 0] H (fun r H' => H' = H.set rb (rsC q.text.2) ∧ r = .str q.text.1) := by
  have hrl := (List.getElem?_eq_some_iff.1 hr).1
  have c1 := rnum_ok G hG q rb H hr
  have hgs := get_set_self' hrl
  have e1 : q.text = if q.num.1 < 0 ∨ (q.num.2.s.length : Int) < q.num.1 then ([], ⟨q.num.2.s, true⟩) else (q.num.2.s.take q.num.1.toNat, ⟨q.num.2.s.drop q.num.1.toNat, q.num.2.bad⟩) := rfl
  generalize q.text = R at *
  generalize q.num = p at *
  obtain ⟨n, ⟨s, bad⟩⟩ := p
  simp only [rsC] at c1 e1
  refine ACall.of_go TB [] tabOK _ Tryd.func49 rfl (by decide) Tryd.ntmps49 (by simp) rfl (by simp only [initEnv, Nat.reduceAdd]; rfl) fun C R' hR hC hcl hB => ?_; have X := noX; have hC' := congrArg List.length hC
  by_cases hn : n < 0 ∨ (s.length : Int) < n
  · rw [if_pos hn] at e1
    subst e1
    have hb0 : (decide (n < 0) || decide ((s.length : Int) < n)) = true := by simpa using hn
    have X := And.intro X (And.intro hgs hb0)
    (refine run ?_; repeat' (first | with_reducible exact trivial | ((with_reducible apply Fork.mk) <;> intro hb) | with_reducible apply Two.mk))
    · exact Fin.out hR ⟨rfl, rfl⟩
    all_goals simp_all
  · rw [if_neg hn] at e1
    subst e1
    have hb0 : (decide (n < 0) || decide ((s.length : Int) < n)) = false := by simpa using hn
    have hle : n.toNat ≤ s.length := by omega
    have hn0 : 0 ≤ n := by omega
    have hn1 : n ≤ s.length := by omega
    have a7 : (s.drop n.toNat).take (s.length - n.toNat) = s.drop n.toNat := List.take_of_length_le (by simp)
    have X := And.intro X (And.intro hgs (And.intro hb0 (And.intro a7 (And.intro (Nat.sub_zero n.toNat) hle))))
    (refine run ?_; repeat' (first | with_reducible exact trivial | ((with_reducible apply Fork.mk) <;> intro hb) | with_reducible apply Two.mk))
    all_goals first | exact Fin.out hR ⟨rfl, rfl⟩ | skip
theorem rtruth_ok (G : Gl) (hG : GClosed G) (q : RS) (rb : Nat) (H : List Blk) (hr : H[rb]? = some (rsC q)) :
    ACall Tryd.prog G 52 [.ptr rb 0 0 0] H (fun r H' => H' = H.set rb (rsC q.truth.2) ∧ r = .bool q.truth.1) := by
  have hrl := (List.getElem?_eq_some_iff.1 hr).1
  have c1 := rnum_ok G hG q rb H hr
  have hgs := get_set_self' hrl
  have e1 : q.truth = (decide (q.num.1 = 1), ⟨q.num.2.s, q.num.2.bad || (decide (q.num.1 ≠ 0) && decide (q.num.1 ≠ 1))⟩) := rfl
  generalize q.truth = R at *
  generalize q.num = p at *
  obtain ⟨n, ⟨s, bad⟩⟩ := p
  simp only [rsC] at c1 e1
  refine ACall.of_go TB [] tabOK _ Tryd.func52 rfl (by decide) Tryd.ntmps52 (by simp) rfl (by simp only [initEnv, Nat.reduceAdd]; rfl) fun C R' hR hC hcl hB => ?_; have X := noX; have hC' := congrArg List.length hC
  have X := And.intro X hgs
  (refine run ?_; repeat' (first | with_reducible exact trivial | ((with_reducible apply Fork.mk) <;> intro hb) | with_reducible apply Two.mk))
  · refine Fin.out hR ⟨?_, ?_⟩
    · rw [e1]; simp only [ne_eq, rsC, hb, Bool.or_true]
    · rw [e1]; rfl
  · refine Fin.out hR ⟨?_, ?_⟩
    · rw [e1]; simp only [ne_eq, rsC, hb, Bool.or_false]
    · rw [e1]; rfl
end Go.Proofs.YtihhngjoecgkpaaDoor
end

section
namespace Go.Proofs.YtihhngjoecgkpaaDoor
open Go
set_option linter.unusedSimpArgs false
set_option linter.unusedVariables false
set_option maxRecDepth 10000
set_option maxHeartbeats 4000000

/-- one of a list after the other, by a function value that takes one up -/
theorem each_ok {α : Type} (G : Gl) (hG : GClosed G) (f : RS → α × RS) (hmono : ∀ q, (f q).2.s.length ≤ q.s.length) (rb : Nat) (fn : SV) (M : RS → List α → List Blk) (hM : ∀ q l, (M q l)[rb]? = some (rsC q)) (hS : ∀ q q' l, (M q l).set rb (rsC q') = M q' l)
    (hf : ∀ q l, q.s.length < 4294967296 → l.length < 4294967296 → ACallV Tryd.prog G fn [] (M q l) (fun r H' => H' = M (f q).2 (l ++ [(f q).1]) ∧ r = .tuple [])) (q : RS) (hq : q.s.length < 4294967296) :
    ACall Tryd.prog G 47 [.ptr rb 0 0 0, fn] (M q []) (fun r H' => H' = M (q.each f).2 (q.each f).1 ∧ r = .tuple []) := by
  have c1 := rnum_ok G hG q rb (M q []) (hM q [])
  rw [hS] at c1
  have hlen := q.num_len
  have e1 : q.each f = if q.num.1 < 0 ∨ (q.num.2.s.length : Int) < q.num.1 then ([], ⟨q.num.2.s, true⟩) else eachN f q.num.1.toNat q.num.2 := rfl
  generalize q.each f = R at *
  generalize q.num = p at *
  obtain ⟨n, q1⟩ := p
  simp only at c1 e1 hlen
  have hr1 := hM q1 []
  have hst : ∀ x, (M q1 []).set rb x = (M q1 []).set rb x := fun _ => rfl
  refine ACall.of_go TB [] tabOK _ Tryd.func47 rfl (by decide) Tryd.ntmps47 (by simp) rfl (by simp only [initEnv, Nat.reduceAdd]; rfl) fun C R' hR hC hcl hB => ?_; have X := noX; have hC' := congrArg List.length hC
  by_cases hn : n < 0 ∨ (q1.s.length : Int) < n
  · rw [if_pos hn] at e1
    subst e1
    have hb0 : (decide (n < 0) || decide ((q1.s.length : Int) < n)) = true := by simpa using hn
    have hs1 := hS q1 ⟨q1.s, true⟩ []
    simp only [rsC] at hr1 hs1
    have X := And.intro X (And.intro hr1 hb0)
    (refine run ?_; repeat' (first | with_reducible exact trivial | ((with_reducible apply Fork.mk) <;> intro hb) | with_reducible apply Two.mk))
    · exact Fin.out hR ⟨hs1, rfl⟩
    all_goals simp_all
  · rw [if_neg hn] at e1
    have hb0 : (decide (n < 0) || decide ((q1.s.length : Int) < n)) = false := by simpa using hn
    have hr1' := hr1
    simp only [rsC] at hr1'
    have X := And.intro X (And.intro hr1' hb0)
    (refine run ?_; repeat' (first | with_reducible exact trivial | ((with_reducible apply Fork.mk) <;> intro hb) | with_reducible apply Two.mk))
    clear X
    obtain ⟨N, hN⟩ : ∃ N : Nat, n = N := ⟨n.toNat, by omega⟩
    subst hN
    rw [Int.toNat_natCast] at e1
    refine go_loop (fun a : Nat × RS × List α => [(0, .ptr rb 0 0 0), (1, fn), (21, .int .i64 N), (22, .int .i64 a.1)]) (fun a => M a.2.1 a.2.2) (fun a => N - a.1) (fun a => a.1 ≤ N ∧ a.2.1.s.length < 4294967296 ∧ a.2.2.length = a.1 ∧ R = (a.2.2 ++ (eachN f (N - a.1) a.2.1).1, (eachN f (N - a.1) a.2.1).2)) (0, q1, []) ⟨Nat.zero_le _, by show q1.s.length < _; omega, rfl, by rw [e1]; rfl⟩ (Wk.sub (by simp [subEnv, look])) ?_
    rintro K ⟨k, q2, l⟩ ⟨hk, hq2, hl, hR2⟩ hK
    simp only at hk hq2 hl hR2
    dsimp only
    rcases Nat.lt_or_ge k N with hlt | hge
    · obtain ⟨m, hm⟩ : ∃ m, N - k = m + 1 := ⟨N - k - 1, by omega⟩
      rw [hm] at hR2
      have hr2 := hM q2 l
      simp only [rsC] at hr2
      by_cases hbad : q2.bad = true
      · have X := And.intro noX (And.intro hr2 hbad)
        (refine run ?_; repeat' (first | with_reducible exact trivial | ((with_reducible apply Fork.mk) <;> intro hb) | with_reducible apply Two.mk))
        rw [eachN, if_pos hbad, List.append_nil] at hR2
        exact Fin.out hR ⟨by rw [hR2], rfl⟩
      · rw [eachN, if_neg hbad] at hR2
        have hbad : q2.bad = false := by simpa using hbad
        have X := And.intro noX (And.intro hr2 hbad)
        (refine run ?_; repeat' (first | with_reducible exact trivial | ((with_reducible apply Fork.mk) <;> intro hb) | with_reducible apply Two.mk))
        refine callV (hf q2 l hq2 (by omega)) ?_
        rintro r H' ⟨rfl, rfl⟩
        (refine run ?_; repeat' (first | with_reducible exact trivial | ((with_reducible apply Fork.mk) <;> intro hb) | with_reducible apply Two.mk))
        have := hmono q2
        refine hK _ _ (k + 1, (f q2).2, l ++ [(f q2).1]) (show N - (k + 1) < N - k by omega) ⟨show k + 1 ≤ N by omega, show (f q2).2.s.length < _ by omega, by simp [hl], ?_⟩ (Wk.sub (by simp [subEnv, look]))
        simp only
        rw [hR2, show N - (k + 1) = m by omega, List.append_assoc]
        rfl
    · have : k = N := by omega
      subst this
      have X := And.intro noX (Int.lt_irrefl (k : Int))
      (refine run ?_; repeat' (first | with_reducible exact trivial | ((with_reducible apply Fork.mk) <;> intro hb) | with_reducible apply Two.mk))
      rw [Nat.sub_self] at hR2
      simp only [eachN, List.append_nil] at hR2
      exact Fin.out hR ⟨by rw [hR2], rfl⟩
end Go.Proofs.YtihhngjoecgkpaaDoor
end

section
namespace Go.Proofs.YtihhngjoecgkpaaDoor
open Go
set_option linter.unusedSimpArgs false
set_option linter.unusedVariables false
set_option maxRecDepth 10000
set_option maxHeartbeats 4000000

/-! ### what the bytes of an image are read as -/
def RS.ref (q : RS) : (Int × Int) × RS := ((q.num.1, q.num.2.num.1), q.num.2.num.2)
def RS.con (q : RS) : Con × RS :=
  (⟨q.text.1, q.text.2.num.1, q.text.2.num.2.num.1, q.text.2.num.2.num.2.num.1⟩, q.text.2.num.2.num.2.num.2)
def RS.five (q : RS) : RS := q.num.2.num.2.num.2.num.2.num.2
def RS.ins (q : RS) : Ins × RS :=
  (⟨q.num.1, q.num.2.num.1, q.num.2.num.2.num.1, q.num.2.num.2.num.2.num.1, q.num.2.num.2.num.2.num.2.num.1, (q.five.each RS.num).1⟩, (q.five.each RS.num).2)
def RS.head (q : RS) : RS := q.text.2.truth.2.truth.2.num.2.num.2.num.2
def RS.fn (q : RS) : Fun × RS :=
  (⟨q.text.1, q.text.2.truth.1, q.text.2.truth.2.truth.1, q.text.2.truth.2.truth.2.num.1, q.text.2.truth.2.truth.2.num.2.num.1, q.text.2.truth.2.truth.2.num.2.num.2.num.1, (q.head.each RS.ins).1⟩, (q.head.each RS.ins).2)
def RS.glb (q : RS) : Glb × RS := (⟨q.num.1, q.num.2.num.1, (q.num.2.num.2.each RS.ref).1⟩, (q.num.2.num.2.each RS.ref).2)
theorem RS.ref_len (q : RS) : q.ref.2.s.length ≤ q.s.length := Nat.le_trans (RS.num_len _) q.num_len
theorem RS.con_len (q : RS) : q.con.2.s.length ≤ q.s.length := Nat.le_trans (RS.num_len _) (Nat.le_trans (RS.num_len _) (Nat.le_trans (RS.num_len _) q.text_len))
theorem RS.five_len (q : RS) : q.five.s.length ≤ q.s.length := Nat.le_trans (RS.num_len _) (Nat.le_trans (RS.num_len _) (Nat.le_trans (RS.num_len _) (Nat.le_trans (RS.num_len _) q.num_len)))
theorem RS.ins_len (q : RS) : q.ins.2.s.length ≤ q.s.length := Nat.le_trans (RS.each_len RS.num_len _) q.five_len
theorem RS.head_len (q : RS) : q.head.s.length ≤ q.s.length := Nat.le_trans (RS.num_len _) (Nat.le_trans (RS.num_len _) (Nat.le_trans (RS.num_len _) (Nat.le_trans (RS.truth_len _) (Nat.le_trans (RS.truth_len _) q.text_len))))
theorem RS.fn_len (q : RS) : q.fn.2.s.length ≤ q.s.length := Nat.le_trans (RS.each_len RS.ins_len _) q.head_len
theorem RS.glb_len (q : RS) : q.glb.2.s.length ≤ q.s.length := Nat.le_trans (RS.each_len RS.ref_len _) (Nat.le_trans (RS.num_len _) q.num_len)

theorem eachN_mem {α : Type} {f : RS → α × RS} (hf : ∀ q, (f q).2.s.length ≤ q.s.length) : ∀ (n : Nat) (q : RS) (x : α), x ∈ (eachN f n q).1 → ∃ q', q'.s.length ≤ q.s.length ∧ x = (f q').1
  | 0, q, x, h => by cases h
  | n + 1, q, x, h => by
    unfold eachN at h
    split at h
    · cases h
    · rcases List.mem_cons.1 h with rfl | h
      · exact ⟨q, Nat.le_refl _, rfl⟩
      · obtain ⟨q', h1, h2⟩ := eachN_mem hf n _ x h
        exact ⟨q', Nat.le_trans h1 (hf q), h2⟩
theorem RS.each_mem {α : Type} {f : RS → α × RS} (hf : ∀ q, (f q).2.s.length ≤ q.s.length) (q : RS) (x : α) (h : x ∈ (q.each f).1) : ∃ q', q'.s.length ≤ q.s.length ∧ x = (f q').1 := by
  unfold RS.each at h
  split at h
  · cases h
  · obtain ⟨q', h1, h2⟩ := eachN_mem hf _ _ x h
    exact ⟨q', Nat.le_trans h1 q.num_len, h2⟩
theorem RS.ins_l (q : RS) : q.ins.1.l.length ≤ q.s.length := Nat.le_trans (RS.each_size _) q.five_len
theorem RS.fn_code (q : RS) : q.fn.1.code.length ≤ q.s.length ∧ ∀ i ∈ q.fn.1.code, i.l.length ≤ q.s.length :=
  ⟨Nat.le_trans (RS.each_size _) q.head_len, fun i hi => by
    obtain ⟨q', h1, h2⟩ := RS.each_mem RS.ins_len q.head i hi
    rw [h2]
    exact Nat.le_trans q'.ins_l (Nat.le_trans h1 q.head_len)⟩
theorem RS.glb_args (q : RS) : q.glb.1.args.length ≤ q.s.length := Nat.le_trans (RS.each_size _) (Nat.le_trans (RS.num_len _) q.num_len)
/-! ### blocks -/
theorem rsC_under (n : Nat) (q : RS) : (rsC q).under n = true := rfl
theorem closed_swap {H L L' : List Blk} (h : closed (H ++ L)) (hl : L'.length = L.length) (hu : ∀ b ∈ L', b.under (H.length + L.length) = true) : closed (H ++ L') := by
  intro B hB
  rw [List.length_append, hl]
  rcases List.mem_append.1 hB with h1 | h1
  · have := h B (List.mem_append_left _ h1)
    rwa [List.length_append] at this
  · exact hu B h1
theorem closed_mod {Q L L' : List Blk} {rb : Nat} {x : Blk} (q : RS) (hr : rb < Q.length) (h : closed (Q.set rb x ++ L)) (hl : L'.length = L.length) (hu : ∀ b ∈ L', b.under (Q.length + L.length) = true) : closed (Q.set rb (rsC q) ++ L') := by
  have h2 : closed (Q.set rb (rsC q) ++ L) := by
    have := closed.set h (id := rb) (b := rsC q) (rsC_under _ q)
    rw [List.set_append_left _ _ (by simpa using hr), List.set_set] at this
    exact this
  exact closed_swap h2 hl (by rw [List.length_set]; exact hu)
structure RdQ (Q : List Blk) (rb rv : Nat) : Prop where
  hr : rb < Q.length
  hv : Q[rv]? = some (.cells 0 1 [.ptr rb 0 0 0])
  ne : rb ≠ rv
theorem RdQ.app {Q : List Blk} {rb rv : Nat} (h : RdQ Q rb rv) (L : List Blk) : RdQ (Q ++ L) rb rv := ⟨by rw [List.length_append]; have := h.hr; omega, get_app_left h.hv, h.ne⟩
/-- what a walk reads in it -/
theorem RdQ.x {Q : List Blk} {rb rv : Nat} (h : RdQ Q rb rv) : (∀ y L, (Q.set rb y ++ L)[rv]? = some (.cells 0 1 [.ptr rb 0 0 0])) ∧ (∀ y L, (Q.set rb y ++ L)[rb]? = some y) ∧ (∀ y, (Q.set rb y).length = Q.length) :=
  ⟨fun y L => get_app_left (get_set_ne h.hv h.ne), fun y L => get_app_left (List.getElem?_set_self h.hr), fun y => List.length_set ..⟩
theorem RdQ.num {Q : List Blk} {rb rv : Nat} (h : RdQ Q rb rv) (G : Gl) (hG : GClosed G) (q : RS) (L : List Blk) : ACall Tryd.prog G 50 [.ptr rb 0 0 0] (Q.set rb (rsC q) ++ L) (fun r H' => H' = Q.set rb (rsC q.num.2) ++ L ∧ r = .int .i64 q.num.1) :=
  (rnum_ok G hG q rb _ (h.x.2.1 _ L)).mono fun r H' k => ⟨by rw [k.1, List.set_append_left _ _ (by rw [List.length_set]; exact h.hr), List.set_set], k.2⟩
theorem RdQ.text {Q : List Blk} {rb rv : Nat} (h : RdQ Q rb rv) (G : Gl) (hG : GClosed G) (q : RS) (L : List Blk) : ACall Tryd.prog G 49 [.ptr rb 0 0 0] (Q.set rb (rsC q) ++ L) (fun r H' => H' = Q.set rb (rsC q.text.2) ++ L ∧ r = .str q.text.1) :=
  (rtext_ok G hG q rb _ (h.x.2.1 _ L)).mono fun r H' k => ⟨by rw [k.1, List.set_append_left _ _ (by rw [List.length_set]; exact h.hr), List.set_set], k.2⟩
theorem RdQ.truth {Q : List Blk} {rb rv : Nat} (h : RdQ Q rb rv) (G : Gl) (hG : GClosed G) (q : RS) (L : List Blk) : ACall Tryd.prog G 52 [.ptr rb 0 0 0] (Q.set rb (rsC q) ++ L) (fun r H' => H' = Q.set rb (rsC q.truth.2) ++ L ∧ r = .bool q.truth.1) :=
  (rtruth_ok G hG q rb _ (h.x.2.1 _ L)).mono fun r H' k => ⟨by rw [k.1, List.set_append_left _ _ (by rw [List.length_set]; exact h.hr), List.set_set], k.2⟩
theorem get_at (Q L : List Blk) (rb : Nat) (x : Blk) (k : Nat) : (Q.set rb x ++ L)[Q.length + k]? = L[k]? := by
  rw [List.getElem?_append_right (by rw [List.length_set]; omega), List.length_set, Nat.add_sub_cancel_left]
theorem set_at (Q L : List Blk) (rb : Nat) (x y : Blk) (k : Nat) : (Q.set rb x ++ L).set (Q.length + k) y = Q.set rb x ++ L.set k y := by
  rw [List.set_append_right _ _ (by rw [List.length_set]; omega), List.length_set, Nat.add_sub_cancel_left]
theorem app22 {α : Type} (A : List α) (a b c d : α) : A ++ [a, b, c, d] = (A ++ [a, b]) ++ [c, d] := by simp
theorem app21 {α : Type} (A : List α) (a b c : α) : A ++ [a, b, c] = (A ++ [a, b]) ++ [c] := by simp
theorem app42 {α : Type} (A : List α) (a b c d e f : α) : A ++ [a, b, c, d, e, f] = (A ++ [a, b, c, d]) ++ [e, f] := by simp
theorem app41 {α : Type} (A : List α) (a b c d e : α) : A ++ [a, b, c, d, e] = (A ++ [a, b, c, d]) ++ [e] := by simp
theorem frzTail {H : List Blk} {n : Nat} {ks : Keep} {id g sz : Nat} {vals : List SV} (hb : H[id]? = some (.cells g sz vals)) (hn : n ≤ id) (hk : ∀ p ∈ ks, p.1 ≠ id) (hv : SV.underL n vals = true) :
    ∀ {pre : List SV}, SV.underL n pre = true → FrzL H n ks (pre ++ [.sl id g 0 vals.length]) (pre ++ [.list sz vals])
  | [], _ => .cons _ _ _ _ (.sl id g 0 vals.length sz vals vals hb hn hk (by rw [List.drop_zero, List.take_length]; exact FrzL.same hv)) .nil
  | x :: pre, h => by
    simp only [SV.underL, Bool.and_eq_true] at h
    exact .cons _ _ _ _ (.same _ h.1) (frzTail hb hn hk hv h.2)
theorem keepF {A : List Blk} {n : Nat} (hA : A.length = n) (sz s2 : Nat) (pre : List SV) {g len : Nat} {vals : List SV} (hlen : len = vals.length) (hv : SV.underL n vals = true) (hp : SV.underL n pre = true) :
    KeepB (A ++ [.cells 0 sz [.agg (pre ++ [.sl (n + 1) g 0 len])], .cells g s2 vals]) n [(n, 0)] [(n, 0)] [.cells 0 sz [.agg (pre ++ [.list s2 vals])]] := by
  subst hA hlen
  have hk : ∀ p ∈ [(A.length, 0)], p.1 ≠ A.length + 1 := fun p hp => by rw [List.mem_singleton.1 hp]; show A.length ≠ A.length + 1; omega
  have h1 := frzTail (H := A ++ [.cells 0 sz [.agg (pre ++ [.sl (A.length + 1) g 0 vals.length])], .cells g s2 vals]) (n := A.length) (ks := [(A.length, 0)]) (id := A.length + 1) (g := g) (sz := s2) (vals := vals) (by simp) (by omega) hk hv hp
  exact KeepB.cells A.length 0 0 sz [.agg (pre ++ [.sl (A.length + 1) g 0 vals.length])] _ _ _ (by simp) (Nat.le_refl _) (Nat.zero_le _) (.cons _ _ _ _ (.agg _ _ h1) .nil) .nil
def insB (o : Nat) (op a b c n : Int) (l : List Int) : List Blk := [.cells 0 6 [.agg [.int .i64 op, .int .i64 a, .int .i64 b, .int .i64 c, .int .i64 n, .sl (o + 1) l.length 0 l.length]], .cells l.length 1 (l.map (.int .i64))]
def glbB (o : Nat) (k n : Int) (l : List (Int × Int)) : List Blk := [.cells 0 3 [.agg [.int .i64 k, .int .i64 n, .sl (o + 1) l.length 0 l.length]], .cells l.length 2 (l.map encR)]
def funB (o : Nat) (name : Str) (t u : Bool) (a b c : Int) (l : List Ins) : List Blk := [.cells 0 7 [.agg [.str name, .bool t, .bool u, .int .i64 a, .int .i64 b, .int .i64 c, .sl (o + 1) l.length 0 l.length]], .cells l.length 6 (insL l)]
def imgB (o : Nat) (c : List Con) (f : List Fun) (g : List Glb) : List Blk := [.cells 0 4 [.agg [.sl (o + 1) c.length 0 c.length, .sl (o + 2) f.length 0 f.length, .sl (o + 3) g.length 0 g.length, .int .i64 0]], .cells c.length 4 (consL c), .cells f.length 7 (funsL f), .cells g.length 3 (glbsL g)]
end Go.Proofs.YtihhngjoecgkpaaDoor
end

section
namespace Go.Proofs.YtihhngjoecgkpaaDoor
open Go
set_option linter.unusedSimpArgs false
set_option linter.unusedVariables false
set_option maxRecDepth 10000
set_option maxHeartbeats 4000000

theorem clInt_ok (G : Gl) (hG : GClosed G) (Q : List Blk) (rb rv : Nat) (hQ : RdQ Q rb rv) (op a b c n : Int) (q : RS) (l : List Int) (hl : l.length < 4294967296) :
    ACall Tryd.prog G 54 [.ptr Q.length 0 0 0, .ptr rv 0 0 0] (Q.set rb (rsC q) ++ insB Q.length op a b c n l) (fun r H' => H' = Q.set rb (rsC q.num.2) ++ insB Q.length op a b c n (l ++ [q.num.1]) ∧ r = .tuple []) := by
  obtain ⟨x1, x2, x3⟩ := hQ.x
  have c1 := fun q L => hQ.num G hG q L
  have hr := hQ.hr
  have hml : (l.map (SV.int .i64)).length = l.length := by simp
  simp only [insB]
  refine ACall.of_go TB [] tabOK _ Tryd.func54 rfl (by decide) Tryd.ntmps54 (by simp) rfl (by simp only [initEnv, Nat.reduceAdd]; rfl) fun C R' hR hC hcl hB => ?_; have X := noX; have hC' := congrArg List.length hC
  have X := And.intro X (And.intro x1 (And.intro x2 (And.intro x3 hml)))
  (refine run ?_; repeat' (first | with_reducible exact trivial | ((with_reducible apply Fork.mk) <;> intro hb) | with_reducible apply Two.mk))
  exact Fin.out hR ⟨by simp [insB], rfl⟩
theorem clRef_ok (G : Gl) (hG : GClosed G) (Q : List Blk) (rb rv : Nat) (hQ : RdQ Q rb rv) (k n : Int) (q : RS) (l : List (Int × Int)) (hl : l.length < 4294967296) :
    ACall Tryd.prog G 56 [.ptr Q.length 0 0 0, .ptr rv 0 0 0] (Q.set rb (rsC q) ++ glbB Q.length k n l) (fun r H' => H' = Q.set rb (rsC q.ref.2) ++ glbB Q.length k n (l ++ [q.ref.1]) ∧ r = .tuple []) := by
  obtain ⟨x1, x2, x3⟩ := hQ.x
  have c1 := fun q L => hQ.num G hG q L
  have hr := hQ.hr
  have hml : (l.map encR).length = l.length := by simp
  simp only [glbB]
  refine ACall.of_go TB [] tabOK _ Tryd.func56 rfl (by decide) Tryd.ntmps56 (by simp) rfl (by simp only [initEnv, Nat.reduceAdd]; rfl) fun C R' hR hC hcl hB => ?_; have X := noX; have hC' := congrArg List.length hC
  have X := And.intro X (And.intro x1 (And.intro x2 (And.intro x3 hml)))
  (refine run ?_; repeat' (first | with_reducible exact trivial | ((with_reducible apply Fork.mk) <;> intro hb) | with_reducible apply Two.mk))
  exact Fin.out hR ⟨by simp [RS.ref, encR], rfl⟩
theorem clCon_ok (G : Gl) (hG : GClosed G) (Q : List Blk) (rb rv : Nat) (hQ : RdQ Q rb rv) (f : List Fun) (g : List Glb) (q : RS) (l : List Con) (hl : l.length < 4294967296) :
    ACall Tryd.prog G 48 [.ptr Q.length 0 0 0, .ptr rv 0 0 0] (Q.set rb (rsC q) ++ imgB Q.length l f g) (fun r H' => H' = Q.set rb (rsC q.con.2) ++ imgB Q.length (l ++ [q.con.1]) f g ∧ r = .tuple []) := by
  obtain ⟨x1, x2, x3⟩ := hQ.x
  have c1 := fun q L => hQ.num G hG q L
  have c2 := fun q L => hQ.text G hG q L
  have hr := hQ.hr
  have hml := consL_len l
  simp only [imgB]
  refine ACall.of_go TB [] tabOK _ Tryd.func48 rfl (by decide) Tryd.ntmps48 (by simp) rfl (by simp only [initEnv, Nat.reduceAdd]; rfl) fun C R' hR hC hcl hB => ?_; have X := noX; have hC' := congrArg List.length hC
  have X := And.intro X (And.intro x1 (And.intro x2 (And.intro x3 hml)))
  (refine run ?_; repeat' (first | with_reducible exact trivial | ((with_reducible apply Fork.mk) <;> intro hb) | with_reducible apply Two.mk))
  exact Fin.out hR ⟨by simp [RS.con, consL, Con.cells], rfl⟩
end Go.Proofs.YtihhngjoecgkpaaDoor
end

section
namespace Go.Proofs.YtihhngjoecgkpaaDoor
open Go
set_option linter.unusedSimpArgs false
set_option linter.unusedVariables false
set_option maxRecDepth 10000
set_option maxHeartbeats 4000000

theorem clIns_ok (G : Gl) (hG : GClosed G) (Q : List Blk) (rb rv : Nat) (hQ : RdQ Q rb rv) (name : Str) (t u : Bool) (a b c : Int) (q : RS) (hq : q.s.length < 4294967296) (l : List Ins) (hl : l.length < 4294967296) :
    ACall Tryd.prog G 53 [.ptr rv 0 0 0, .ptr Q.length 0 0 0] (Q.set rb (rsC q) ++ funB Q.length name t u a b c l) (fun r H' => H' = Q.set rb (rsC q.ins.2) ++ funB Q.length name t u a b c (l ++ [q.ins.1]) ∧ r = .tuple []) := by
  obtain ⟨x1, x2, x3⟩ := hQ.x
  have c1 := fun q L => hQ.num G hG q L
  have hr := hQ.hr
  have hml := insL_len l
  have hrv := (List.getElem?_eq_some_iff.1 hQ.hv).1
  have hQ2 := hQ.app (funB Q.length name t u a b c l)
  have hl5 := q.five_len
  have hins : q.ins = (⟨q.num.1, q.num.2.num.1, q.num.2.num.2.num.1, q.num.2.num.2.num.2.num.1, q.num.2.num.2.num.2.num.2.num.1, (q.five.each RS.num).1⟩, (q.five.each RS.num).2) := rfl
  have h5 : q.num.2.num.2.num.2.num.2.num.2 = q.five := rfl
  have he := each_ok G hG RS.num RS.num_len rb (.fn (.func 54) [] [.ptr (Q.length + 2) 0 0 0, .ptr rv 0 0 0]) (fun q' l' => Q.set rb (rsC q') ++ (funB Q.length name t u a b c l ++ insB (Q.length + 2) q.num.1 q.num.2.num.1 q.num.2.num.2.num.1 q.num.2.num.2.num.2.num.1 q.num.2.num.2.num.2.num.2.num.1 l'))
    (fun q' l' => x2 _ _) (fun q' q'' l' => by rw [List.set_append_left _ _ (by rw [x3]; exact hr), List.set_set]) (fun q' l' _ hl' => ACallV.of (by
      have := clInt_ok G hG _ rb rv hQ2 q.num.1 q.num.2.num.1 q.num.2.num.2.num.1 q.num.2.num.2.num.2.num.1 q.num.2.num.2.num.2.num.2.num.1 q' l' hl'
      have e : (Q ++ funB Q.length name t u a b c l).length = Q.length + 2 := by simp [funB]
      rw [e] at this
      simp only [List.set_append_left _ _ hr, List.append_assoc] at this
      exact this)) q.five (by omega)
  simp only [funB, insB, List.length_nil, List.map_nil, List.cons_append, List.nil_append] at he ⊢
  refine ACall.of_go TB [] tabOK _ Tryd.func53 rfl (by decide) Tryd.ntmps53 (by simp) rfl (by simp only [initEnv, Nat.reduceAdd]; rfl) fun C R' hR hC hcl hB => ?_; have X := noX; have hC' := congrArg List.length hC
  have X := And.intro X (And.intro x1 (And.intro x2 (And.intro x3 hml)))
  refine go_seq ?_
  refine go_cut (fun _ : Unit => [(0, .ptr rv 0 0 0), (1, .ptr Q.length 0 0 0), (2, .ptr (Q.length + 2) 0 0 0)]) (fun _ => Q.set rb (rsC q.five) ++ [.cells 0 7 [.agg [.str name, .bool t, .bool u, .int .i64 a, .int .i64 b, .int .i64 c, .sl (Q.length + 1) l.length 0 l.length]], .cells l.length 6 (insL l), .cells 0 6 [.agg [.int .i64 q.num.1, .int .i64 q.num.2.num.1, .int .i64 q.num.2.num.2.num.1, .int .i64 q.num.2.num.2.num.2.num.1, .int .i64 q.num.2.num.2.num.2.num.2.num.1, .sl (Q.length + 2 + 1) 0 0 0]], .cells 0 1 []]) (fun _ => True) (fun K hK => ?_) (fun _ _ => ?_)
  · (refine run ?_; repeat' (first | with_reducible exact trivial | ((with_reducible apply Fork.mk) <;> intro hb) | with_reducible apply Two.mk))
    all_goals
      rw [h5]
      refine hK _ _ () trivial ?_
      exact wk_ghostE (id := Q.length + 2) (i := 0) (j := 5) 1 ((get_at ..).trans rfl) rfl rfl (by rw [set_at]; simp [x3]) (by simp [subEnv, look])
  · have hC2 : C.H.length = Q.length + 2 := by rw [hC']; simp
    have hcl2 : ∀ (q' : RS) (l' : List SV) (g n : Nat), SV.underL (Q.length + 2) l' = true → closed (Q.set rb (rsC q') ++ [.cells 0 7 [.agg [.str name, .bool t, .bool u, .int .i64 a, .int .i64 b, .int .i64 c, .sl (Q.length + 1) g 0 n]], .cells g 6 l']) := fun q' l' g n h =>
      closed_mod q' hr hcl rfl (by simp [Blk.under, SV.under, SV.underL, h])
    have hl2 : ∀ y : Blk, (Q.set rb y).length + 1 + 1 = Q.length + 2 := fun y => by rw [x3]
    refine go_seq ?_
    refine go_cut (fun _ : Unit => [(0, .ptr rv 0 0 0), (1, .ptr Q.length 0 0 0), (2, .ptr (Q.length + 2) 0 0 0)]) (fun _ => Q.set rb (rsC q.ins.2) ++ [.cells 0 7 [.agg [.str name, .bool t, .bool u, .int .i64 a, .int .i64 b, .int .i64 c, .sl (Q.length + 1) l.length 0 l.length]], .cells l.length 6 (insL l), .cells 0 6 [.agg q.ins.1.cells]]) (fun _ => True) (fun K hK => ?_) (fun _ _ => ?_)
    · (refine run ?_; repeat' (first | with_reducible exact trivial | ((with_reducible apply Fork.mk) <;> intro hb) | with_reducible apply Two.mk))
      refine callS he ?_
      rintro r H' ⟨rfl, rfl⟩
      (refine run ?_; repeat' (first | with_reducible exact trivial | ((with_reducible apply Fork.mk) <;> intro hb) | with_reducible apply Two.mk))
      refine hK _ _ () trivial ?_
      rw [hins]
      simp only [Ins.cells]
      rw [app22, app21]
      exact wkS (n0 := Q.length + 2) [(Q.length + 2, 0)] hG hB hC2 (hcl2 _ _ _ _ (insL_under _ _)) (hn := by simp [x3]) (hk := keepF (by simp [x3]) 6 1 [.int .i64 q.num.1, .int .i64 q.num.2.num.1, .int .i64 q.num.2.num.2.num.1, .int .i64 q.num.2.num.2.num.2.num.1, .int .i64 q.num.2.num.2.num.2.num.2.num.1] (by simp) (ints_under _ _) rfl)
    · rw [hins]
      simp only [Ins.cells]
      (refine run ?_; repeat' (first | with_reducible exact trivial | ((with_reducible apply Fork.mk) <;> intro hb) | with_reducible apply Two.mk))
      rw [app21]
      refine finS (n0 := Q.length + 2) hR hC2 (hcl2 _ _ _ _ ?_) (.same _ rfl) ⟨?_, rfl⟩ (hn := by simp [x3])
      · simp only [SV.underL_append, insL_under, SV.underL, SV.under, ints_under, Bool.and_self]
      · rw [hins]; simp [insL, Ins.cells]

theorem clGlb_ok (G : Gl) (hG : GClosed G) (Q : List Blk) (rb rv : Nat) (hQ : RdQ Q rb rv) (cs : List Con) (fs : List Fun) (q : RS) (hq : q.s.length < 4294967296) (gs : List Glb) (hl : gs.length < 4294967296) :
    ACall Tryd.prog G 55 [.ptr rv 0 0 0, .ptr Q.length 0 0 0] (Q.set rb (rsC q) ++ imgB Q.length cs fs gs) (fun r H' => H' = Q.set rb (rsC q.glb.2) ++ imgB Q.length cs fs (gs ++ [q.glb.1]) ∧ r = .tuple []) := by
  obtain ⟨x1, x2, x3⟩ := hQ.x
  have c1 := fun q L => hQ.num G hG q L
  have hr := hQ.hr
  have hml := glbsL_len gs
  have hrv := (List.getElem?_eq_some_iff.1 hQ.hv).1
  have hQ2 := hQ.app (imgB Q.length cs fs gs)
  have hl5 : q.num.2.num.2.s.length ≤ q.s.length := Nat.le_trans (RS.num_len _) q.num_len
  have hglb : q.glb = (⟨q.num.1, q.num.2.num.1, (q.num.2.num.2.each RS.ref).1⟩, (q.num.2.num.2.each RS.ref).2) := rfl
  have he := each_ok G hG RS.ref RS.ref_len rb (.fn (.func 56) [] [.ptr (Q.length + 4) 0 0 0, .ptr rv 0 0 0]) (fun q' l' => Q.set rb (rsC q') ++ (imgB Q.length cs fs gs ++ glbB (Q.length + 4) q.num.1 q.num.2.num.1 l'))
    (fun q' l' => x2 _ _) (fun q' q'' l' => by rw [List.set_append_left _ _ (by rw [x3]; exact hr), List.set_set]) (fun q' l' _ hl' => ACallV.of (by
      have := clRef_ok G hG _ rb rv hQ2 q.num.1 q.num.2.num.1 q' l' hl'
      have e : (Q ++ imgB Q.length cs fs gs).length = Q.length + 4 := by simp [imgB]
      rw [e] at this
      simp only [List.set_append_left _ _ hr, List.append_assoc] at this
      exact this)) q.num.2.num.2 (by omega)
  simp only [imgB, glbB, List.length_nil, List.map_nil, List.cons_append, List.nil_append] at he ⊢
  refine ACall.of_go TB [] tabOK _ Tryd.func55 rfl (by decide) Tryd.ntmps55 (by simp) rfl (by simp only [initEnv, Nat.reduceAdd]; rfl) fun C R' hR hC hcl hB => ?_; have X := noX; have hC' := congrArg List.length hC
  have X := And.intro X (And.intro x1 (And.intro x2 (And.intro x3 hml)))
  refine go_seq ?_
  refine go_cut (fun _ : Unit => [(0, .ptr rv 0 0 0), (1, .ptr Q.length 0 0 0), (2, .ptr (Q.length + 4) 0 0 0)]) (fun _ => Q.set rb (rsC q.num.2.num.2) ++ [.cells 0 4 [.agg [.sl (Q.length + 1) cs.length 0 cs.length, .sl (Q.length + 2) fs.length 0 fs.length, .sl (Q.length + 3) gs.length 0 gs.length, .int .i64 0]], .cells cs.length 4 (consL cs), .cells fs.length 7 (funsL fs), .cells gs.length 3 (glbsL gs), .cells 0 3 [.agg [.int .i64 q.num.1, .int .i64 q.num.2.num.1, .sl (Q.length + 4 + 1) 0 0 0]], .cells 0 2 []]) (fun _ => True) (fun K hK => ?_) (fun _ _ => ?_)
  · (refine run ?_; repeat' (first | with_reducible exact trivial | ((with_reducible apply Fork.mk) <;> intro hb) | with_reducible apply Two.mk))
    all_goals
      refine hK _ _ () trivial ?_
      exact wk_ghostE (id := Q.length + 4) (i := 0) (j := 2) 2 ((get_at ..).trans rfl) rfl rfl (by rw [set_at]; simp [x3]) (by simp [subEnv, look])
  · have hC2 : C.H.length = Q.length + 4 := by rw [hC']; simp
    have hcl2 : ∀ (q' : RS) (l' : List SV) (g n : Nat), SV.underL (Q.length + 4) l' = true → closed (Q.set rb (rsC q') ++ [.cells 0 4 [.agg [.sl (Q.length + 1) cs.length 0 cs.length, .sl (Q.length + 2) fs.length 0 fs.length, .sl (Q.length + 3) g 0 n, .int .i64 0]], .cells cs.length 4 (consL cs), .cells fs.length 7 (funsL fs), .cells g 3 l']) := fun q' l' g n h =>
      closed_mod q' hr hcl rfl (by simp [Blk.under, SV.under, SV.underL, h, consL_under, funsL_under])
    refine go_seq ?_
    refine go_cut (fun _ : Unit => [(0, .ptr rv 0 0 0), (1, .ptr Q.length 0 0 0), (2, .ptr (Q.length + 4) 0 0 0)]) (fun _ => Q.set rb (rsC q.glb.2) ++ [.cells 0 4 [.agg [.sl (Q.length + 1) cs.length 0 cs.length, .sl (Q.length + 2) fs.length 0 fs.length, .sl (Q.length + 3) gs.length 0 gs.length, .int .i64 0]], .cells cs.length 4 (consL cs), .cells fs.length 7 (funsL fs), .cells gs.length 3 (glbsL gs), .cells 0 3 [.agg q.glb.1.cells]]) (fun _ => True) (fun K hK => ?_) (fun _ _ => ?_)
    · (refine run ?_; repeat' (first | with_reducible exact trivial | ((with_reducible apply Fork.mk) <;> intro hb) | with_reducible apply Two.mk))
      refine callS he ?_
      rintro r H' ⟨rfl, rfl⟩
      (refine run ?_; repeat' (first | with_reducible exact trivial | ((with_reducible apply Fork.mk) <;> intro hb) | with_reducible apply Two.mk))
      refine hK _ _ () trivial ?_
      rw [hglb]
      simp only [Glb.cells]
      rw [app42, app41]
      exact wkS (n0 := Q.length + 4) [(Q.length + 4, 0)] hG hB hC2 (hcl2 _ _ _ _ (glbsL_under _ _)) (hn := by simp [x3]) (hk := keepF (by simp [x3]) 3 2 [.int .i64 q.num.1, .int .i64 q.num.2.num.1] (by simp) (SV.underL_map fun _ _ => rfl) rfl)
    · rw [hglb]
      simp only [Glb.cells]
      (refine run ?_; repeat' (first | with_reducible exact trivial | ((with_reducible apply Fork.mk) <;> intro hb) | with_reducible apply Two.mk))
      rw [app41]
      refine finS (n0 := Q.length + 4) hR hC2 (hcl2 _ _ _ _ ?_) (.same _ rfl) ⟨?_, rfl⟩ (hn := by simp [x3])
      · have : ∀ l : List (Int × Int), SV.underL (Q.length + 4) (l.map encR) = true := fun l => SV.underL_map fun _ _ => rfl
        simp only [SV.underL_append, glbsL_under, SV.underL, SV.under, this, Bool.and_self]
      · rw [hglb]; simp [glbsL, Glb.cells]
theorem clFun_ok (G : Gl) (hG : GClosed G) (Q : List Blk) (rb rv : Nat) (hQ : RdQ Q rb rv) (cs : List Con) (gs : List Glb) (q : RS) (hq : q.s.length < 4294967296) (fs : List Fun) (hl : fs.length < 4294967296) :
    ACall Tryd.prog G 51 [.ptr rv 0 0 0, .ptr Q.length 0 0 0] (Q.set rb (rsC q) ++ imgB Q.length cs fs gs) (fun r H' => H' = Q.set rb (rsC q.fn.2) ++ imgB Q.length cs (fs ++ [q.fn.1]) gs ∧ r = .tuple []) := by
  obtain ⟨x1, x2, x3⟩ := hQ.x
  have c1 := fun q L => hQ.num G hG q L
  have c2 := fun q L => hQ.text G hG q L
  have c3 := fun q L => hQ.truth G hG q L
  have hr := hQ.hr
  have hml := funsL_len fs
  have hrv := (List.getElem?_eq_some_iff.1 hQ.hv).1
  have hQ2 := hQ.app (imgB Q.length cs fs gs)
  have hl5 := q.head_len
  have hfn : q.fn = (⟨q.text.1, q.text.2.truth.1, q.text.2.truth.2.truth.1, q.text.2.truth.2.truth.2.num.1, q.text.2.truth.2.truth.2.num.2.num.1, q.text.2.truth.2.truth.2.num.2.num.2.num.1, (q.head.each RS.ins).1⟩, (q.head.each RS.ins).2) := rfl
  have h5 : q.text.2.truth.2.truth.2.num.2.num.2.num.2 = q.head := rfl
  have he := each_ok G hG RS.ins RS.ins_len rb (.fn (.func 53) [] [.ptr rv 0 0 0, .ptr (Q.length + 4) 0 0 0]) (fun q' l' => Q.set rb (rsC q') ++ (imgB Q.length cs fs gs ++ funB (Q.length + 4) q.text.1 q.text.2.truth.1 q.text.2.truth.2.truth.1 q.text.2.truth.2.truth.2.num.1 q.text.2.truth.2.truth.2.num.2.num.1 q.text.2.truth.2.truth.2.num.2.num.2.num.1 l'))
    (fun q' l' => x2 _ _) (fun q' q'' l' => by rw [List.set_append_left _ _ (by rw [x3]; exact hr), List.set_set]) (fun q' l' hq' hl' => ACallV.of (by
      have := clIns_ok G hG _ rb rv hQ2 q.text.1 q.text.2.truth.1 q.text.2.truth.2.truth.1 q.text.2.truth.2.truth.2.num.1 q.text.2.truth.2.truth.2.num.2.num.1 q.text.2.truth.2.truth.2.num.2.num.2.num.1 q' hq' l' hl'
      have e : (Q ++ imgB Q.length cs fs gs).length = Q.length + 4 := by simp [imgB]
      rw [e] at this
      simp only [List.set_append_left _ _ hr, List.append_assoc] at this
      exact this)) q.head (by omega)
  simp only [imgB, funB, List.length_nil, show insL [] = [] from rfl, List.cons_append, List.nil_append] at he ⊢
  refine ACall.of_go TB [] tabOK _ Tryd.func51 rfl (by decide) Tryd.ntmps51 (by simp) rfl (by simp only [initEnv, Nat.reduceAdd]; rfl) fun C R' hR hC hcl hB => ?_; have X := noX; have hC' := congrArg List.length hC
  have X := And.intro X (And.intro x1 (And.intro x2 (And.intro x3 hml)))
  refine go_seq ?_
  refine go_cut (fun _ : Unit => [(0, .ptr rv 0 0 0), (1, .ptr Q.length 0 0 0), (2, .ptr (Q.length + 4) 0 0 0)]) (fun _ => Q.set rb (rsC q.head) ++ [.cells 0 4 [.agg [.sl (Q.length + 1) cs.length 0 cs.length, .sl (Q.length + 2) fs.length 0 fs.length, .sl (Q.length + 3) gs.length 0 gs.length, .int .i64 0]], .cells cs.length 4 (consL cs), .cells fs.length 7 (funsL fs), .cells gs.length 3 (glbsL gs), .cells 0 7 [.agg [.str q.text.1, .bool q.text.2.truth.1, .bool q.text.2.truth.2.truth.1, .int .i64 q.text.2.truth.2.truth.2.num.1, .int .i64 q.text.2.truth.2.truth.2.num.2.num.1, .int .i64 q.text.2.truth.2.truth.2.num.2.num.2.num.1, .sl (Q.length + 4 + 1) 0 0 0]], .cells 0 6 []]) (fun _ => True) (fun K hK => ?_) (fun _ _ => ?_)
  · (refine run ?_; repeat' (first | with_reducible exact trivial | ((with_reducible apply Fork.mk) <;> intro hb) | with_reducible apply Two.mk))
    all_goals
      rw [h5]
      refine hK _ _ () trivial ?_
      exact wk_ghostE (id := Q.length + 4) (i := 0) (j := 6) 6 ((get_at ..).trans rfl) rfl rfl (by rw [set_at]; simp [x3]) (by simp [subEnv, look])
  · have hC2 : C.H.length = Q.length + 4 := by rw [hC']; simp
    have hcl2 : ∀ (q' : RS) (l' : List SV) (g n : Nat), SV.underL (Q.length + 4) l' = true → closed (Q.set rb (rsC q') ++ [.cells 0 4 [.agg [.sl (Q.length + 1) cs.length 0 cs.length, .sl (Q.length + 2) g 0 n, .sl (Q.length + 3) gs.length 0 gs.length, .int .i64 0]], .cells cs.length 4 (consL cs), .cells g 7 l', .cells gs.length 3 (glbsL gs)]) := fun q' l' g n h =>
      closed_mod q' hr hcl rfl (by simp [Blk.under, SV.under, SV.underL, h, consL_under, glbsL_under])
    refine go_seq ?_
    refine go_cut (fun _ : Unit => [(0, .ptr rv 0 0 0), (1, .ptr Q.length 0 0 0), (2, .ptr (Q.length + 4) 0 0 0)]) (fun _ => Q.set rb (rsC q.fn.2) ++ [.cells 0 4 [.agg [.sl (Q.length + 1) cs.length 0 cs.length, .sl (Q.length + 2) fs.length 0 fs.length, .sl (Q.length + 3) gs.length 0 gs.length, .int .i64 0]], .cells cs.length 4 (consL cs), .cells fs.length 7 (funsL fs), .cells gs.length 3 (glbsL gs), .cells 0 7 [.agg q.fn.1.cells]]) (fun _ => True) (fun K hK => ?_) (fun _ _ => ?_)
    · (refine run ?_; repeat' (first | with_reducible exact trivial | ((with_reducible apply Fork.mk) <;> intro hb) | with_reducible apply Two.mk))
      refine callS he ?_
      rintro r H' ⟨rfl, rfl⟩
      (refine run ?_; repeat' (first | with_reducible exact trivial | ((with_reducible apply Fork.mk) <;> intro hb) | with_reducible apply Two.mk))
      refine hK _ _ () trivial ?_
      rw [hfn]
      simp only [Fun.cells]
      rw [app42, app41]
      exact wkS (n0 := Q.length + 4) [(Q.length + 4, 0)] hG hB hC2 (hcl2 _ _ _ _ (funsL_under _ _)) (hn := by simp [x3]) (hk := keepF (by simp [x3]) 7 6 [.str q.text.1, .bool q.text.2.truth.1, .bool q.text.2.truth.2.truth.1, .int .i64 q.text.2.truth.2.truth.2.num.1, .int .i64 q.text.2.truth.2.truth.2.num.2.num.1, .int .i64 q.text.2.truth.2.truth.2.num.2.num.2.num.1] (by simp [insL]) (insL_under _ _) rfl)
    · rw [hfn]
      simp only [Fun.cells]
      (refine run ?_; repeat' (first | with_reducible exact trivial | ((with_reducible apply Fork.mk) <;> intro hb) | with_reducible apply Two.mk))
      rw [app41]
      refine finS (n0 := Q.length + 4) hR hC2 (hcl2 _ _ _ _ ?_) (.same _ rfl) ⟨?_, rfl⟩ (hn := by simp [x3])
      · simp only [SV.underL_append, funsL_under, SV.underL, SV.under, insL_under, Bool.and_self]
      · rw [hfn]; simp [funsL, Fun.cells]
end Go.Proofs.YtihhngjoecgkpaaDoor
end

section
namespace Go.Proofs.YtihhngjoecgkpaaDoor
open Go
set_option linter.unusedSimpArgs false
set_option linter.unusedVariables false
set_option maxRecDepth 10000
set_option maxHeartbeats 4000000

def magic4 : Str := [84, 83, 76, 49]
def img0 : Img := ⟨[], [], [], 0⟩
def RS.img (q : RS) : Img × RS :=
  (⟨(q.each RS.con).1, ((q.each RS.con).2.each RS.fn).1, (((q.each RS.con).2.each RS.fn).2.each RS.glb).1, (((q.each RS.con).2.each RS.fn).2.each RS.glb).2.num.1⟩, (((q.each RS.con).2.each RS.fn).2.each RS.glb).2.num.2)
def decS (data : Str) : Img × Int :=
  if data.length < 4 ∨ data.take 4 ≠ magic4 then (img0, 171)
  else if (RS.img ⟨data.drop 4, false⟩).2.bad = true ∨ (RS.img ⟨data.drop 4, false⟩).2.s ≠ [] ∨ chkS (RS.img ⟨data.drop 4, false⟩).1 65536 ≠ 0 then (img0, 171) else ((RS.img ⟨data.drop 4, false⟩).1, 0)
theorem RS.img_B (q0 : RS) (h : q0.s.length < 4294967296) : ImgB q0.img.1 := by
  have l1 := RS.each_len RS.con_len q0
  have l2 := RS.each_len RS.fn_len (q0.each RS.con).2
  have hz1 := RS.each_size (f := RS.con) q0
  have hz2 := RS.each_size (f := RS.fn) (q0.each RS.con).2
  have hz3 := RS.each_size (f := RS.glb) ((q0.each RS.con).2.each RS.fn).2
  refine ⟨?_, ?_, ?_, fun f hf => ?_, fun g hg => ?_⟩
  · show (q0.each RS.con).1.length < _; omega
  · show ((q0.each RS.con).2.each RS.fn).1.length < _; omega
  · show (((q0.each RS.con).2.each RS.fn).2.each RS.glb).1.length < _; omega
  · obtain ⟨q', h1, rfl⟩ := RS.each_mem RS.fn_len _ f hf
    obtain ⟨h2, h3⟩ := q'.fn_code
    exact ⟨by omega, fun i hi => by have := h3 i hi; omega⟩
  · obtain ⟨q', h1, rfl⟩ := RS.each_mem RS.glb_len _ g hg
    have := q'.glb_args
    omega
theorem decS_B (data : Str) (h : data.length < 4294967296) : ImgB (decS data).1 := by
  have h0 : ImgB img0 := ⟨by decide, by decide, by decide, fun f hf => (by cases hf), fun g hg => (by cases hg)⟩
  unfold decS
  split
  · exact h0
  · split
    · exact h0
    · exact RS.img_B _ (by simp; omega)
theorem frzImg0 (H : List Blk) (n : Nat) (ks : Keep) : Frz H n ks (resSV [SV.agg [SV.nil, SV.nil, SV.nil, SV.int IntKind.i64 0], SV.int IntKind.i64 171]) (.tuple [.agg [.list 4 [], .list 7 [], .list 3 [], .int .i64 0], .int .i64 171]) :=
  .tuple _ _ (.cons _ _ _ _ (.agg _ _ (.cons _ _ _ _ (.nil 4) (.cons _ _ _ _ (.nil 7) (.cons _ _ _ _ (.nil 3) (.cons _ _ _ _ (.same _ rfl) .nil))))) (.cons _ _ _ _ (.same _ rfl) .nil))
theorem frzSl {H : List Blk} {n : Nat} {ks : Keep} {id g sz len : Nat} {vals : List SV} (hb : H[id]? = some (.cells g sz vals)) (hn : n ≤ id) (hk : ∀ p ∈ ks, p.1 ≠ id) (hv : SV.underL n vals = true) (hl : len = vals.length) : Frz H n ks (.sl id g 0 len) (.list sz vals) :=
  .sl id g 0 len sz vals vals hb hn hk (by rw [List.drop_zero, hl, List.take_length]; exact FrzL.same hv)
theorem keepD (H : List Blk) (q : RS) (cs : List Con) (fs : List Fun) (gs : List Glb) :
    KeepB (H ++ [.cells 0 4 [.agg [.nil, .nil, .nil, .int .i64 0]], rsC q, .cells 0 1 [.ptr (H.length + 1) 0 0 0], .cells 0 4 [.agg [.sl (H.length + 3 + 1) cs.length 0 cs.length, .sl (H.length + 3 + 2) fs.length 0 fs.length, .sl (H.length + 3 + 3) gs.length 0 gs.length, .int .i64 0]], .cells cs.length 4 (consL cs), .cells fs.length 7 (funsL fs), .cells gs.length 3 (glbsL gs)]) H.length
      [(H.length, 0), (H.length + 1, 0), (H.length + 2, 0), (H.length + 3, 0)] [(H.length, 0), (H.length + 1, 0), (H.length + 2, 0), (H.length + 3, 0)]
      [.cells 0 4 [.agg [.nil, .nil, .nil, .int .i64 0]], .cells 0 2 [.agg [.str q.s, .bool q.bad]], .cells 0 1 [.ptr (H.length + 1) 0 0 0], .cells 0 4 [.agg [.list 4 (consL cs), .list 7 (funsL fs), .list 3 (glbsL gs), .int .i64 0]]] := by
  have hk : ∀ i, 4 ≤ i → ∀ p ∈ [(H.length, 0), (H.length + 1, 0), (H.length + 2, 0), (H.length + 3, 0)], p.1 ≠ H.length + i := fun i hi p hp => by
    simp only [List.mem_cons, List.not_mem_nil, or_false] at hp
    rcases hp with rfl | rfl | rfl | rfl <;> simp only <;> omega
  refine KeepB.cells H.length 0 0 4 _ _ _ _ ((get_app _ _ 0).trans rfl) (Nat.le_refl _) (Nat.zero_le _) (FrzL.same rfl) ?_
  refine KeepB.cells (H.length + 1) 0 0 2 _ _ _ _ ((get_app _ _ 1).trans rfl) (by omega) (Nat.zero_le _) (FrzL.same rfl) ?_
  refine KeepB.cells (H.length + 2) 0 0 1 _ _ _ _ ((get_app _ _ 2).trans rfl) (by omega) (Nat.zero_le _) (.cons _ _ _ _ (.keepPtr 1 (H.length + 1) 0 0 0 0 2 _ rfl ((get_app _ _ 1).trans rfl) (Nat.le_refl _)) .nil) ?_
  refine KeepB.cells (H.length + 3) 0 0 4 _ _ _ _ ((get_app _ _ 3).trans rfl) (by omega) (Nat.zero_le _) (.cons _ _ _ _ (.agg _ _ ?_) .nil) .nil
  exact .cons _ _ _ _ (frzSl (sz := 4) ((get_app _ _ 4).trans rfl) (by omega) (hk 4 (by omega)) (consL_under _ _) (consL_len _).symm)
    (.cons _ _ _ _ (frzSl (sz := 7) ((get_app _ _ 5).trans rfl) (by omega) (hk 5 (by omega)) (funsL_under _ _) (funsL_len _).symm)
    (.cons _ _ _ _ (frzSl (sz := 3) ((get_app _ _ 6).trans rfl) (by omega) (hk 6 (by omega)) (glbsL_under _ _) (glbsL_len _).symm) (.cons _ _ _ _ (.same _ rfl) .nil)))
theorem decode_ok (G : Gl) (hG : GClosed G) (hF : GF G) (data : Str) (hl : data.length < 4294967296) (H : List Blk) :
    ACall Tryd.prog G 15 [.str data] H (fun r H' => H' = H ∧ r = .tuple [.agg (decS data).1.cells, .int .i64 (decS data).2]) := by
  have hz : img0.cells = [.list 4 [], .list 7 [], .list 3 [], .int .i64 0] := rfl
  by_cases hm : data.length < 4 ∨ data.take 4 ≠ magic4
  · have e1 : decS data = (img0, 171) := by unfold decS; rw [if_pos hm]
    rw [e1]
    simp only [hz]
    have hb0 : (decide ((data.length : Int) < 4) || decide ¬data.take 4 = [84, 83, 76, 49]) = true := by
      simp only [Bool.or_eq_true, decide_eq_true_eq]
      rcases hm with h | h
      · exact .inl (by omega)
      · exact .inr h
    refine ACall.of_go TB [] tabOK _ Tryd.func15 rfl (by decide) Tryd.ntmps15 (by simp) rfl (by simp only [initEnv, Nat.reduceAdd]; rfl) fun C R' hR hC hcl hB => ?_; have X := noX; have hC' := congrArg List.length hC
    have X := And.intro X hb0
    (refine run ?_; repeat' (first | with_reducible exact trivial | ((with_reducible apply Fork.mk) <;> intro hb) | with_reducible apply Two.mk))
    · refine finS hR hC' hcl (y := .tuple [.agg [.list 4 [], .list 7 [], .list 3 [], .int .i64 0], .int .i64 171]) (frzImg0 _ _ _) ⟨rfl, rfl⟩
    all_goals (rw [hb0] at hb; cases hb)
  · have hm1 : 4 ≤ data.length ∧ data.take 4 = magic4 := by simp only [not_or, Nat.not_lt, ne_eq, Decidable.not_not] at hm; exact hm
    have hb0 : (decide ((data.length : Int) < 4) || decide ¬data.take 4 = [84, 83, 76, 49]) = false := by
      rw [Bool.or_eq_false_iff]
      exact ⟨decide_eq_false (by omega), decide_eq_false (fun h => h hm1.2)⟩
    have hdl : (data.drop 4).length < 4294967296 := by rw [List.length_drop]; omega
    have htk : (data.drop 4).take (data.length - 4) = data.drop 4 := List.take_of_length_le (by simp)
    have e1 : decS data = if (RS.img ⟨data.drop 4, false⟩).2.bad = true ∨ (RS.img ⟨data.drop 4, false⟩).2.s ≠ [] ∨ chkS (RS.img ⟨data.drop 4, false⟩).1 65536 ≠ 0 then (img0, 171) else ((RS.img ⟨data.drop 4, false⟩).1, 0) := by unfold decS; rw [if_neg hm]
    rw [e1]
    have himg : ∀ q : RS, q.img = (⟨(q.each RS.con).1, ((q.each RS.con).2.each RS.fn).1, (((q.each RS.con).2.each RS.fn).2.each RS.glb).1, (((q.each RS.con).2.each RS.fn).2.each RS.glb).2.num.1⟩, (((q.each RS.con).2.each RS.fn).2.each RS.glb).2.num.2) := fun q => rfl
    generalize hq0 : (⟨data.drop 4, false⟩ : RS) = q0 at *
    have hQ : RdQ (H ++ [.cells 0 4 [.agg [.nil, .nil, .nil, .int .i64 0]], rsC q0, .cells 0 1 [.ptr (H.length + 1) 0 0 0]]) (H.length + 1) (H.length + 2) := ⟨by simp, by simp, by omega⟩
    have hset : ∀ y, (H ++ [.cells 0 4 [.agg [.nil, .nil, .nil, .int .i64 0]], rsC q0, .cells 0 1 [.ptr (H.length + 1) 0 0 0]]).set (H.length + 1) y = H ++ [.cells 0 4 [.agg [.nil, .nil, .nil, .int .i64 0]], y, .cells 0 1 [.ptr (H.length + 1) 0 0 0]] := fun y => by simp
    have hlen : (H ++ [.cells 0 4 [.agg [.nil, .nil, .nil, .int .i64 0]], rsC q0, .cells 0 1 [.ptr (H.length + 1) 0 0 0]]).length = H.length + 3 := by simp
    have hss : ∀ (q : RS) (L : List Blk) (q' : RS), (H ++ [.cells 0 4 [.agg [.nil, .nil, .nil, .int .i64 0]], rsC q, .cells 0 1 [.ptr (H.length + 1) 0 0 0]] ++ L).set (H.length + 1) (rsC q') = H ++ [.cells 0 4 [.agg [.nil, .nil, .nil, .int .i64 0]], rsC q', .cells 0 1 [.ptr (H.length + 1) 0 0 0]] ++ L := fun q L q' => by simp
    have hgg : ∀ (q : RS) (L : List Blk), (H ++ [.cells 0 4 [.agg [.nil, .nil, .nil, .int .i64 0]], rsC q, .cells 0 1 [.ptr (H.length + 1) 0 0 0]] ++ L)[H.length + 1]? = some (rsC q) := fun q L => by simp
    have l1 := RS.each_len RS.con_len q0
    have l2 := RS.each_len RS.fn_len (q0.each RS.con).2
    have hq0l : q0.s.length < 4294967296 := by rw [← hq0]; exact hdl
    have he1 := each_ok G hG RS.con RS.con_len (H.length + 1) (.fn (.func 48) [] [.ptr (H.length + 3) 0 0 0, .ptr (H.length + 2) 0 0 0]) (fun q l => H ++ [.cells 0 4 [.agg [.nil, .nil, .nil, .int .i64 0]], rsC q, .cells 0 1 [.ptr (H.length + 1) 0 0 0]] ++ imgB (H.length + 3) l [] []) (fun q l => hgg _ _) (fun q q' l => hss _ _ _) (fun q l _ hl => ACallV.of (by
      have := clCon_ok G hG _ _ _ hQ [] [] q l hl
      simp only [hset, hlen] at this
      exact this)) q0 hq0l
    have he2 := each_ok G hG RS.fn RS.fn_len (H.length + 1) (.fn (.func 51) [] [.ptr (H.length + 2) 0 0 0, .ptr (H.length + 3) 0 0 0]) (fun q l => H ++ [.cells 0 4 [.agg [.nil, .nil, .nil, .int .i64 0]], rsC q, .cells 0 1 [.ptr (H.length + 1) 0 0 0]] ++ imgB (H.length + 3) (q0.each RS.con).1 l []) (fun q l => hgg _ _) (fun q q' l => hss _ _ _) (fun q l hq hl => ACallV.of (by
      have := clFun_ok G hG _ _ _ hQ (q0.each RS.con).1 [] q hq l hl
      simp only [hset, hlen] at this
      exact this)) (q0.each RS.con).2 (by omega)
    have he3 := each_ok G hG RS.glb RS.glb_len (H.length + 1) (.fn (.func 55) [] [.ptr (H.length + 2) 0 0 0, .ptr (H.length + 3) 0 0 0]) (fun q l => H ++ [.cells 0 4 [.agg [.nil, .nil, .nil, .int .i64 0]], rsC q, .cells 0 1 [.ptr (H.length + 1) 0 0 0]] ++ imgB (H.length + 3) (q0.each RS.con).1 ((q0.each RS.con).2.each RS.fn).1 l) (fun q l => hgg _ _) (fun q q' l => hss _ _ _) (fun q l hq hl => ACallV.of (by
      have := clGlb_ok G hG _ _ _ hQ (q0.each RS.con).1 ((q0.each RS.con).2.each RS.fn).1 q hq l hl
      simp only [hset, hlen] at this
      exact this)) ((q0.each RS.con).2.each RS.fn).2 (by omega)
    have hz1 := RS.each_size (f := RS.con) q0
    have hz2 := RS.each_size (f := RS.fn) (q0.each RS.con).2
    have hz3 := RS.each_size (f := RS.glb) ((q0.each RS.con).2.each RS.fn).2
    have himg0 := himg q0
    clear himg
    have hk1 : ∀ f ∈ ((q0.each RS.con).2.each RS.fn).1, f.code.length < 1099511627776 ∧ ∀ i ∈ f.code, i.l.length < 1099511627776 := fun f hf => by
      obtain ⟨q', h1, rfl⟩ := RS.each_mem RS.fn_len _ f hf
      obtain ⟨h2, h3⟩ := q'.fn_code
      exact ⟨by omega, fun i hi => by have := h3 i hi; omega⟩
    have hk2 : ∀ g ∈ (((q0.each RS.con).2.each RS.fn).2.each RS.glb).1, g.args.length < 1099511627776 := fun g hg => by
      obtain ⟨q', h1, rfl⟩ := RS.each_mem RS.glb_len _ g hg
      have := q'.glb_args
      omega
    simp only [imgB, List.append_assoc, List.cons_append, List.nil_append, List.length_nil, show consL [] = [] from rfl, show funsL [] = [] from rfl, show glbsL [] = [] from rfl] at he1 he2 he3
    clear hset hlen hss hgg hQ
    generalize q0.img = R at *
    generalize ((q0.each RS.con).2.each RS.fn).2.each RS.glb = T3 at *
    generalize (q0.each RS.con).2.each RS.fn = T2 at *
    generalize q0.each RS.con = T1 at *
    obtain ⟨cs, q1⟩ := T1
    obtain ⟨fs, q2⟩ := T2
    obtain ⟨gs, q3⟩ := T3
    simp only at he1 he2 he3 himg0 l1 l2 hz1 hz2 hz3
    refine ACall.of_go TB [] tabOK _ Tryd.func15 rfl (by decide) Tryd.ntmps15 (by simp) rfl (by simp only [initEnv, Nat.reduceAdd]; rfl) fun C R' hR hC hcl hB => ?_; have X := noX; have hC' := congrArg List.length hC
    have X := And.intro X (And.intro hb0 htk)
    (refine run ?_; repeat' (first | with_reducible exact trivial | ((with_reducible apply Fork.mk) <;> intro hb) | with_reducible apply Two.mk))
    refine go_wkO [(2, .ptr H.length 0 0 0), (4, .ptr (H.length + 2) 0 0 0), (5, .ptr (H.length + 3) 0 0 0), (19, .ptr (H.length + 1) 0 0 0), (20, .fn (.func 48) [] [.ptr (H.length + 3) 0 0 0, .ptr (H.length + 2) 0 0 0])] (H ++ [.cells 0 4 [.agg [.nil, .nil, .nil, .int .i64 0]], rsC q0, .cells 0 1 [.ptr (H.length + 1) 0 0 0], .cells 0 4 [.agg [.sl (H.length + 3 + 1) 0 0 0, .sl (H.length + 3 + 2) 0 0 0, .sl (H.length + 3 + 3) 0 0 0, .int .i64 0]], .cells 0 4 [], .cells 0 7 [], .cells 0 3 []]) ?_ ?_
    · rw [← hq0]
      simp only [rsC]
      refine Wk.trans (wk_ghost (id := H.length + 3) (i := 0) (j := 0) 4 ((get_app ..).trans rfl) rfl rfl) ?_
      rw [set_app, List.append_assoc]
      refine Wk.trans (wk_ghost (id := H.length + 3) (i := 0) (j := 1) 7 ((get_app ..).trans rfl) rfl rfl) ?_
      rw [set_app, List.append_assoc]
      refine wk_ghostE (id := H.length + 3) (i := 0) (j := 2) 3 ((get_app ..).trans rfl) rfl rfl ?_ (by simp [subEnv, look])
      rw [set_app, List.append_assoc]
      simp
    refine callS he1 ?_
    rintro r H' ⟨rfl, rfl⟩
    (refine run ?_; repeat' (first | with_reducible exact trivial | ((with_reducible apply Fork.mk) <;> intro hb) | with_reducible apply Two.mk))
    refine callS he2 ?_
    rintro r H' ⟨rfl, rfl⟩
    (refine run ?_; repeat' (first | with_reducible exact trivial | ((with_reducible apply Fork.mk) <;> intro hb) | with_reducible apply Two.mk))
    refine callS he3 ?_
    rintro r H' ⟨rfl, rfl⟩
    (refine run ?_; repeat' (first | with_reducible exact trivial | ((with_reducible apply Fork.mk) <;> intro hb) | with_reducible apply Two.mk))
    refine go_wkO [(2, .ptr H.length 0 0 0), (4, .ptr (H.length + 2) 0 0 0), (5, .ptr (H.length + 3) 0 0 0), (28, .ptr (H.length + 1) 0 0 0)] (H ++ [.cells 0 4 [.agg [.nil, .nil, .nil, .int .i64 0]], .cells 0 2 [.agg [.str q3.s, .bool q3.bad]], .cells 0 1 [.ptr (H.length + 1) 0 0 0], .cells 0 4 [.agg [.list 4 (consL cs), .list 7 (funsL fs), .list 3 (glbsL gs), .int .i64 0]]]) (wkS (n0 := H.length) [(H.length, 0), (H.length + 1, 0), (H.length + 2, 0), (H.length + 3, 0)] hG hB hC' hcl (hk := keepD H q3 cs fs gs)) ?_
    have hnum := rnum_ok G hG q3 (H.length + 1) (H ++ [.cells 0 4 [.agg [.nil, .nil, .nil, .int .i64 0]], rsC q3, .cells 0 1 [.ptr (H.length + 1) 0 0 0], .cells 0 4 [.agg [.list 4 (consL cs), .list 7 (funsL fs), .list 3 (glbsL gs), .int .i64 0]]]) (by simp)
    refine callS hnum ?_
    rintro r H' ⟨rfl, rfl⟩
    have hcall := check_ok G hG hF ⟨cs, fs, gs, q3.num.1⟩ 65536 ⟨by show cs.length < _; omega, by show fs.length < _; omega, by show gs.length < _; omega, hk1, hk2⟩
    generalize q3.num = T at *
    obtain ⟨mn, ⟨sf, bf⟩⟩ := T
    rw [set_app]
    simp only [List.set_cons_succ, List.set_cons_zero, rsC]
    subst himg0
    have c1 : ∀ H, ACall Tryd.prog G 11 [.agg [.list 4 (consL cs), .list 7 (funsL fs), .list 3 (glbsL gs), .int .i64 mn], .int .i64 65536] H _ := hcall
    (refine run ?_; repeat' (first | with_reducible exact trivial | ((with_reducible apply Fork.mk) <;> intro hb) | with_reducible apply Two.mk))
    · have : bf = true ∨ sf ≠ [] := by simpa using hb
      refine finS hR hC' hcl (y := .tuple [.agg [.list 4 [], .list 7 [], .list 3 [], .int .i64 0], .int .i64 171]) (frzImg0 _ _ _) ⟨rfl, ?_⟩
      rw [if_pos (by rcases this with h | h; exact Or.inl h; exact Or.inr (Or.inl h))]; rfl
    · refine finS hR hC' hcl (y := .tuple [.agg [.list 4 [], .list 7 [], .list 3 [], .int .i64 0], .int .i64 171]) (frzImg0 _ _ _) ⟨rfl, ?_⟩
      rw [if_pos (Or.inr (Or.inr hb))]; rfl
    · rename_i hb2
      have hb2 : bf = false ∧ sf = [] := by simpa using hb2
      refine finS hR hC' hcl (.same _ ?_) ⟨rfl, ?_⟩
      · simp only [resSV, SV.under, SV.underL, consL_under, funsL_under, glbsL_under, Bool.and_self]
      · rw [if_neg (by rw [hb2.1, hb2.2]; simp only [Bool.false_eq_true, false_or, ne_eq, not_true_eq_false]; exact hb)]; rfl
end Go.Proofs.YtihhngjoecgkpaaDoor
end
