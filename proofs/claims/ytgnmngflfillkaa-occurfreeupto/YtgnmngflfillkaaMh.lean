/- For every expression and every name, together of bulk at most 1048576, the law OccurFree returns true, and its arguments read as before. Condition: the bulk alone, as the given statement says it. -/
import Derived.Test.YtgnmngflfillkaaMi
import Derived.Test.YtgnmngflfillkaaRows
import Derived.WalkKit
import Derived.ProofKit
import Derived.OpenShut
import Derived.JoinedCond
import Derived.Carry
import Derived.ChangeMaps5
import Derived.ChangeSame

section
/- From the reading of the arguments to abstract values; the step from a contract to a statement's row. -/
namespace Go.Proofs.Ytgnmngflfillkaa
open Go Go.ChangeShapes Go.WideShapes Go.RowKit
set_option linter.unusedVariables false

def rdC (W : World) : Cx := ⟨fun _ => none, [], W⟩
theorem rdC_imm {W : World} {b : Nat} (h : b < W.heap.size) : (rdC W).imm b := ⟨h, fun ⟨_, _, _, ht⟩ => by cases ht⟩
theorem rdC_ok (W : World) : HeapOK (rdC W) := ⟨fun id B h => by simp [rdC] at h, fun i j b o o' _ _ h => by cases h⟩

section
variable {H : Type} {enc : TypeId × Value → H} {P : Program} {W : World} {sp : Nat → Bool}

def Good (W : World) (xs : List SV) (cs : List Value) : Prop := RepL (rdC W) xs cs ∧ ∀ v ∈ cs, v.oneCell' = true
def Rd (enc : TypeId × Value → H) (P : Program) (W : World) (sp : Nat → Bool) (n : Nat) (t : TypeId) {α : Type} (f : α → List SV) (wt : α → Nat) : Prop :=
  ∀ cs x, DataW.trod enc P W 0 sp true n t cs = some x → ∃ a : α, Good W (f a) cs ∧ cs.length = P.cellsOf t ∧ wt a ≤ Rows.uptoBulk x.1

theorem Good.nil : Good W [] [] := ⟨RepL.mk_nil, by simp⟩
theorem Good.append {xs ys : List SV} {cs ds : List Value} (h : Good W xs cs) (h' : Good W ys ds) : Good W (xs ++ ys) (cs ++ ds) :=
  ⟨h.1.append h'.1, fun v hv => (List.mem_append.1 hv).elim (h.2 v) (h'.2 v)⟩
theorem Good.cut {xs ys : List SV} {cs : List Value} {o k : Nat} (h : Good W xs ((cs.drop o).take k)) (h' : Good W ys (cs.drop (o + k))) : Good W (xs ++ ys) (cs.drop o) := by
  have := h.append h'
  rwa [← List.drop_drop, List.take_append_drop] at this
theorem Good.one {x : SV} {v : Value} (h : Rep (rdC W) x v) (hv : v.oneCell' = true) : Good W [x] [v] :=
  ⟨by simp only [RepL]; exact ⟨v, [], h, rfl, rfl⟩, by simpa using hv⟩

theorem wf_range {k : IntKind} {n : Int} (h : (Lit.int k n).wf = true) : k.min ≤ n ∧ n ≤ k.max := by
  simpa [Lit.wf] using h

theorem rd_int {n : Nat} {t : TypeId} {k : IntKind} (ht : P.underlying t = some (.int k)) (hc : P.cellsOf t = 1) : Rd enc P W sp n t (fun i : Int => [.int k i]) (fun _ => 1) := by
  intro cs x h
  obtain ⟨i, rfl, rfl, hw⟩ := DataW.trod_int ht h
  exact ⟨i, .one (by simp only [Rep]; exact ⟨trivial, wf_range hw⟩) rfl, by simp [hc], by simp [Rows.uptoBulk]⟩
theorem rd_bool {n : Nat} {t : TypeId} (ht : P.underlying t = some .bool) (hc : P.cellsOf t = 1) : Rd enc P W sp n t (fun b : Bool => [.bool b]) (fun _ => 1) := by
  intro cs x h
  obtain ⟨i, rfl, rfl⟩ := DataW.trod_bool ht h
  exact ⟨i, .one (by simp only [Rep]) rfl, by simp [hc], by simp [Rows.uptoBulk]⟩
theorem rd_str {n : Nat} {t : TypeId} (ht : P.underlying t = some .string) (hc : P.cellsOf t = 1) : Rd enc P W sp n t (fun s : Str => [.str s]) (fun s => s.length + 1) := by
  intro cs x h
  obtain ⟨i, rfl, rfl, hs⟩ := DataW.trod_string ht h
  exact ⟨i.data.toList, .one (by simp only [Rep]; exact ⟨trivial, by simpa using hs⟩) rfl, by simp [hc], by simp [Rows.uptoBulk]⟩

theorem cells_range {a : Addr} {n : Nat} {cs : List Value} (hn : 0 < n) (h : W.cells? 0 a n = some cs) : a.spot = none ∧ cs.length = n ∧ W.rangeAt a.block a.off cs ∧ a.block < W.heap.size := by
  obtain ⟨_, hl, hc⟩ := World.cells?_some h
  have h0 := hc 0 hn
  obtain ⟨c0, e0⟩ : ∃ c0, cs[0]? = some c0 := ⟨cs[0], by simp [hl, hn]⟩
  rw [e0] at h0
  have hs : a.spot = none := by simpa [Addr.add] using World.cell?_spot h0
  obtain ⟨b, o, s⟩ := a
  cases hs
  refine ⟨rfl, hl, fun j v hv => ?_, ?_⟩
  · have hj : j < n := by
      rcases Nat.lt_or_ge j n with h1 | h1
      · exact h1
      · rw [List.getElem?_eq_none (by omega)] at hv; cases hv
    have := hc j hj
    rwa [Addr.add_mid, hv] at this
  · have h1 : W.cell? ⟨b, o, none⟩ = some c0 := by simpa [Addr.add] using h0
    have : W.heap[b]? ≠ none := fun e => by simp [World.cell?, e] at h1
    simpa using this

def bx (b : Bool) (x : List SV) : SV := if b then .agg x else x.headD .nil
def bxv (b : Bool) (v : List Value) : Value := if b then .agg v.toArray else v.headD (.bool false)
theorem bx_rep {b : Bool} {xs : List SV} {cs : List Value} {n : Nat} (h : Good W xs cs) (hl : cs.length = n) (hb : b = true ∨ n = 1) : Rep (rdC W) (bx b xs) (bxv b cs) ∧ (bxv b cs).cells.toList = cs := by
  cases b with
  | true => exact ⟨by simp only [bx, bxv, Rep, if_true]; exact ⟨cs, h.1, h.2, rfl⟩, by simp [bxv, Value.cells]⟩
  | false =>
    have hn : n = 1 := by simpa using hb
    subst hn
    match cs, hl with
    | [v], _ =>
      obtain ⟨h1, h2⟩ := h
      match xs, h1 with
      | [], h1 => simp [RepL] at h1
      | x :: xs, h1 =>
        simp only [RepL] at h1
        obtain ⟨u, us, h3, _, h4⟩ := h1
        cases h4
        have hv : v.oneCell' = true := h2 v (by simp)
        exact ⟨h3, by cases v <;> simp_all [bxv, Value.cells, Value.oneCell']⟩

theorem slice_parts {α : Type} {e : TypeId} {b : Bool} {f : α → List SV} {wt : α → Nat} {n m : Nat} (hsz : P.cellsOf e = n) (hn : 0 < n) (hb : b = true ∨ n = 1) (he : Rd enc P W sp m e f wt) :
    ∀ (len : Nat) (blk off : Nat) (elems : List (DataW H × List MemPlace)), elems.length = len →
      (∀ i, i < len → (W.cells? 0 ⟨blk, off + i * n, none⟩ n).bind (DataW.trod enc P W 0 sp true m e) = elems[i]?) →
      ∃ (l : List α) (vs : List Value), l.length = len ∧ RepL (rdC W) (l.map fun x => bx b (f x)) vs ∧ (∀ u ∈ vs, u.cells.size = n ∧ okCells u) ∧ W.rangeAt blk off (cellsOf vs) ∧ (len = 0 ∨ blk < W.heap.size) ∧
        (l.map wt).sum ≤ Rows.uptoBulkAll (elems.map (·.1))
  | 0, blk, off, elems, hl, _ => by
    have : elems = [] := List.length_eq_zero_iff.1 hl
    subst this
    exact ⟨[], [], rfl, RepL.mk_nil, by simp, by intro j v hv; simp [cellsOf] at hv, .inl rfl, by simp⟩
  | len + 1, blk, off, [], hl, _ => by simp at hl
  | len + 1, blk, off, y :: elems, hl, hi => by
    have h0 := hi 0 (by omega)
    simp only [Nat.zero_mul, Nat.add_zero, List.getElem?_cons_zero, Option.bind_eq_some_iff] at h0
    obtain ⟨cs, hc, ht⟩ := h0
    obtain ⟨_, hlen, hr, hblk⟩ := cells_range hn hc
    obtain ⟨a, ha, _, hw⟩ := he cs y ht
    obtain ⟨l, vs, h1, h2, h3, h4, _, h5⟩ := slice_parts hsz hn hb he len blk (off + n) elems (by simpa using hl) (fun i hi' => by
      have := hi (i + 1) (by omega)
      rw [List.getElem?_cons_succ] at this
      rw [← this]
      have : off + n + i * n = off + (i + 1) * n := by rw [Nat.succ_mul]; omega
      rw [this])
    obtain ⟨h6, h7⟩ := bx_rep (b := b) ha hlen hb
    refine ⟨a :: l, bxv b cs :: vs, by simp [h1], ?_, ?_, ?_, .inr hblk, ?_⟩
    · simp only [List.map_cons, RepL]; exact ⟨_, _, h6, h2, rfl⟩
    · intro u hu
      rcases List.mem_cons.1 hu with rfl | hu
      · refine ⟨by rw [← Array.length_toList, h7, hlen], fun v hv => ?_⟩
        rw [h7] at hv
        exact ha.2 v hv
      · exact h3 u hu
    · have : cellsOf (bxv b cs :: vs) = cs ++ cellsOf vs := by simp [cellsOf, h7]
      rw [this]
      exact rangeAt_append hr (by rw [hlen]; exact h4)
    · simp only [List.map_cons, List.sum_cons, Rows.uptoBulkAll]; omega

theorem rd_slice {α : Type} {t e : TypeId} (b : Bool) {f : α → List SV} {wt : α → Nat} {n N : Nat} (ht : P.underlying t = some (.slice e)) (hc : P.cellsOf t = 1) (hsz : P.cellsOf e = n) (hn : 0 < n) (hb : b = true ∨ n = 1)
    (he : ∀ m, N = m + 1 → Rd enc P W sp m e f wt) : Rd enc P W sp N t (fun l : List α => [.list n (l.map fun x => bx b (f x))]) (fun l => 1 + (l.map wt).sum) := by
  intro cs x h
  rcases DataW.trod_slice ht h with ⟨rfl, rfl⟩ | ⟨a, len, cap, elems, rest, m, rfl, rfl, rfl, _, hlc, hcm, hel, hi, _⟩
  · exact ⟨[], .one (by simp only [Rep]; exact ⟨none, 0, rfl, Nat.le_refl _, Nat.zero_le _, .inl rfl⟩) rfl, by simp [hc], by simp [Rows.uptoBulk]⟩
  · rw [hsz] at hi
    rcases Nat.eq_zero_or_pos len with rfl | hpos
    · have : elems = [] := List.length_eq_zero_iff.1 hel
      subst this
      exact ⟨[], .one (by simp only [Rep]; exact ⟨some a, cap, rfl, Nat.zero_le _, hcm, .inl rfl⟩) rfl, by simp [hc], by simp [Rows.uptoBulk]⟩
    · have h0 := hi 0 hpos
      obtain ⟨y0, hy0⟩ : ∃ y, elems[0]? = some y := ⟨elems[0], by simp [hel, hpos]⟩
      rw [hy0, Option.bind_eq_some_iff] at h0
      obtain ⟨cs0, hc0, _⟩ := h0
      have hs : a.spot = none := by
        have := (cells_range hn hc0).1
        simpa [Addr.add] using this
      obtain ⟨blk, off, s⟩ := a
      cases hs
      obtain ⟨l, vs, h1, h2, h3, h4, h5, h6⟩ := slice_parts hsz hn hb (he m rfl) len blk off elems hel (fun i hi' => by
        have := hi i hi'
        rwa [Addr.add_mid] at this)
      refine ⟨l, .one ?_ rfl, by simp [hc], by simp only [Rows.uptoBulk]; omega⟩
      simp only [Rep]
      refine ⟨some ⟨blk, off, none⟩, cap, by simp [h1], by simpa [h1] using hlc, hcm, .inr ⟨blk, off, vs, rfl, h2, h3, h4, ?_⟩⟩
      rcases h5 with h5 | h5
      · omega
      · exact rdC_imm h5

theorem len_two {α : Type} : ∀ {xs : List α}, xs.length = 2 → ∃ z0 z1, xs = [z0, z1]
  | [z0, z1], _ => ⟨z0, z1, rfl⟩
theorem len_three {α : Type} : ∀ {xs : List α}, xs.length = 3 → ∃ z0 z1 z2, xs = [z0, z1, z2]
  | [z0, z1, z2], _ => ⟨z0, z1, z2, rfl⟩
theorem len_four {α : Type} : ∀ {xs : List α}, xs.length = 4 → ∃ z0 z1 z2 z3, xs = [z0, z1, z2, z3]
  | [z0, z1, z2, z3], _ => ⟨z0, z1, z2, z3, rfl⟩
theorem len_five {α : Type} : ∀ {xs : List α}, xs.length = 5 → ∃ z0 z1 z2 z3 z4, xs = [z0, z1, z2, z3, z4]
  | [z0, z1, z2, z3, z4], _ => ⟨z0, z1, z2, z3, z4, rfl⟩
theorem len_six {α : Type} : ∀ {xs : List α}, xs.length = 6 → ∃ z0 z1 z2 z3 z4 z5, xs = [z0, z1, z2, z3, z4, z5]
  | [z0, z1, z2, z3, z4, z5], _ => ⟨z0, z1, z2, z3, z4, z5, rfl⟩
theorem len_seven {α : Type} : ∀ {xs : List α}, xs.length = 7 → ∃ z0 z1 z2 z3 z4 z5 z6, xs = [z0, z1, z2, z3, z4, z5, z6]
  | [z0, z1, z2, z3, z4, z5, z6], _ => ⟨z0, z1, z2, z3, z4, z5, z6, rfl⟩
theorem len_eight {α : Type} : ∀ {xs : List α}, xs.length = 8 → ∃ z0 z1 z2 z3 z4 z5 z6 z7, xs = [z0, z1, z2, z3, z4, z5, z6, z7]
  | [z0, z1, z2, z3, z4, z5, z6, z7], _ => ⟨z0, z1, z2, z3, z4, z5, z6, z7, rfl⟩
/-- a struct's field -/
theorem field_of {cs : List Value} {xs : List (DataW H × List MemPlace)} {fs : Array Field} {n : Nat}
    (hf : ∀ (i : Nat) (f : Field), fs[i]? = some f → DataW.trod enc P W 0 sp true n f.type ((cs.drop f.offset).take (P.cellsOf f.type)) = xs[i]?) (i : Nat) {t : Nat} (o k : Nat)
    (h : (fs[i]?).map (fun f => (f.type, f.offset)) = some (t, o)) (hk : P.cellsOf t = k) {α : Type} {g : α → List SV} {wt : α → Nat} (hr : Rd enc P W sp n t g wt) (hl : i < xs.length) :
    ∃ (y : DataW H × List MemPlace) (a : α), xs[i]? = some y ∧ Good W (g a) ((cs.drop o).take k) ∧ wt a ≤ Rows.uptoBulk y.1 := by
  cases hi : fs[i]? with
  | none => rw [hi] at h; cases h
  | some f =>
    rw [hi] at h
    simp only [Option.map_some, Option.some.injEq, Prod.mk.injEq] at h
    obtain ⟨rfl, rfl⟩ := h
    subst hk
    have hy : xs[i]? = some xs[i] := by simp [hl]
    obtain ⟨a, h1, _, h2⟩ := hr _ _ ((hf i f hi).trans hy)
    exact ⟨_, a, hy, h1, h2⟩
end

theorem sum_wt {α : Type} (f : List α → Nat) (g : α → Nat) (h0 : f [] = 0) (h1 : ∀ x l, f (x :: l) = g x + f l) : ∀ l, f l = (l.map g).sum
  | [] => by simp [h0]
  | x :: l => by rw [h1, sum_wt f g h0 h1 l]; simp
theorem strsWt_sum (l : List Str) : strsWt l = (l.map fun s => s.length + 1).sum := sum_wt strsWt _ (by simp [strsWt]) (fun x l => by simp only [strsWt]; omega) l
theorem exsWt_sum (l : List Ex) : exsWt l = (l.map Ex.wt).sum := sum_wt exsWt _ (by simp [exsWt]) (fun x l => by simp only [exsWt]) l
theorem bdsWt_sum (l : List Bd) : bdsWt l = (l.map Bd.wt).sum := sum_wt bdsWt _ (by simp [bdsWt]) (fun x l => by simp only [bdsWt]) l
theorem alsWt_sum (l : List Al) : alsWt l = (l.map Al.wt).sum := sum_wt alsWt _ (by simp [alsWt]) (fun x l => by simp only [alsWt]) l

theorem okWide_array {P : Program} {w : World} {r : Reach} {base : Nat} {t : TypeId} {v : Value} {n : Nat} {e : TypeId} (ht : P.underlying t = some (.array n e)) (h : Value.okWide P w r base t v) : ∃ cs, v = .agg cs ∧ cs.size = P.cellsOf t := by
  simp only [Value.okWide, ht] at h
  obtain ⟨cs, h1, h2, _⟩ := h
  exact ⟨cs, h1, h2⟩

/-! ### behind the call -/
theorem Grow.below {W W' : World} {c' : Cx} (h : Grow (rdC W) c') (e : c'.w = W') : Below W.heap.size W W' := by
  subst e
  exact ⟨h.os, h.tape, h.output, h.size, fun k hk => h.old k hk (rdC_imm hk).2⟩


section
variable {H : Type} {enc : TypeId × Value → H} {P : Program} {W W' : World}
theorem trodAll_stays (hl : laidOutB P = true) (hb : Below W.heap.size W W') {sp : Nat → Bool} : ∀ {ts : List TypeId} {vs : List Value} {ds : List (DataW H)} {ps : List MemPlace},
    (∀ t ∈ ts, P.readableRec t = true ∧ t < P.types.size) → DataW.TrodAll enc P W 0 (fun _ => true) true ts vs ds ps → (∀ p ∈ ps, p.block < W.heap.size) → (∀ p ∈ ps, sp p.block = true) →
    DataW.TrodAll enc P W' 0 sp true ts vs ds ps
  | [], vs, ds, ps, _, h, _, _ => by
    obtain ⟨rfl, rfl, rfl⟩ := trodAll_nil h
    exact trodAll_mk0
  | t :: ts, vs, ds, ps, hr, h, hlt, hs => by
    obtain ⟨v, vs', d, ds', p, q, rfl, rfl, rfl, h1, h2⟩ := trodAll_cons h
    refine trodAll_cons_mk (WideElems.Trod_stays hl (hr t (by simp)).1 (hr t (by simp)).2 h1 (fun x hx => hb.same (hlt x (by simp [hx]))) (fun x hx => hs x (by simp [hx]))) ?_
    exact trodAll_stays hl hb (fun t ht => hr t (by simp [ht])) h2 (fun x hx => hlt x (by simp [hx])) (fun x hx => hs x (by simp [hx]))

/-- A law that is true, and leaves what it reads as it was. -/
theorem law_post (hl : laidOutB P = true) {f : Func} {s : ChangeSpec} (hsv : s.vars = []) {args : Array Value} {ds gs : List (DataW H)} {before : List MemPlace}
    (hW : DataW.Whole enc P f.params.toList s.vars false W args.toList ds gs before) (hr : ∀ t ∈ f.params.toList, P.readableRec t = true ∧ t < P.types.size)
    {tb : TypeId} (hrt : f.resultTypes = #[tb]) (htb : P.underlying tb = some .bool) (h1 : (s.fn H (ds ++ gs)).results = [.lit (.bool true)]) (h2 : (s.fn H (ds ++ gs)).args = ds) (h3 : (s.fn H (ds ++ gs)).vars = [])
    (hb : Below W.heap.size W W') : s.post enc P f false true false false W args (.bool true) W' := by
  have hW0 := hW
  obtain ⟨p, q, hA, hV, rfl, _, _⟩ := hW
  rw [hsv] at hV
  obtain ⟨rfl, rfl⟩ := trodVars_none hV
  have hlt : ∀ x ∈ p, x.block < W.heap.size := fun x hx => hW0.lt x (by simp [hx])
  refine ⟨ds, [], p ++ [], [], p, [], hW0, ?_, ?_, ?_, ?_, fun h => by cases h⟩
  · rw [hrt, h1]
    exact trodAll_cons_mk (p' := []) (shut_bool htb true) trodAll_mk0
  · rw [h2]
    exact trodAll_stays hl hb hr hA hlt (fun x hx => by simpa using hlt x hx)
  · rw [hsv, h3]; rfl
  · exact World.keptBut_mono (fun x hx => ⟨hx, .inr (.inl (by simpa using hx))⟩) (hb.frame (· ∈ p ++ []))

theorem law_calls {f : FuncId} {args : List SV} {vs : List Value} (h : ACall P ⟨[], none⟩ f args [] (fun r H' => H' = [] ∧ r = .bool true)) (hv : RepL (rdC W) args vs) {R : World → Prop} (hR : ∀ W', Below W.heap.size W W' → R W') :
    Calls P f vs.toArray W fun e W' => ∃ v, e = .returned v ∧ v = .bool true ∧ R W' := by
  refine (callsIn_wide (n := 0)).1 ((h.2 (rdC W) vs rfl (rdC_ok W) ⟨by simp, fun _ h => by cases h⟩ hv).mono ?_)
  rintro e w' ⟨v, x, c', rfl, hw, ⟨_, rfl⟩, _, hx, hg⟩
  simp only [Rep] at hx
  exact ⟨v, rfl, hx, hR _ (Grow.below hg hw)⟩
end
theorem gclosed0 : GClosed ⟨[], none⟩ := by
  intro p hp; cases hp

end Go.Proofs.Ytgnmngflfillkaa
end

section
namespace Go.Proofs.Ytgnmngflfillkaa
open Go Go.ChangeShapes Go.WideShapes Go.RowKit
set_option linter.unusedVariables false

section
variable {H : Type} {enc : TypeId × Value → H} {W : World} {sp : Nat → Bool}

theorem read_str (n : Nat) : Rd enc Try.prog W sp n 9 (fun s : Str => [.str s]) (fun s => s.length + 1) := rd_str (by kernel_rfl) (by kernel_rfl)
theorem read_int (n : Nat) : Rd enc Try.prog W sp n 3 (fun i : Int => [.int .i64 i]) (fun _ => 1) := rd_int (by kernel_rfl) (by kernel_rfl)
theorem read_strs (n : Nat) : Rd enc Try.prog W sp n 22 (fun l : List Str => [.list 1 (l.map .str)]) (fun l => 1 + strsWt l) := by
  have h := rd_slice (enc := enc) (P := Try.prog) (W := W) (sp := sp) (t := 22) (e := 9) false (f := fun s : Str => [SV.str s]) (wt := fun s => s.length + 1) (n := 1) (N := n) (by kernel_rfl) (by kernel_rfl) (by kernel_rfl) (by omega) (.inr rfl) (fun m _ => read_str m)
  intro cs x hx
  obtain ⟨a, h1, h2, h3⟩ := h cs x hx
  exact ⟨a, h1, h2, by show 1 + strsWt a ≤ _; rw [strsWt_sum]; exact h3⟩

theorem ex_cells (k : Int) (s : Str) (n o : Int) (l : List Str) (subs : List Ex) (binds : List Bd) (alts : List Al) :
    (Ex.mk k s n o l subs binds alts).cells = [.int .i64 k] ++ ([.str s] ++ ([.int .i64 n] ++ ([.int .i64 o] ++ ([.list 1 (l.map .str)] ++ ([.list 8 (subs.map fun x => bx true x.cells)] ++ ([.list 9 (binds.map fun x => bx true x.cells)] ++ ([.list 12 (alts.map fun x => bx true x.cells)] ++ []))))))) := by
  simp only [Ex.cells, exCells_map, bdCells_map, alCells_map]; rfl

theorem read_ex (n : Nat) : Rd enc Try.prog W sp n 27 Ex.cells Ex.wt ∧ Rd enc Try.prog W sp n 40 Bd.cells Bd.wt ∧ Rd enc Try.prog W sp n 54 Al.cells Al.wt := by
  induction n using Nat.strongRecOn with
  | _ n ih =>
  have hE : Rd enc Try.prog W sp n 27 Ex.cells Ex.wt := by
    intro cs x hx
    obtain ⟨xs, m, rfl, rfl, hl, hlen, hf⟩ := DataW.trod_struct Try.underlying27 hx
    obtain ⟨z0, z1, z2, z3, z4, z5, z6, z7, rfl⟩ := len_eight (show xs.length = 8 from hlen)
    have hsz : Try.prog.cellsOf 27 = 8 := by kernel_rfl
    have hsubs : ∀ m', m = m' + 1 → Rd enc Try.prog W sp m' 27 Ex.cells Ex.wt := fun m' e => (ih m' (by omega)).1
    have hbinds : ∀ m', m = m' + 1 → Rd enc Try.prog W sp m' 40 Bd.cells Bd.wt := fun m' e => (ih m' (by omega)).2.1
    have halts : ∀ m', m = m' + 1 → Rd enc Try.prog W sp m' 54 Al.cells Al.wt := fun m' e => (ih m' (by omega)).2.2
    obtain ⟨y0, k, e0, g0, w0⟩ := field_of hf 0 0 1 (by kernel_rfl) (by kernel_rfl) (read_int m) (by simp)
    obtain ⟨y1, s, e1, g1, w1⟩ := field_of hf 1 1 1 (by kernel_rfl) (by kernel_rfl) (read_str m) (by simp)
    obtain ⟨y2, i, e2, g2, w2⟩ := field_of hf 2 2 1 (by kernel_rfl) (by kernel_rfl) (read_int m) (by simp)
    obtain ⟨y3, o, e3, g3, w3⟩ := field_of hf 3 3 1 (by kernel_rfl) (by kernel_rfl) (read_int m) (by simp)
    obtain ⟨y4, l, e4, g4, w4⟩ := field_of hf 4 4 1 (by kernel_rfl) (by kernel_rfl) (read_strs m) (by simp)
    obtain ⟨y5, subs, e5, g5, w5⟩ := field_of hf 5 5 1 (by kernel_rfl) (by kernel_rfl) (rd_slice (t := 23) (e := 27) true (by kernel_rfl) (by kernel_rfl) (n := 8) (by kernel_rfl) (by omega) (.inl rfl) hsubs) (by simp)
    obtain ⟨y6, binds, e6, g6, w6⟩ := field_of hf 6 6 1 (by kernel_rfl) (by kernel_rfl) (rd_slice (t := 24) (e := 40) true (by kernel_rfl) (by kernel_rfl) (n := 9) (by kernel_rfl) (by omega) (.inl rfl) hbinds) (by simp)
    obtain ⟨y7, alts, e7, g7, w7⟩ := field_of hf 7 7 1 (by kernel_rfl) (by kernel_rfl) (rd_slice (t := 25) (e := 54) true (by kernel_rfl) (by kernel_rfl) (n := 12) (by kernel_rfl) (by omega) (.inl rfl) halts) (by simp)
    rw [hsz] at hl
    refine ⟨.mk k s i o l subs binds alts, ?_, by rw [hsz, hl], ?_⟩
    · rw [ex_cells, ← List.drop_zero (l := cs)]
      refine .cut g0 (.cut g1 (.cut g2 (.cut g3 (.cut g4 (.cut g5 (.cut g6 (.cut g7 ?_)))))))
      rw [List.drop_eq_nil_of_le (by omega)]
      exact .nil
    · cases e0; cases e1; cases e2; cases e3; cases e4; cases e5; cases e6; cases e7
      simp only [Rows.uptoBulk, Rows.uptoBulkAll, List.map_cons, List.map_nil, Ex.wt, exsWt_sum, bdsWt_sum, alsWt_sum]
      omega
  have hE' : ∀ m, n = m + 1 → Rd enc Try.prog W sp m 27 Ex.cells Ex.wt := fun m e => (ih m (by omega)).1
  refine ⟨hE, ?_, ?_⟩
  · intro cs x hx
    obtain ⟨xs, m, hm, rfl, hl, hlen, hf⟩ := DataW.trod_struct Try.underlying40 hx
    obtain ⟨z0, z1, rfl⟩ := len_two (show xs.length = 2 from hlen)
    have hsz : Try.prog.cellsOf 40 = 9 := by kernel_rfl
    obtain ⟨y0, s, e0, g0, w0⟩ := field_of hf 0 0 1 (by kernel_rfl) (by kernel_rfl) (read_str m) (by simp)
    obtain ⟨y1, e, e1, g1, w1⟩ := field_of hf 1 1 8 (by kernel_rfl) (by kernel_rfl) (hE' m hm) (by simp)
    rw [hsz] at hl
    refine ⟨.mk s e, ?_, by rw [hsz, hl], ?_⟩
    · have : (Bd.mk s e).cells = [.str s] ++ (e.cells ++ []) := by simp [Bd.cells]
      rw [this, ← List.drop_zero (l := cs)]
      refine .cut g0 (.cut g1 ?_)
      rw [List.drop_eq_nil_of_le (by omega)]
      exact .nil
    · cases e0; cases e1
      simp only [Rows.uptoBulk, Rows.uptoBulkAll, List.map_cons, List.map_nil, Bd.wt]
      omega
  · intro cs x hx
    obtain ⟨xs, m, hm, rfl, hl, hlen, hf⟩ := DataW.trod_struct Try.underlying54 hx
    obtain ⟨z0, z1, z2, z3, z4, rfl⟩ := len_five (show xs.length = 5 from hlen)
    have hsz : Try.prog.cellsOf 54 = 12 := by kernel_rfl
    obtain ⟨y0, k, e0, g0, w0⟩ := field_of hf 0 0 1 (by kernel_rfl) (by kernel_rfl) (read_int m) (by simp)
    obtain ⟨y1, s, e1, g1, w1⟩ := field_of hf 1 1 1 (by kernel_rfl) (by kernel_rfl) (read_str m) (by simp)
    obtain ⟨y2, i, e2, g2, w2⟩ := field_of hf 2 2 1 (by kernel_rfl) (by kernel_rfl) (read_int m) (by simp)
    obtain ⟨y3, l, e3, g3, w3⟩ := field_of hf 3 3 1 (by kernel_rfl) (by kernel_rfl) (read_strs m) (by simp)
    obtain ⟨y4, e, e4, g4, w4⟩ := field_of hf 4 4 8 (by kernel_rfl) (by kernel_rfl) (hE' m hm) (by simp)
    rw [hsz] at hl
    refine ⟨.mk k s i l e, ?_, by rw [hsz, hl], ?_⟩
    · have : (Al.mk k s i l e).cells = [.int .i64 k] ++ ([.str s] ++ ([.int .i64 i] ++ ([.list 1 (l.map .str)] ++ (e.cells ++ [])))) := by simp [Al.cells]
      rw [this, ← List.drop_zero (l := cs)]
      refine .cut g0 (.cut g1 (.cut g2 (.cut g3 (.cut g4 ?_))))
      rw [List.drop_eq_nil_of_le (by omega)]
      exact .nil
    · cases e0; cases e1; cases e2; cases e3; cases e4
      simp only [Rows.uptoBulk, Rows.uptoBulkAll, List.map_cons, List.map_nil, Al.wt]
      omega
end
end Go.Proofs.Ytgnmngflfillkaa
end

section
namespace Go.Proofs.Ytgnmngflfillkaa.occurFree
open Go Go.ChangeShapes Go.WideShapes Go.RowKit
set_option linter.unusedVariables false

theorem own : ownKnob Try.prog.godebug = none := by kernel_rfl
theorem laid : laidOutB Try.prog = true := by kernel_rfl

set_option maxRecDepth 100000 in
theorem contract (H : Type) (enc : TypeId × Value → H) (W : World) (base : Nat) (args : Array Value) (ds gs : List (DataW H)) (before : List MemPlace)
    (hval : ∀ (j : Nat) t v, Try.f6.params[j]? = some t → args[j]? = some v → Value.okWide Try.prog W .any base t v)
    (hW : DataW.Whole enc Try.prog Try.f6.params.toList Rows.occurFreeSpec.vars false W args.toList ds gs before) (hk : Rows.uptoSmall H (ds ++ gs) = true) :
    Calls Try.prog 6 args W fun e W' => ∃ v, e = .returned v ∧ Rows.occurFreeSpec.post enc Try.prog Try.f6 false true false false W args v W' := by
  have hW' := hW
  obtain ⟨p, q, hA0, hV, rfl, hfz, hnd⟩ := hW
  have hA : DataW.TrodAll enc Try.prog W 0 (fun _ => true) true Try.f6.params.toList args.toList ds p := hA0
  rw [Try.params6] at hA hval
  obtain ⟨v0, vs0, d0, ds0, p0, q0, hargs, rfl, rfl, h0, r0⟩ := trodAll_cons hA
  obtain ⟨v1, vs1, d1, ds1, p1, q1, rfl, rfl, rfl, h1, r1⟩ := trodAll_cons r0
  obtain ⟨rfl, rfl, rfl⟩ := trodAll_nil r1
  obtain rfl : args = #[v0, v1] := by cases args; simp_all
  obtain ⟨rfl, rfl⟩ := trodVars_none hV
  have hv0 := hval 0 27 v0 (by simp) (by simp)
  have hst := okWide_struct Try.underlying27 hv0
  obtain ⟨cs, rfl, _⟩ := hst
  obtain ⟨s, rfl, rfl, rfl, hs⟩ := Go.ChangeMaps.open_string Try.underlying9 (hval 1 9 v1 (by simp) (by simp)) h1
  obtain ⟨fuel, hf⟩ := h0
  obtain ⟨e, he, _, hw⟩ := (read_ex fuel).1 _ _ hf
  have hb : e.wt < 1073741824 := by
    simp only [Rows.uptoSmall, decide_eq_true_eq, List.append_nil, Rows.uptoBulkAll] at hk
    simp only at hw
    omega
  refine (law_calls (args := [e.sv, .str s.data.toList]) (vs := [.agg cs, .string s]) (occurFree_ok ⟨[], none⟩ gclosed0 e s.data.toList [] hb) ?_ (fun W' => law_post laid rfl hW' ?_ rfl (by kernel_rfl) rfl rfl rfl)).mono ?_
  · refine RepL.cons_iff.2 ⟨_, _, ?_, RepL.cons_iff.2 ⟨_, _, ?_, RepL.mk_nil, rfl⟩, rfl⟩
    · simp only [Ex.sv, Rep]
      exact ⟨cs.toList, he.1, he.2, rfl⟩
    · simp only [Rep]; exact ⟨trivial, by simpa using hs⟩
  · intro t ht
    rw [Try.params6] at ht
    simp only [List.mem_cons, List.not_mem_nil, or_false] at ht
    rcases ht with rfl | rfl
    · exact ⟨by kernel_rfl, of_decide_eq_true (by kernel_rfl)⟩
    · exact ⟨by kernel_rfl, of_decide_eq_true (by kernel_rfl)⟩
  · rintro _ W' ⟨v, rfl, rfl, hp⟩
    exact ⟨_, rfl, hp⟩

set_option maxRecDepth 100000 in
theorem lifted (os : Os) (started : os.Started) (H : Type) (enc : TypeId × Value → H) (F : Stop.Interp) :
    ReturnsInHanded {} Try.checked os 6 .any ((Rows.OpenSpec.upto Rows.occurFreeSpec).pre6 enc Try.prog Try.f6 Rows.occurFreeUptoRow.domain false) (((Rows.OpenSpec.upto Rows.occurFreeSpec).at F).post enc Try.prog Try.f6 false true false false) := by
  refine returnsInHanded_of_cond (C := Try.checked) (s := Rows.OpenSpec.upto Rows.occurFreeSpec) (k := Rows.uptoSmall) rfl own started (by kernel_rfl) Try.func6
    (OpenSpec.witness (enc := enc) (C := Try.checked) (s := Rows.OpenSpec.upto Rows.occurFreeSpec) (k := Rows.uptoSmall) rfl false
      ⟨#[], #[.agg #[.int .i64 0, .string ⟨⟨[]⟩⟩, .int .i64 0, .int .i64 0, .slice none 0 0, .slice none 0 0, .slice none 0 0, .slice none 0 0], .string ⟨⟨[]⟩⟩], []⟩ 8 (by kernel_rfl) (by kernel_rfl) (by kernel_rfl)
      (x := ([.agg [.lit (.int .i64 0), .lit (.string []), .lit (.int .i64 0), .lit (.int .i64 0), .nil, .nil, .nil, .nil], .lit (.string [])], [], [])) (by kernel_rfl) rfl (by kernel_rfl)) ?_
  intro W base args ds gs before hval hW _ hk _
  exact contract H enc W base args ds gs before hval hW hk

theorem over : Rows.occurFreeUptoRow.holds Try.pinned (Rows.OpenSpec.upto Rows.occurFreeSpec) :=
  OpenClaim.holds_of_cond 6 Try.f6 rfl rfl rfl rfl rfl rfl rfl ⟨rfl, rfl, rfl, rfl, rfl⟩ rfl rfl rfl rfl rfl (by kernel_rfl) Try.func6 (by kernel_rfl)
    (of_decide_eq_true (by kernel_rfl)) (by unfold Func.isWrapper; first | (rw [if_pos (by decide +kernel)]; kernel_rfl) | (rw [if_neg (by decide +kernel)]; exact ⟨rfl, rfl⟩))
    (fun os started H enc _ F => lifted os started H enc F)

theorem proved : Rows.OccurFreeUptoSaid := over
end Go.Proofs.Ytgnmngflfillkaa.occurFree
end
