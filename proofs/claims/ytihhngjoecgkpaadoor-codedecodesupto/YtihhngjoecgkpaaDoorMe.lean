/- A part of the proof: SwI, SwJ, SwL, SwM, SwK, Shelf, A1, A2, A3, B0, B1. -/
import Derived.Test.YtihhngjoecgkpaaDoorMd
import Derived.Sort.Grow
import Derived.Laws.IdiomRangeMap
import Derived.Test.YtihhngjoecgkpaaDoorRows
import Derived.WalkKit
import Derived.ProofKit
import Derived.OpenShut
import Derived.JoinedCond
import Derived.Carry
import Derived.ChangeMaps5
import Derived.ChangeSame
import Derived.Shelf.Sort.Plain
import Derived.Shelf.Slices.In.SortNone
import Derived.Test.YtihhngjoecgkpaaDoorProg

section
/- A sort by a contract of the shelf, told of abstract heaps. -/
namespace Go.Proofs.YtihhngjoecgkpaaDoor
open Go
set_option linter.unusedVariables false
set_option linter.unusedSimpArgs false

theorem RepL.all {c : Cx} {α : Type} {sv : α → SV} {enc : α → Value} {ok : α → Prop} (hrep : ∀ (c : Cx) x v, Rep c (sv x) v ↔ (v = enc x ∧ ok x)) : ∀ {zs : List α} {vs : List Value}, RepL c (zs.map sv) vs ↔ (vs = zs.map enc ∧ ∀ x ∈ zs, ok x)
  | [], vs => by simp [RepL]
  | x :: zs, vs => by
    rw [List.map_cons, RepL.cons_iff]
    constructor
    · rintro ⟨u, us, h1, h2, rfl⟩
      obtain ⟨rfl, h3⟩ := (hrep c x u).1 h1
      obtain ⟨rfl, h4⟩ := (RepL.all hrep).1 h2
      exact ⟨rfl, fun y hy => by rcases List.mem_cons.1 hy with rfl | hy; exact h3; exact h4 y hy⟩
    · rintro ⟨rfl, h⟩
      exact ⟨_, _, (hrep c x _).2 ⟨rfl, h x (List.mem_cons_self ..)⟩, (RepL.all hrep).2 ⟨rfl, fun y hy => h y (List.mem_cons_of_mem _ hy)⟩, rfl⟩

theorem cellsOf_ones : ∀ {vs : List Value}, (∀ v ∈ vs, v.oneCell' = true) → cellsOf vs = vs
  | [], _ => rfl
  | v :: vs, h => by rw [cellsOf_cons, cells_one (h v (List.mem_cons_self ..)), cellsOf_ones (fun u hu => h u (List.mem_cons_of_mem _ hu))]; rfl

section
variable {P : Program} {G : Gl} {α : Type} [Inhabited α]
open Go.Sort

theorem ACall.of_sort (enc : α → Value) (sv : α → SV) (ok : α → Prop) (hrep : ∀ (c : Cx) x v, Rep c (sv x) v ↔ (v = enc x ∧ ok x)) (hone : ∀ x, (enc x).oneCell' = true) (le : α → α → Bool) {f : FuncId}
    (hf : ∃ fn, P.funcs[f]? = some fn ∧ (fn.name == "runtime.NumGoroutine") = false ∧ fn.body.isNone = false)
    (hc : ∀ (blk off cap : Nat) (zs : List α) (w : World), Holds enc w blk off zs.toArray → blk < w.heap.size → zs.length < 4611686018427387904 → Calls P f #[.slice (some ⟨blk, off, none⟩) zs.length cap] w fun e w' =>
      e = .returned (.tuple #[]) ∧ ∃ n os, w' = grow (putRow enc (Sort.ahead w n) blk off (zs.mergeSort le).toArray) os)
    (h0 : ∀ (p : Option Addr) (cap : Nat) (w : World), Calls P f #[.slice p 0 cap] w fun e w' => e = .returned (.tuple #[]) ∧ w' = w)
    (id g : Nat) (zs : List α) (H : List Blk) (hH : H[id]? = some (.cells g 1 (zs.map sv))) (hl : zs.length < 4611686018427387904) :
    ACall P G f [.sl id g 0 zs.length] H (fun r H' => H' = H.set id (.cells g 1 ((zs.mergeSort le).map sv)) ∧ r = .tuple []) := by
  refine ⟨hf, fun c vs e1 hh hG hv => ?_⟩
  obtain ⟨v, us, hv1, hv2, rfl⟩ := RepL.cons_iff.1 hv
  rw [RepL.nil_iff.1 hv2]
  have hB : c.H[id]? = some (.cells g 1 (zs.map sv)) := by rw [e1]; exact hH
  simp only [Rep, hB] at hv1
  have hperm := List.mergeSort_perm zs le
  have hlen : (zs.mergeSort le).length = zs.length := hperm.length_eq
  refine (callsIn_wide (n := 0)).2 ?_
  rcases hv1.2 with h | ⟨_, h1, a, cap, rfl, h2, h3, h4⟩
  · omega
  by_cases hz : zs = []
  · subst hz
    refine (h0 a cap c.w).mono ?_
    rintro e w' ⟨rfl, rfl⟩
    refine ⟨_, .tuple [], c, rfl, rfl, ⟨?_, rfl⟩, hh, by simp only [Rep]; exact ⟨[], RepL.mk_nil, rfl⟩, Grow.refl c⟩
    rw [e1]
    obtain ⟨hlt, he⟩ := List.getElem?_eq_some_iff.1 hH
    have : (List.mergeSort ([] : List α) le).map sv = [] := by simp
    rw [this]
    conv => lhs; rw [← List.set_getElem_self hlt]
    rw [he]; rfl
  have hpos : 0 < zs.length := List.length_pos_iff.2 hz
  rcases h4 with h4 | ⟨b, o, cs, Ty, fr, h4, h5, h6, h7⟩
  · omega
  rcases hh.blk id _ hB with ⟨h8, _⟩ | ⟨b', o', cs', Ty', fr', vs', h8, h9, h10, h11, h12, h13⟩
  · rw [h4] at h8; cases h8
  rw [h4] at h8; cases h8
  rw [h6] at h9; cases h9
  obtain ⟨rfl, hok⟩ := (RepL.all hrep).1 h11
  have hall1 : ∀ l : List α, ∀ v ∈ l.map enc, v.oneCell' = true := fun l v hv => by obtain ⟨x, _, rfl⟩ := List.mem_map.1 hv; exact hone x
  rw [cellsOf_ones (hall1 zs)] at h13
  have hblk : b < c.w.heap.size := (Array.getElem?_eq_some_iff.1 h6).1
  have hsz : o + zs.length ≤ cs.size := by
    have := rangeAt_size h6 h13 (by simpa using hpos)
    simpa using this
  have hthere : c.w.there b o zs.length := rangeAt_there h6 h10 hsz
  have hholds : Holds enc c.w b o zs.toArray := fun j hj => by
    have hj' : j < zs.length := by simpa using hj
    refine ⟨?_, (hthere j hj').2⟩
    have := h13 j (enc zs[j]) (by simp [hj'])
    rw [this]
    simp [hj']
  rw [show a = some ⟨b, o, none⟩ by rw [h5]; simp]
  refine (hc b o cap zs c.w hholds hblk hl).mono ?_
  rintro e w' ⟨rfl, n, os, rfl⟩
  have hother : ∀ k, k < c.w.heap.size → k ≠ b → (grow (putRow enc (Sort.ahead c.w n) b o (zs.mergeSort le).toArray) os).heap[k]? = c.w.heap[k]? := fun k hk hne => by
    rw [heap_grow_old _ _ (by simpa using hk)]
    show (Array.modify c.w.heap b _)[k]? = _
    rw [Array.getElem?_modify, if_neg (fun e => hne e.symm)]
  have hat : (grow (putRow enc (Sort.ahead c.w n) b o (zs.mergeSort le).toArray) os).heap[b]? = some (.cells (putCells enc o (zs.mergeSort le).toArray cs) Ty fr) := by
    rw [heap_grow_old _ _ (by simpa using hblk)]
    show (Array.modify c.w.heap b _)[b]? = _
    rw [Array.getElem?_modify, if_pos rfl, h6]
    rfl
  have hcsz : (putCells enc o (zs.mergeSort le).toArray cs).size = cs.size := by simp [putCells]
  obtain ⟨t1, t2⟩ := Cx.turn hh (w' := grow (putRow enc (Sort.ahead c.w n) b o (zs.mergeSort le).toArray) os) hB rfl (B' := .cells g 1 ((zs.mergeSort le).map sv)) (c.θ id)
    ⟨g, _, rfl, Nat.le_refl _, fun _ => ⟨rfl, by simp [hlen]⟩, fun b' o' h' => .inr ⟨o', h'⟩⟩
    (fun k hk hno => hother k hk fun e => hno o (by rw [h4, e])) (by simp) rfl rfl rfl
    (fun b' cs0 T0 fr0 hb' => by
      by_cases e : b' = b
      · subst e
        rw [h6] at hb'; cases hb'
        exact ⟨_, fr, hat, hcsz⟩
      · exact ⟨cs0, fr0, by rw [hother b' (Array.getElem?_eq_some_iff.1 hb').1 e]; exact hb', rfl⟩)
    (fun hg => .inr ⟨b, o, _, Ty, fr, (zs.mergeSort le).map enc, by simp [h4], hat, by unfold noFreeze; rw [hcsz]; exact h10,
      (RepL.all hrep).2 ⟨rfl, fun x hx => hok x (hperm.mem_iff.1 hx)⟩, fun u hu => by
        have := hall1 _ u hu
        exact ⟨by rw [cells_one this]; rfl, okCells_one this⟩, by
        rw [cellsOf_ones (hall1 _)]
        intro j v hj
        rw [cell_at hat]
        obtain ⟨hj', hje⟩ := List.getElem?_eq_some_iff.1 hj
        simp only [List.length_map] at hj'
        simp only [List.getElem_map] at hje
        simp only [putCells, Array.getElem?_mapIdx]
        rw [Array.getElem?_eq_getElem (by omega)]
        simp only [Option.map_some]
        rw [if_pos (by constructor; omega; simp; omega)]
        rw [← hje]
        simp only [Nat.add_sub_cancel_left, List.getElem!_toArray, List.getElem!_eq_getElem?_getD]
        rw [List.getElem?_eq_getElem hj']; rfl⟩)
  refine ⟨_, .tuple [], _, rfl, rfl, ⟨?_, rfl⟩, t2, by simp only [Rep]; exact ⟨[], RepL.mk_nil, rfl⟩, t1⟩
  rw [← e1]
end

theorem rep_int_iff (k : IntKind) (c : Cx) (n : Int) (v : Value) : Rep c (.int k n) v ↔ (v = .int k n ∧ (k.min ≤ n ∧ n ≤ k.max)) := by simp only [Rep]
theorem rep_str_iff (c : Cx) (s : List UInt8) (v : Value) : Rep c (.str s) v ↔ (v = .string ⟨⟨s⟩⟩ ∧ s.length ≤ maxLen) := by simp only [Rep]
end Go.Proofs.YtihhngjoecgkpaaDoor
end

section
/- Ranging over a map that nobody writes any more. -/
namespace Go.Proofs.YtihhngjoecgkpaaDoor
open Go
set_option linter.unusedVariables false
set_option linter.unusedSimpArgs false

section
variable {P : Program}

/-- 'next' at a map iterator, wherever it lies; the map is as it was when the range began. -/
theorem run_next_at (w : World) (ty r bm clk : Nat) (seen : Array Nat) (es : Array MapEntry) (hr : w.heap[r]? = some (.mapIter (some bm) clk seen clk)) (hb : w.heap[bm]? = some (.map es clk)) (hold : ∀ x ∈ es.toList, x.born < clk) :
    ((∀ e ∈ es.toList, seen.contains e.born = true) ∧ (Instr.next (.pointer (some ⟨r, 0, none⟩)) false ty).run P w = .ok (.tuple #[.bool false]) w) ∨
    ∃ e ∈ es.toList, seen.contains e.born = false ∧ ∃ w1 : World, (w1 = w ∨ w1 = w.drew) ∧ (Instr.next (.pointer (some ⟨r, 0, none⟩)) false ty).run P w = .ok (.tuple #[.bool true, e.key, e.val]) (w1.putObj r (.mapIter (some bm) clk (seen.push e.born) clk)) := by
  simp only [Instr.next, getObj, Sem.run_bind, Sem.run, hr, hb, Result.andThen, next_test_false seen es clk clk hold (Nat.le_refl _), Bool.false_eq_true, if_false]
  generalize hL : Array.filter (fun e => !seen.contains e.born) es = L
  have mem : ∀ e, e ∈ L.toList ↔ e ∈ es.toList ∧ seen.contains e.born = false := fun e => by rw [← hL]; simp
  have old : L.filter (fun x => decide (x.born < clk)) = L := Array.filter_eq_self.2 (fun x hx => by simpa using hold x ((mem x).1 (by simpa using hx)).1)
  have new : L.filter (fun x => decide (x.born ≥ clk)) = #[] := by
    rw [Array.filter_eq_empty_iff]
    intro x hx
    have := hold x ((mem x).1 (by simpa using hx)).1
    simp; omega
  simp only [old, new, Array.append_empty]
  by_cases h0 : L.size = 0
  · left
    have hLe : L = #[] := Array.eq_empty_of_size_eq_zero h0
    refine ⟨fun e he => ?_, by subst hLe; simp [choose, Sem.run, Question.forced]⟩
    cases hs : seen.contains e.born with
    | true => rfl
    | false => have := (mem e).2 ⟨he, hs⟩; rw [hLe] at this; cases this
  · right
    have hne : L.isEmpty = false := by simp [Array.isEmpty, h0]
    simp only [hne, Bool.false_eq_true, if_false, Array.empty_append, Array.size_map]
    obtain ⟨j, w1, hj, hw, hrun⟩ : ∃ (j : Nat) (w1 : World), j < L.size ∧ (w1 = w ∨ w1 = w.drew) ∧ (choose (Question.mapNext L.size)).run P w = .ok j w1 := by
      by_cases hf : L.size ≤ 1
      · exact ⟨0, w, by omega, .inl rfl, by simp [choose, Sem.run, Question.forced, hf]⟩
      · exact ⟨_, w.drew, Nat.mod_lt _ (by omega), .inr rfl, by
          simp only [choose, Sem.run, Question.forced, decide_eq_true_eq, hf, if_false, Question.cut]
          rfl⟩
    have hheap : w1.heap = w.heap := by rcases hw with rfl | rfl <;> rfl
    obtain ⟨m1, m2⟩ := (mem L[j]).1 (by simp)
    refine ⟨L[j], m1, m2, w1, hw, ?_⟩
    have hset : ∀ o' : Obj, (setObj r o').run P w1 = .ok () (w1.putObj r o') := fun o' => by
      have : w1.heap[r]? = some (.mapIter (some bm) clk seen clk) := by rw [hheap]; exact hr
      simp only [setObj, Sem.run, this]
      rfl
    simp only [hrun, Array.getElem?_map, Array.getElem?_eq_getElem hj, Option.map_some, Sem.run_bind, hset, Result.andThen]
    rfl

theorem run_entry_at (w : World) (r bm clk : Nat) (seen : Array Nat) (es : Array MapEntry) (e : MapEntry) (hr : w.heap[r]? = some (.mapIter (some bm) clk (seen.push e.born) clk)) (hb : w.heap[bm]? = some (.map es clk)) (he : e ∈ es.toList) (hn : (es.toList.map (·.born)).Nodup) :
    (Instr.entry (.pointer (some ⟨r, 0, none⟩))).run P w = .ok (.tuple #[e.key, e.val]) w := by
  have hf : es.find? (·.born == e.born) = some e := by rw [← Array.find?_toList]; exact find_born e es.toList hn he
  simp only [Instr.entry, getObj, Sem.run_bind, Sem.run, hr, hb, Result.andThen, Array.back?_push, bne_self_eq_false, Bool.false_eq_true, if_false, hf]
  rfl
theorem run_range_at (w : World) (t k e : TypeId) (bm clk : Nat) (es : Array MapEntry) (ht : P.underlying t = some (.map k e)) (hb : w.heap[bm]? = some (.map es clk)) :
    (Instr.range t (.map (some bm))).run P w = .ok (.pointer (some ⟨w.heap.size, 0, none⟩)) (w.alloc (.mapIter (some bm) clk #[] clk)) := run_range_map w t k e bm es clk ht hb
end

section
variable {P : Program} {G : Gl} {T : Tab} {own : List Nat} {nt B : Nat} {ρ : Option Nat} {C : Cx} {rs : List ResultVar} {R : SV → List Blk → Prop} {env env2 : Env} {H H' : List Blk} {k : List It}
variable {all r : List Oper} {ty d j dj : Nat} {op : Op} {pos : String} {after : Array Edge} {v : SV}

/-- a block of one's own is let go: from here on its memory is as any other -/
theorem Rep.kill_both {θ : Nat → Option (Nat × Nat)} {H : List Blk} {w : World} {io : Nat} {kd : Option IntKind} {es : List (SV × SV)} (hm : H[io]? = some (.map kd es)) :
    (∀ x v, Rep ⟨θ, H, w⟩ x v → Rep ⟨θ, H.set io .dead, w⟩ x v) ∧ (∀ xs vs, RepL ⟨θ, H, w⟩ xs vs → RepL ⟨θ, H.set io .dead, w⟩ xs vs) := by
  have hlt := (List.getElem?_eq_some_iff.1 hm).1
  have himm : ∀ b, Cx.imm ⟨θ, H, w⟩ b → Cx.imm ⟨θ, H.set io .dead, w⟩ b := fun b ⟨h1, h2⟩ => ⟨h1, fun ⟨id, o, ⟨B, hB, hl⟩, ht⟩ => h2 ⟨id, o, ⟨B, by
    have hB' : (H.set io .dead)[id]? = some B := hB
    rw [List.getElem?_set] at hB'
    split at hB'
    · cases hB'; cases hl
    · exact hB', hl⟩, ht⟩⟩
  have hget : ∀ id : Nat, (H.set io .dead)[id]? = if io = id then some .dead else H[id]? := fun id => by
    rw [List.getElem?_set]
    by_cases e : io = id
    · rw [if_pos e, if_pos e, if_pos (e ▸ hlt)]
    · rw [if_neg e, if_neg e]
  apply SV.both
  · intro x h1 h2 h3 h4 h5 h6 v h
    cases x with
    | agg fs => exact absurd rfl (h1 fs)
    | list n xs => exact absurd rfl (h2 n xs)
    | pto y => exact absurd rfl (h3 y)
    | fn f a b => exact absurd rfl (h4 f a b)
    | tuple xs => exact absurd rfl (h5 xs)
    | imap b clk born kd ks vs => exact absurd rfl (h6 b clk born kd ks vs)
    | ptr id g i off =>
      simp only [Rep, hget] at h ⊢
      by_cases e : io = id
      · simp only [if_pos e]; exact ⟨h.1, trivial⟩
      · simp only [if_neg e]; exact h
    | sl id g off len =>
      simp only [Rep, hget] at h ⊢
      by_cases e : io = id
      · simp only [if_pos e]; exact ⟨h.1, trivial⟩
      · simp only [if_neg e]; exact h
    | map id =>
      simp only [Rep, hget] at h ⊢
      by_cases e : io = id
      · simp only [if_pos e]; exact ⟨h.1, trivial⟩
      · simp only [if_neg e]; exact h
    | it id =>
      simp only [Rep, hget] at h ⊢
      by_cases e : io = id
      · simp only [if_pos e]; exact ⟨h.1, trivial⟩
      · simp only [if_neg e]; exact h
    | _ => exact h
  · intro fs ih v h
    simp only [Rep] at h ⊢
    obtain ⟨vs, h1, h2⟩ := h
    exact ⟨vs, ih vs h1, h2⟩
  · intro sz xs ih v h
    simp only [Rep] at h ⊢
    obtain ⟨a, cap, h0, h1, h2, h3⟩ := h
    refine ⟨a, cap, h0, h1, h2, ?_⟩
    rcases h3 with h3 | ⟨b, o, vs, h3, h4, h5, h6, h7⟩
    · exact .inl h3
    · exact .inr ⟨b, o, vs, h3, ih vs h4, h5, h6, himm b h7⟩
  · intro x ih v h
    simp only [Rep] at h ⊢
    obtain ⟨b, o, u, h0, h1, h2, h3, h4⟩ := h
    exact ⟨b, o, u, h0, ih u h1, h2, h3, himm b h4⟩
  · intro f xs ys ih1 ih2 v h
    simp only [Rep] at h ⊢
    obtain ⟨us, vs, h0, h1, h2⟩ := h
    exact ⟨us, vs, ih1 us h0, ih2 vs h1, h2⟩
  · intro xs ih v h
    simp only [Rep] at h ⊢
    obtain ⟨vs, h0, h1⟩ := h
    exact ⟨vs, ih vs h0, h1⟩
  · intro b clk born kd ks vs ih1 ih2 v h
    simp only [Rep] at h ⊢
    obtain ⟨h0, h1, ents, h2, h3, h4, h5, h6, h7⟩ := h
    exact ⟨h0, himm b h1, ents, h2, h3, h4, ih1 _ h5, ih2 _ h6, h7⟩
  · intro vs h; simpa [RepL] using h
  · intro x xs ih1 ih2 vs h
    obtain ⟨u, us, h1, h2, h3⟩ := RepL.cons_iff.1 h
    exact RepL.cons_iff.2 ⟨u, us, ih1 u h1, ih2 us h2, h3⟩

theorem RepE.lists {c : Cx} : ∀ {es : List (SV × SV)} {l : List MapEntry}, RepE c es l → RepL c (es.map Prod.fst) (l.map (·.key)) ∧ RepL c (es.map Prod.snd) (l.map (·.val))
  | [], l, h => by simp only [RepE] at h; subst h; exact ⟨RepL.mk_nil, RepL.mk_nil⟩
  | (q, x) :: es, l, h => by
    simp only [RepE] at h
    obtain ⟨e, es', h1, h2, h3, rfl⟩ := h
    obtain ⟨a, b⟩ := RepE.lists h3
    exact ⟨RepL.mk_cons h1 a, RepL.mk_cons h2 b⟩
theorem RepE.mono {c c' : Cx} (hr : ∀ x v, Rep c x v → Rep c' x v) : ∀ {es : List (SV × SV)} {l : List MapEntry}, RepE c es l → RepE c' es l
  | [], l, h => by simpa [RepE] using h
  | (q, x) :: es, l, h => by
    simp only [RepE] at h ⊢
    obtain ⟨e, es', h1, h2, h3, h4⟩ := h
    exact ⟨e, es', hr _ _ h1, hr _ _ h2, RepE.mono hr h3, h4⟩

theorem Cx.kill {θ : Nat → Option (Nat × Nat)} {H : List Blk} {w : World} {io : Nat} {kd : Option IntKind} {es : List (SV × SV)} (hm : H[io]? = some (.map kd es)) (hc : HeapOK ⟨θ, H, w⟩) (hC : C.H.length ≤ io) :
    HeapOK ⟨θ, H.set io .dead, w⟩ ∧ (∀ C0 : Cx, C0.H.length ≤ io → Grow C0 ⟨θ, H, w⟩ → Grow C0 ⟨θ, H.set io .dead, w⟩) ∧
    ∃ b clk born, θ io = some (b, 0) ∧ born.length = es.length ∧ born.Nodup ∧ Rep ⟨θ, H.set io .dead, w⟩ (.imap b clk born kd (es.map Prod.fst) (es.map Prod.snd)) (.map (some b)) := by
  have hlt := (List.getElem?_eq_some_iff.1 hm).1
  have hget : ∀ (id : Nat) (B : Blk), (H.set io .dead)[id]? = some B → B = .dead ∨ (id ≠ io ∧ H[id]? = some B) := fun id B hB => by
    rw [List.getElem?_set] at hB
    split at hB
    · cases hB; exact .inl rfl
    · rename_i h; exact .inr ⟨fun e => h e.symm, hB⟩
  obtain ⟨rk, rkl⟩ := Rep.kill_both (θ := θ) (w := w) hm
  refine ⟨⟨fun id B hB => ?_, fun i j b o o' ⟨Bi, h1, h2⟩ ⟨Bj, h3, h4⟩ h5 h6 => ?_⟩, fun C0 h0 hg => ?_, ?_⟩
  · rcases hget id B hB with rfl | ⟨_, hB⟩
    · trivial
    · have hb := hc.blk id B hB
      cases B with
      | dead => trivial
      | obj o => exact hb
      | cells g sz vals =>
        rcases hb with hb | ⟨b, o, cs, T, fr, vs, h1, h2, h3, h4, h5, h6⟩
        · exact .inl hb
        · exact .inr ⟨b, o, cs, T, fr, vs, h1, h2, h3, rkl _ _ h4, h5, h6⟩
      | map kd es =>
        obtain ⟨b, ents, clk, h1, h2, h3, h4⟩ := hb
        exact ⟨b, ents, clk, h1, h2, RepE.mono rk h3, h4⟩
  · rcases hget i Bi h1 with rfl | ⟨_, h1⟩
    · cases h2
    · rcases hget j Bj h3 with rfl | ⟨_, h3⟩
      · cases h4
      · exact hc.inj i j b o o' ⟨Bi, h1, h2⟩ ⟨Bj, h3, h4⟩ h5 h6
  · refine ⟨hg.os, hg.tape, hg.output, hg.size, hg.old, hg.shape, fun id B hB => ?_, fun id b o hn hl ht => ?_⟩
    · obtain ⟨B', h1, h2⟩ := hg.ids id B hB
      have hid : id < C0.H.length := (List.getElem?_eq_some_iff.1 hB).1
      exact ⟨B', by show (H.set io .dead)[id]? = _; rw [List.getElem?_set_ne (by omega)]; exact h1, h2⟩
    · obtain ⟨B, h1, h2⟩ := hl
      rcases hget id B h1 with rfl | ⟨_, h1⟩
      · cases h2
      · exact hg.new id b o hn ⟨B, h1, h2⟩ ht
  · obtain ⟨b, ents, clk, h1, h2, h3, h4, h5⟩ := hc.blk io _ hm
    obtain ⟨l1, l2⟩ := (RepE.mono rk h3).lists
    refine ⟨b, clk, ents.toList.map (·.born), h1, ?_, h5.2.1, ?_⟩
    · have := l1.length; simp only [List.length_map] at this ⊢; exact this.symm ▸ rfl
    · simp only [Rep]
      refine ⟨trivial, ⟨(Array.getElem?_eq_some_iff.1 h2).1, fun ⟨id, o, ⟨B, hB, hl⟩, ht⟩ => ?_⟩, ents, h2, h5, rfl, l1, l2, fun x hx => ?_⟩
      · rcases hget id B hB with rfl | ⟨hne, hB⟩
        · cases hl
        · exact hne (hc.inj id io b o 0 ⟨B, hB, hl⟩ ⟨_, hm, rfl⟩ ht h1)
      · obtain ⟨p, hp, rfl⟩ := List.mem_map.1 hx
        exact h4 p hp

/-- A MAP OF ONE'S OWN IS WRITTEN NO MORE. -/
theorem go_pin {c0 : Code} {t io : Nat} {kd : Option IntKind} {es : List (SV × SV)} (hm : H[io]? = some (.map kd es)) (hC : C.H.length ≤ io) (hB : Based G C.H.length) (ht : look env t = some (.map io))
    (h : ∀ b clk born, born.length = es.length → born.Nodup → (Out P G T own nt ρ C rs R) (.code c0 :: k) .normal ((t, .imap b clk born kd (es.map Prod.fst) (es.map Prod.snd)) :: env) (H.set io .dead)) : (Out P G T own nt ρ C rs R) (.code c0 :: k) .normal env H := by
  rintro ⟨θ, Hc, w⟩ a hc hi hg
  simp only at hc
  subst hc
  obtain ⟨k1, k2, b, clk, born, k3, k4, k5, k6⟩ := Cx.kill (C := C) hm hi.heap hC
  refine h b clk born k4 k5 ⟨θ, Hc.set io .dead, w⟩ a rfl ⟨k1, ⟨fun p hp => (Rep.kill_both hm).1 _ _ (hi.glob.1 p hp), fun C0 h0 => k2 C0 (Nat.le_trans (hB C0 h0) hC) (hi.glob.2 C0 h0)⟩, hi.size, fun t' x hx => ?_, ?_⟩ (k2 C hC hg)
  · simp only [look] at hx
    split at hx
    · rename_i e
      cases hx
      subst e
      have hv := hi.env t' _ ht
      simp only [Rep, hm] at hv
      obtain ⟨_, b', e1, e2⟩ := hv
      rw [k3] at e1
      cases e1
      rw [e2]; exact k6
    · exact (Rep.kill_both hm).1 _ _ (hi.env t' x hx)
  · refine ⟨fun d hd => ?_, hi.defs.2⟩
    obtain ⟨r, q1, q2, q3, q4⟩ := hi.defs.1 d hd
    refine ⟨r, q1, q2, ⟨q3.1, fun ⟨id, o, ⟨B, hB', hl⟩, ht'⟩ => q3.2 ⟨id, o, ⟨B, ?_, hl⟩, ht'⟩⟩, q4⟩
    have hB2 : (Hc.set io .dead)[id]? = some B := hB'
    rw [List.getElem?_set] at hB2
    split at hB2
    · split at hB2
      · cases hB2; cases hl
      · cases hB2
    · exact hB2

/-- A NIL SLICE IS TAKEN FOR ONE OF ONE'S OWN, of no elements. -/
theorem go_ownNil (t sz : Nat) {c0 : Code} (ht : look env t = some .nil) (h : (Out P G T own nt ρ C rs R) (.code c0 :: k) .normal ((t, .sl H.length 0 0 0) :: env) (H ++ [.cells 0 sz []])) : (Out P G T own nt ρ C rs R) (.code c0 :: k) .normal env H := by
  intro c a hc hi hg
  obtain ⟨g1, g2⟩ := Cx.fresh hi.heap (w' := c.w) c.w.heap.size (Nat.le_refl _) 0 none (.inl rfl) (.cells 0 sz []) (fun _ _ => rfl) (Nat.le_refl _) rfl rfl rfl (fun _ => .inl ⟨by simp, rfl⟩)
  generalize hc2 : (⟨fun i => if i = c.H.length then none else c.θ i, c.H ++ [.cells 0 sz []], c.w⟩ : Cx) = c2 at g1 g2
  have hH : c2.H = H ++ [.cells 0 sz []] := by rw [← hc2]; show c.H ++ _ = _; rw [hc]
  have hw : c2.w = c.w := by rw [← hc2]
  rw [← hw]
  refine h c2 a hH ⟨g2, hi.glob.grow g1, hi.size, fun t' x hx => ?_, hi.defs.grow g1⟩ (hg.trans g1)
  simp only [look] at hx
  split at hx
  · rename_i e
    cases hx
    subst e
    have hv := hi.env t' _ ht
    simp only [Rep] at hv
    rw [hv]
    simp only [Rep, hH]
    refine ⟨rfl, ?_⟩
    simp only [List.getElem?_append_right (Nat.le_refl _), Nat.sub_self, List.getElem?_cons_zero]
    exact .inr ⟨trivial, Nat.le_refl _, none, 0, rfl, Nat.le_refl _, Nat.zero_le _, .inl ⟨rfl, .inr (Nat.le_refl _)⟩⟩
  · exact (hi.env t' x hx).grow g1

theorem go_range {x : Operand} {t bm clk : Nat} {born : List Nat} {kd : Option IntKind} {ks vs : List SV} {ti : TI} (h1 : ev G env x = some (.imap bm clk born kd ks vs)) (h2 : mapTypes T t = some (kd, ti)) (hd : Nat.blt d nt = true)
    (hk : (Out P G T own nt ρ C rs R) (.ops all r :: k) .normal ((d, .it H.length) :: env) (H ++ [.obj (.mapIter (some bm) clk #[] clk)])) : (Out P G T own nt ρ C rs R) (.ops all (⟨some d, .range t x, ty, pos, after, none⟩ :: r) :: k) .normal env H := by
  refine OW.law (R0 := fun y H' => y = .it H.length ∧ H' = H ++ [.obj (.mapIter (some bm) clk #[] clk)]) rfl rfl hd (fun hT c a o' hs hc hi hg next Q hn => ?_) (fun y H' hy => by obtain ⟨rfl, rfl⟩ := hy; exact hk)
  have hv := ev_ok hi h1
  simp only [Rep] at hv
  obtain ⟨e1, e2, ents, e3, _⟩ := hv
  have hu : ∃ kk e, P.underlying t = some (.map kk e) := by
    unfold mapTypes at h2
    split at h2
    · rename_i q; exact ⟨_, _, (hT _ _ q).1⟩
    · cases h2
  obtain ⟨kk, e, hu⟩ := hu
  obtain ⟨g1, g2⟩ := Cx.fresh hi.heap (w' := c.w.alloc (.mapIter (some bm) clk #[] clk)) c.w.heap.size (Nat.le_refl _) 0 (some (c.w.heap.size, 0)) (.inr rfl) (.obj (.mapIter (some bm) clk #[] clk)) (fun b hb => Go.RowKit.Below.heap_alloc _ _ b hb) (by simp) rfl rfl rfl
    (fun _ => ⟨c.w.heap.size, by simp, World.alloc_heap_new _ _, fun ds e => by cases e⟩)
  obtain ⟨s1, s2, s3⟩ := hs
  refine wp_val (u := .pointer (some ⟨c.w.heap.size, 0, none⟩)) (w' := c.w.alloc (.mapIter (some bm) clk #[] clk)) (by rw [s2]; intro _ e; cases e) ?_ ?_
  · simp [execOp, s2, e1, run_range_at c.w t kk e bm clk ents hu e3]
  · rw [s1]
    have := hn (.it c.H.length) _ (.pointer (some ⟨c.w.heap.size, 0, none⟩)) (by rw [hc]; exact ⟨rfl, rfl⟩) g2 (by
      simp only [Rep]
      refine ⟨rfl, ?_⟩
      simp only [List.getElem?_append_right (Nat.le_refl _), Nat.sub_self, List.getElem?_cons_zero]
      exact ⟨c.w.heap.size, by simp, rfl⟩) g1
    exact this

theorem RepL.at {c : Cx} {α : Type} {f : α → Value} : ∀ {xs : List SV} {l : List α}, RepL c xs (l.map f) → ∀ {i : Nat} {e : α}, l[i]? = some e → ∃ x, xs[i]? = some x ∧ Rep c x (f e)
  | [], l, h, i, e, he => by
    have := RepL.nil_iff.1 h
    rw [List.map_eq_nil_iff] at this
    subst this; cases he
  | x :: xs, l, h, i, e, he => by
    cases l with
    | nil => cases he
    | cons y l =>
      obtain ⟨u, us, h1, h2, h3⟩ := RepL.cons_iff.1 h
      rw [List.map_cons, List.cons.injEq] at h3
      obtain ⟨rfl, rfl⟩ := h3
      cases i with
      | zero => cases he; exact ⟨x, rfl, h1⟩
      | succ i => exact RepL.at h2 (i := i) he

theorem go_next {x : Operand} {tm iid bm clk : Nat} {seen : Array Nat} {born : List Nat} {kd : Option IntKind} {ks vs : List SV} (h1 : ev G env x = some (.it iid)) (h2 : look env tm = some (.imap bm clk born kd ks vs)) (h3 : H[iid]? = some (.obj (.mapIter (some bm) clk seen clk))) (hd : Nat.blt d nt = true)
    (hk0 : (∀ b ∈ born, seen.contains b = true) → (Out P G T own nt ρ C rs R) (.ops all r :: k) .normal ((d, .tuple [.bool false]) :: env) H)
    (hk1 : ∀ (i b : Nat) (q y : SV), born[i]? = some b → seen.contains b = false → ks[i]? = some q → vs[i]? = some y → (Out P G T own nt ρ C rs R) (.ops all r :: k) .normal ((d, .tuple [.bool true, q, y]) :: env) (H.set iid (.obj (.mapIter (some bm) clk (seen.push b) clk)))) :
    (Out P G T own nt ρ C rs R) (.ops all (⟨some d, .next x false, ty, pos, after, none⟩ :: r) :: k) .normal env H := by
  refine OW.law (R0 := fun z H' => ((∀ b ∈ born, seen.contains b = true) ∧ z = .tuple [.bool false] ∧ H' = H) ∨ ∃ (i b : Nat) (q y : SV), born[i]? = some b ∧ seen.contains b = false ∧ ks[i]? = some q ∧ vs[i]? = some y ∧ z = .tuple [.bool true, q, y] ∧ H' = H.set iid (.obj (.mapIter (some bm) clk (seen.push b) clk)))
    rfl rfl hd (fun hT c a o' hs hc hi hg next Q hn => ?_) (fun z H' hz => by
      rcases hz with ⟨q1, rfl, rfl⟩ | ⟨i, b, q, y, q1, q2, q3, q4, rfl, rfl⟩
      · exact hk0 q1
      · exact hk1 i b q y q1 q2 q3 q4)
  have hv := ev_ok hi h1
  have hm := hi.env tm _ h2
  rw [← hc] at h3
  simp only [Rep, h3] at hv
  obtain ⟨_, rb, r1, r2⟩ := hv
  simp only [Rep] at hm
  obtain ⟨_, m1, ents, m2, m3, m4, m5, m6, m7⟩ := hm
  obtain ⟨b', q1, q2⟩ := obj_at hi.heap h3
  rw [r1] at q1; cases q1
  obtain ⟨s1, s2, s3⟩ := hs
  have r2' : a.eval x = .pointer (some ⟨rb, 0, none⟩) := r2
  rcases run_next_at (P := P) c.w o'.type rb bm clk seen ents q2 m2 m3.1 with ⟨n1, n2⟩ | ⟨e, n1, n2, w1, n3, n4⟩
  · refine wp_val (u := .tuple #[.bool false]) (w' := c.w) (by rw [s2]; intro _ e; cases e) ?_ ?_
    · simp [execOp, s2, r2', n2]
    · rw [s1]
      exact hn (.tuple [.bool false]) c _ (.inl ⟨fun b hb => by
        rw [← m4] at hb
        obtain ⟨e, he, rfl⟩ := List.mem_map.1 hb
        exact n1 e he, rfl, hc⟩) hi.heap (by simp only [Rep]; exact ⟨[.bool false], RepL.mk_cons (rep_bool c false) RepL.mk_nil, rfl⟩) (Grow.refl c)
  · obtain ⟨i, hi'⟩ := List.getElem?_of_mem n1
    obtain ⟨y1, y2, y3⟩ := RepL.at m5 hi'
    obtain ⟨z1, z2, z3⟩ := RepL.at m6 hi'
    have hb : born[i]? = some e.born := by rw [← m4, List.getElem?_map, hi']; rfl
    obtain ⟨c1, hc1, hg1, hh1⟩ : ∃ c1 : Cx, c1 = { c with w := w1 } ∧ Grow c c1 ∧ HeapOK c1 := by
      have := Cx.world hi.heap (w' := w1) (fun b _ => by rcases n3 with rfl | rfl <;> rfl) (by rcases n3 with rfl | rfl <;> exact Nat.le_refl _) (by rcases n3 with rfl | rfl <;> rfl) (by rcases n3 with rfl | rfl <;> rfl) (by rcases n3 with rfl | rfl <;> rfl)
      exact ⟨_, rfl, this.1, this.2⟩
    obtain ⟨c2, g1, g2, g3, g4⟩ := obj_turn (o := .mapIter (some bm) clk seen clk) (o' := .mapIter (some bm) clk (seen.push e.born) clk) hh1 (id := iid) (b := rb) (by rw [hc1]; exact h3) (by rw [hc1]; exact r1) rfl (fun _ _ _ e => by cases e) (fun _ e => by cases e)
    refine wp_val (u := .tuple #[.bool true, e.key, e.val]) (w' := w1.putObj rb (.mapIter (some bm) clk (seen.push e.born) clk)) (by rw [s2]; intro _ e; cases e) ?_ ?_
    · simp [execOp, s2, r2', n4]
    · rw [s1]
      have := hn (.tuple [.bool true, y1, z1]) c2 (.tuple #[.bool true, e.key, e.val]) (.inr ⟨i, e.born, y1, z1, hb, n2, y2, z2, rfl, by rw [g1, hc1]; show c.H.set _ _ = _; rw [hc]⟩) g4 (by
        simp only [Rep]
        exact ⟨[.bool true, e.key, e.val], RepL.mk_cons (rep_bool c2 true) (RepL.mk_cons (y3.grow (hg1.trans g3)) (RepL.mk_cons (z3.grow (hg1.trans g3)) RepL.mk_nil)), rfl⟩) (hg1.trans g3)
      rw [g2, hc1] at this
      exact this

theorem go_entry {x : Operand} {tm iid bm clk i b : Nat} {seen : Array Nat} {born : List Nat} {kd : Option IntKind} {ks vs : List SV} {q y : SV} (h1 : ev G env x = some (.it iid)) (h2 : look env tm = some (.imap bm clk born kd ks vs)) (h3 : H[iid]? = some (.obj (.mapIter (some bm) clk (seen.push b) clk)))
    (hb : born[i]? = some b) (hq : ks[i]? = some q) (hy : vs[i]? = some y) (hd : Nat.blt d nt = true)
    (hk : (Out P G T own nt ρ C rs R) (.ops all r :: k) .normal ((d, .tuple [q, y]) :: env) H) :
    (Out P G T own nt ρ C rs R) (.ops all (⟨some d, .entry x, ty, pos, after, none⟩ :: r) :: k) .normal env H := by
  refine OW.law (R0 := fun z H' => z = .tuple [q, y] ∧ H' = H) rfl rfl hd (fun hT c a o' hs hc hi hg next Q hn => ?_) (fun z H' hz => by obtain ⟨rfl, rfl⟩ := hz; exact hk)
  have hv := ev_ok hi h1
  have hm := hi.env tm _ h2
  rw [← hc] at h3
  simp only [Rep, h3] at hv
  obtain ⟨_, rb, r1, r2⟩ := hv
  simp only [Rep] at hm
  obtain ⟨_, m1, ents, m2, m3, m4, m5, m6, m7⟩ := hm
  obtain ⟨b', q1, q2⟩ := obj_at hi.heap h3
  rw [r1] at q1; cases q1
  obtain ⟨s1, s2, s3⟩ := hs
  have r2' : a.eval x = .pointer (some ⟨rb, 0, none⟩) := r2
  rw [← m4, List.getElem?_map] at hb
  obtain ⟨e, he, rfl⟩ := Option.map_eq_some_iff.1 hb
  obtain ⟨y1, y2, y3⟩ := RepL.at m5 he
  obtain ⟨z1, z2, z3⟩ := RepL.at m6 he
  rw [hq] at y2; cases y2
  rw [hy] at z2; cases z2
  refine wp_val (u := .tuple #[e.key, e.val]) (w' := c.w) (by rw [s2]; intro _ e; cases e) ?_ ?_
  · simp [execOp, s2, r2', run_entry_at (P := P) c.w rb bm clk seen ents e q2 m2 (List.mem_of_getElem? he) m3.2.1]
  · rw [s1]
    exact hn (.tuple [q, y]) c _ ⟨rfl, hc⟩ hi.heap (by simp only [Rep]; exact ⟨[e.key, e.val], RepL.mk_cons y3 (RepL.mk_cons z3 RepL.mk_nil), rfl⟩) (Grow.refl c)
end
end Go.Proofs.YtihhngjoecgkpaaDoor
end

section
/- Ranging over a map of one's own. -/
namespace Go.Proofs.YtihhngjoecgkpaaDoor
open Go
set_option linter.unusedVariables false
set_option linter.unusedSimpArgs false

section
variable {P : Program} {G : Gl} {T : Tab} {own : List Nat} {nt B : Nat} {ρ : Option Nat} {C : Cx} {rs : List ResultVar} {R : SV → List Blk → Prop} {env env2 : Env} {H H' : List Blk} {k : List It}
variable {all r : List Oper} {ty d j dj : Nat} {op : Op} {pos : String} {after : Array Edge} {v : SV}

/-- A PIECE OF CODE, WALKED FROM WHAT IS THERE NOW. -/
theorem go_base {x : Code} {K : Env → List Blk → Prop} (h : ∀ C' : Cx, C'.H = H → HeapOK C' → Grow C C' → Out P ⟨G.l, some C'⟩ T own nt ρ C [] (fun _ _ => False) [.code x, .pred K] .normal env H) : Out P G T own nt ρ C rs R (.code x :: .pred K :: k) .normal env H := by
  intro c a hc hi hg
  have h1 := h c hc hi.heap hg
  have h2 := h1 c a hc ⟨hi.heap, ⟨hi.glob.1, fun C0 h0 => by cases h0; exact Grow.refl c⟩, hi.size, hi.env, hi.defs⟩ hg
  refine wpIn_mono h2 ?_
  rintro e a' w' ⟨s', c', q1, q2, q3, q4, q5⟩
  have hcc : Grow c c' := q4.glob.2 c rfl
  refine ⟨s', c', ?_, q2, q3, ⟨q4.heap, ⟨q4.glob.1, fun C0 h0 => (hi.glob.2 C0 h0).trans hcc⟩, q4.size, q4.env, q4.defs⟩, q5⟩
  cases e with
  | normal => exact q1
  | ret =>
    exfalso
    obtain ⟨xs, e1, e2⟩ := q1
    cases e1
    obtain ⟨_, _, _, hf, _⟩ := e2 c' (.tuple #[]) q2 q4.heap (by simp only [resSV, Rep]; exact ⟨[], RepL.mk_nil, rfl⟩) q5
    exact hf
  | _ => exact q1.elim

theorem RepE.length {c : Cx} : ∀ {es : List (SV × SV)} {l : List MapEntry}, RepE c es l → l.length = es.length
  | [], l, h => by simp only [RepE] at h; subst h; rfl
  | (q, x) :: es, l, h => by
    simp only [RepE] at h
    obtain ⟨e, es', _, _, h3, rfl⟩ := h
    simp [RepE.length h3]
/-- where a map of one's own lies, and what is there -/
structure MapHere (G : Gl) (id bm : Nat) (kd : Option IntKind) : Prop where
  there : ∃ C', G.base = some C' ∧ (∃ es0, C'.H[id]? = some (.map kd es0)) ∧ C'.θ id = some (bm, 0)
theorem MapHere.of {C' : Cx} (hc : HeapOK C') {l : List (Nat × SV)} {id : Nat} {kd : Option IntKind} {es : List (SV × SV)} (h : C'.H[id]? = some (.map kd es)) : ∃ bm, MapHere ⟨l, some C'⟩ id bm kd := by
  obtain ⟨b, ents, clk, h1, _⟩ := hc.blk id _ h
  exact ⟨b, ⟨C', rfl, ⟨es, h⟩, h1⟩⟩
theorem map_at {id bm : Nat} {kd : Option IntKind} (hm : MapHere G id bm kd) {c : Cx} (hg : GOK G c) (hh : HeapOK c) {es : List (SV × SV)} (h3 : c.H[id]? = some (.map kd es)) :
    ∃ ents : Array MapEntry, c.w.heap[bm]? = some (.map ents es.length) ∧ bornOK ents.toList es.length ∧ RepE c es ents.toList ∧ c.θ id = some (bm, 0) := by
  obtain ⟨C', q1, ⟨es0, q2⟩, q3⟩ := hm.there
  obtain ⟨B', e1, e2⟩ := (hg.2 C' q1).ids id _ q2
  rw [h3] at e1
  cases e1
  have hθ : c.θ id = some (bm, 0) := by rw [e2.2]; exact q3
  obtain ⟨b, ents, clk, r1, r2, r3, r4, r5⟩ := hh.blk id _ h3
  rw [hθ] at r1
  cases r1
  have hl := RepE.length r3
  have hclk : clk = es.length := by rw [r5.2.2.1, hl]
  subst hclk
  exact ⟨ents, r2, r5, r3, hθ⟩

theorem go_rangeO {x : Operand} {t id bm : Nat} {kd : Option IntKind} {es : List (SV × SV)} {ti : TI} (hm : MapHere G id bm kd) (h1 : ev G env x = some (.map id)) (h2 : mapTypes T t = some (kd, ti)) (h3 : H[id]? = some (.map kd es)) (hd : Nat.blt d nt = true)
    (hk : (Out P G T own nt ρ C rs R) (.ops all r :: k) .normal ((d, .it H.length) :: env) (H ++ [.obj (.mapIter (some bm) es.length #[] es.length)])) : (Out P G T own nt ρ C rs R) (.ops all (⟨some d, .range t x, ty, pos, after, none⟩ :: r) :: k) .normal env H := by
  refine OW.law (R0 := fun y H' => y = .it H.length ∧ H' = H ++ [.obj (.mapIter (some bm) es.length #[] es.length)]) rfl rfl hd (fun hT c a o' hs hc hi hg next Q hn => ?_) (fun y H' hy => by obtain ⟨rfl, rfl⟩ := hy; exact hk)
  have hv := ev_ok hi h1
  rw [← hc] at h3
  obtain ⟨ents, m1, m2, m3, m4⟩ := map_at hm hi.glob hi.heap h3
  simp only [Rep, h3] at hv
  obtain ⟨_, b', v1, v2⟩ := hv
  rw [m4] at v1; cases v1
  have hu : ∃ kk e, P.underlying t = some (.map kk e) := by
    unfold mapTypes at h2
    split at h2
    · rename_i q; exact ⟨_, _, (hT _ _ q).1⟩
    · cases h2
  obtain ⟨kk, e, hu⟩ := hu
  obtain ⟨g1, g2⟩ := Cx.fresh hi.heap (w' := c.w.alloc (.mapIter (some bm) es.length #[] es.length)) c.w.heap.size (Nat.le_refl _) 0 (some (c.w.heap.size, 0)) (.inr rfl) (.obj (.mapIter (some bm) es.length #[] es.length)) (fun b hb => Go.RowKit.Below.heap_alloc _ _ b hb) (by simp) rfl rfl rfl
    (fun _ => ⟨c.w.heap.size, by simp, World.alloc_heap_new _ _, fun ds e => by cases e⟩)
  obtain ⟨s1, s2, s3⟩ := hs
  refine wp_val (u := .pointer (some ⟨c.w.heap.size, 0, none⟩)) (w' := c.w.alloc (.mapIter (some bm) es.length #[] es.length)) (by rw [s2]; intro _ e; cases e) ?_ ?_
  · simp [execOp, s2, v2, run_range_at c.w t kk e bm es.length ents hu m1]
  · rw [s1]
    have := hn (.it c.H.length) _ (.pointer (some ⟨c.w.heap.size, 0, none⟩)) (by rw [hc]; exact ⟨rfl, rfl⟩) g2 (by
      simp only [Rep]
      refine ⟨rfl, ?_⟩
      simp only [List.getElem?_append_right (Nat.le_refl _), Nat.sub_self, List.getElem?_cons_zero]
      exact ⟨c.w.heap.size, by simp, rfl⟩) g1
    exact this

theorem born_at {ents : Array MapEntry} {n : Nat} (h : bornOK ents.toList n) {i : Nat} {e : MapEntry} (he : ents.toList[i]? = some e) : e.born = i := by
  have h4 := h.2.2.2
  have hlt := (List.getElem?_eq_some_iff.1 he).1
  have : (ents.toList.map (·.born))[i]? = some e.born := by rw [List.getElem?_map, he]; rfl
  rw [h4, List.getElem?_range hlt] at this
  cases this; rfl

theorem go_nextO {x : Operand} {iid id bm : Nat} {seen : Array Nat} {kd : Option IntKind} {es : List (SV × SV)} (hm : MapHere G id bm kd) (h1 : ev G env x = some (.it iid)) (h3 : H[iid]? = some (.obj (.mapIter (some bm) es.length seen es.length))) (hmap : H[id]? = some (.map kd es)) (hd : Nat.blt d nt = true)
    (hk0 : (∀ i, i < es.length → seen.contains i = true) → (Out P G T own nt ρ C rs R) (.ops all r :: k) .normal ((d, .tuple [.bool false]) :: env) H)
    (hk1 : ∀ (i : Nat) (p : SV × SV), es[i]? = some p → seen.contains i = false → (Out P G T own nt ρ C rs R) (.ops all r :: k) .normal ((d, .tuple [.bool true, p.1, p.2]) :: env) (H.set iid (.obj (.mapIter (some bm) es.length (seen.push i) es.length)))) :
    (Out P G T own nt ρ C rs R) (.ops all (⟨some d, .next x false, ty, pos, after, none⟩ :: r) :: k) .normal env H := by
  refine OW.law (R0 := fun z H' => ((∀ i, i < es.length → seen.contains i = true) ∧ z = .tuple [.bool false] ∧ H' = H) ∨ ∃ (i : Nat) (p : SV × SV), es[i]? = some p ∧ seen.contains i = false ∧ z = .tuple [.bool true, p.1, p.2] ∧ H' = H.set iid (.obj (.mapIter (some bm) es.length (seen.push i) es.length)))
    rfl rfl hd (fun hT c a o' hs hc hi hg next Q hn => ?_) (fun z H' hz => by
      rcases hz with ⟨q1, rfl, rfl⟩ | ⟨i, p, q1, q2, rfl, rfl⟩
      · exact hk0 q1
      · exact hk1 i p q1 q2)
  have hv := ev_ok hi h1
  rw [← hc] at h3 hmap
  obtain ⟨ents, m2, m3, m4, m5⟩ := map_at hm hi.glob hi.heap hmap
  obtain ⟨l1, l2⟩ := m4.lists
  have hlen := RepE.length m4
  simp only [Rep, h3] at hv
  obtain ⟨_, rb, r1, r2⟩ := hv
  obtain ⟨b', q1, q2⟩ := obj_at hi.heap h3
  rw [r1] at q1; cases q1
  obtain ⟨s1, s2, s3⟩ := hs
  have r2' : a.eval x = .pointer (some ⟨rb, 0, none⟩) := r2
  rcases run_next_at (P := P) c.w o'.type rb bm es.length seen ents q2 m2 m3.1 with ⟨n1, n2⟩ | ⟨e, n1, n2, w1, n3, n4⟩
  · refine wp_val (u := .tuple #[.bool false]) (w' := c.w) (by rw [s2]; intro _ e; cases e) ?_ ?_
    · simp [execOp, s2, r2', n2]
    · rw [s1]
      exact hn (.tuple [.bool false]) c _ (.inl ⟨fun i hil => by
        have hil' : i < ents.toList.length := by omega
        have := n1 ents.toList[i] (List.getElem_mem hil')
        rwa [born_at m3 (List.getElem?_eq_getElem hil')] at this, rfl, hc⟩) hi.heap (by simp only [Rep]; exact ⟨[.bool false], RepL.mk_cons (rep_bool c false) RepL.mk_nil, rfl⟩) (Grow.refl c)
  · obtain ⟨i, hi'⟩ := List.getElem?_of_mem n1
    have hbi := born_at m3 hi'
    obtain ⟨y1, y2, y3⟩ := RepL.at l1 hi'
    obtain ⟨z1, z2, z3⟩ := RepL.at l2 hi'
    obtain ⟨p, hp, hp1, hp2⟩ : ∃ p, es[i]? = some p ∧ p.1 = y1 ∧ p.2 = z1 := by
      rw [List.getElem?_map] at y2 z2
      obtain ⟨p, hp, e1⟩ := Option.map_eq_some_iff.1 y2
      rw [hp] at z2
      exact ⟨p, hp, e1, by simpa using z2⟩
    subst hp1 hp2
    obtain ⟨c1, hc1, hg1, hh1⟩ : ∃ c1 : Cx, c1 = { c with w := w1 } ∧ Grow c c1 ∧ HeapOK c1 := by
      have := Cx.world hi.heap (w' := w1) (fun b _ => by rcases n3 with rfl | rfl <;> rfl) (by rcases n3 with rfl | rfl <;> exact Nat.le_refl _) (by rcases n3 with rfl | rfl <;> rfl) (by rcases n3 with rfl | rfl <;> rfl) (by rcases n3 with rfl | rfl <;> rfl)
      exact ⟨_, rfl, this.1, this.2⟩
    obtain ⟨c2, g1, g2, g3, g4⟩ := obj_turn (o := .mapIter (some bm) es.length seen es.length) (o' := .mapIter (some bm) es.length (seen.push e.born) es.length) hh1 (id := iid) (b := rb) (by rw [hc1]; exact h3) (by rw [hc1]; exact r1) rfl (fun _ _ _ e => by cases e) (fun _ e => by cases e)
    refine wp_val (u := .tuple #[.bool true, e.key, e.val]) (w' := w1.putObj rb (.mapIter (some bm) es.length (seen.push e.born) es.length)) (by rw [s2]; intro _ e; cases e) ?_ ?_
    · simp [execOp, s2, r2', n4]
    · rw [s1]
      have := hn (.tuple [.bool true, p.1, p.2]) c2 (.tuple #[.bool true, e.key, e.val]) (.inr ⟨i, p, hp, by rw [← hbi]; exact n2, rfl, by rw [g1, hc1, hbi]; show c.H.set _ _ = _; rw [hc]⟩) g4 (by
        simp only [Rep]
        exact ⟨[.bool true, e.key, e.val], RepL.mk_cons (rep_bool c2 true) (RepL.mk_cons (y3.grow (hg1.trans g3)) (RepL.mk_cons (z3.grow (hg1.trans g3)) RepL.mk_nil)), rfl⟩) (hg1.trans g3)
      rw [g2, hc1] at this
      exact this

theorem go_entryO {x : Operand} {iid id bm i n : Nat} {seen : Array Nat} {kd : Option IntKind} {es : List (SV × SV)} {p : SV × SV} (hm : MapHere G id bm kd) (h1 : ev G env x = some (.it iid)) (h3 : H[iid]? = some (.obj (.mapIter (some bm) es.length (seen.push i) es.length))) (hmap : H[id]? = some (.map kd es))
    (hp : es[i]? = some p) (hd : Nat.blt d nt = true)
    (hk : (Out P G T own nt ρ C rs R) (.ops all r :: k) .normal ((d, .tuple [p.1, p.2]) :: env) H) :
    (Out P G T own nt ρ C rs R) (.ops all (⟨some d, .entry x, ty, pos, after, none⟩ :: r) :: k) .normal env H := by
  refine OW.law (R0 := fun z H' => z = .tuple [p.1, p.2] ∧ H' = H) rfl rfl hd (fun hT c a o' hs hc hi hg next Q hn => ?_) (fun z H' hz => by obtain ⟨rfl, rfl⟩ := hz; exact hk)
  have hv := ev_ok hi h1
  rw [← hc] at h3 hmap
  obtain ⟨ents, m2, m3, m4, m5⟩ := map_at hm hi.glob hi.heap hmap
  obtain ⟨l1, l2⟩ := m4.lists
  have hlen := RepE.length m4
  simp only [Rep, h3] at hv
  obtain ⟨_, rb, r1, r2⟩ := hv
  obtain ⟨b', q1, q2⟩ := obj_at hi.heap h3
  rw [r1] at q1; cases q1
  obtain ⟨s1, s2, s3⟩ := hs
  have r2' : a.eval x = .pointer (some ⟨rb, 0, none⟩) := r2
  have hil : i < ents.toList.length := by rw [hlen]; exact (List.getElem?_eq_some_iff.1 hp).1
  have he : ents.toList[i]? = some ents.toList[i] := List.getElem?_eq_getElem hil
  generalize ents.toList[i] = e at he
  have hbi := born_at m3 he
  obtain ⟨y1, y2, y3⟩ := RepL.at l1 he
  obtain ⟨z1, z2, z3⟩ := RepL.at l2 he
  rw [List.getElem?_map, hp] at y2 z2
  simp only [Option.map_some, Option.some.injEq] at y2 z2
  subst y2 z2
  have q2' : c.w.heap[rb]? = some (.mapIter (some bm) es.length (seen.push e.born) es.length) := by rw [hbi]; exact q2
  refine wp_val (u := .tuple #[e.key, e.val]) (w' := c.w) (by rw [s2]; intro _ e; cases e) ?_ ?_
  · simp [execOp, s2, r2', run_entry_at (P := P) c.w rb bm es.length seen ents e q2' m2 (List.mem_of_getElem? he) m3.2.1]
  · rw [s1]
    exact hn (.tuple [p.1, p.2]) c _ ⟨rfl, hc⟩ hi.heap (by simp only [Rep]; exact ⟨[e.key, e.val], RepL.mk_cons y3 (RepL.mk_cons z3 RepL.mk_nil), rfl⟩) (Grow.refl c)
end
end Go.Proofs.YtihhngjoecgkpaaDoor
end

section
/- Weakenings between operations; a nil slice within a block of one's own taken for one of no elements. -/
namespace Go.Proofs.YtihhngjoecgkpaaDoor
open Go
set_option linter.unusedVariables false
set_option linter.unusedSimpArgs false

section
variable {P : Program} {G : Gl} {T : Tab} {own : List Nat} {nt B : Nat} {ρ : Option Nat} {C : Cx} {rs : List ResultVar} {R : SV → List Blk → Prop} {env env2 : Env} {H H2 : List Blk} {k : List It}
theorem go_wkO {all l : List Oper} (env2 : Env) (H2 : List Blk) (hw : Wk G nt C ⟨env, H⟩ ⟨env2, H2⟩) (h : (Out P G T own nt ρ C rs R) (.ops all l :: k) .normal env2 H2) : (Out P G T own nt ρ C rs R) (.ops all l :: k) .normal env H := by
  intro hT i c a hf hc hi hg
  obtain ⟨c', e1, e2, e3, e4⟩ := hw c a hc hi hg
  have := h hT i c' a hf e1 e3 e4
  rw [e2] at this
  exact this
theorem go_wkC {x : Code} (env2 : Env) (H2 : List Blk) (hw : Wk G nt C ⟨env, H⟩ ⟨env2, H2⟩) (h : (Out P G T own nt ρ C rs R) (.code x :: k) .normal env2 H2) : (Out P G T own nt ρ C rs R) (.code x :: k) .normal env H := by
  intro c a hc hi hg
  obtain ⟨c', e1, e2, e3, e4⟩ := hw c a hc hi hg
  have := h c' a e1 e3 e4
  rw [e2] at this
  exact this
theorem Wk.trans {s s2 s3 : St} (h1 : Wk G nt C s s2) (h2 : Wk G nt C s2 s3) : Wk G nt C s s3 := by
  intro c a hc hi hg
  obtain ⟨c', e1, e2, e3, e4⟩ := h1 c a hc hi hg
  obtain ⟨c'', f1, f2, f3, f4⟩ := h2 c' a e1 e3 e4
  exact ⟨c'', f1, f2.trans e2, f3, f4⟩

theorem wk_ghost {id g s i j : Nat} {vals fs : List SV} (sz : Nat) (hb : H[id]? = some (.cells g s vals)) (hk : vals[i]? = some (.agg fs)) (hj : fs[j]? = some .nil) :
    Wk G nt C ⟨env, H⟩ ⟨env, H.set id (.cells g s (vals.set i (.agg (fs.set j (.sl H.length 0 0 0))))) ++ [.cells 0 sz []]⟩ := by
  intro c a hc hi hg
  have hc : c.H = H := hc
  subst hc
  have hid : id < c.H.length := (List.getElem?_eq_some_iff.1 hb).1
  obtain ⟨g1, g2⟩ := Cx.fresh hi.heap (w' := c.w) c.w.heap.size (Nat.le_refl _) 0 none (.inl rfl) (.cells 0 sz []) (fun _ _ => rfl) (Nat.le_refl _) rfl rfl rfl (fun _ => .inl ⟨by simp, rfl⟩)
  generalize hc1 : (⟨fun i => if i = c.H.length then none else c.θ i, c.H ++ [.cells 0 sz []], c.w⟩ : Cx) = c1 at g1 g2
  have hH : c1.H = c.H ++ [.cells 0 sz []] := by rw [← hc1]
  have hw : c1.w = c.w := by rw [← hc1]
  have hb1 : c1.H[id]? = some (.cells g s vals) := by rw [hH, List.getElem?_append_left hid]; exact hb
  obtain ⟨t1, t2⟩ := Cx.turn g2 (w' := c1.w) hb1 rfl (B' := .cells g s (vals.set i (.agg (fs.set j (.sl c.H.length 0 0 0))))) (c1.θ id)
    ⟨g, _, rfl, Nat.le_refl _, fun _ => ⟨rfl, by simp⟩, fun b' o' h' => .inr ⟨o', h'⟩⟩ (fun _ _ _ => rfl) (Nat.le_refl _) rfl rfl rfl (fun b cs T fr h => ⟨cs, fr, h, rfl⟩)
    (fun hg => by
      rcases g2.blk id _ hb1 with ⟨h2, h3⟩ | ⟨b, o, cs, Ty, fr, vs, h2, h3, h4, h5, h6, h7⟩
      · rw [h3] at hk; simp at hk
      · refine .inr ⟨b, o, cs, Ty, fr, vs, by simp [h2], h3, h4, ?_, h6, h7⟩
        obtain ⟨u, u1, u2⟩ := h5.get hk
        have u0 := u2
        simp only [Rep] at u2
        obtain ⟨ws, w1, w2, w3⟩ := u2
        obtain ⟨z, z1, z2⟩ := w1.get hj
        simp only [Rep] at z2
        have h8 := h5.grow hg
        have h9 := w1.grow hg
        refine set_same u1 ▸ h8.set i (u := u) ?_
        simp only [Rep]
        refine ⟨ws, ?_, w2, w3⟩
        refine set_same z1 ▸ h9.set j (u := z) ?_
        simp only [Rep]
        have hne : ¬ c.H.length = id := by omega
        refine ⟨by rw [z2]; rfl, ?_⟩
        have hn : (c1.H.set id (.cells g s (vals.set i (.agg (fs.set j (.sl c.H.length 0 0 0))))))[c.H.length]? = some (.cells 0 sz []) := by
          rw [List.getElem?_set_ne (fun e => hne e.symm), hH]; simp
        rw [hn]
        exact .inr ⟨rfl, Nat.le_refl _, none, 0, z2, Nat.le_refl _, Nat.zero_le _, .inl ⟨rfl, .inr (Nat.le_refl _)⟩⟩)
  refine ⟨{ θ := fun i => if i = id then c1.θ id else c1.θ i, H := c1.H.set id (.cells g s (vals.set i (.agg (fs.set j (.sl c.H.length 0 0 0))))), w := c1.w }, ?_, hw, ⟨t2, hi.glob.grow (g1.trans t1), hi.size, fun t' x hx => (hi.env t' x hx).grow (g1.trans t1), hi.defs.grow (g1.trans t1)⟩, (hg.trans g1).trans t1⟩
  show c1.H.set id _ = _
  rw [hH, List.set_append_left _ _ hid]
theorem wk_ghostE {id g s i j : Nat} {vals fs : List SV} (sz : Nat) (hb : H[id]? = some (.cells g s vals)) (hk : vals[i]? = some (.agg fs)) (hj : fs[j]? = some .nil) (he : H.set id (.cells g s (vals.set i (.agg (fs.set j (.sl H.length 0 0 0))))) ++ [.cells 0 sz []] = H2) (hs : subEnv env2 env) : Wk G nt C ⟨env, H⟩ ⟨env2, H2⟩ := by
  subst he
  exact Wk.trans (wk_ghost sz hb hk hj) (Wk.sub hs)
end
end Go.Proofs.YtihhngjoecgkpaaDoor
end

section
/- From the reading of the arguments to abstract values; the step from a contract to a statement's row. -/
namespace Go.Proofs.YtihhngjoecgkpaaDoor
open Go Go.ChangeShapes Go.WideShapes Go.RowKit
set_option linter.unusedVariables false

def rdC (W : World) : Cx := ⟨fun _ => none, [], W⟩
theorem rdC_imm {W : World} {b : Nat} (h : b < W.heap.size) : (rdC W).imm b := ⟨h, fun ⟨_, _, _, ht⟩ => by cases ht⟩
theorem rdC_ok (W : World) : HeapOK (rdC W) := ⟨fun id B h => by simp [rdC] at h, fun i j b o o' _ _ h => by cases h⟩

section
variable {H : Type} {enc : TypeId × Value → H} {P : Program} {W : World} {sp : Nat → Bool}

def Good (W : World) (xs : List SV) (cs : List Value) : Prop := RepL (rdC W) xs cs ∧ ∀ v ∈ cs, v.oneCell' = true
def Rd (enc : TypeId × Value → H) (P : Program) (W : World) (sp : Nat → Bool) (n : Nat) (t : TypeId) {α : Type} (f : α → List SV) (wt : α → Nat) : Prop :=
  ∀ cs x, DataW.trod enc P W 0 sp true n t cs = some x → ∃ a : α, Good W (f a) cs ∧ cs.length = P.cellsOf t ∧ wt a ≤ Rows.uptoBulk x.1

theorem Good.nil : Good W [] [] := ⟨RepL.mk_nil, by simp⟩
theorem Good.append {xs ys : List SV} {cs ds : List Value} (h : Good W xs cs) (h' : Good W ys ds) : Good W (xs ++ ys) (cs ++ ds) :=
  ⟨h.1.append h'.1, fun v hv => (List.mem_append.1 hv).elim (h.2 v) (h'.2 v)⟩
theorem Good.cut {xs ys : List SV} {cs : List Value} {o k : Nat} (h : Good W xs ((cs.drop o).take k)) (h' : Good W ys (cs.drop (o + k))) : Good W (xs ++ ys) (cs.drop o) := by
  have := h.append h'
  rwa [← List.drop_drop, List.take_append_drop] at this
theorem Good.one {x : SV} {v : Value} (h : Rep (rdC W) x v) (hv : v.oneCell' = true) : Good W [x] [v] :=
  ⟨by simp only [RepL]; exact ⟨v, [], h, rfl, rfl⟩, by simpa using hv⟩

theorem wf_range {k : IntKind} {n : Int} (h : (Lit.int k n).wf = true) : k.min ≤ n ∧ n ≤ k.max := by
  simpa [Lit.wf] using h

theorem rd_int {n : Nat} {t : TypeId} {k : IntKind} (ht : P.underlying t = some (.int k)) (hc : P.cellsOf t = 1) : Rd enc P W sp n t (fun i : Int => [.int k i]) (fun _ => 1) := by
  intro cs x h
  obtain ⟨i, rfl, rfl, hw⟩ := DataW.trod_int ht h
  exact ⟨i, .one (by simp only [Rep]; exact ⟨trivial, wf_range hw⟩) rfl, by simp [hc], by simp [Rows.uptoBulk]⟩
theorem rd_bool {n : Nat} {t : TypeId} (ht : P.underlying t = some .bool) (hc : P.cellsOf t = 1) : Rd enc P W sp n t (fun b : Bool => [.bool b]) (fun _ => 1) := by
  intro cs x h
  obtain ⟨i, rfl, rfl⟩ := DataW.trod_bool ht h
  exact ⟨i, .one (by simp only [Rep]) rfl, by simp [hc], by simp [Rows.uptoBulk]⟩
theorem rd_str {n : Nat} {t : TypeId} (ht : P.underlying t = some .string) (hc : P.cellsOf t = 1) : Rd enc P W sp n t (fun s : Str => [.str s]) (fun s => s.length + 1) := by
  intro cs x h
  obtain ⟨i, rfl, rfl, hs⟩ := DataW.trod_string ht h
  exact ⟨i.data.toList, .one (by simp only [Rep]; exact ⟨trivial, by simpa using hs⟩) rfl, by simp [hc], by simp [Rows.uptoBulk]⟩

theorem cells_range {a : Addr} {n : Nat} {cs : List Value} (hn : 0 < n) (h : W.cells? 0 a n = some cs) : a.spot = none ∧ cs.length = n ∧ W.rangeAt a.block a.off cs ∧ a.block < W.heap.size := by
  obtain ⟨_, hl, hc⟩ := World.cells?_some h
  have h0 := hc 0 hn
  obtain ⟨c0, e0⟩ : ∃ c0, cs[0]? = some c0 := ⟨cs[0], by simp [hl, hn]⟩
  rw [e0] at h0
  have hs : a.spot = none := by simpa [Addr.add] using World.cell?_spot h0
  obtain ⟨b, o, s⟩ := a
  cases hs
  refine ⟨rfl, hl, fun j v hv => ?_, ?_⟩
  · have hj : j < n := by
      rcases Nat.lt_or_ge j n with h1 | h1
      · exact h1
      · rw [List.getElem?_eq_none (by omega)] at hv; cases hv
    have := hc j hj
    rwa [Addr.add_mid, hv] at this
  · have h1 : W.cell? ⟨b, o, none⟩ = some c0 := by simpa [Addr.add] using h0
    have : W.heap[b]? ≠ none := fun e => by simp [World.cell?, e] at h1
    simpa using this

def bx (b : Bool) (x : List SV) : SV := if b then .agg x else x.headD .nil
def bxv (b : Bool) (v : List Value) : Value := if b then .agg v.toArray else v.headD (.bool false)
theorem bx_rep {b : Bool} {xs : List SV} {cs : List Value} {n : Nat} (h : Good W xs cs) (hl : cs.length = n) (hb : b = true ∨ n = 1) : Rep (rdC W) (bx b xs) (bxv b cs) ∧ (bxv b cs).cells.toList = cs := by
  cases b with
  | true => exact ⟨by simp only [bx, bxv, Rep, if_true]; exact ⟨cs, h.1, h.2, rfl⟩, by simp [bxv, Value.cells]⟩
  | false =>
    have hn : n = 1 := by simpa using hb
    subst hn
    match cs, hl with
    | [v], _ =>
      obtain ⟨h1, h2⟩ := h
      match xs, h1 with
      | [], h1 => simp [RepL] at h1
      | x :: xs, h1 =>
        simp only [RepL] at h1
        obtain ⟨u, us, h3, _, h4⟩ := h1
        cases h4
        have hv : v.oneCell' = true := h2 v (by simp)
        exact ⟨h3, by cases v <;> simp_all [bxv, Value.cells, Value.oneCell']⟩

theorem slice_parts {α : Type} {e : TypeId} {b : Bool} {f : α → List SV} {wt : α → Nat} {n m : Nat} (hsz : P.cellsOf e = n) (hn : 0 < n) (hb : b = true ∨ n = 1) (he : Rd enc P W sp m e f wt) :
    ∀ (len : Nat) (blk off : Nat) (elems : List (DataW H × List MemPlace)), elems.length = len →
      (∀ i, i < len → (W.cells? 0 ⟨blk, off + i * n, none⟩ n).bind (DataW.trod enc P W 0 sp true m e) = elems[i]?) →
      ∃ (l : List α) (vs : List Value), l.length = len ∧ RepL (rdC W) (l.map fun x => bx b (f x)) vs ∧ (∀ u ∈ vs, u.cells.size = n ∧ okCells u) ∧ W.rangeAt blk off (cellsOf vs) ∧ (len = 0 ∨ blk < W.heap.size) ∧
        (l.map wt).sum ≤ Rows.uptoBulkAll (elems.map (·.1))
  | 0, blk, off, elems, hl, _ => by
    have : elems = [] := List.length_eq_zero_iff.1 hl
    subst this
    exact ⟨[], [], rfl, RepL.mk_nil, by simp, by intro j v hv; simp [cellsOf] at hv, .inl rfl, by simp⟩
  | len + 1, blk, off, [], hl, _ => by simp at hl
  | len + 1, blk, off, y :: elems, hl, hi => by
    have h0 := hi 0 (by omega)
    simp only [Nat.zero_mul, Nat.add_zero, List.getElem?_cons_zero, Option.bind_eq_some_iff] at h0
    obtain ⟨cs, hc, ht⟩ := h0
    obtain ⟨_, hlen, hr, hblk⟩ := cells_range hn hc
    obtain ⟨a, ha, _, hw⟩ := he cs y ht
    obtain ⟨l, vs, h1, h2, h3, h4, _, h5⟩ := slice_parts hsz hn hb he len blk (off + n) elems (by simpa using hl) (fun i hi' => by
      have := hi (i + 1) (by omega)
      rw [List.getElem?_cons_succ] at this
      rw [← this]
      have : off + n + i * n = off + (i + 1) * n := by rw [Nat.succ_mul]; omega
      rw [this])
    obtain ⟨h6, h7⟩ := bx_rep (b := b) ha hlen hb
    refine ⟨a :: l, bxv b cs :: vs, by simp [h1], ?_, ?_, ?_, .inr hblk, ?_⟩
    · simp only [List.map_cons, RepL]; exact ⟨_, _, h6, h2, rfl⟩
    · intro u hu
      rcases List.mem_cons.1 hu with rfl | hu
      · refine ⟨by rw [← Array.length_toList, h7, hlen], fun v hv => ?_⟩
        rw [h7] at hv
        exact ha.2 v hv
      · exact h3 u hu
    · have : cellsOf (bxv b cs :: vs) = cs ++ cellsOf vs := by simp [cellsOf, h7]
      rw [this]
      exact rangeAt_append hr (by rw [hlen]; exact h4)
    · simp only [List.map_cons, List.sum_cons, Rows.uptoBulkAll]; omega

theorem rd_slice {α : Type} {t e : TypeId} (b : Bool) {f : α → List SV} {wt : α → Nat} {n N : Nat} (ht : P.underlying t = some (.slice e)) (hc : P.cellsOf t = 1) (hsz : P.cellsOf e = n) (hn : 0 < n) (hb : b = true ∨ n = 1)
    (he : ∀ m, N = m + 1 → Rd enc P W sp m e f wt) : Rd enc P W sp N t (fun l : List α => [.list n (l.map fun x => bx b (f x))]) (fun l => 1 + (l.map wt).sum) := by
  intro cs x h
  rcases DataW.trod_slice ht h with ⟨rfl, rfl⟩ | ⟨a, len, cap, elems, rest, m, rfl, rfl, rfl, _, hlc, hcm, hel, hi, _⟩
  · exact ⟨[], .one (by simp only [Rep]; exact ⟨none, 0, rfl, Nat.le_refl _, Nat.zero_le _, .inl rfl⟩) rfl, by simp [hc], by simp [Rows.uptoBulk]⟩
  · rw [hsz] at hi
    rcases Nat.eq_zero_or_pos len with rfl | hpos
    · have : elems = [] := List.length_eq_zero_iff.1 hel
      subst this
      exact ⟨[], .one (by simp only [Rep]; exact ⟨some a, cap, rfl, Nat.zero_le _, hcm, .inl rfl⟩) rfl, by simp [hc], by simp [Rows.uptoBulk]⟩
    · have h0 := hi 0 hpos
      obtain ⟨y0, hy0⟩ : ∃ y, elems[0]? = some y := ⟨elems[0], by simp [hel, hpos]⟩
      rw [hy0, Option.bind_eq_some_iff] at h0
      obtain ⟨cs0, hc0, _⟩ := h0
      have hs : a.spot = none := by
        have := (cells_range hn hc0).1
        simpa [Addr.add] using this
      obtain ⟨blk, off, s⟩ := a
      cases hs
      obtain ⟨l, vs, h1, h2, h3, h4, h5, h6⟩ := slice_parts hsz hn hb (he m rfl) len blk off elems hel (fun i hi' => by
        have := hi i hi'
        rwa [Addr.add_mid] at this)
      refine ⟨l, .one ?_ rfl, by simp [hc], by simp only [Rows.uptoBulk]; omega⟩
      simp only [Rep]
      refine ⟨some ⟨blk, off, none⟩, cap, by simp [h1], by simpa [h1] using hlc, hcm, .inr ⟨blk, off, vs, rfl, h2, h3, h4, ?_⟩⟩
      rcases h5 with h5 | h5
      · omega
      · exact rdC_imm h5

theorem len_two {α : Type} : ∀ {xs : List α}, xs.length = 2 → ∃ z0 z1, xs = [z0, z1]
  | [z0, z1], _ => ⟨z0, z1, rfl⟩
theorem len_three {α : Type} : ∀ {xs : List α}, xs.length = 3 → ∃ z0 z1 z2, xs = [z0, z1, z2]
  | [z0, z1, z2], _ => ⟨z0, z1, z2, rfl⟩
theorem len_four {α : Type} : ∀ {xs : List α}, xs.length = 4 → ∃ z0 z1 z2 z3, xs = [z0, z1, z2, z3]
  | [z0, z1, z2, z3], _ => ⟨z0, z1, z2, z3, rfl⟩
theorem len_five {α : Type} : ∀ {xs : List α}, xs.length = 5 → ∃ z0 z1 z2 z3 z4, xs = [z0, z1, z2, z3, z4]
  | [z0, z1, z2, z3, z4], _ => ⟨z0, z1, z2, z3, z4, rfl⟩
theorem len_six {α : Type} : ∀ {xs : List α}, xs.length = 6 → ∃ z0 z1 z2 z3 z4 z5, xs = [z0, z1, z2, z3, z4, z5]
  | [z0, z1, z2, z3, z4, z5], _ => ⟨z0, z1, z2, z3, z4, z5, rfl⟩
theorem len_seven {α : Type} : ∀ {xs : List α}, xs.length = 7 → ∃ z0 z1 z2 z3 z4 z5 z6, xs = [z0, z1, z2, z3, z4, z5, z6]
  | [z0, z1, z2, z3, z4, z5, z6], _ => ⟨z0, z1, z2, z3, z4, z5, z6, rfl⟩
theorem len_eight {α : Type} : ∀ {xs : List α}, xs.length = 8 → ∃ z0 z1 z2 z3 z4 z5 z6 z7, xs = [z0, z1, z2, z3, z4, z5, z6, z7]
  | [z0, z1, z2, z3, z4, z5, z6, z7], _ => ⟨z0, z1, z2, z3, z4, z5, z6, z7, rfl⟩
/-- a struct's field -/
theorem field_of {cs : List Value} {xs : List (DataW H × List MemPlace)} {fs : Array Field} {n : Nat}
    (hf : ∀ (i : Nat) (f : Field), fs[i]? = some f → DataW.trod enc P W 0 sp true n f.type ((cs.drop f.offset).take (P.cellsOf f.type)) = xs[i]?) (i : Nat) {t : Nat} (o k : Nat)
    (h : (fs[i]?).map (fun f => (f.type, f.offset)) = some (t, o)) (hk : P.cellsOf t = k) {α : Type} {g : α → List SV} {wt : α → Nat} (hr : Rd enc P W sp n t g wt) (hl : i < xs.length) :
    ∃ (y : DataW H × List MemPlace) (a : α), xs[i]? = some y ∧ Good W (g a) ((cs.drop o).take k) ∧ wt a ≤ Rows.uptoBulk y.1 := by
  cases hi : fs[i]? with
  | none => rw [hi] at h; cases h
  | some f =>
    rw [hi] at h
    simp only [Option.map_some, Option.some.injEq, Prod.mk.injEq] at h
    obtain ⟨rfl, rfl⟩ := h
    subst hk
    have hy : xs[i]? = some xs[i] := by simp [hl]
    obtain ⟨a, h1, _, h2⟩ := hr _ _ ((hf i f hi).trans hy)
    exact ⟨_, a, hy, h1, h2⟩
end

theorem sum_wt {α : Type} (f : List α → Nat) (g : α → Nat) (h0 : f [] = 0) (h1 : ∀ x l, f (x :: l) = g x + f l) : ∀ l, f l = (l.map g).sum
  | [] => by simp [h0]
  | x :: l => by rw [h1, sum_wt f g h0 h1 l]; simp
theorem strsWt_sum (l : List Str) : strsWt l = (l.map fun s => s.length + 1).sum := sum_wt strsWt _ (by simp [strsWt]) (fun x l => by simp only [strsWt]; omega) l
theorem exsWt_sum (l : List Ex) : exsWt l = (l.map Ex.wt).sum := sum_wt exsWt _ (by simp [exsWt]) (fun x l => by simp only [exsWt]) l
theorem bdsWt_sum (l : List Bd) : bdsWt l = (l.map Bd.wt).sum := sum_wt bdsWt _ (by simp [bdsWt]) (fun x l => by simp only [bdsWt]) l
theorem alsWt_sum (l : List Al) : alsWt l = (l.map Al.wt).sum := sum_wt alsWt _ (by simp [alsWt]) (fun x l => by simp only [alsWt]) l

theorem okWide_array {P : Program} {w : World} {r : Reach} {base : Nat} {t : TypeId} {v : Value} {n : Nat} {e : TypeId} (ht : P.underlying t = some (.array n e)) (h : Value.okWide P w r base t v) : ∃ cs, v = .agg cs ∧ cs.size = P.cellsOf t := by
  simp only [Value.okWide, ht] at h
  obtain ⟨cs, h1, h2, _⟩ := h
  exact ⟨cs, h1, h2⟩

/-! ### behind the call -/
theorem Grow.below {W W' : World} {c' : Cx} (h : Grow (rdC W) c') (e : c'.w = W') : Below W.heap.size W W' := by
  subst e
  exact ⟨h.os, h.tape, h.output, h.size, fun k hk => h.old k hk (rdC_imm hk).2⟩


section
variable {H : Type} {enc : TypeId × Value → H} {P : Program} {W W' : World}
theorem trodAll_stays (hl : laidOutB P = true) (hb : Below W.heap.size W W') {sp : Nat → Bool} : ∀ {ts : List TypeId} {vs : List Value} {ds : List (DataW H)} {ps : List MemPlace},
    (∀ t ∈ ts, P.readableRec t = true ∧ t < P.types.size) → DataW.TrodAll enc P W 0 (fun _ => true) true ts vs ds ps → (∀ p ∈ ps, p.block < W.heap.size) → (∀ p ∈ ps, sp p.block = true) →
    DataW.TrodAll enc P W' 0 sp true ts vs ds ps
  | [], vs, ds, ps, _, h, _, _ => by
    obtain ⟨rfl, rfl, rfl⟩ := trodAll_nil h
    exact trodAll_mk0
  | t :: ts, vs, ds, ps, hr, h, hlt, hs => by
    obtain ⟨v, vs', d, ds', p, q, rfl, rfl, rfl, h1, h2⟩ := trodAll_cons h
    refine trodAll_cons_mk (WideElems.Trod_stays hl (hr t (by simp)).1 (hr t (by simp)).2 h1 (fun x hx => hb.same (hlt x (by simp [hx]))) (fun x hx => hs x (by simp [hx]))) ?_
    exact trodAll_stays hl hb (fun t ht => hr t (by simp [ht])) h2 (fun x hx => hlt x (by simp [hx])) (fun x hx => hs x (by simp [hx]))

/-- A law that is true, and leaves what it reads as it was. -/
theorem law_post (hl : laidOutB P = true) {f : Func} {s : ChangeSpec} (hsv : s.vars = []) {args : Array Value} {ds gs : List (DataW H)} {before : List MemPlace}
    (hW : DataW.Whole enc P f.params.toList s.vars false W args.toList ds gs before) (hr : ∀ t ∈ f.params.toList, P.readableRec t = true ∧ t < P.types.size)
    {tb : TypeId} (hrt : f.resultTypes = #[tb]) (htb : P.underlying tb = some .bool) (h1 : (s.fn H (ds ++ gs)).results = [.lit (.bool true)]) (h2 : (s.fn H (ds ++ gs)).args = ds) (h3 : (s.fn H (ds ++ gs)).vars = [])
    (hb : Below W.heap.size W W') : s.post enc P f false true false false W args (.bool true) W' := by
  have hW0 := hW
  obtain ⟨p, q, hA, hV, rfl, _, _⟩ := hW
  rw [hsv] at hV
  obtain ⟨rfl, rfl⟩ := trodVars_none hV
  have hlt : ∀ x ∈ p, x.block < W.heap.size := fun x hx => hW0.lt x (by simp [hx])
  refine ⟨ds, [], p ++ [], [], p, [], hW0, ?_, ?_, ?_, ?_, fun h => by cases h⟩
  · rw [hrt, h1]
    exact trodAll_cons_mk (p' := []) (shut_bool htb true) trodAll_mk0
  · rw [h2]
    exact trodAll_stays hl hb hr hA hlt (fun x hx => by simpa using hlt x hx)
  · rw [hsv, h3]; rfl
  · exact World.keptBut_mono (fun x hx => ⟨hx, .inr (.inl (by simpa using hx))⟩) (hb.frame (· ∈ p ++ []))

theorem law_calls {f : FuncId} {args : List SV} {vs : List Value} (h : ACall P ⟨[], none⟩ f args [] (fun r H' => H' = [] ∧ r = .bool true)) (hv : RepL (rdC W) args vs) {R : World → Prop} (hR : ∀ W', Below W.heap.size W W' → R W') :
    Calls P f vs.toArray W fun e W' => ∃ v, e = .returned v ∧ v = .bool true ∧ R W' := by
  refine (callsIn_wide (n := 0)).1 ((h.2 (rdC W) vs rfl (rdC_ok W) ⟨by simp, fun _ h => by cases h⟩ hv).mono ?_)
  rintro e w' ⟨v, x, c', rfl, hw, ⟨_, rfl⟩, _, hx, hg⟩
  simp only [Rep] at hx
  exact ⟨v, rfl, hx, hR _ (Grow.below hg hw)⟩
end
theorem gclosed0 : GClosed ⟨[], none⟩ := by
  intro p hp; cases hp

end Go.Proofs.YtihhngjoecgkpaaDoor
end

section
/-
  slices.Sort at []int in this seat's translation: the shelf's contract laid in plain words (numbers by names; printed by mkshelf.py).
-/
namespace Go.Proofs
open Go.Shelf
def Tryd.lays189_ren : Go.Shelf.Ren := ⟨fun | 189 => 63 | 125 => 76 | 257 => 75 | 128 => 94 | 129 => 95 | 294 => 85 | 295 => 86 | 296 => 87 | 297 => 88 | 298 => 89 | 299 => 90 | 216 => 91 | 300 => 92 | 301 => 93 | 328 => 97 | 329 => 98 | 330 => 99 | 331 => 100 | 332 => 101 | 215 => 102 | 343 => 103 | n => n, fun | 28 => 41 | 3 => 3 | 46 => 98 | 0 => 0 | 51 => 131 | 53 => 97 | 4 => 4 | 183 => 124 | 182 => 123 | 131 => 128 | 5 => 5 | 9 => 9 | 218 => 134 | 222 => 138 | 228 => 140 | 229 => 141 | n => n, fun | n => n⟩
theorem Tryd.lays189 : Go.Proofs.Lays.n189 Tryd.prog Tryd.lays189_ren := {
  mixed := by kernel_rfl
  f125 := Tryd.func76.trans (congrArg some (by kernel_rfl))
  f128 := Tryd.func94.trans (congrArg some (by kernel_rfl))
  f129 := Tryd.func95.trans (congrArg some (by kernel_rfl))
  f189 := Tryd.func63.trans (congrArg some (by kernel_rfl))
  f215 := Tryd.func102.trans (congrArg some (by kernel_rfl))
  f216 := Tryd.func91.trans (congrArg some (by kernel_rfl))
  f257 := Tryd.func75.trans (congrArg some (by kernel_rfl))
  f294 := Tryd.func85.trans (congrArg some (by kernel_rfl))
  f295 := Tryd.func86.trans (congrArg some (by kernel_rfl))
  f296 := Tryd.func87.trans (congrArg some (by kernel_rfl))
  f297 := Tryd.func88.trans (congrArg some (by kernel_rfl))
  f298 := Tryd.func89.trans (congrArg some (by kernel_rfl))
  f299 := Tryd.func90.trans (congrArg some (by kernel_rfl))
  f300 := Tryd.func92.trans (congrArg some (by kernel_rfl))
  f301 := Tryd.func93.trans (congrArg some (by kernel_rfl))
  f328 := Tryd.func97.trans (congrArg some (by kernel_rfl))
  f329 := Tryd.func98.trans (congrArg some (by kernel_rfl))
  f330 := Tryd.func99.trans (congrArg some (by kernel_rfl))
  f331 := Tryd.func100.trans (congrArg some (by kernel_rfl))
  f332 := Tryd.func101.trans (congrArg some (by kernel_rfl))
  f343 := Tryd.func103.trans (congrArg some (by kernel_rfl))
  t0 := Tryd.underlying0
  a0 := Tryd.isAgg0
  z0 := Tryd.sizeOf0
  v0 := Tryd.zeroValue0
  t3 := Tryd.underlying3
  a3 := Tryd.isAgg3
  z3 := Tryd.sizeOf3
  v3 := Tryd.zeroValue3
  t4 := Tryd.underlying4
  a4 := Tryd.isAgg4
  z4 := Tryd.sizeOf4
  v4 := Tryd.zeroValue4
  t5 := Tryd.underlying5
  a5 := Tryd.isAgg5
  z5 := Tryd.sizeOf5
  v5 := Tryd.zeroValue5
  t9 := Tryd.underlying9
  a9 := Tryd.isAgg9
  z9 := Tryd.sizeOf9
  v9 := Tryd.zeroValue9
  t28 := Tryd.underlying41
  a28 := Tryd.isAgg41
  z28 := Tryd.sizeOf41
  v28 := Tryd.zeroValue41
  t46 := Tryd.underlying98
  a46 := Tryd.isAgg98
  z46 := Tryd.sizeOf98
  v46 := Tryd.zeroValue98
  t51 := Tryd.underlying131
  a51 := Tryd.isAgg131
  z51 := Tryd.sizeOf131
  v51 := Tryd.zeroValue131
  t53 := Tryd.underlying97
  a53 := Tryd.isAgg97
  z53 := Tryd.sizeOf97
  v53 := Tryd.zeroValue97
  t131 := Tryd.underlying128
  a131 := Tryd.isAgg128
  z131 := Tryd.sizeOf128
  v131 := Tryd.zeroValue128
  t182 := Tryd.underlying123
  a182 := Tryd.isAgg123
  z182 := Tryd.sizeOf123
  v182 := Tryd.zeroValue123
  t183 := Tryd.underlying124
  a183 := Tryd.isAgg124
  z183 := Tryd.sizeOf124
  v183 := Tryd.zeroValue124
  t218 := Tryd.underlying134
  a218 := Tryd.isAgg134
  z218 := Tryd.sizeOf134
  v218 := Tryd.zeroValue134
  t222 := Tryd.underlying138
  a222 := Tryd.isAgg138
  z222 := Tryd.sizeOf138
  v222 := Tryd.zeroValue138
  t228 := Tryd.underlying140
  a228 := Tryd.isAgg140
  z228 := Tryd.sizeOf140
  v228 := Tryd.zeroValue140
  t229 := Tryd.underlying141
  a229 := Tryd.isAgg141
  z229 := Tryd.sizeOf141
  v229 := Tryd.zeroValue141 }
open Go.Sort Go.RowKit in
theorem Tryd.slices_Sort_int (blk off cap : Nat) (zs : List Int) (w : World) (hH : Holds (Value.int .i64) w blk off zs.toArray) (hblk : blk < w.heap.size) (hsz : zs.length < 4611686018427387904) :
    Calls Tryd.prog 63 #[.slice (some ⟨blk, off, none⟩) zs.length cap] w fun e w' =>
      e = .returned (.tuple #[]) ∧ ∃ n os, w' = grow (putRow (Value.int .i64) (Sort.ahead w n) blk off (zs.mergeSort fun x y => decide (x ≤ y)).toArray) os := Any.slices_Sort_int Tryd.lays189 blk off cap zs w hH hblk hsz
open Go.RowKit Go.Sort in
theorem Tryd.slices_Sort_int_none (p : Option Addr) (cap : Nat) (w : World) :
    Calls Tryd.prog 63 #[.slice p 0 cap] w fun e w' => e = .returned (.tuple #[]) ∧ w' = w := Any.slices_Sort_int_none Tryd.lays189 p cap w
end Go.Proofs
end

section
namespace Go.Proofs.YtihhngjoecgkpaaDoor
open Go
set_option linter.unusedSimpArgs false
set_option linter.unusedVariables false
set_option maxRecDepth 10000
set_option maxHeartbeats 4000000

/-! ### which fields operations have -/
def fieldsL : List Int := [0, 9, 3, 7, 7, 7, 7, 7, 7, 7, 7, 9, 25, 25, 11, 3, 19, 82, 66, 66, 11, 106, 42, 72, 1, 2, 64]
abbrev fieldsV : SV := .agg (fieldsL.map (.int .i64))
/-- the variable that is laid -/
def GF (G : Gl) : Prop := look G.l 0 = some fieldsV
def ofS (op : Int) : Int := if op < 1 ∨ 27 ≤ op then 0 else fieldsL.getD op.toNat 0
theorem GF.ev {G : Gl} (h : GF G) : ∀ env : Env, ev G env (.global 0) = some (.pto (.agg (fieldsL.map (.int .i64)))) := fun env => by simp only [Go.Proofs.YtihhngjoecgkpaaDoor.ev, show look G.l 0 = some fieldsV from h]
/-- is the bit n (a power of two) in what an operation has? -/
def bitOf (n : Nat) (op : Int) : Bool := (ofS op).toNat / n % 2 == 1
def b2 (b : Bool) (n : Int) : Int := if b then n else 0
theorem ofS_mem (op : Int) : ofS op ∈ (0 :: fieldsL) := by
  unfold ofS
  split
  · exact List.mem_cons_self ..
  · rename_i h
    have h2 : op.toNat < fieldsL.length := by show _ < 27; omega
    rw [List.getD_eq_getElem?_getD, List.getElem?_eq_getElem h2]
    exact List.mem_cons_of_mem _ (List.getElem_mem h2)
theorem and_bit (op : Int) : bitsI .and .i64 (ofS op) 1 = some (b2 (bitOf 1 op) 1) ∧ bitsI .and .i64 (ofS op) 2 = some (b2 (bitOf 2 op) 2) ∧ bitsI .and .i64 (ofS op) 4 = some (b2 (bitOf 4 op) 4) ∧ bitsI .and .i64 (ofS op) 8 = some (b2 (bitOf 8 op) 8) ∧ bitsI .and .i64 (ofS op) 16 = some (b2 (bitOf 16 op) 16) ∧ bitsI .and .i64 (ofS op) 32 = some (b2 (bitOf 32 op) 32) ∧ bitsI .and .i64 (ofS op) 64 = some (b2 (bitOf 64 op) 64) := by
  have h := ofS_mem op
  simp only [bitOf]
  generalize ofS op = v at h
  revert v
  decide
theorem b2_zero (b : Bool) : decide (b2 b 1 = 0) = !b ∧ decide (b2 b 2 = 0) = !b ∧ decide (b2 b 4 = 0) = !b ∧ decide (b2 b 8 = 0) = !b ∧ decide (b2 b 16 = 0) = !b ∧ decide (b2 b 32 = 0) = !b ∧ decide (b2 b 64 = 0) = !b := by cases b <;> decide
theorem b2_iff (b : Bool) : (b2 b 1 = 0) = (b = false) ∧ (b2 b 2 = 0) = (b = false) ∧ (b2 b 4 = 0) = (b = false) ∧ (b2 b 8 = 0) = (b = false) ∧ (b2 b 16 = 0) = (b = false) ∧ (b2 b 32 = 0) = (b = false) ∧ (b2 b 64 = 0) = (b = false) := by cases b <;> simp [b2]
theorem bitX : (∀ op, bitsI .and .i64 (ofS op) 1 = some (b2 (bitOf 1 op) 1) ∧ bitsI .and .i64 (ofS op) 2 = some (b2 (bitOf 2 op) 2) ∧ bitsI .and .i64 (ofS op) 4 = some (b2 (bitOf 4 op) 4) ∧ bitsI .and .i64 (ofS op) 8 = some (b2 (bitOf 8 op) 8) ∧ bitsI .and .i64 (ofS op) 16 = some (b2 (bitOf 16 op) 16) ∧ bitsI .and .i64 (ofS op) 32 = some (b2 (bitOf 32 op) 32) ∧ bitsI .and .i64 (ofS op) 64 = some (b2 (bitOf 64 op) 64)) ∧
    (∀ b, decide (b2 b 1 = 0) = !b ∧ decide (b2 b 2 = 0) = !b ∧ decide (b2 b 4 = 0) = !b ∧ decide (b2 b 8 = 0) = !b ∧ decide (b2 b 16 = 0) = !b ∧ decide (b2 b 32 = 0) = !b ∧ decide (b2 b 64 = 0) = !b) ∧ (∀ b : Bool, (!!b) = b) := ⟨and_bit, b2_zero, Bool.not_not⟩

theorem of_ok (G : Gl) (hG : GClosed G) (hF : GF G) (op : Int) (H : List Blk) : ACall Tryd.prog G 62 [.int .i64 op] H (fun r H' => H' = H ∧ r = .int .i64 (ofS op)) := by
  refine ACall.of_go TB [] tabOK _ Tryd.func62 rfl (by decide) Tryd.ntmps62 (by simp) rfl (by simp only [initEnv, Nat.reduceAdd]; rfl) fun C R' hR hC hcl hB => ?_; have X := noX; have hC' := congrArg List.length hC
  have hE : look G.l 0 = some (.agg (fieldsL.map (.int .i64))) := hF
  have X := And.intro X hE
  (refine run ?_; repeat' (first | with_reducible exact trivial | ((with_reducible apply Fork.mk) <;> intro hb) | with_reducible apply Two.mk))
  · refine Fin.out hR ⟨rfl, ?_⟩
    simp only [resSV]
    simp only [Bool.or_eq_true, decide_eq_true_eq] at hb
    rw [ofS, if_pos hb]
  · simp only [Bool.or_eq_false_iff, decide_eq_false_iff_not] at hb
    have h2 : op.toNat < fieldsL.length := by show _ < 27; omega
    have h3 : fieldsL[op.toNat]? = some (ofS op) := by
      rw [ofS, if_neg (by omega), List.getD_eq_getElem?_getD, List.getElem?_eq_getElem h2]; rfl
    have X := And.intro X (And.intro h3 (And.intro Nat.mul_one (show (0 ≤ op) = True from by simp; omega)))
    have h4 : op < 27 := by omega
    (refine run ?_; repeat' (first | with_reducible exact trivial | ((with_reducible apply Fork.mk) <;> intro hb) | with_reducible apply Two.mk))
    exact Fin.out hR ⟨rfl, rfl⟩

end Go.Proofs.YtihhngjoecgkpaaDoor
end

section
namespace Go.Proofs.YtihhngjoecgkpaaDoor
open Go
set_option linter.unusedSimpArgs false
set_option linter.unusedVariables false
set_option maxRecDepth 10000
set_option maxHeartbeats 4000000

/-! ### instructions -/
structure Ins where
  op : Int
  a : Int
  b : Int
  c : Int
  n : Int
  l : List Int
  deriving Inhabited
abbrev ints (l : List Int) : SV := .list 1 (l.map (.int .i64))
theorem ints_under (n : Nat) (l : List Int) : SV.underL n (l.map (.int .i64)) = true := under_mint id l
def Ins.cells (i : Ins) : List SV := [.int .i64 i.op, .int .i64 i.a, .int .i64 i.b, .int .i64 i.c, .int .i64 i.n, .list 1 (i.l.map (.int .i64))]
abbrev Ins.sv (i : Ins) : SV := .agg i.cells

/-- which slot is written -/
def wrS (i : Ins) : Int := if bitOf 1 i.op = false ∨ i.op = 14 then -1 else i.a
/-- which are read -/
def rdS (i : Ins) : List Int := (if i.op = 14 then [i.a] else []) ++ (if bitOf 2 i.op then [i.b] else []) ++ (if bitOf 4 i.op then [i.c] else []) ++ (if bitOf 16 i.op then i.l else [])

theorem writes_ok (G : Gl) (hG : GClosed G) (hF : GF G) (i : Ins) (H : List Blk) : ACall Tryd.prog G 20 [.agg i.cells] H (fun r H' => H' = H ∧ r = .int .i64 (wrS i)) := by
  obtain ⟨op, a, b, c, n, l⟩ := i
  simp only [Ins.cells]
  refine ACall.of_go TB [] tabOK _ Tryd.func20 rfl (by decide) Tryd.ntmps20 (by simp) rfl (by simp only [initEnv, Nat.reduceAdd]; rfl) fun C R' hR hC hcl hB => ?_; have X := noX; have hC' := congrArg List.length hC
  have X := And.intro X bitX
  have c1 := fun H => of_ok G hG hF op H
  (refine run ?_; repeat' (first | with_reducible exact trivial | ((with_reducible apply Fork.mk) <;> intro hb) | with_reducible apply Two.mk))
  · refine finS hR hC' hcl (y := .int .i64 (-1)) (.same _ rfl) ⟨rfl, ?_⟩
    simp only [Bool.or_eq_true, Bool.not_eq_true', decide_eq_true_eq] at hb
    simp only [wrS]
    rw [if_pos hb]
  · refine finS hR hC' hcl (y := .int .i64 a) (.same _ rfl) ⟨rfl, ?_⟩
    simp only [Bool.or_eq_false_iff, Bool.not_eq_false', decide_eq_false_iff_not] at hb
    simp only [wrS]
    rw [if_neg (by simp [hb.1, hb.2])]

theorem reads_ok (G : Gl) (hG : GClosed G) (hF : GF G) (i : Ins) (hl : i.l.length ≤ 4294967296) (H : List Blk) : ACall Tryd.prog G 19 [.agg i.cells] H (fun r H' => H' = H ∧ r = .list 1 ((rdS i).map (.int .i64))) := by
  obtain ⟨op, a, b, c, n, l⟩ := i
  simp only [Ins.cells]
  simp only at hl
  refine ACall.of_go TB [3] tabOK _ Tryd.func19 rfl (by decide) Tryd.ntmps19 (by simp) rfl (by simp only [initEnv, Nat.reduceAdd]; rfl) fun C R' hR hC hcl hB => ?_; have X := noX; have hC' := congrArg List.length hC
  have X := And.intro X bitX
  have c1 := fun H => of_ok G hG hF op H
  (refine run ?_; repeat' (first | with_reducible exact trivial | ((with_reducible apply Fork.mk) <;> intro hb) | with_reducible apply Two.mk))
  all_goals
    simp only [b2_iff, Bool.not_eq_false] at *
    refine finS hR hC' hcl (y := .list 1 ((rdS ⟨op, a, b, c, n, l⟩).map (.int .i64))) ?_ ⟨rfl, rfl⟩
    clear hR hC hC' hcl hB X c1 hG hF
    simp_all only [rdS, if_true, if_false, Bool.false_eq_true, List.nil_append, List.append_nil, List.cons_append, List.map_append, List.map_cons, List.map_nil]
    first
      | exact .nil 1
      | exact .sf (by exact hbS) (by simp) (by simp) (by simp [List.take_of_length_le, Nat.add_comm]) (by first | exact ints_under _ _ | simp only [SV.underL, SV.under, ints_under, Bool.and_self])
end Go.Proofs.YtihhngjoecgkpaaDoor
end

section
namespace Go.Proofs.YtihhngjoecgkpaaDoor
open Go
set_option linter.unusedSimpArgs false
set_option linter.unusedVariables false
set_option maxRecDepth 10000
set_option maxHeartbeats 4000000

/-! ### numbers, rising, once each -/
def sortI (l : List Int) : List Int := l.mergeSort fun x y => decide (x ≤ y)
theorem sortI_perm (l : List Int) : (sortI l).Perm l := List.mergeSort_perm l _
theorem sortI_len (l : List Int) : (sortI l).length = l.length := (sortI_perm l).length_eq
theorem sort_ints (G : Gl) (id g : Nat) (l : List Int) (H : List Blk) (hH : H[id]? = some (.cells g 1 (l.map (.int .i64)))) (hl : l.length < 4611686018427387904) :
    ACall Tryd.prog G 63 [.sl id g 0 l.length] H (fun r H' => H' = H.set id (.cells g 1 ((sortI l).map (.int .i64))) ∧ r = .tuple []) :=
  ACall.of_sort (.int .i64) (.int .i64) _ (fun c x v => rep_int_iff .i64 c x v) (fun _ => rfl) (fun x y => decide (x ≤ y)) ⟨_, Tryd.func63, by decide, rfl⟩
    (fun blk off cap zs w h1 h2 h3 => Tryd.slices_Sort_int blk off cap zs w h1 h2 h3) (fun p cap w => Tryd.slices_Sort_int_none p cap w) id g l H hH hl

def compT : Int → List Int → List Int
  | _, [] => []
  | p, y :: r => if y = p then compT y r else y :: compT y r
def compS : List Int → List Int
  | [] => []
  | x :: r => x :: compT x r
def lastI : Int → List Int → Int
  | x, [] => x
  | _, z :: r => lastI z r
theorem compT_snoc : ∀ (r : List Int) (x y : Int), compT x (r ++ [y]) = compT x r ++ (if y = lastI x r then [] else [y])
  | [], x, y => by simp only [List.nil_append, compT, lastI]; by_cases h2 : y = x <;> simp [h2]
  | z :: r, x, y => by
    simp only [List.cons_append, compT, compT_snoc r z y, lastI]
    by_cases h : z = x <;> by_cases h2 : y = lastI z r <;> simp [h, h2]
theorem lastI_get : ∀ (r : List Int) (x : Int) (h : r.length < (x :: r).length), lastI x r = (x :: r)[r.length]
  | [], x, _ => rfl
  | z :: r, x, h => by simp only [lastI, List.length_cons, List.getElem_cons_succ]; exact lastI_get r z (by simp)
theorem comp_take (l : List Int) (m : Nat) (h0 : 0 < m) (h : m < l.length) : compS (l.take (m + 1)) = compS (l.take m) ++ (if l[m] = l[m - 1]'(by omega) then [] else [l[m]]) := by
  rw [List.take_succ_eq_append_getElem h]
  cases hl : l.take m with
  | nil => have := congrArg List.length hl; rw [List.length_take, List.length_nil] at this; omega
  | cons x r =>
    simp only [List.cons_append, compS, compT_snoc]
    have hlen : r.length + 1 = m := by have := congrArg List.length hl; simp at this; omega
    have : lastI x r = l[m - 1]'(by omega) := by
      rw [lastI_get r x (by simp)]
      have e : (l.take m)[m - 1]'(by simp; omega) = l[m - 1]'(by omega) := by simp
      rw [← e]
      simp only [hl]
      congr 1; omega
    rw [this]
theorem compT_len : ∀ (r : List Int) (x : Int), (compT x r).length ≤ r.length
  | [], x => by simp [compT]
  | z :: r, x => by
    simp only [compT]
    have := compT_len r z
    split <;> simp <;> omega
theorem compS_len (l : List Int) : (compS l).length ≤ l.length := by
  cases l with
  | nil => simp [compS]
  | cons x r => have := compT_len r x; simp [compS]; omega

theorem compact_ok (G : Gl) (hG : GClosed G) (id g : Nat) (l : List Int) (H : List Blk) (hH : H[id]? = some (.cells g 1 (l.map (.int .i64)))) (hl : l.length < 4294967296) :
    ACall Tryd.prog G 64 [.sl id g 0 l.length] H (fun r H' => ∃ V : List Int, V.length = l.length ∧ V.take (compS l).length = compS l ∧ H' = H.set id (.cells g 1 (V.map (.int .i64))) ∧ r = .sl id g 0 (compS l).length) := by
  have hid : id < H.length := (List.getElem?_eq_some_iff.1 hH).1
  have hset : H.set id (.cells g 1 (l.map (.int .i64))) = H := set_self hH
  refine ACall.of_go TB [] tabOK _ Tryd.func64 rfl (by decide) Tryd.ntmps64 (by simp) rfl (by simp only [initEnv, Nat.reduceAdd]; rfl) fun C R' hR hC hcl hB => ?_; have X := noX; have hC' := congrArg List.length hC
  have X := And.intro X hH
  (refine run ?_; repeat' (first | with_reducible exact trivial | ((with_reducible apply Fork.mk) <;> intro hb) | with_reducible apply Two.mk))
  · have : compS l = l := by
      match l, (show l.length < 2 by omega) with
      | [], _ => rfl
      | [x], _ => rfl
    exact Fin.out hR ⟨l, rfl, by rw [this, List.take_length], hset.symm, by rw [this]; rfl⟩
  · refine go_loop (fun a : Nat => [(0, .sl id g 0 l.length), (3, .int .i64 a)]) (fun _ => H) (fun a => l.length - a) (fun a => 1 ≤ a ∧ a ≤ l.length ∧ compS (l.take a) = l.take a) 1 ⟨Nat.le_refl _, by omega, ?_⟩ (Wk.sub (by simp [subEnv, look])) ?_
    · cases l with
      | nil => simp at hb
      | cons x r => rfl
    rintro K k ⟨hk1, hk2, hk3⟩ hK
    rcases Nat.lt_or_ge k l.length with hlt | hge
    · have e1 : l[k]? = some l[k] := List.getElem?_eq_getElem hlt
      have e2 : l[k - 1]? = some l[k - 1] := List.getElem?_eq_getElem (by omega)
      have e3 : ((k : Int) - 1).toNat = k - 1 := by omega
      have X := And.intro X (And.intro e1 (And.intro e2 e3))
      have ct := comp_take l k hk1 hlt
      (refine run ?_; repeat' (first | with_reducible exact trivial | ((with_reducible apply Fork.mk) <;> intro hb) | with_reducible apply Two.mk))
      · rw [if_pos hb, List.append_nil, hk3] at ct
        refine go_loop (fun a : Nat × Nat × List Int => [(0, .sl id g 0 l.length), (4, .sl id g k (l.length - k)), (3, .int .i64 a.2.1), (5, .int .i64 a.1)]) (fun a => H.set id (.cells g 1 (a.2.2.map (.int .i64)))) (fun a => l.length - a.1)
          (fun a => 1 ≤ a.1 ∧ k + a.1 ≤ l.length ∧ a.2.1 = (compS (l.take (k + a.1))).length ∧ a.2.1 < k + a.1 ∧ a.2.2.length = l.length ∧ a.2.2.take a.2.1 = compS (l.take (k + a.1)) ∧ ∀ j, a.2.1 ≤ j → a.2.2[j]? = l[j]?) (1, k, l)
          ⟨Nat.le_refl _, by omega, by rw [ct]; simp; omega, by simp, rfl, by rw [ct], fun j _ => rfl⟩ (by rw [hset]; exact Wk.sub (by simp [subEnv, look])) ?_
        clear hK
        rintro K2 ⟨k2, m, V⟩ ⟨i1, i2, i3, i4, i5, i6, i7⟩ hK
        dsimp only at i1 i2 i3 i4 i5 i6 i7 ⊢
        rcases Nat.lt_or_ge (k + k2) l.length with hlt2 | hge2
        · have q1 : V[k + k2]? = some l[k + k2] := by rw [i7 _ (by omega)]; exact List.getElem?_eq_getElem hlt2
          have q2 : V[k + (k2 - 1)]? = some l[k + k2 - 1] := by rw [i7 _ (by omega), List.getElem?_eq_getElem (by omega)]; congr 2; omega
          have q3 : ((k2 : Int) - 1).toNat = k2 - 1 := by omega
          have ct2 := comp_take l (k + k2) (by omega) hlt2
          have X := And.intro X (And.intro q1 (And.intro q2 q3))
          (refine run ?_; repeat' (first | with_reducible exact trivial | ((with_reducible apply Fork.mk) <;> intro hb) | with_reducible apply Two.mk))
          · rw [if_neg hb] at ct2
            rw [show (V.map (SV.int .i64)).set m (.int .i64 l[k + k2]) = (V.set m l[k + k2]).map (.int .i64) from by rw [List.map_set]]
            refine hK _ _ (k2 + 1, m + 1, V.set m l[k + k2]) (by simp only; omega) ⟨by simp, by simp only; omega, ?_, by simp only; omega, by simp [i5], ?_, fun j hj => ?_⟩ (Wk.sub (by simp [subEnv, look]))
            · simp only; rw [← Nat.add_assoc, ct2, List.length_append, ← i3]; rfl
            · simp only
              rw [← Nat.add_assoc, ct2, ← i6, List.take_succ_eq_append_getElem (by simp; omega), List.take_set_of_le (Nat.le_refl _), List.getElem_set_self]
            · simp only at hj ⊢
              rw [List.getElem?_set_ne (by omega)]
              exact i7 j (by omega)
          · rw [if_pos (by simpa using hb), List.append_nil] at ct2
            refine hK _ _ (k2 + 1, m, V) (by simp only; omega) ⟨by simp, by simp only; omega, ?_, by simp only; omega, i5, ?_, i7⟩ (Wk.sub (by simp [subEnv, look]))
            · simp only; rw [← Nat.add_assoc, ct2, ← i3]
            · simp only; rw [← Nat.add_assoc, ct2, i6]
        · have hk2 : k2 = l.length - k := by omega
          have hkl : k + k2 = l.length := by omega
          rw [hkl, List.take_length] at i3 i6
          subst i3
          clear hK
          have hcl2 := compS_len l
          (refine run ?_; repeat' (first | with_reducible exact trivial | ((with_reducible apply Fork.mk) <;> intro hb) | with_reducible apply Two.mk))
          refine Fin.out hR ⟨compS l ++ List.replicate (l.length - (compS l).length) 0, by simp; omega, by simp, ?_, by simp only [resSV, Nat.sub_zero]⟩
          congr 2
          rw [← List.map_take, i6, List.map_append, List.map_replicate, List.drop_of_length_le (by simp; omega), List.append_nil]
      · refine hK _ _ (k + 1) (by omega) ⟨by omega, by omega, ?_⟩ (Wk.sub (by simp [subEnv, look]))
        rw [ct, if_neg hb, hk3, List.take_succ_eq_append_getElem hlt]
    · have : k = l.length := by omega
      subst this
      rw [List.take_length] at hk3
      (refine run ?_; repeat' (first | with_reducible exact trivial | ((with_reducible apply Fork.mk) <;> intro hb) | with_reducible apply Two.mk))
      exact Fin.out hR ⟨l, rfl, by rw [hk3, List.take_length], hset.symm, by rw [hk3]; rfl⟩

/-- which instructions may follow -/
def nxL (i : Ins) (at_ : Int) : List Int := (if bitOf 64 i.op then [] else [at_ + 1]) ++ (if i.op = 23 ∨ i.op = 21 then [i.n] else []) ++ (if bitOf 32 i.op then i.l.filter fun n => decide (0 ≤ n) else [])
def nxS (i : Ins) (at_ : Int) : List Int := compS (sortI (nxL i at_))

theorem next_ok (G : Gl) (hG : GClosed G) (hF : GF G) (i : Ins) (at_ : Int) (hl : i.l.length ≤ 1073741824) (ha : 0 ≤ at_ ∧ at_ < 1099511627776) (H : List Blk) : ACall Tryd.prog G 18 [.agg i.cells, .int .i64 at_] H (fun r H' => H' = H ∧ r = .list 1 ((nxS i at_).map (.int .i64))) := by
  obtain ⟨op, a, b, c, n, l⟩ := i
  simp only [Ins.cells]
  simp only at hl
  refine ACall.of_go TB [5] tabOK _ Tryd.func18 rfl (by decide) Tryd.ntmps18 (by simp) rfl (by simp only [initEnv, Nat.reduceAdd]; rfl) fun C R' hR hC hcl hB => ?_; have X := noX; have hC' := congrArg List.length hC
  have X := And.intro X bitX
  have c1 := fun H => of_ok G hG hF op H
  have h12 : ∀ M : List Int, M = (if bitOf 64 op then ([] : List Int) else [at_ + 1]) ++ (if op = 23 ∨ op = 21 then [n] else ([] : List Int)) → M.length ≤ 2 := fun M h => by subst h; split <;> split <;> simp
  (refine runC ?_; repeat' (first | with_reducible exact trivial | ((with_reducible apply Fork.mk) <;> intro hb) | with_reducible apply Two.mk))
  refine go_cut (fun _ : Unit => [(2, .ptr H.length 0 0 0), (1, .int .i64 at_), (6, .int .i64 (ofS op)), (5, .sl (H.length + 1) 0 0 ((if bitOf 64 op then ([] : List Int) else [at_ + 1])).length)]) (fun _ => H ++ [.cells 0 6 [.agg [.int .i64 op, .int .i64 a, .int .i64 b, .int .i64 c, .int .i64 n, .list 1 (l.map (.int .i64))]], .cells 0 1 (((if bitOf 64 op then ([] : List Int) else [at_ + 1])).map (.int .i64))]) (fun _ => True) (fun K hK => ?_) (fun _ _ => ?_)
  · (refine run ?_; repeat' (first | with_reducible exact trivial | ((with_reducible apply Fork.mk) <;> intro hb) | with_reducible apply Two.mk))
    · refine hK _ _ () trivial ?_
      rw [if_neg (by simpa using hb), List.length_singleton]
      exact wkS (n0 := H.length) [(H.length, 0), (H.length + 1, 0)] hG hB hC' hcl
    · refine hK _ _ () trivial ?_
      rw [if_pos (by simpa using hb), List.length_nil]
      exact wkS (n0 := H.length) [(H.length, 0), (H.length + 1, 0)] hG hB hC' hcl
  generalize hM : (if bitOf 64 op then ([] : List Int) else [at_ + 1]) = M1
  have hM1 : M1.length ≤ 1 := by subst hM; split <;> simp
  (refine runC ?_; repeat' (first | with_reducible exact trivial | ((with_reducible apply Fork.mk) <;> intro hb) | with_reducible apply Two.mk))
  refine go_cut (fun _ : Unit => [(2, .ptr H.length 0 0 0), (6, .int .i64 (ofS op)), (5, .sl (H.length + 1) 0 0 (M1 ++ (if op = 23 ∨ op = 21 then [n] else ([] : List Int))).length)]) (fun _ => H ++ [.cells 0 6 [.agg [.int .i64 op, .int .i64 a, .int .i64 b, .int .i64 c, .int .i64 n, .list 1 (l.map (.int .i64))]], .cells 0 1 ((M1 ++ (if op = 23 ∨ op = 21 then [n] else ([] : List Int))).map (.int .i64))]) (fun _ => True) (fun K hK => ?_) (fun _ _ => ?_)
  · (refine run ?_; repeat' (first | with_reducible exact trivial | ((with_reducible apply Fork.mk) <;> intro hb) | with_reducible apply Two.mk))
    · refine hK _ _ () trivial ?_
      rw [if_pos (by simpa using hb), List.length_append, List.map_append, List.length_singleton]
      exact wkS (n0 := H.length) [(H.length, 0), (H.length + 1, 0)] hG hB hC' hcl
    · refine hK _ _ () trivial ?_
      rw [if_neg (by simpa using hb), List.append_nil]
      exact wkS (n0 := H.length) [(H.length, 0), (H.length + 1, 0)] hG hB hC' hcl
  generalize hM' : M1 ++ (if op = 23 ∨ op = 21 then [n] else ([] : List Int)) = M2
  have hM2 : M2.length ≤ 2 := h12 M2 (by rw [hM, hM'])
  (refine runC ?_; repeat' (first | with_reducible exact trivial | ((with_reducible apply Fork.mk) <;> intro hb) | with_reducible apply Two.mk))
  refine go_cut (fun _ : Unit => [(5, .sl (H.length + 1) 0 0 (M2 ++ (if bitOf 32 op then l.filter (fun n => decide (0 ≤ n)) else ([] : List Int))).length)]) (fun _ => H ++ [.cells 0 6 [.agg [.int .i64 op, .int .i64 a, .int .i64 b, .int .i64 c, .int .i64 n, .list 1 (l.map (.int .i64))]], .cells 0 1 ((M2 ++ (if bitOf 32 op then l.filter (fun n => decide (0 ≤ n)) else ([] : List Int))).map (.int .i64))]) (fun _ => True) (fun K hK => ?_) (fun _ _ => ?_)
  · (refine run ?_; repeat' (first | with_reducible exact trivial | ((with_reducible apply Fork.mk) <;> intro hb) | with_reducible apply Two.mk))
    · have hh : bitOf 32 op = true := by
        simpa [b2_iff] using hb
      simp only [hh, if_true] at hK ⊢
      refine go_loop (fun k : Nat => [(37, .list 1 (l.map (.int .i64))), (38, .int .i64 l.length), (39, .int .i64 k), (5, .sl (H.length + 1) 0 0 (M2 ++ (l.take k).filter (fun n => decide (0 ≤ n))).length)])
        (fun k => H ++ [.cells 0 6 [.agg [.int .i64 op, .int .i64 a, .int .i64 b, .int .i64 c, .int .i64 n, .list 1 (l.map (.int .i64))]], .cells 0 1 ((M2 ++ (l.take k).filter (fun n => decide (0 ≤ n))).map (.int .i64))]) (fun k => l.length - k) (fun k => k ≤ l.length) 0 (Nat.zero_le _) ?_ ?_
      · simp only [List.take_zero, List.filter_nil, List.append_nil]
        exact wkS (n0 := H.length) [(H.length, 0), (H.length + 1, 0)] hG hB hC' hcl
      rintro K2 k hk hK2
      rcases Nat.lt_or_ge k l.length with hlt | hge
      · have ht := List.take_succ_eq_append_getElem hlt
        have hfl : (M2 ++ (l.take k).filter (fun n => decide (0 ≤ n))).length ≤ 2 + k := by
          have := List.length_filter_le (fun n => decide ((0 : Int) ≤ n)) (l.take k)
          rw [List.length_take] at this
          rw [List.length_append]; omega
        have hnext : M2 ++ (l.take (k + 1)).filter (fun n => decide (0 ≤ n)) = M2 ++ (l.take k).filter (fun n => decide (0 ≤ n)) ++ [l[k]].filter (fun n => decide (0 ≤ n)) := by rw [ht, List.filter_append, List.append_assoc]
        generalize hFk : M2 ++ (l.take k).filter (fun n => decide (0 ≤ n)) = F at hfl hnext ⊢
        (refine run ?_; repeat' (first | with_reducible exact trivial | ((with_reducible apply Fork.mk) <;> intro hb) | with_reducible apply Two.mk))
        · refine hK2 _ _ (k + 1) (by omega) (by omega) ?_
          rw [hnext, List.filter_cons_of_pos (by simpa using hb), List.filter_nil, List.length_append, List.map_append, List.length_singleton]
          exact wkS (n0 := H.length) [(H.length, 0), (H.length + 1, 0)] hG hB hC' hcl
        · refine hK2 _ _ (k + 1) (by omega) (by omega) ?_
          rw [hnext, List.filter_cons_of_neg (by simpa using hb), List.filter_nil, List.append_nil]
          exact wkS (n0 := H.length) [(H.length, 0), (H.length + 1, 0)] hG hB hC' hcl
      · have : k = l.length := by omega
        subst this
        simp only [List.take_length]
        clear hK2
        (refine run ?_; repeat' (first | with_reducible exact trivial | ((with_reducible apply Fork.mk) <;> intro hb) | with_reducible apply Two.mk))
        refine hK _ _ () trivial ?_
        exact wkS (n0 := H.length) [(H.length, 0), (H.length + 1, 0)] hG hB hC' hcl
    · refine hK _ _ () trivial ?_
      have hh : bitOf 32 op = false := by
        simpa [b2_iff] using hb
      rw [hh, if_neg (by simp), List.append_nil]
      exact wkS (n0 := H.length) [(H.length, 0), (H.length + 1, 0)] hG hB hC' hcl
  have e : nxL ⟨op, a, b, c, n, l⟩ at_ = M2 ++ (if bitOf 32 op then l.filter (fun n => decide (0 ≤ n)) else ([] : List Int)) := by rw [← hM', ← hM]; rfl
  have hlen3 : (M2 ++ (if bitOf 32 op then l.filter (fun n => decide (0 ≤ n)) else ([] : List Int))).length ≤ 2 + l.length := by
    rw [List.length_append]
    split
    · have := List.length_filter_le (fun n => decide ((0 : Int) ≤ n)) l; omega
    · simp; omega
  rw [← e] at hlen3 ⊢
  generalize hnx : nxL ⟨op, a, b, c, n, l⟩ at_ = M at hlen3 ⊢
  (refine run ?_; repeat' (first | with_reducible exact trivial | ((with_reducible apply Fork.mk) <;> intro hb) | with_reducible apply Two.mk))
  refine callS (sort_ints G (H.length + 1) 0 M _ (by simp) (by omega)) ?_
  rintro r H' ⟨rfl, rfl⟩
  simp only [set_app, List.set_cons_succ, List.set_cons_zero]
  have hsl := sortI_len M
  (refine run ?_; repeat' (first | with_reducible exact trivial | ((with_reducible apply Fork.mk) <;> intro hb) | with_reducible apply Two.mk))
  rw [← hsl]
  refine callS (compact_ok G hG (H.length + 1) 0 (sortI M) _ (by simp) (by omega)) ?_
  rintro r H' ⟨V, hV1, hV2, rfl, rfl⟩
  simp only [set_app, List.set_cons_succ, List.set_cons_zero]
  have hcl2 := compS_len (sortI M)
  (refine run ?_; repeat' (first | with_reducible exact trivial | ((with_reducible apply Fork.mk) <;> intro hb) | with_reducible apply Two.mk))
  refine finS hR hC' hcl (y := .list 1 ((nxS ⟨op, a, b, c, n, l⟩ at_).map (.int .i64))) (.sf (by exact hbS) (by simp) (by simp) ?_ (ints_under _ _)) ⟨rfl, rfl⟩
  rw [List.drop_zero, ← List.map_take, hV2, nxS, hnx]
end Go.Proofs.YtihhngjoecgkpaaDoor
end

section
namespace Go.Proofs.YtihhngjoecgkpaaDoor
open Go
set_option linter.unusedSimpArgs false
set_option linter.unusedVariables false
set_option maxRecDepth 10000
set_option maxHeartbeats 4000000

/-! ### functions -/
structure Fun where
  name : Str
  thunk : Bool
  upd : Bool
  free : Int
  params : Int
  frame : Int
  code : List Ins
def insL (l : List Ins) : List SV := l.map fun i => .agg i.cells
theorem insL_len (l : List Ins) : (insL l).length = l.length := by simp [insL]
theorem insL_get (l : List Ins) (i : Nat) : (insL l)[i]? = l[i]?.map fun i => .agg i.cells := by simp [insL]
theorem Ins.cells_len (i : Ins) : i.cells.length = 6 := rfl
theorem Ins.cells_under (n : Nat) (i : Ins) : SV.underL n i.cells = true := by
  simp only [Ins.cells, SV.underL, SV.under, ints_under, Bool.and_self]
theorem insL_under (n : Nat) (l : List Ins) : SV.underL n (insL l) = true := SV.underL_map fun i _ => Ins.cells_under n i
attribute [go_sem] insL_len insL_get Ins.cells_len
def Fun.cells (f : Fun) : List SV := [.str f.name, .bool f.thunk, .bool f.upd, .int .i64 f.free, .int .i64 f.params, .int .i64 f.frame, .list 6 (insL f.code)]
theorem Fun.cells_under (n : Nat) (f : Fun) : SV.underL n f.cells = true := by
  simp only [Fun.cells, SV.underL, SV.under, insL_under, Bool.and_self]
theorem getX {Q : List Blk} {id : Nat} {x : Blk} (h : Q[id]? = some x) : (∀ L, (Q ++ L)[id]? = some x) ∧ Q[id]? = some x :=
  ⟨fun L => (List.getElem?_append_left (List.getElem?_eq_some_iff.1 h).1).trans h, h⟩
theorem get_set_ne {Q : List Blk} {id id2 : Nat} {x y : Blk} (h : Q[id]? = some x) (hne : id2 ≠ id) : (Q.set id2 y)[id]? = some x := by rw [List.getElem?_set_ne hne]; exact h
theorem get_app_left {Q L : List Blk} {id : Nat} {x : Blk} (h : Q[id]? = some x) : (Q ++ L)[id]? = some x := (getX h).1 L

theorem bit64 (op : Int) : bitOf 64 op = (decide (op = 17) || decide (op = 18) || decide (op = 19) || decide (op = 21) || decide (op = 23) || decide (op = 26)) := by
  by_cases h : op < 1 ∨ 27 ≤ op
  · have : ofS op = 0 := by unfold ofS; rw [if_pos h]
    simp only [bitOf, this]
    have e : ∀ k : Int, 1 ≤ k → k < 27 → decide (op = k) = false := fun k h1 h2 => by rw [decide_eq_false_iff_not]; omega
    simp only [e 17 (by decide) (by decide), e 18 (by decide) (by decide), e 19 (by decide) (by decide), e 21 (by decide) (by decide), e 23 (by decide) (by decide), e 26 (by decide) (by decide)]
    rfl
  · have hk : ∀ k : _root_.Fin 27, bitOf 64 (k.val : Int) = (decide ((k.val : Int) = 17) || decide ((k.val : Int) = 18) || decide ((k.val : Int) = 19) || decide ((k.val : Int) = 21) || decide ((k.val : Int) = 23) || decide ((k.val : Int) = 26)) := by decide
    have := hk ⟨op.toNat, by omega⟩
    rw [show ((⟨op.toNat, by omega⟩ : _root_.Fin 27).val : Int) = op by simp; omega] at this
    exact this
theorem bit32 (op : Int) : bitOf 32 op = (decide (op = 21) || decide (op = 22)) := by
  by_cases h : op < 1 ∨ 27 ≤ op
  · have : ofS op = 0 := by unfold ofS; rw [if_pos h]
    simp only [bitOf, this]
    have e : ∀ k : Int, 1 ≤ k → k < 27 → decide (op = k) = false := fun k h1 h2 => by rw [decide_eq_false_iff_not]; omega
    simp only [e 21 (by decide) (by decide), e 22 (by decide) (by decide)]
    rfl
  · have hk : ∀ k : _root_.Fin 27, bitOf 32 (k.val : Int) = (decide ((k.val : Int) = 21) || decide ((k.val : Int) = 22)) := by decide
    have := hk ⟨op.toNat, by omega⟩
    rw [show ((⟨op.toNat, by omega⟩ : _root_.Fin 27).val : Int) = op by simp; omega] at this
    exact this
end Go.Proofs.YtihhngjoecgkpaaDoor
end

section
namespace Go.Proofs.YtihhngjoecgkpaaDoor
open Go
set_option linter.unusedSimpArgs false
set_option linter.unusedVariables false
set_option maxRecDepth 10000
set_option maxHeartbeats 4000000

theorem sortI_pair (l : List Int) : (sortI l).Pairwise (fun a b => a ≤ b) := by
  have tr : ∀ a b c : Int, decide (a ≤ b) = true → decide (b ≤ c) = true → decide (a ≤ c) = true := fun a b c h1 h2 => by simp only [decide_eq_true_eq] at *; omega
  have to : ∀ a b : Int, (decide (a ≤ b) || decide (b ≤ a)) = true := fun a b => by simp only [Bool.or_eq_true, decide_eq_true_eq]; omega
  have h := List.pairwise_mergeSort tr to l
  simpa [sortI] using h
theorem compT_mem : ∀ (r : List Int) (p x : Int), x ∈ p :: compT p r ↔ x ∈ p :: r
  | [], p, x => Iff.rfl
  | y :: r, p, x => by
    have ih := compT_mem r y x
    simp only [compT]
    by_cases h : y = p
    · subst h
      rw [if_pos rfl, ih]
      simp
    · rw [if_neg h, List.mem_cons, ih]
      simp
theorem compS_mem (l : List Int) (x : Int) : x ∈ compS l ↔ x ∈ l := by
  cases l with
  | nil => exact Iff.rfl
  | cons p r => exact compT_mem r p x
theorem compT_lt : ∀ (r : List Int) (p : Int), (p :: r).Pairwise (fun a b => a ≤ b) → (p :: compT p r).Pairwise (fun a b => a < b)
  | [], p, _ => by simp [compT]
  | y :: r, p, h => by
    rw [List.pairwise_cons] at h
    have ih := compT_lt r y h.2
    simp only [compT]
    by_cases e : y = p
    · subst e; rw [if_pos rfl]; exact ih
    · rw [if_neg e, List.pairwise_cons]
      refine ⟨fun z hz => ?_, ih⟩
      have h1 := h.1 y (List.mem_cons_self ..)
      have h2 : y ≤ z := by
        rcases List.mem_cons.1 hz with rfl | hz'
        · exact Int.le_refl _
        · exact Int.le_of_lt ((List.pairwise_cons.1 ih).1 z hz')
      omega
theorem compS_lt {l : List Int} (h : l.Pairwise (fun a b => a ≤ b)) : (compS l).Pairwise (fun a b => a < b) := by
  cases l with
  | nil => exact List.Pairwise.nil
  | cons p r => exact compT_lt r p h
theorem nxS_lt (i : Ins) (at_ : Int) : (nxS i at_).Pairwise (fun a b => a < b) := compS_lt (sortI_pair _)
theorem nxS_mem (i : Ins) (at_ x : Int) : x ∈ nxS i at_ ↔ x ∈ nxL i at_ := by rw [nxS, compS_mem]; exact (sortI_perm _).mem_iff
theorem lt_nodup {l : List Int} (h : l.Pairwise (fun a b => a < b)) : l.Nodup := by
  rw [List.nodup_iff_pairwise_ne]
  exact h.imp_of_mem fun {a b} _ _ hab => by omega
end Go.Proofs.YtihhngjoecgkpaaDoor
end
