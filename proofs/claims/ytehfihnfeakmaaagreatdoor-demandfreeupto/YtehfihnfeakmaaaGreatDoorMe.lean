/- A part of the proof: SwI, SwJ, SwL, SwM, SwK, SwN, SwO, SwP, SwQ, Shelf, Sh2. -/
import Derived.Test.YtehfihnfeakmaaaGreatDoorMd
import Derived.Sort.Grow
import Derived.Laws.IdiomRangeMap
import Derived.Test.YtehfihnfeakmaaaGreatDoorRows
import Derived.WalkKit
import Derived.ProofKit
import Derived.OpenShut
import Derived.JoinedCond
import Derived.Carry
import Derived.ChangeMaps5
import Derived.ChangeSame
import Derived.Shelf.Sort.Plain
import Derived.Shelf.Slices.In.SortNone
import Derived.Test.YtehfihnfeakmaaaGreatDoorProg
import Derived.Shelf.Strconv.AtoiErr
import Derived.Shelf.SlMaps.Clone

section
/- A sort by a contract of the shelf, told of abstract heaps. -/
namespace Go.Proofs.YtehfihnfeakmaaaGreatDoor
open Go
set_option linter.unusedVariables false
set_option linter.unusedSimpArgs false

theorem RepL.all {c : Cx} {α : Type} {sv : α → SV} {enc : α → Value} {ok : α → Prop} (hrep : ∀ (c : Cx) x v, Rep c (sv x) v ↔ (v = enc x ∧ ok x)) : ∀ {zs : List α} {vs : List Value}, RepL c (zs.map sv) vs ↔ (vs = zs.map enc ∧ ∀ x ∈ zs, ok x)
  | [], vs => by simp [RepL]
  | x :: zs, vs => by
    rw [List.map_cons, RepL.cons_iff]
    constructor
    · rintro ⟨u, us, h1, h2, rfl⟩
      obtain ⟨rfl, h3⟩ := (hrep c x u).1 h1
      obtain ⟨rfl, h4⟩ := (RepL.all hrep).1 h2
      exact ⟨rfl, fun y hy => by rcases List.mem_cons.1 hy with rfl | hy; exact h3; exact h4 y hy⟩
    · rintro ⟨rfl, h⟩
      exact ⟨_, _, (hrep c x _).2 ⟨rfl, h x (List.mem_cons_self ..)⟩, (RepL.all hrep).2 ⟨rfl, fun y hy => h y (List.mem_cons_of_mem _ hy)⟩, rfl⟩

theorem cellsOf_ones : ∀ {vs : List Value}, (∀ v ∈ vs, v.oneCell' = true) → cellsOf vs = vs
  | [], _ => rfl
  | v :: vs, h => by rw [cellsOf_cons, cells_one (h v (List.mem_cons_self ..)), cellsOf_ones (fun u hu => h u (List.mem_cons_of_mem _ hu))]; rfl

section
variable {P : Program} {G : Gl} {α : Type} [Inhabited α]
open Go.Sort

theorem ACall.of_sort (enc : α → Value) (sv : α → SV) (ok : α → Prop) (hrep : ∀ (c : Cx) x v, Rep c (sv x) v ↔ (v = enc x ∧ ok x)) (hone : ∀ x, (enc x).oneCell' = true) (le : α → α → Bool) {f : FuncId}
    (hf : ∃ fn, P.funcs[f]? = some fn ∧ (fn.name == "runtime.NumGoroutine") = false ∧ fn.body.isNone = false)
    (hc : ∀ (blk off cap : Nat) (zs : List α) (w : World), Holds enc w blk off zs.toArray → blk < w.heap.size → zs.length < 4611686018427387904 → Calls P f #[.slice (some ⟨blk, off, none⟩) zs.length cap] w fun e w' =>
      e = .returned (.tuple #[]) ∧ ∃ n os, w' = grow (putRow enc (Sort.ahead w n) blk off (zs.mergeSort le).toArray) os)
    (h0 : ∀ (p : Option Addr) (cap : Nat) (w : World), Calls P f #[.slice p 0 cap] w fun e w' => e = .returned (.tuple #[]) ∧ w' = w)
    (id g : Nat) (zs : List α) (H : List Blk) (hH : H[id]? = some (.cells g 1 (zs.map sv))) (hl : zs.length < 4611686018427387904) :
    ACall P G f [.sl id g 0 zs.length] H (fun r H' => H' = H.set id (.cells g 1 ((zs.mergeSort le).map sv)) ∧ r = .tuple []) := by
  refine ⟨hf, fun c vs e1 hh hG hv => ?_⟩
  obtain ⟨v, us, hv1, hv2, rfl⟩ := RepL.cons_iff.1 hv
  rw [RepL.nil_iff.1 hv2]
  have hB : c.H[id]? = some (.cells g 1 (zs.map sv)) := by rw [e1]; exact hH
  simp only [Rep, hB] at hv1
  have hperm := List.mergeSort_perm zs le
  have hlen : (zs.mergeSort le).length = zs.length := hperm.length_eq
  refine (callsIn_wide (n := 0)).2 ?_
  rcases hv1.2 with h | ⟨_, h1, a, cap, rfl, h2, h3, h4⟩
  · omega
  by_cases hz : zs = []
  · subst hz
    refine (h0 a cap c.w).mono ?_
    rintro e w' ⟨rfl, rfl⟩
    refine ⟨_, .tuple [], c, rfl, rfl, ⟨?_, rfl⟩, hh, by simp only [Rep]; exact ⟨[], RepL.mk_nil, rfl⟩, Grow.refl c⟩
    rw [e1]
    obtain ⟨hlt, he⟩ := List.getElem?_eq_some_iff.1 hH
    have : (List.mergeSort ([] : List α) le).map sv = [] := by simp
    rw [this]
    conv => lhs; rw [← List.set_getElem_self hlt]
    rw [he]; rfl
  have hpos : 0 < zs.length := List.length_pos_iff.2 hz
  rcases h4 with h4 | ⟨b, o, cs, Ty, fr, h4, h5, h6, h7⟩
  · omega
  rcases hh.blk id _ hB with ⟨h8, _⟩ | ⟨b', o', cs', Ty', fr', vs', h8, h9, h10, h11, h12, h13⟩
  · rw [h4] at h8; cases h8
  rw [h4] at h8; cases h8
  rw [h6] at h9; cases h9
  obtain ⟨rfl, hok⟩ := (RepL.all hrep).1 h11
  have hall1 : ∀ l : List α, ∀ v ∈ l.map enc, v.oneCell' = true := fun l v hv => by obtain ⟨x, _, rfl⟩ := List.mem_map.1 hv; exact hone x
  rw [cellsOf_ones (hall1 zs)] at h13
  have hblk : b < c.w.heap.size := (Array.getElem?_eq_some_iff.1 h6).1
  have hsz : o + zs.length ≤ cs.size := by
    have := rangeAt_size h6 h13 (by simpa using hpos)
    simpa using this
  have hthere : c.w.there b o zs.length := rangeAt_there h6 h10 hsz
  have hholds : Holds enc c.w b o zs.toArray := fun j hj => by
    have hj' : j < zs.length := by simpa using hj
    refine ⟨?_, (hthere j hj').2⟩
    have := h13 j (enc zs[j]) (by simp [hj'])
    rw [this]
    simp [hj']
  rw [show a = some ⟨b, o, none⟩ by rw [h5]; simp]
  refine (hc b o cap zs c.w hholds hblk hl).mono ?_
  rintro e w' ⟨rfl, n, os, rfl⟩
  have hother : ∀ k, k < c.w.heap.size → k ≠ b → (grow (putRow enc (Sort.ahead c.w n) b o (zs.mergeSort le).toArray) os).heap[k]? = c.w.heap[k]? := fun k hk hne => by
    rw [heap_grow_old _ _ (by simpa using hk)]
    show (Array.modify c.w.heap b _)[k]? = _
    rw [Array.getElem?_modify, if_neg (fun e => hne e.symm)]
  have hat : (grow (putRow enc (Sort.ahead c.w n) b o (zs.mergeSort le).toArray) os).heap[b]? = some (.cells (putCells enc o (zs.mergeSort le).toArray cs) Ty fr) := by
    rw [heap_grow_old _ _ (by simpa using hblk)]
    show (Array.modify c.w.heap b _)[b]? = _
    rw [Array.getElem?_modify, if_pos rfl, h6]
    rfl
  have hcsz : (putCells enc o (zs.mergeSort le).toArray cs).size = cs.size := by simp [putCells]
  obtain ⟨t1, t2⟩ := Cx.turn hh (w' := grow (putRow enc (Sort.ahead c.w n) b o (zs.mergeSort le).toArray) os) hB rfl (B' := .cells g 1 ((zs.mergeSort le).map sv)) (c.θ id)
    ⟨g, _, rfl, Nat.le_refl _, fun _ => ⟨rfl, by simp [hlen]⟩, fun b' o' h' => .inr ⟨o', h'⟩⟩
    (fun k hk hno => hother k hk fun e => hno o (by rw [h4, e])) (by simp) rfl rfl rfl
    (fun b' cs0 T0 fr0 hb' => by
      by_cases e : b' = b
      · subst e
        rw [h6] at hb'; cases hb'
        exact ⟨_, fr, hat, hcsz⟩
      · exact ⟨cs0, fr0, by rw [hother b' (Array.getElem?_eq_some_iff.1 hb').1 e]; exact hb', rfl⟩)
    (fun hg => .inr ⟨b, o, _, Ty, fr, (zs.mergeSort le).map enc, by simp [h4], hat, by unfold noFreeze; rw [hcsz]; exact h10,
      (RepL.all hrep).2 ⟨rfl, fun x hx => hok x (hperm.mem_iff.1 hx)⟩, fun u hu => by
        have := hall1 _ u hu
        exact ⟨by rw [cells_one this]; rfl, okCells_one this⟩, by
        rw [cellsOf_ones (hall1 _)]
        intro j v hj
        rw [cell_at hat]
        obtain ⟨hj', hje⟩ := List.getElem?_eq_some_iff.1 hj
        simp only [List.length_map] at hj'
        simp only [List.getElem_map] at hje
        simp only [putCells, Array.getElem?_mapIdx]
        rw [Array.getElem?_eq_getElem (by omega)]
        simp only [Option.map_some]
        rw [if_pos (by constructor; omega; simp; omega)]
        rw [← hje]
        simp only [Nat.add_sub_cancel_left, List.getElem!_toArray, List.getElem!_eq_getElem?_getD]
        rw [List.getElem?_eq_getElem hj']; rfl⟩)
  refine ⟨_, .tuple [], _, rfl, rfl, ⟨?_, rfl⟩, t2, by simp only [Rep]; exact ⟨[], RepL.mk_nil, rfl⟩, t1⟩
  rw [← e1]
end

theorem rep_int_iff (k : IntKind) (c : Cx) (n : Int) (v : Value) : Rep c (.int k n) v ↔ (v = .int k n ∧ (k.min ≤ n ∧ n ≤ k.max)) := by simp only [Rep]
theorem rep_str_iff (c : Cx) (s : List UInt8) (v : Value) : Rep c (.str s) v ↔ (v = .string ⟨⟨s⟩⟩ ∧ s.length ≤ maxLen) := by simp only [Rep]
end Go.Proofs.YtehfihnfeakmaaaGreatDoor
end

section
/- Ranging over a map that nobody writes any more. -/
namespace Go.Proofs.YtehfihnfeakmaaaGreatDoor
open Go
set_option linter.unusedVariables false
set_option linter.unusedSimpArgs false

section
variable {P : Program}

/-- 'next' at a map iterator, wherever it lies; the map is as it was when the range began. -/
theorem run_next_at (w : World) (ty r bm clk : Nat) (seen : Array Nat) (es : Array MapEntry) (hr : w.heap[r]? = some (.mapIter (some bm) clk seen clk)) (hb : w.heap[bm]? = some (.map es clk)) (hold : ∀ x ∈ es.toList, x.born < clk) :
    ((∀ e ∈ es.toList, seen.contains e.born = true) ∧ (Instr.next (.pointer (some ⟨r, 0, none⟩)) false ty).run P w = .ok (.tuple #[.bool false]) w) ∨
    ∃ e ∈ es.toList, seen.contains e.born = false ∧ ∃ w1 : World, (w1 = w ∨ w1 = w.drew) ∧ (Instr.next (.pointer (some ⟨r, 0, none⟩)) false ty).run P w = .ok (.tuple #[.bool true, e.key, e.val]) (w1.putObj r (.mapIter (some bm) clk (seen.push e.born) clk)) := by
  simp only [Instr.next, getObj, Sem.run_bind, Sem.run, hr, hb, Result.andThen, next_test_false seen es clk clk hold (Nat.le_refl _), Bool.false_eq_true, if_false]
  generalize hL : Array.filter (fun e => !seen.contains e.born) es = L
  have mem : ∀ e, e ∈ L.toList ↔ e ∈ es.toList ∧ seen.contains e.born = false := fun e => by rw [← hL]; simp
  have old : L.filter (fun x => decide (x.born < clk)) = L := Array.filter_eq_self.2 (fun x hx => by simpa using hold x ((mem x).1 (by simpa using hx)).1)
  have new : L.filter (fun x => decide (x.born ≥ clk)) = #[] := by
    rw [Array.filter_eq_empty_iff]
    intro x hx
    have := hold x ((mem x).1 (by simpa using hx)).1
    simp; omega
  simp only [old, new, Array.append_empty]
  by_cases h0 : L.size = 0
  · left
    have hLe : L = #[] := Array.eq_empty_of_size_eq_zero h0
    refine ⟨fun e he => ?_, by subst hLe; simp [choose, Sem.run, Question.forced]⟩
    cases hs : seen.contains e.born with
    | true => rfl
    | false => have := (mem e).2 ⟨he, hs⟩; rw [hLe] at this; cases this
  · right
    have hne : L.isEmpty = false := by simp [Array.isEmpty, h0]
    simp only [hne, Bool.false_eq_true, if_false, Array.empty_append, Array.size_map]
    obtain ⟨j, w1, hj, hw, hrun⟩ : ∃ (j : Nat) (w1 : World), j < L.size ∧ (w1 = w ∨ w1 = w.drew) ∧ (choose (Question.mapNext L.size)).run P w = .ok j w1 := by
      by_cases hf : L.size ≤ 1
      · exact ⟨0, w, by omega, .inl rfl, by simp [choose, Sem.run, Question.forced, hf]⟩
      · exact ⟨_, w.drew, Nat.mod_lt _ (by omega), .inr rfl, by
          simp only [choose, Sem.run, Question.forced, decide_eq_true_eq, hf, if_false, Question.cut]
          rfl⟩
    have hheap : w1.heap = w.heap := by rcases hw with rfl | rfl <;> rfl
    obtain ⟨m1, m2⟩ := (mem L[j]).1 (by simp)
    refine ⟨L[j], m1, m2, w1, hw, ?_⟩
    have hset : ∀ o' : Obj, (setObj r o').run P w1 = .ok () (w1.putObj r o') := fun o' => by
      have : w1.heap[r]? = some (.mapIter (some bm) clk seen clk) := by rw [hheap]; exact hr
      simp only [setObj, Sem.run, this]
      rfl
    simp only [hrun, Array.getElem?_map, Array.getElem?_eq_getElem hj, Option.map_some, Sem.run_bind, hset, Result.andThen]
    rfl

theorem run_entry_at (w : World) (r bm clk : Nat) (seen : Array Nat) (es : Array MapEntry) (e : MapEntry) (hr : w.heap[r]? = some (.mapIter (some bm) clk (seen.push e.born) clk)) (hb : w.heap[bm]? = some (.map es clk)) (he : e ∈ es.toList) (hn : (es.toList.map (·.born)).Nodup) :
    (Instr.entry (.pointer (some ⟨r, 0, none⟩))).run P w = .ok (.tuple #[e.key, e.val]) w := by
  have hf : es.find? (·.born == e.born) = some e := by rw [← Array.find?_toList]; exact find_born e es.toList hn he
  simp only [Instr.entry, getObj, Sem.run_bind, Sem.run, hr, hb, Result.andThen, Array.back?_push, bne_self_eq_false, Bool.false_eq_true, if_false, hf]
  rfl
theorem run_range_at (w : World) (t k e : TypeId) (bm clk : Nat) (es : Array MapEntry) (ht : P.underlying t = some (.map k e)) (hb : w.heap[bm]? = some (.map es clk)) :
    (Instr.range t (.map (some bm))).run P w = .ok (.pointer (some ⟨w.heap.size, 0, none⟩)) (w.alloc (.mapIter (some bm) clk #[] clk)) := run_range_map w t k e bm es clk ht hb
end

section
variable {P : Program} {G : Gl} {T : Tab} {own : List Nat} {nt B : Nat} {ρ : Option Nat} {C : Cx} {rs : List ResultVar} {R : SV → List Blk → Prop} {env env2 : Env} {H H' : List Blk} {k : List It}
variable {all r : List Oper} {ty d j dj : Nat} {op : Op} {pos : String} {after : Array Edge} {v : SV}

/-- a block of one's own is let go: from here on its memory is as any other -/
theorem Rep.kill_both {θ : Nat → Option (Nat × Nat)} {H : List Blk} {w : World} {io : Nat} {kd : Option IntKind} {es : List (SV × SV)} (hm : H[io]? = some (.map kd es)) :
    (∀ x v, Rep ⟨θ, H, w⟩ x v → Rep ⟨θ, H.set io .dead, w⟩ x v) ∧ (∀ xs vs, RepL ⟨θ, H, w⟩ xs vs → RepL ⟨θ, H.set io .dead, w⟩ xs vs) := by
  have hlt := (List.getElem?_eq_some_iff.1 hm).1
  have himm : ∀ b, Cx.imm ⟨θ, H, w⟩ b → Cx.imm ⟨θ, H.set io .dead, w⟩ b := fun b ⟨h1, h2⟩ => ⟨h1, fun ⟨id, o, ⟨B, hB, hl⟩, ht⟩ => h2 ⟨id, o, ⟨B, by
    have hB' : (H.set io .dead)[id]? = some B := hB
    rw [List.getElem?_set] at hB'
    split at hB'
    · cases hB'; cases hl
    · exact hB', hl⟩, ht⟩⟩
  have hget : ∀ id : Nat, (H.set io .dead)[id]? = if io = id then some .dead else H[id]? := fun id => by
    rw [List.getElem?_set]
    by_cases e : io = id
    · rw [if_pos e, if_pos e, if_pos (e ▸ hlt)]
    · rw [if_neg e, if_neg e]
  apply SV.both
  · intro x h1 h2 h3 h4 h5 h6 v h
    cases x with
    | agg fs => exact absurd rfl (h1 fs)
    | list n xs => exact absurd rfl (h2 n xs)
    | pto y => exact absurd rfl (h3 y)
    | fn f a b => exact absurd rfl (h4 f a b)
    | tuple xs => exact absurd rfl (h5 xs)
    | imap b clk born kd ks vs => exact absurd rfl (h6 b clk born kd ks vs)
    | ptr id g i off =>
      simp only [Rep, hget] at h ⊢
      by_cases e : io = id
      · simp only [if_pos e]; exact ⟨h.1, trivial⟩
      · simp only [if_neg e]; exact h
    | sl id g off len =>
      simp only [Rep, hget] at h ⊢
      by_cases e : io = id
      · simp only [if_pos e]; exact ⟨h.1, trivial⟩
      · simp only [if_neg e]; exact h
    | map id =>
      simp only [Rep, hget] at h ⊢
      by_cases e : io = id
      · simp only [if_pos e]; exact ⟨h.1, trivial⟩
      · simp only [if_neg e]; exact h
    | it id =>
      simp only [Rep, hget] at h ⊢
      by_cases e : io = id
      · simp only [if_pos e]; exact ⟨h.1, trivial⟩
      · simp only [if_neg e]; exact h
    | _ => exact h
  · intro fs ih v h
    simp only [Rep] at h ⊢
    obtain ⟨vs, h1, h2⟩ := h
    exact ⟨vs, ih vs h1, h2⟩
  · intro sz xs ih v h
    simp only [Rep] at h ⊢
    obtain ⟨a, cap, h0, h1, h2, h3⟩ := h
    refine ⟨a, cap, h0, h1, h2, ?_⟩
    rcases h3 with h3 | ⟨b, o, vs, h3, h4, h5, h6, h7⟩
    · exact .inl h3
    · exact .inr ⟨b, o, vs, h3, ih vs h4, h5, h6, himm b h7⟩
  · intro x ih v h
    simp only [Rep] at h ⊢
    obtain ⟨b, o, u, h0, h1, h2, h3, h4⟩ := h
    exact ⟨b, o, u, h0, ih u h1, h2, h3, himm b h4⟩
  · intro f xs ys ih1 ih2 v h
    simp only [Rep] at h ⊢
    obtain ⟨us, vs, h0, h1, h2⟩ := h
    exact ⟨us, vs, ih1 us h0, ih2 vs h1, h2⟩
  · intro xs ih v h
    simp only [Rep] at h ⊢
    obtain ⟨vs, h0, h1⟩ := h
    exact ⟨vs, ih vs h0, h1⟩
  · intro b clk born kd ks vs ih1 ih2 v h
    simp only [Rep] at h ⊢
    obtain ⟨h0, h1, ents, h2, h3, h4, h5, h6, h7⟩ := h
    exact ⟨h0, himm b h1, ents, h2, h3, h4, ih1 _ h5, ih2 _ h6, h7⟩
  · intro vs h; simpa [RepL] using h
  · intro x xs ih1 ih2 vs h
    obtain ⟨u, us, h1, h2, h3⟩ := RepL.cons_iff.1 h
    exact RepL.cons_iff.2 ⟨u, us, ih1 u h1, ih2 us h2, h3⟩

theorem RepE.lists {c : Cx} : ∀ {es : List (SV × SV)} {l : List MapEntry}, RepE c es l → RepL c (es.map Prod.fst) (l.map (·.key)) ∧ RepL c (es.map Prod.snd) (l.map (·.val))
  | [], l, h => by simp only [RepE] at h; subst h; exact ⟨RepL.mk_nil, RepL.mk_nil⟩
  | (q, x) :: es, l, h => by
    simp only [RepE] at h
    obtain ⟨e, es', h1, h2, h3, rfl⟩ := h
    obtain ⟨a, b⟩ := RepE.lists h3
    exact ⟨RepL.mk_cons h1 a, RepL.mk_cons h2 b⟩
theorem RepE.mono {c c' : Cx} (hr : ∀ x v, Rep c x v → Rep c' x v) : ∀ {es : List (SV × SV)} {l : List MapEntry}, RepE c es l → RepE c' es l
  | [], l, h => by simpa [RepE] using h
  | (q, x) :: es, l, h => by
    simp only [RepE] at h ⊢
    obtain ⟨e, es', h1, h2, h3, h4⟩ := h
    exact ⟨e, es', hr _ _ h1, hr _ _ h2, RepE.mono hr h3, h4⟩

theorem Cx.kill {θ : Nat → Option (Nat × Nat)} {H : List Blk} {w : World} {io : Nat} {kd : Option IntKind} {es : List (SV × SV)} (hm : H[io]? = some (.map kd es)) (hc : HeapOK ⟨θ, H, w⟩) (hC : C.H.length ≤ io) :
    HeapOK ⟨θ, H.set io .dead, w⟩ ∧ (∀ C0 : Cx, C0.H.length ≤ io → Grow C0 ⟨θ, H, w⟩ → Grow C0 ⟨θ, H.set io .dead, w⟩) ∧
    ∃ b clk born, θ io = some (b, 0) ∧ born.length = es.length ∧ born.Nodup ∧ Rep ⟨θ, H.set io .dead, w⟩ (.imap b clk born kd (es.map Prod.fst) (es.map Prod.snd)) (.map (some b)) := by
  have hlt := (List.getElem?_eq_some_iff.1 hm).1
  have hget : ∀ (id : Nat) (B : Blk), (H.set io .dead)[id]? = some B → B = .dead ∨ (id ≠ io ∧ H[id]? = some B) := fun id B hB => by
    rw [List.getElem?_set] at hB
    split at hB
    · cases hB; exact .inl rfl
    · rename_i h; exact .inr ⟨fun e => h e.symm, hB⟩
  obtain ⟨rk, rkl⟩ := Rep.kill_both (θ := θ) (w := w) hm
  refine ⟨⟨fun id B hB => ?_, fun i j b o o' ⟨Bi, h1, h2⟩ ⟨Bj, h3, h4⟩ h5 h6 => ?_⟩, fun C0 h0 hg => ?_, ?_⟩
  · rcases hget id B hB with rfl | ⟨_, hB⟩
    · trivial
    · have hb := hc.blk id B hB
      cases B with
      | dead => trivial
      | obj o => exact hb
      | cells g sz vals =>
        rcases hb with hb | ⟨b, o, cs, T, fr, vs, h1, h2, h3, h4, h5, h6⟩
        · exact .inl hb
        · exact .inr ⟨b, o, cs, T, fr, vs, h1, h2, h3, rkl _ _ h4, h5, h6⟩
      | map kd es =>
        obtain ⟨b, ents, clk, h1, h2, h3, h4⟩ := hb
        exact ⟨b, ents, clk, h1, h2, RepE.mono rk h3, h4⟩
  · rcases hget i Bi h1 with rfl | ⟨_, h1⟩
    · cases h2
    · rcases hget j Bj h3 with rfl | ⟨_, h3⟩
      · cases h4
      · exact hc.inj i j b o o' ⟨Bi, h1, h2⟩ ⟨Bj, h3, h4⟩ h5 h6
  · refine ⟨hg.os, hg.tape, hg.output, hg.size, hg.old, hg.shape, fun id B hB => ?_, fun id b o hn hl ht => ?_⟩
    · obtain ⟨B', h1, h2⟩ := hg.ids id B hB
      have hid : id < C0.H.length := (List.getElem?_eq_some_iff.1 hB).1
      exact ⟨B', by show (H.set io .dead)[id]? = _; rw [List.getElem?_set_ne (by omega)]; exact h1, h2⟩
    · obtain ⟨B, h1, h2⟩ := hl
      rcases hget id B h1 with rfl | ⟨_, h1⟩
      · cases h2
      · exact hg.new id b o hn ⟨B, h1, h2⟩ ht
  · obtain ⟨b, ents, clk, h1, h2, h3, h4, h5⟩ := hc.blk io _ hm
    obtain ⟨l1, l2⟩ := (RepE.mono rk h3).lists
    refine ⟨b, clk, ents.toList.map (·.born), h1, ?_, h5.2.1, ?_⟩
    · have := l1.length; simp only [List.length_map] at this ⊢; exact this.symm ▸ rfl
    · simp only [Rep]
      refine ⟨trivial, ⟨(Array.getElem?_eq_some_iff.1 h2).1, fun ⟨id, o, ⟨B, hB, hl⟩, ht⟩ => ?_⟩, ents, h2, h5, rfl, l1, l2, fun x hx => ?_⟩
      · rcases hget id B hB with rfl | ⟨hne, hB⟩
        · cases hl
        · exact hne (hc.inj id io b o 0 ⟨B, hB, hl⟩ ⟨_, hm, rfl⟩ ht h1)
      · obtain ⟨p, hp, rfl⟩ := List.mem_map.1 hx
        exact h4 p hp

/-- A MAP OF ONE'S OWN IS WRITTEN NO MORE. -/
theorem go_pin {c0 : Code} {t io : Nat} {kd : Option IntKind} {es : List (SV × SV)} (hm : H[io]? = some (.map kd es)) (hC : C.H.length ≤ io) (hB : Based G C.H.length) (ht : look env t = some (.map io))
    (h : ∀ b clk born, born.length = es.length → born.Nodup → (Out P G T own nt ρ C rs R) (.code c0 :: k) .normal ((t, .imap b clk born kd (es.map Prod.fst) (es.map Prod.snd)) :: env) (H.set io .dead)) : (Out P G T own nt ρ C rs R) (.code c0 :: k) .normal env H := by
  rintro ⟨θ, Hc, w⟩ a hc hi hg
  simp only at hc
  subst hc
  obtain ⟨k1, k2, b, clk, born, k3, k4, k5, k6⟩ := Cx.kill (C := C) hm hi.heap hC
  refine h b clk born k4 k5 ⟨θ, Hc.set io .dead, w⟩ a rfl ⟨k1, ⟨fun p hp => (Rep.kill_both hm).1 _ _ (hi.glob.1 p hp), fun C0 h0 => k2 C0 (Nat.le_trans (hB C0 h0) hC) (hi.glob.2 C0 h0)⟩, hi.size, fun t' x hx => ?_, ?_⟩ (k2 C hC hg)
  · simp only [look] at hx
    split at hx
    · rename_i e
      cases hx
      subst e
      have hv := hi.env t' _ ht
      simp only [Rep, hm] at hv
      obtain ⟨_, b', e1, e2⟩ := hv
      rw [k3] at e1
      cases e1
      rw [e2]; exact k6
    · exact (Rep.kill_both hm).1 _ _ (hi.env t' x hx)
  · refine ⟨fun d hd => ?_, hi.defs.2⟩
    obtain ⟨r, q1, q2, q3, q4⟩ := hi.defs.1 d hd
    refine ⟨r, q1, q2, ⟨q3.1, fun ⟨id, o, ⟨B, hB', hl⟩, ht'⟩ => q3.2 ⟨id, o, ⟨B, ?_, hl⟩, ht'⟩⟩, q4⟩
    have hB2 : (Hc.set io .dead)[id]? = some B := hB'
    rw [List.getElem?_set] at hB2
    split at hB2
    · split at hB2
      · cases hB2; cases hl
      · cases hB2
    · exact hB2

theorem RepL.setAt {c : Cx} {X : SV} : ∀ {xs : List SV} {vs : List Value} {i : Nat} {u : Value}, RepL c xs vs → vs[i]? = some u → Rep c X u → RepL c (xs.set i X) vs
  | [], vs, i, u, h, hi, hX => h
  | x :: xs, vs, i, u, h, hi, hX => by
    obtain ⟨v, vs', h1, h2, rfl⟩ := RepL.cons_iff.1 h
    cases i with
    | zero => simp only [List.getElem?_cons_zero, Option.some.injEq] at hi; subst hi; exact RepL.mk_cons hX h2
    | succ i => exact RepL.mk_cons h1 (RepL.setAt h2 (by simpa using hi) hX)
theorem RepL.getAt {c : Cx} {x : SV} : ∀ {xs : List SV} {vs : List Value} {i : Nat}, RepL c xs vs → xs[i]? = some x → ∃ u, vs[i]? = some u ∧ Rep c x u
  | [], vs, i, h, hi => by simp at hi
  | y :: xs, vs, i, h, hi => by
    obtain ⟨v, vs', h1, h2, rfl⟩ := RepL.cons_iff.1 h
    cases i with
    | zero => simp only [List.getElem?_cons_zero, Option.some.injEq] at hi; subst hi; exact ⟨v, rfl, h1⟩
    | succ i =>
      obtain ⟨u, h3, h4⟩ := RepL.getAt (i := i) h2 (by simpa using hi)
      exact ⟨u, by simpa using h3, h4⟩
/-- A MAP OF ONE'S OWN, to which a cell leads, IS WRITTEN NO MORE. -/
theorem go_pinC {c0 : Code} {io jo i g sz : Nat} {kd : Option IntKind} {es : List (SV × SV)} {vals : List SV} (hm : H[io]? = some (.map kd es)) (hj : H[jo]? = some (.cells g sz vals)) (hv : vals[i]? = some (.map io)) (hC : C.H.length ≤ io) (hB : Based G C.H.length)
    (h : ∀ b clk born, born.length = es.length → born.Nodup → (Out P G T own nt ρ C rs R) (.code c0 :: k) .normal env ((H.set io .dead).set jo (.cells g sz (vals.set i (.imap b clk born kd (es.map Prod.fst) (es.map Prod.snd)))))) : (Out P G T own nt ρ C rs R) (.code c0 :: k) .normal env H := by
  rintro ⟨θ, Hc, w⟩ a hc hi hg
  simp only at hc
  subst hc
  obtain ⟨k1, k2, b, clk, born, k3, k4, k5, k6⟩ := Cx.kill (C := C) hm hi.heap hC
  obtain ⟨rk, rkl⟩ := Rep.kill_both (θ := θ) (w := w) hm
  have hi1 : Inv G nt C.w.heap.size ⟨θ, Hc.set io .dead, w⟩ env a := by
    refine ⟨k1, ⟨fun p hp => rk _ _ (hi.glob.1 p hp), fun C0 h0 => k2 C0 (Nat.le_trans (hB C0 h0) hC) (hi.glob.2 C0 h0)⟩, hi.size, fun t' x hx => rk _ _ (hi.env t' x hx), ⟨fun d hd => ?_, hi.defs.2⟩⟩
    obtain ⟨r, q1, q2, q3, q4⟩ := hi.defs.1 d hd
    refine ⟨r, q1, q2, ⟨q3.1, fun ⟨id, o, ⟨B, hB', hl⟩, ht'⟩ => q3.2 ⟨id, o, ⟨B, ?_, hl⟩, ht'⟩⟩, q4⟩
    have hB2 : (Hc.set io .dead)[id]? = some B := hB'
    rw [List.getElem?_set] at hB2
    split at hB2
    · split at hB2
      · cases hB2; cases hl
      · cases hB2
    · exact hB2
  have hne : io ≠ jo := fun e => by
    subst e
    rw [hm] at hj; cases hj
  have hj1 : (Hc.set io .dead)[jo]? = some (.cells g sz vals) := by rw [List.getElem?_set_ne hne]; exact hj
  rcases hi.heap.blk jo _ hj with ⟨_, rfl⟩ | ⟨b0, o0, cs, Ty, fr, vs, h1, h2, h3, h4, h5, h6⟩
  · simp at hv
  obtain ⟨u, hu1, hu2⟩ := RepL.getAt h4 hv
  have hu : u = .map (some b) := by
    simp only [Rep, hm] at hu2
    obtain ⟨_, b', e1, e2⟩ := hu2
    rw [k3] at e1
    cases e1
    exact e2
  subst hu
  obtain ⟨g1, g2⟩ := Cx.turn (c := ⟨θ, Hc.set io .dead, w⟩) (w' := w) k1 hj1 rfl (B' := .cells g sz (vals.set i (.imap b clk born kd (es.map Prod.fst) (es.map Prod.snd)))) (θ jo)
    ⟨g, _, rfl, Nat.le_refl _, fun _ => ⟨rfl, List.length_set ..⟩, fun b o hb => .inr ⟨o, hb⟩⟩ (fun _ _ _ => rfl) (Nat.le_refl _) rfl rfl rfl (fun b cs T fr h => ⟨cs, fr, h, rfl⟩)
    (fun g1 => .inr ⟨b0, o0, cs, Ty, fr, vs, by simpa using h1, h2, h3, RepL.setAt ((rkl _ _ h4).grow g1) hu1 (k6.grow g1), h5, h6⟩)
  refine h b clk born k4 k5 { θ := fun i => if i = jo then θ jo else θ i, H := (Hc.set io .dead).set jo (.cells g sz (vals.set i (.imap b clk born kd (es.map Prod.fst) (es.map Prod.snd)))), w := w } a rfl ⟨g2, hi1.glob.grow g1, hi1.size, fun t x hx => (hi1.env t x hx).grow g1, hi1.defs.grow g1⟩ ((k2 C hC hg).trans g1)

/-- A SLICE OF ONE'S OWN THAT HAS GROWN SHORTER: what stood behind it is forgotten. -/
theorem go_trunc {c0 : Code} {t id g off len sz : Nat} {vals : List SV} (hb : H[id]? = some (.cells g sz vals)) (ht : look env t = some (.sl id g off len)) (hl : off + len ≤ vals.length)
    (h : (Out P G T own nt ρ C rs R) (.code c0 :: k) .normal ((t, .sl id (g + 1) off len) :: env) (H.set id (.cells (g + 1) sz (vals.take (off + len))))) : (Out P G T own nt ρ C rs R) (.code c0 :: k) .normal env H := by
  rintro ⟨θ, Hc, w⟩ a hc hi hg
  simp only at hc
  subst hc
  have hlt := (List.getElem?_eq_some_iff.1 hb).1
  have hv := hi.env t _ ht
  simp only [Rep, hb] at hv
  obtain ⟨hone, hv⟩ := hv
  rcases hv with hv | ⟨_, _, a0, cap, e1, e2, e3, e4⟩
  · exact absurd hv (Nat.lt_irrefl _)
  obtain ⟨g1, g2⟩ := Cx.turn (c := ⟨θ, Hc, w⟩) (w' := w) hi.heap hb rfl (B' := .cells (g + 1) sz (vals.take (off + len))) (θ id)
    ⟨g + 1, _, rfl, Nat.le_succ _, fun e => absurd e (Nat.ne_of_lt (Nat.lt_succ_self _)), fun b o hb => .inr ⟨o, hb⟩⟩ (fun _ _ _ => rfl) (Nat.le_refl _) rfl rfl rfl (fun b cs T fr h => ⟨cs, fr, h, rfl⟩)
    (fun g1 => by
      rcases hi.heap.blk id _ hb with ⟨h1, rfl⟩ | ⟨b0, o0, cs, Ty, fr, vs, h1, h2, h3, h4, h5, h6⟩
      · exact .inl ⟨by simpa using h1, by simp⟩
      · exact .inr ⟨b0, o0, cs, Ty, fr, vs.take (off + len), by simpa using h1, h2, h3, ((h4.take _).grow g1), fun u hu => h5 u (List.mem_of_mem_take hu), rangeAt_take h6 _⟩)
  refine h { θ := fun i => if i = id then θ id else θ i, H := Hc.set id (.cells (g + 1) sz (vals.take (off + len))), w := w } a rfl ⟨g2, hi.glob.grow g1, hi.size, fun t' x hx => ?_, hi.defs.grow g1⟩ (hg.trans g1)
  simp only [look] at hx
  split at hx
  · rename_i e
    cases hx
    subst e
    simp only [Rep, List.getElem?_set_self hlt]
    refine ⟨hone, .inr ⟨trivial, by rw [List.length_take]; omega, a0, cap, e1, e2, e3, ?_⟩⟩
    rcases e4 with ⟨h1, h2⟩ | ⟨b, o, cs, T', fr, h1, h2, h3, h4⟩
    · refine .inl ⟨h1, h2.elim .inl fun h => .inr ?_⟩
      rw [List.length_take]; omega
    · exact .inr ⟨b, o, cs, T', fr, by simpa using h1, h2, h3, h4⟩
  · exact (hi.env t' x hx).grow g1

/-- A NIL SLICE IS TAKEN FOR ONE OF ONE'S OWN, of no elements. -/
theorem go_ownNil (t sz : Nat) {c0 : Code} (ht : look env t = some .nil) (h : (Out P G T own nt ρ C rs R) (.code c0 :: k) .normal ((t, .sl H.length 0 0 0) :: env) (H ++ [.cells 0 sz []])) : (Out P G T own nt ρ C rs R) (.code c0 :: k) .normal env H := by
  intro c a hc hi hg
  obtain ⟨g1, g2⟩ := Cx.fresh hi.heap (w' := c.w) c.w.heap.size (Nat.le_refl _) 0 none (.inl rfl) (.cells 0 sz []) (fun _ _ => rfl) (Nat.le_refl _) rfl rfl rfl (fun _ => .inl ⟨by simp, rfl⟩)
  generalize hc2 : (⟨fun i => if i = c.H.length then none else c.θ i, c.H ++ [.cells 0 sz []], c.w⟩ : Cx) = c2 at g1 g2
  have hH : c2.H = H ++ [.cells 0 sz []] := by rw [← hc2]; show c.H ++ _ = _; rw [hc]
  have hw : c2.w = c.w := by rw [← hc2]
  rw [← hw]
  refine h c2 a hH ⟨g2, hi.glob.grow g1, hi.size, fun t' x hx => ?_, hi.defs.grow g1⟩ (hg.trans g1)
  simp only [look] at hx
  split at hx
  · rename_i e
    cases hx
    subst e
    have hv := hi.env t' _ ht
    simp only [Rep] at hv
    rw [hv]
    simp only [Rep, hH]
    refine ⟨rfl, ?_⟩
    simp only [List.getElem?_append_right (Nat.le_refl _), Nat.sub_self, List.getElem?_cons_zero]
    exact .inr ⟨trivial, Nat.le_refl _, none, 0, rfl, Nat.le_refl _, Nat.zero_le _, .inl ⟨rfl, .inr (Nat.le_refl _)⟩⟩
  · exact (hi.env t' x hx).grow g1

theorem go_range {x : Operand} {t bm clk : Nat} {born : List Nat} {kd : Option IntKind} {ks vs : List SV} {ti : TI} (h1 : ev G env x = some (.imap bm clk born kd ks vs)) (h2 : mapTypes T t = some (kd, ti)) (hd : Nat.blt d nt = true)
    (hk : (Out P G T own nt ρ C rs R) (.ops all r :: k) .normal ((d, .it H.length) :: env) (H ++ [.obj (.mapIter (some bm) clk #[] clk)])) : (Out P G T own nt ρ C rs R) (.ops all (⟨some d, .range t x, ty, pos, after, none⟩ :: r) :: k) .normal env H := by
  refine OW.law (R0 := fun y H' => y = .it H.length ∧ H' = H ++ [.obj (.mapIter (some bm) clk #[] clk)]) rfl rfl hd (fun hT c a o' hs hc hi hg next Q hn => ?_) (fun y H' hy => by obtain ⟨rfl, rfl⟩ := hy; exact hk)
  have hv := ev_ok hi h1
  simp only [Rep] at hv
  obtain ⟨e1, e2, ents, e3, _⟩ := hv
  have hu : ∃ kk e, P.underlying t = some (.map kk e) := by
    unfold mapTypes at h2
    split at h2
    · rename_i q; exact ⟨_, _, (hT _ _ q).1⟩
    · cases h2
  obtain ⟨kk, e, hu⟩ := hu
  obtain ⟨g1, g2⟩ := Cx.fresh hi.heap (w' := c.w.alloc (.mapIter (some bm) clk #[] clk)) c.w.heap.size (Nat.le_refl _) 0 (some (c.w.heap.size, 0)) (.inr rfl) (.obj (.mapIter (some bm) clk #[] clk)) (fun b hb => Go.RowKit.Below.heap_alloc _ _ b hb) (by simp) rfl rfl rfl
    (fun _ => ⟨c.w.heap.size, by simp, World.alloc_heap_new _ _, fun ds e => by cases e⟩)
  obtain ⟨s1, s2, s3⟩ := hs
  refine wp_val (u := .pointer (some ⟨c.w.heap.size, 0, none⟩)) (w' := c.w.alloc (.mapIter (some bm) clk #[] clk)) (by rw [s2]; intro _ e; cases e) ?_ ?_
  · simp [execOp, s2, e1, run_range_at c.w t kk e bm clk ents hu e3]
  · rw [s1]
    have := hn (.it c.H.length) _ (.pointer (some ⟨c.w.heap.size, 0, none⟩)) (by rw [hc]; exact ⟨rfl, rfl⟩) g2 (by
      simp only [Rep]
      refine ⟨rfl, ?_⟩
      simp only [List.getElem?_append_right (Nat.le_refl _), Nat.sub_self, List.getElem?_cons_zero]
      exact ⟨c.w.heap.size, by simp, rfl⟩) g1
    exact this

theorem RepL.at {c : Cx} {α : Type} {f : α → Value} : ∀ {xs : List SV} {l : List α}, RepL c xs (l.map f) → ∀ {i : Nat} {e : α}, l[i]? = some e → ∃ x, xs[i]? = some x ∧ Rep c x (f e)
  | [], l, h, i, e, he => by
    have := RepL.nil_iff.1 h
    rw [List.map_eq_nil_iff] at this
    subst this; cases he
  | x :: xs, l, h, i, e, he => by
    cases l with
    | nil => cases he
    | cons y l =>
      obtain ⟨u, us, h1, h2, h3⟩ := RepL.cons_iff.1 h
      rw [List.map_cons, List.cons.injEq] at h3
      obtain ⟨rfl, rfl⟩ := h3
      cases i with
      | zero => cases he; exact ⟨x, rfl, h1⟩
      | succ i => exact RepL.at h2 (i := i) he

theorem go_next {x : Operand} {tm iid bm clk : Nat} {seen : Array Nat} {born : List Nat} {kd : Option IntKind} {ks vs : List SV} (h1 : ev G env x = some (.it iid)) (h2 : look env tm = some (.imap bm clk born kd ks vs)) (h3 : H[iid]? = some (.obj (.mapIter (some bm) clk seen clk))) (hd : Nat.blt d nt = true)
    (hk0 : (∀ b ∈ born, seen.contains b = true) → (Out P G T own nt ρ C rs R) (.ops all r :: k) .normal ((d, .tuple [.bool false]) :: env) H)
    (hk1 : ∀ (i b : Nat) (q y : SV), born[i]? = some b → seen.contains b = false → ks[i]? = some q → vs[i]? = some y → (Out P G T own nt ρ C rs R) (.ops all r :: k) .normal ((d, .tuple [.bool true, q, y]) :: env) (H.set iid (.obj (.mapIter (some bm) clk (seen.push b) clk)))) :
    (Out P G T own nt ρ C rs R) (.ops all (⟨some d, .next x false, ty, pos, after, none⟩ :: r) :: k) .normal env H := by
  refine OW.law (R0 := fun z H' => ((∀ b ∈ born, seen.contains b = true) ∧ z = .tuple [.bool false] ∧ H' = H) ∨ ∃ (i b : Nat) (q y : SV), born[i]? = some b ∧ seen.contains b = false ∧ ks[i]? = some q ∧ vs[i]? = some y ∧ z = .tuple [.bool true, q, y] ∧ H' = H.set iid (.obj (.mapIter (some bm) clk (seen.push b) clk)))
    rfl rfl hd (fun hT c a o' hs hc hi hg next Q hn => ?_) (fun z H' hz => by
      rcases hz with ⟨q1, rfl, rfl⟩ | ⟨i, b, q, y, q1, q2, q3, q4, rfl, rfl⟩
      · exact hk0 q1
      · exact hk1 i b q y q1 q2 q3 q4)
  have hv := ev_ok hi h1
  have hm := hi.env tm _ h2
  rw [← hc] at h3
  simp only [Rep, h3] at hv
  obtain ⟨_, rb, r1, r2⟩ := hv
  simp only [Rep] at hm
  obtain ⟨_, m1, ents, m2, m3, m4, m5, m6, m7⟩ := hm
  obtain ⟨b', q1, q2⟩ := obj_at hi.heap h3
  rw [r1] at q1; cases q1
  obtain ⟨s1, s2, s3⟩ := hs
  have r2' : a.eval x = .pointer (some ⟨rb, 0, none⟩) := r2
  rcases run_next_at (P := P) c.w o'.type rb bm clk seen ents q2 m2 m3.1 with ⟨n1, n2⟩ | ⟨e, n1, n2, w1, n3, n4⟩
  · refine wp_val (u := .tuple #[.bool false]) (w' := c.w) (by rw [s2]; intro _ e; cases e) ?_ ?_
    · simp [execOp, s2, r2', n2]
    · rw [s1]
      exact hn (.tuple [.bool false]) c _ (.inl ⟨fun b hb => by
        rw [← m4] at hb
        obtain ⟨e, he, rfl⟩ := List.mem_map.1 hb
        exact n1 e he, rfl, hc⟩) hi.heap (by simp only [Rep]; exact ⟨[.bool false], RepL.mk_cons (rep_bool c false) RepL.mk_nil, rfl⟩) (Grow.refl c)
  · obtain ⟨i, hi'⟩ := List.getElem?_of_mem n1
    obtain ⟨y1, y2, y3⟩ := RepL.at m5 hi'
    obtain ⟨z1, z2, z3⟩ := RepL.at m6 hi'
    have hb : born[i]? = some e.born := by rw [← m4, List.getElem?_map, hi']; rfl
    obtain ⟨c1, hc1, hg1, hh1⟩ : ∃ c1 : Cx, c1 = { c with w := w1 } ∧ Grow c c1 ∧ HeapOK c1 := by
      have := Cx.world hi.heap (w' := w1) (fun b _ => by rcases n3 with rfl | rfl <;> rfl) (by rcases n3 with rfl | rfl <;> exact Nat.le_refl _) (by rcases n3 with rfl | rfl <;> rfl) (by rcases n3 with rfl | rfl <;> rfl) (by rcases n3 with rfl | rfl <;> rfl)
      exact ⟨_, rfl, this.1, this.2⟩
    obtain ⟨c2, g1, g2, g3, g4⟩ := obj_turn (o := .mapIter (some bm) clk seen clk) (o' := .mapIter (some bm) clk (seen.push e.born) clk) hh1 (id := iid) (b := rb) (by rw [hc1]; exact h3) (by rw [hc1]; exact r1) rfl (fun _ _ _ e => by cases e) (fun _ e => by cases e)
    refine wp_val (u := .tuple #[.bool true, e.key, e.val]) (w' := w1.putObj rb (.mapIter (some bm) clk (seen.push e.born) clk)) (by rw [s2]; intro _ e; cases e) ?_ ?_
    · simp [execOp, s2, r2', n4]
    · rw [s1]
      have := hn (.tuple [.bool true, y1, z1]) c2 (.tuple #[.bool true, e.key, e.val]) (.inr ⟨i, e.born, y1, z1, hb, n2, y2, z2, rfl, by rw [g1, hc1]; show c.H.set _ _ = _; rw [hc]⟩) g4 (by
        simp only [Rep]
        exact ⟨[.bool true, e.key, e.val], RepL.mk_cons (rep_bool c2 true) (RepL.mk_cons (y3.grow (hg1.trans g3)) (RepL.mk_cons (z3.grow (hg1.trans g3)) RepL.mk_nil)), rfl⟩) (hg1.trans g3)
      rw [g2, hc1] at this
      exact this

theorem go_entry {x : Operand} {tm iid bm clk i b : Nat} {seen : Array Nat} {born : List Nat} {kd : Option IntKind} {ks vs : List SV} {q y : SV} (h1 : ev G env x = some (.it iid)) (h2 : look env tm = some (.imap bm clk born kd ks vs)) (h3 : H[iid]? = some (.obj (.mapIter (some bm) clk (seen.push b) clk)))
    (hb : born[i]? = some b) (hq : ks[i]? = some q) (hy : vs[i]? = some y) (hd : Nat.blt d nt = true)
    (hk : (Out P G T own nt ρ C rs R) (.ops all r :: k) .normal ((d, .tuple [q, y]) :: env) H) :
    (Out P G T own nt ρ C rs R) (.ops all (⟨some d, .entry x, ty, pos, after, none⟩ :: r) :: k) .normal env H := by
  refine OW.law (R0 := fun z H' => z = .tuple [q, y] ∧ H' = H) rfl rfl hd (fun hT c a o' hs hc hi hg next Q hn => ?_) (fun z H' hz => by obtain ⟨rfl, rfl⟩ := hz; exact hk)
  have hv := ev_ok hi h1
  have hm := hi.env tm _ h2
  rw [← hc] at h3
  simp only [Rep, h3] at hv
  obtain ⟨_, rb, r1, r2⟩ := hv
  simp only [Rep] at hm
  obtain ⟨_, m1, ents, m2, m3, m4, m5, m6, m7⟩ := hm
  obtain ⟨b', q1, q2⟩ := obj_at hi.heap h3
  rw [r1] at q1; cases q1
  obtain ⟨s1, s2, s3⟩ := hs
  have r2' : a.eval x = .pointer (some ⟨rb, 0, none⟩) := r2
  rw [← m4, List.getElem?_map] at hb
  obtain ⟨e, he, rfl⟩ := Option.map_eq_some_iff.1 hb
  obtain ⟨y1, y2, y3⟩ := RepL.at m5 he
  obtain ⟨z1, z2, z3⟩ := RepL.at m6 he
  rw [hq] at y2; cases y2
  rw [hy] at z2; cases z2
  refine wp_val (u := .tuple #[e.key, e.val]) (w' := c.w) (by rw [s2]; intro _ e; cases e) ?_ ?_
  · simp [execOp, s2, r2', run_entry_at (P := P) c.w rb bm clk seen ents e q2 m2 (List.mem_of_getElem? he) m3.2.1]
  · rw [s1]
    exact hn (.tuple [q, y]) c _ ⟨rfl, hc⟩ hi.heap (by simp only [Rep]; exact ⟨[e.key, e.val], RepL.mk_cons y3 (RepL.mk_cons z3 RepL.mk_nil), rfl⟩) (Grow.refl c)
end
end Go.Proofs.YtehfihnfeakmaaaGreatDoor
end

section
/- Ranging over a map of one's own. -/
namespace Go.Proofs.YtehfihnfeakmaaaGreatDoor
open Go
set_option linter.unusedVariables false
set_option linter.unusedSimpArgs false

section
variable {P : Program} {G : Gl} {T : Tab} {own : List Nat} {nt B : Nat} {ρ : Option Nat} {C : Cx} {rs : List ResultVar} {R : SV → List Blk → Prop} {env env2 : Env} {H H' : List Blk} {k : List It}
variable {all r : List Oper} {ty d j dj : Nat} {op : Op} {pos : String} {after : Array Edge} {v : SV}

/-- A PIECE OF CODE, WALKED FROM WHAT IS THERE NOW. -/
theorem go_base {x : Code} {K : Env → List Blk → Prop} (h : ∀ C' : Cx, C'.H = H → HeapOK C' → Grow C C' → Out P ⟨G.l, some C'⟩ T own nt ρ C [] (fun _ _ => False) [.code x, .pred K] .normal env H) : Out P G T own nt ρ C rs R (.code x :: .pred K :: k) .normal env H := by
  intro c a hc hi hg
  have h1 := h c hc hi.heap hg
  have h2 := h1 c a hc ⟨hi.heap, ⟨hi.glob.1, fun C0 h0 => by cases h0; exact Grow.refl c⟩, hi.size, hi.env, hi.defs⟩ hg
  refine wpIn_mono h2 ?_
  rintro e a' w' ⟨s', c', q1, q2, q3, q4, q5⟩
  have hcc : Grow c c' := q4.glob.2 c rfl
  refine ⟨s', c', ?_, q2, q3, ⟨q4.heap, ⟨q4.glob.1, fun C0 h0 => (hi.glob.2 C0 h0).trans hcc⟩, q4.size, q4.env, q4.defs⟩, q5⟩
  cases e with
  | normal => exact q1
  | ret =>
    exfalso
    obtain ⟨xs, e1, e2⟩ := q1
    cases e1
    obtain ⟨_, _, _, hf, _⟩ := e2 c' (.tuple #[]) q2 q4.heap (by simp only [resSV, Rep]; exact ⟨[], RepL.mk_nil, rfl⟩) q5
    exact hf
  | _ => exact q1.elim

theorem RepE.length {c : Cx} : ∀ {es : List (SV × SV)} {l : List MapEntry}, RepE c es l → l.length = es.length
  | [], l, h => by simp only [RepE] at h; subst h; rfl
  | (q, x) :: es, l, h => by
    simp only [RepE] at h
    obtain ⟨e, es', _, _, h3, rfl⟩ := h
    simp [RepE.length h3]
/-- where a map of one's own lies, and what is there -/
structure MapHere (G : Gl) (id bm : Nat) (kd : Option IntKind) : Prop where
  there : ∃ C', G.base = some C' ∧ (∃ es0, C'.H[id]? = some (.map kd es0)) ∧ C'.θ id = some (bm, 0)
theorem MapHere.of {C' : Cx} (hc : HeapOK C') {l : List (Nat × SV)} {id : Nat} {kd : Option IntKind} {es : List (SV × SV)} (h : C'.H[id]? = some (.map kd es)) : ∃ bm, MapHere ⟨l, some C'⟩ id bm kd := by
  obtain ⟨b, ents, clk, h1, _⟩ := hc.blk id _ h
  exact ⟨b, ⟨C', rfl, ⟨es, h⟩, h1⟩⟩
theorem map_at {id bm : Nat} {kd : Option IntKind} (hm : MapHere G id bm kd) {c : Cx} (hg : GOK G c) (hh : HeapOK c) {es : List (SV × SV)} (h3 : c.H[id]? = some (.map kd es)) :
    ∃ ents : Array MapEntry, c.w.heap[bm]? = some (.map ents es.length) ∧ bornOK ents.toList es.length ∧ RepE c es ents.toList ∧ c.θ id = some (bm, 0) := by
  obtain ⟨C', q1, ⟨es0, q2⟩, q3⟩ := hm.there
  obtain ⟨B', e1, e2⟩ := (hg.2 C' q1).ids id _ q2
  rw [h3] at e1
  cases e1
  have hθ : c.θ id = some (bm, 0) := by rw [e2.2]; exact q3
  obtain ⟨b, ents, clk, r1, r2, r3, r4, r5⟩ := hh.blk id _ h3
  rw [hθ] at r1
  cases r1
  have hl := RepE.length r3
  have hclk : clk = es.length := by rw [r5.2.2.1, hl]
  subst hclk
  exact ⟨ents, r2, r5, r3, hθ⟩

theorem go_rangeO {x : Operand} {t id bm : Nat} {kd : Option IntKind} {es : List (SV × SV)} {ti : TI} (hm : MapHere G id bm kd) (h1 : ev G env x = some (.map id)) (h2 : mapTypes T t = some (kd, ti)) (h3 : H[id]? = some (.map kd es)) (hd : Nat.blt d nt = true)
    (hk : (Out P G T own nt ρ C rs R) (.ops all r :: k) .normal ((d, .it H.length) :: env) (H ++ [.obj (.mapIter (some bm) es.length #[] es.length)])) : (Out P G T own nt ρ C rs R) (.ops all (⟨some d, .range t x, ty, pos, after, none⟩ :: r) :: k) .normal env H := by
  refine OW.law (R0 := fun y H' => y = .it H.length ∧ H' = H ++ [.obj (.mapIter (some bm) es.length #[] es.length)]) rfl rfl hd (fun hT c a o' hs hc hi hg next Q hn => ?_) (fun y H' hy => by obtain ⟨rfl, rfl⟩ := hy; exact hk)
  have hv := ev_ok hi h1
  rw [← hc] at h3
  obtain ⟨ents, m1, m2, m3, m4⟩ := map_at hm hi.glob hi.heap h3
  simp only [Rep, h3] at hv
  obtain ⟨_, b', v1, v2⟩ := hv
  rw [m4] at v1; cases v1
  have hu : ∃ kk e, P.underlying t = some (.map kk e) := by
    unfold mapTypes at h2
    split at h2
    · rename_i q; exact ⟨_, _, (hT _ _ q).1⟩
    · cases h2
  obtain ⟨kk, e, hu⟩ := hu
  obtain ⟨g1, g2⟩ := Cx.fresh hi.heap (w' := c.w.alloc (.mapIter (some bm) es.length #[] es.length)) c.w.heap.size (Nat.le_refl _) 0 (some (c.w.heap.size, 0)) (.inr rfl) (.obj (.mapIter (some bm) es.length #[] es.length)) (fun b hb => Go.RowKit.Below.heap_alloc _ _ b hb) (by simp) rfl rfl rfl
    (fun _ => ⟨c.w.heap.size, by simp, World.alloc_heap_new _ _, fun ds e => by cases e⟩)
  obtain ⟨s1, s2, s3⟩ := hs
  refine wp_val (u := .pointer (some ⟨c.w.heap.size, 0, none⟩)) (w' := c.w.alloc (.mapIter (some bm) es.length #[] es.length)) (by rw [s2]; intro _ e; cases e) ?_ ?_
  · simp [execOp, s2, v2, run_range_at c.w t kk e bm es.length ents hu m1]
  · rw [s1]
    have := hn (.it c.H.length) _ (.pointer (some ⟨c.w.heap.size, 0, none⟩)) (by rw [hc]; exact ⟨rfl, rfl⟩) g2 (by
      simp only [Rep]
      refine ⟨rfl, ?_⟩
      simp only [List.getElem?_append_right (Nat.le_refl _), Nat.sub_self, List.getElem?_cons_zero]
      exact ⟨c.w.heap.size, by simp, rfl⟩) g1
    exact this

theorem born_at {ents : Array MapEntry} {n : Nat} (h : bornOK ents.toList n) {i : Nat} {e : MapEntry} (he : ents.toList[i]? = some e) : e.born = i := by
  have h4 := h.2.2.2
  have hlt := (List.getElem?_eq_some_iff.1 he).1
  have : (ents.toList.map (·.born))[i]? = some e.born := by rw [List.getElem?_map, he]; rfl
  rw [h4, List.getElem?_range hlt] at this
  cases this; rfl

theorem go_nextO {x : Operand} {iid id bm : Nat} {seen : Array Nat} {kd : Option IntKind} {es : List (SV × SV)} (hm : MapHere G id bm kd) (h1 : ev G env x = some (.it iid)) (h3 : H[iid]? = some (.obj (.mapIter (some bm) es.length seen es.length))) (hmap : H[id]? = some (.map kd es)) (hd : Nat.blt d nt = true)
    (hk0 : (∀ i, i < es.length → seen.contains i = true) → (Out P G T own nt ρ C rs R) (.ops all r :: k) .normal ((d, .tuple [.bool false]) :: env) H)
    (hk1 : ∀ (i : Nat) (p : SV × SV), es[i]? = some p → seen.contains i = false → (Out P G T own nt ρ C rs R) (.ops all r :: k) .normal ((d, .tuple [.bool true, p.1, p.2]) :: env) (H.set iid (.obj (.mapIter (some bm) es.length (seen.push i) es.length)))) :
    (Out P G T own nt ρ C rs R) (.ops all (⟨some d, .next x false, ty, pos, after, none⟩ :: r) :: k) .normal env H := by
  refine OW.law (R0 := fun z H' => ((∀ i, i < es.length → seen.contains i = true) ∧ z = .tuple [.bool false] ∧ H' = H) ∨ ∃ (i : Nat) (p : SV × SV), es[i]? = some p ∧ seen.contains i = false ∧ z = .tuple [.bool true, p.1, p.2] ∧ H' = H.set iid (.obj (.mapIter (some bm) es.length (seen.push i) es.length)))
    rfl rfl hd (fun hT c a o' hs hc hi hg next Q hn => ?_) (fun z H' hz => by
      rcases hz with ⟨q1, rfl, rfl⟩ | ⟨i, p, q1, q2, rfl, rfl⟩
      · exact hk0 q1
      · exact hk1 i p q1 q2)
  have hv := ev_ok hi h1
  rw [← hc] at h3 hmap
  obtain ⟨ents, m2, m3, m4, m5⟩ := map_at hm hi.glob hi.heap hmap
  obtain ⟨l1, l2⟩ := m4.lists
  have hlen := RepE.length m4
  simp only [Rep, h3] at hv
  obtain ⟨_, rb, r1, r2⟩ := hv
  obtain ⟨b', q1, q2⟩ := obj_at hi.heap h3
  rw [r1] at q1; cases q1
  obtain ⟨s1, s2, s3⟩ := hs
  have r2' : a.eval x = .pointer (some ⟨rb, 0, none⟩) := r2
  rcases run_next_at (P := P) c.w o'.type rb bm es.length seen ents q2 m2 m3.1 with ⟨n1, n2⟩ | ⟨e, n1, n2, w1, n3, n4⟩
  · refine wp_val (u := .tuple #[.bool false]) (w' := c.w) (by rw [s2]; intro _ e; cases e) ?_ ?_
    · simp [execOp, s2, r2', n2]
    · rw [s1]
      exact hn (.tuple [.bool false]) c _ (.inl ⟨fun i hil => by
        have hil' : i < ents.toList.length := by omega
        have := n1 ents.toList[i] (List.getElem_mem hil')
        rwa [born_at m3 (List.getElem?_eq_getElem hil')] at this, rfl, hc⟩) hi.heap (by simp only [Rep]; exact ⟨[.bool false], RepL.mk_cons (rep_bool c false) RepL.mk_nil, rfl⟩) (Grow.refl c)
  · obtain ⟨i, hi'⟩ := List.getElem?_of_mem n1
    have hbi := born_at m3 hi'
    obtain ⟨y1, y2, y3⟩ := RepL.at l1 hi'
    obtain ⟨z1, z2, z3⟩ := RepL.at l2 hi'
    obtain ⟨p, hp, hp1, hp2⟩ : ∃ p, es[i]? = some p ∧ p.1 = y1 ∧ p.2 = z1 := by
      rw [List.getElem?_map] at y2 z2
      obtain ⟨p, hp, e1⟩ := Option.map_eq_some_iff.1 y2
      rw [hp] at z2
      exact ⟨p, hp, e1, by simpa using z2⟩
    subst hp1 hp2
    obtain ⟨c1, hc1, hg1, hh1⟩ : ∃ c1 : Cx, c1 = { c with w := w1 } ∧ Grow c c1 ∧ HeapOK c1 := by
      have := Cx.world hi.heap (w' := w1) (fun b _ => by rcases n3 with rfl | rfl <;> rfl) (by rcases n3 with rfl | rfl <;> exact Nat.le_refl _) (by rcases n3 with rfl | rfl <;> rfl) (by rcases n3 with rfl | rfl <;> rfl) (by rcases n3 with rfl | rfl <;> rfl)
      exact ⟨_, rfl, this.1, this.2⟩
    obtain ⟨c2, g1, g2, g3, g4⟩ := obj_turn (o := .mapIter (some bm) es.length seen es.length) (o' := .mapIter (some bm) es.length (seen.push e.born) es.length) hh1 (id := iid) (b := rb) (by rw [hc1]; exact h3) (by rw [hc1]; exact r1) rfl (fun _ _ _ e => by cases e) (fun _ e => by cases e)
    refine wp_val (u := .tuple #[.bool true, e.key, e.val]) (w' := w1.putObj rb (.mapIter (some bm) es.length (seen.push e.born) es.length)) (by rw [s2]; intro _ e; cases e) ?_ ?_
    · simp [execOp, s2, r2', n4]
    · rw [s1]
      have := hn (.tuple [.bool true, p.1, p.2]) c2 (.tuple #[.bool true, e.key, e.val]) (.inr ⟨i, p, hp, by rw [← hbi]; exact n2, rfl, by rw [g1, hc1, hbi]; show c.H.set _ _ = _; rw [hc]⟩) g4 (by
        simp only [Rep]
        exact ⟨[.bool true, e.key, e.val], RepL.mk_cons (rep_bool c2 true) (RepL.mk_cons (y3.grow (hg1.trans g3)) (RepL.mk_cons (z3.grow (hg1.trans g3)) RepL.mk_nil)), rfl⟩) (hg1.trans g3)
      rw [g2, hc1] at this
      exact this

theorem go_entryO {x : Operand} {iid id bm i n : Nat} {seen : Array Nat} {kd : Option IntKind} {es : List (SV × SV)} {p : SV × SV} (hm : MapHere G id bm kd) (h1 : ev G env x = some (.it iid)) (h3 : H[iid]? = some (.obj (.mapIter (some bm) es.length (seen.push i) es.length))) (hmap : H[id]? = some (.map kd es))
    (hp : es[i]? = some p) (hd : Nat.blt d nt = true)
    (hk : (Out P G T own nt ρ C rs R) (.ops all r :: k) .normal ((d, .tuple [p.1, p.2]) :: env) H) :
    (Out P G T own nt ρ C rs R) (.ops all (⟨some d, .entry x, ty, pos, after, none⟩ :: r) :: k) .normal env H := by
  refine OW.law (R0 := fun z H' => z = .tuple [p.1, p.2] ∧ H' = H) rfl rfl hd (fun hT c a o' hs hc hi hg next Q hn => ?_) (fun z H' hz => by obtain ⟨rfl, rfl⟩ := hz; exact hk)
  have hv := ev_ok hi h1
  rw [← hc] at h3 hmap
  obtain ⟨ents, m2, m3, m4, m5⟩ := map_at hm hi.glob hi.heap hmap
  obtain ⟨l1, l2⟩ := m4.lists
  have hlen := RepE.length m4
  simp only [Rep, h3] at hv
  obtain ⟨_, rb, r1, r2⟩ := hv
  obtain ⟨b', q1, q2⟩ := obj_at hi.heap h3
  rw [r1] at q1; cases q1
  obtain ⟨s1, s2, s3⟩ := hs
  have r2' : a.eval x = .pointer (some ⟨rb, 0, none⟩) := r2
  have hil : i < ents.toList.length := by rw [hlen]; exact (List.getElem?_eq_some_iff.1 hp).1
  have he : ents.toList[i]? = some ents.toList[i] := List.getElem?_eq_getElem hil
  generalize ents.toList[i] = e at he
  have hbi := born_at m3 he
  obtain ⟨y1, y2, y3⟩ := RepL.at l1 he
  obtain ⟨z1, z2, z3⟩ := RepL.at l2 he
  rw [List.getElem?_map, hp] at y2 z2
  simp only [Option.map_some, Option.some.injEq] at y2 z2
  subst y2 z2
  have q2' : c.w.heap[rb]? = some (.mapIter (some bm) es.length (seen.push e.born) es.length) := by rw [hbi]; exact q2
  refine wp_val (u := .tuple #[e.key, e.val]) (w' := c.w) (by rw [s2]; intro _ e; cases e) ?_ ?_
  · simp [execOp, s2, r2', run_entry_at (P := P) c.w rb bm es.length seen ents e q2' m2 (List.mem_of_getElem? he) m3.2.1]
  · rw [s1]
    exact hn (.tuple [p.1, p.2]) c _ ⟨rfl, hc⟩ hi.heap (by simp only [Rep]; exact ⟨[e.key, e.val], RepL.mk_cons y3 (RepL.mk_cons z3 RepL.mk_nil), rfl⟩) (Grow.refl c)
end
end Go.Proofs.YtehfihnfeakmaaaGreatDoor
end

section
/- Weakenings between operations; a nil slice within a block of one's own taken for one of no elements. -/
namespace Go.Proofs.YtehfihnfeakmaaaGreatDoor
open Go
set_option linter.unusedVariables false
set_option linter.unusedSimpArgs false

section
variable {P : Program} {G : Gl} {T : Tab} {own : List Nat} {nt B : Nat} {ρ : Option Nat} {C : Cx} {rs : List ResultVar} {R : SV → List Blk → Prop} {env env2 : Env} {H H2 : List Blk} {k : List It}
theorem go_wkO {all l : List Oper} (env2 : Env) (H2 : List Blk) (hw : Wk G nt C ⟨env, H⟩ ⟨env2, H2⟩) (h : (Out P G T own nt ρ C rs R) (.ops all l :: k) .normal env2 H2) : (Out P G T own nt ρ C rs R) (.ops all l :: k) .normal env H := by
  intro hT i c a hf hc hi hg
  obtain ⟨c', e1, e2, e3, e4⟩ := hw c a hc hi hg
  have := h hT i c' a hf e1 e3 e4
  rw [e2] at this
  exact this
theorem go_wkC {x : Code} (env2 : Env) (H2 : List Blk) (hw : Wk G nt C ⟨env, H⟩ ⟨env2, H2⟩) (h : (Out P G T own nt ρ C rs R) (.code x :: k) .normal env2 H2) : (Out P G T own nt ρ C rs R) (.code x :: k) .normal env H := by
  intro c a hc hi hg
  obtain ⟨c', e1, e2, e3, e4⟩ := hw c a hc hi hg
  have := h c' a e1 e3 e4
  rw [e2] at this
  exact this
theorem Wk.trans {s s2 s3 : St} (h1 : Wk G nt C s s2) (h2 : Wk G nt C s2 s3) : Wk G nt C s s3 := by
  intro c a hc hi hg
  obtain ⟨c', e1, e2, e3, e4⟩ := h1 c a hc hi hg
  obtain ⟨c'', f1, f2, f3, f4⟩ := h2 c' a e1 e3 e4
  exact ⟨c'', f1, f2.trans e2, f3, f4⟩

theorem wk_ghost {id g s i j : Nat} {vals fs : List SV} (sz : Nat) (hb : H[id]? = some (.cells g s vals)) (hk : vals[i]? = some (.agg fs)) (hj : fs[j]? = some .nil) :
    Wk G nt C ⟨env, H⟩ ⟨env, H.set id (.cells g s (vals.set i (.agg (fs.set j (.sl H.length 0 0 0))))) ++ [.cells 0 sz []]⟩ := by
  intro c a hc hi hg
  have hc : c.H = H := hc
  subst hc
  have hid : id < c.H.length := (List.getElem?_eq_some_iff.1 hb).1
  obtain ⟨g1, g2⟩ := Cx.fresh hi.heap (w' := c.w) c.w.heap.size (Nat.le_refl _) 0 none (.inl rfl) (.cells 0 sz []) (fun _ _ => rfl) (Nat.le_refl _) rfl rfl rfl (fun _ => .inl ⟨by simp, rfl⟩)
  generalize hc1 : (⟨fun i => if i = c.H.length then none else c.θ i, c.H ++ [.cells 0 sz []], c.w⟩ : Cx) = c1 at g1 g2
  have hH : c1.H = c.H ++ [.cells 0 sz []] := by rw [← hc1]
  have hw : c1.w = c.w := by rw [← hc1]
  have hb1 : c1.H[id]? = some (.cells g s vals) := by rw [hH, List.getElem?_append_left hid]; exact hb
  obtain ⟨t1, t2⟩ := Cx.turn g2 (w' := c1.w) hb1 rfl (B' := .cells g s (vals.set i (.agg (fs.set j (.sl c.H.length 0 0 0))))) (c1.θ id)
    ⟨g, _, rfl, Nat.le_refl _, fun _ => ⟨rfl, by simp⟩, fun b' o' h' => .inr ⟨o', h'⟩⟩ (fun _ _ _ => rfl) (Nat.le_refl _) rfl rfl rfl (fun b cs T fr h => ⟨cs, fr, h, rfl⟩)
    (fun hg => by
      rcases g2.blk id _ hb1 with ⟨h2, h3⟩ | ⟨b, o, cs, Ty, fr, vs, h2, h3, h4, h5, h6, h7⟩
      · rw [h3] at hk; simp at hk
      · refine .inr ⟨b, o, cs, Ty, fr, vs, by simp [h2], h3, h4, ?_, h6, h7⟩
        obtain ⟨u, u1, u2⟩ := h5.get hk
        have u0 := u2
        simp only [Rep] at u2
        obtain ⟨ws, w1, w2, w3⟩ := u2
        obtain ⟨z, z1, z2⟩ := w1.get hj
        simp only [Rep] at z2
        have h8 := h5.grow hg
        have h9 := w1.grow hg
        refine set_same u1 ▸ h8.set i (u := u) ?_
        simp only [Rep]
        refine ⟨ws, ?_, w2, w3⟩
        refine set_same z1 ▸ h9.set j (u := z) ?_
        simp only [Rep]
        have hne : ¬ c.H.length = id := by omega
        refine ⟨by rw [z2]; rfl, ?_⟩
        have hn : (c1.H.set id (.cells g s (vals.set i (.agg (fs.set j (.sl c.H.length 0 0 0))))))[c.H.length]? = some (.cells 0 sz []) := by
          rw [List.getElem?_set_ne (fun e => hne e.symm), hH]; simp
        rw [hn]
        exact .inr ⟨rfl, Nat.le_refl _, none, 0, z2, Nat.le_refl _, Nat.zero_le _, .inl ⟨rfl, .inr (Nat.le_refl _)⟩⟩)
  refine ⟨{ θ := fun i => if i = id then c1.θ id else c1.θ i, H := c1.H.set id (.cells g s (vals.set i (.agg (fs.set j (.sl c.H.length 0 0 0))))), w := c1.w }, ?_, hw, ⟨t2, hi.glob.grow (g1.trans t1), hi.size, fun t' x hx => (hi.env t' x hx).grow (g1.trans t1), hi.defs.grow (g1.trans t1)⟩, (hg.trans g1).trans t1⟩
  show c1.H.set id _ = _
  rw [hH, List.set_append_left _ _ hid]
theorem wk_ghostC {id g s i : Nat} {vals : List SV} (sz : Nat) (hb : H[id]? = some (.cells g s vals)) (hk : vals[i]? = some .nil) :
    Wk G nt C ⟨env, H⟩ ⟨env, H.set id (.cells g s (vals.set i (.sl H.length 0 0 0))) ++ [.cells 0 sz []]⟩ := by
  intro c a hc hi hg
  have hc : c.H = H := hc
  subst hc
  have hid : id < c.H.length := (List.getElem?_eq_some_iff.1 hb).1
  obtain ⟨g1, g2⟩ := Cx.fresh hi.heap (w' := c.w) c.w.heap.size (Nat.le_refl _) 0 none (.inl rfl) (.cells 0 sz []) (fun _ _ => rfl) (Nat.le_refl _) rfl rfl rfl (fun _ => .inl ⟨by simp, rfl⟩)
  generalize hc1 : (⟨fun i => if i = c.H.length then none else c.θ i, c.H ++ [.cells 0 sz []], c.w⟩ : Cx) = c1 at g1 g2
  have hH : c1.H = c.H ++ [.cells 0 sz []] := by rw [← hc1]
  have hw : c1.w = c.w := by rw [← hc1]
  have hb1 : c1.H[id]? = some (.cells g s vals) := by rw [hH, List.getElem?_append_left hid]; exact hb
  obtain ⟨t1, t2⟩ := Cx.turn g2 (w' := c1.w) hb1 rfl (B' := .cells g s (vals.set i (.sl c.H.length 0 0 0))) (c1.θ id)
    ⟨g, _, rfl, Nat.le_refl _, fun _ => ⟨rfl, by simp⟩, fun b' o' h' => .inr ⟨o', h'⟩⟩ (fun _ _ _ => rfl) (Nat.le_refl _) rfl rfl rfl (fun b cs T fr h => ⟨cs, fr, h, rfl⟩)
    (fun hg => by
      rcases g2.blk id _ hb1 with ⟨h2, h3⟩ | ⟨b, o, cs, Ty, fr, vs, h2, h3, h4, h5, h6, h7⟩
      · rw [h3] at hk; simp at hk
      · refine .inr ⟨b, o, cs, Ty, fr, vs, by simp [h2], h3, h4, ?_, h6, h7⟩
        obtain ⟨u, u1, u2⟩ := h5.get hk
        simp only [Rep] at u2
        have h8 := h5.grow hg
        refine set_same u1 ▸ h8.set i (u := u) ?_
        simp only [Rep]
        have hne : ¬ c.H.length = id := by omega
        refine ⟨by rw [u2]; rfl, ?_⟩
        have hn : (c1.H.set id (.cells g s (vals.set i (.sl c.H.length 0 0 0))))[c.H.length]? = some (.cells 0 sz []) := by
          rw [List.getElem?_set_ne (fun e => hne e.symm), hH]; simp
        rw [hn]
        exact .inr ⟨rfl, Nat.le_refl _, none, 0, u2, Nat.le_refl _, Nat.zero_le _, .inl ⟨rfl, .inr (Nat.le_refl _)⟩⟩)
  refine ⟨{ θ := fun i => if i = id then c1.θ id else c1.θ i, H := c1.H.set id (.cells g s (vals.set i (.sl c.H.length 0 0 0))), w := c1.w }, ?_, hw, ⟨t2, hi.glob.grow (g1.trans t1), hi.size, fun t' x hx => (hi.env t' x hx).grow (g1.trans t1), hi.defs.grow (g1.trans t1)⟩, (hg.trans g1).trans t1⟩
  show c1.H.set id _ = _
  rw [hH, List.set_append_left _ _ hid]
theorem wk_ghostE {id g s i j : Nat} {vals fs : List SV} (sz : Nat) (hb : H[id]? = some (.cells g s vals)) (hk : vals[i]? = some (.agg fs)) (hj : fs[j]? = some .nil) (he : H.set id (.cells g s (vals.set i (.agg (fs.set j (.sl H.length 0 0 0))))) ++ [.cells 0 sz []] = H2) (hs : subEnv env2 env) : Wk G nt C ⟨env, H⟩ ⟨env2, H2⟩ := by
  subst he
  exact Wk.trans (wk_ghost sz hb hk hj) (Wk.sub hs)
end
end Go.Proofs.YtehfihnfeakmaaaGreatDoor
end

section
/- From the reading of the arguments to abstract values; the step from a contract to a statement's row. -/
namespace Go.Proofs.YtehfihnfeakmaaaGreatDoor
open Go Go.ChangeShapes Go.WideShapes Go.RowKit
set_option linter.unusedVariables false

def rdC (W : World) : Cx := ⟨fun _ => none, [], W⟩
theorem rdC_imm {W : World} {b : Nat} (h : b < W.heap.size) : (rdC W).imm b := ⟨h, fun ⟨_, _, _, ht⟩ => by cases ht⟩
theorem rdC_ok (W : World) : HeapOK (rdC W) := ⟨fun id B h => by simp [rdC] at h, fun i j b o o' _ _ h => by cases h⟩

section
variable {H : Type} {enc : TypeId × Value → H} {P : Program} {W : World} {sp : Nat → Bool}

def Good (W : World) (xs : List SV) (cs : List Value) : Prop := RepL (rdC W) xs cs ∧ ∀ v ∈ cs, v.oneCell' = true
def Rd (enc : TypeId × Value → H) (P : Program) (W : World) (sp : Nat → Bool) (n : Nat) (t : TypeId) {α : Type} (f : α → List SV) (wt : α → Nat) : Prop :=
  ∀ cs x, DataW.trod enc P W 0 sp true n t cs = some x → ∃ a : α, Good W (f a) cs ∧ cs.length = P.cellsOf t ∧ wt a ≤ Rows.uptoBulk x.1

theorem Good.nil : Good W [] [] := ⟨RepL.mk_nil, by simp⟩
theorem Good.append {xs ys : List SV} {cs ds : List Value} (h : Good W xs cs) (h' : Good W ys ds) : Good W (xs ++ ys) (cs ++ ds) :=
  ⟨h.1.append h'.1, fun v hv => (List.mem_append.1 hv).elim (h.2 v) (h'.2 v)⟩
theorem Good.cut {xs ys : List SV} {cs : List Value} {o k : Nat} (h : Good W xs ((cs.drop o).take k)) (h' : Good W ys (cs.drop (o + k))) : Good W (xs ++ ys) (cs.drop o) := by
  have := h.append h'
  rwa [← List.drop_drop, List.take_append_drop] at this
theorem Good.one {x : SV} {v : Value} (h : Rep (rdC W) x v) (hv : v.oneCell' = true) : Good W [x] [v] :=
  ⟨by simp only [RepL]; exact ⟨v, [], h, rfl, rfl⟩, by simpa using hv⟩

theorem wf_range {k : IntKind} {n : Int} (h : (Lit.int k n).wf = true) : k.min ≤ n ∧ n ≤ k.max := by
  simpa [Lit.wf] using h

theorem rd_int {n : Nat} {t : TypeId} {k : IntKind} (ht : P.underlying t = some (.int k)) (hc : P.cellsOf t = 1) : Rd enc P W sp n t (fun i : Int => [.int k i]) (fun _ => 1) := by
  intro cs x h
  obtain ⟨i, rfl, rfl, hw⟩ := DataW.trod_int ht h
  exact ⟨i, .one (by simp only [Rep]; exact ⟨trivial, wf_range hw⟩) rfl, by simp [hc], by simp [Rows.uptoBulk]⟩
theorem rd_bool {n : Nat} {t : TypeId} (ht : P.underlying t = some .bool) (hc : P.cellsOf t = 1) : Rd enc P W sp n t (fun b : Bool => [.bool b]) (fun _ => 1) := by
  intro cs x h
  obtain ⟨i, rfl, rfl⟩ := DataW.trod_bool ht h
  exact ⟨i, .one (by simp only [Rep]) rfl, by simp [hc], by simp [Rows.uptoBulk]⟩
theorem rd_str {n : Nat} {t : TypeId} (ht : P.underlying t = some .string) (hc : P.cellsOf t = 1) : Rd enc P W sp n t (fun s : Str => [.str s]) (fun s => s.length + 1) := by
  intro cs x h
  obtain ⟨i, rfl, rfl, hs⟩ := DataW.trod_string ht h
  exact ⟨i.data.toList, .one (by simp only [Rep]; exact ⟨trivial, by simpa using hs⟩) rfl, by simp [hc], by simp [Rows.uptoBulk]⟩

theorem cells_range {a : Addr} {n : Nat} {cs : List Value} (hn : 0 < n) (h : W.cells? 0 a n = some cs) : a.spot = none ∧ cs.length = n ∧ W.rangeAt a.block a.off cs ∧ a.block < W.heap.size := by
  obtain ⟨_, hl, hc⟩ := World.cells?_some h
  have h0 := hc 0 hn
  obtain ⟨c0, e0⟩ : ∃ c0, cs[0]? = some c0 := ⟨cs[0], by simp [hl, hn]⟩
  rw [e0] at h0
  have hs : a.spot = none := by simpa [Addr.add] using World.cell?_spot h0
  obtain ⟨b, o, s⟩ := a
  cases hs
  refine ⟨rfl, hl, fun j v hv => ?_, ?_⟩
  · have hj : j < n := by
      rcases Nat.lt_or_ge j n with h1 | h1
      · exact h1
      · rw [List.getElem?_eq_none (by omega)] at hv; cases hv
    have := hc j hj
    rwa [Addr.add_mid, hv] at this
  · have h1 : W.cell? ⟨b, o, none⟩ = some c0 := by simpa [Addr.add] using h0
    have : W.heap[b]? ≠ none := fun e => by simp [World.cell?, e] at h1
    simpa using this

def bx (b : Bool) (x : List SV) : SV := if b then .agg x else x.headD .nil
def bxv (b : Bool) (v : List Value) : Value := if b then .agg v.toArray else v.headD (.bool false)
theorem bx_rep {b : Bool} {xs : List SV} {cs : List Value} {n : Nat} (h : Good W xs cs) (hl : cs.length = n) (hb : b = true ∨ n = 1) : Rep (rdC W) (bx b xs) (bxv b cs) ∧ (bxv b cs).cells.toList = cs := by
  cases b with
  | true => exact ⟨by simp only [bx, bxv, Rep, if_true]; exact ⟨cs, h.1, h.2, rfl⟩, by simp [bxv, Value.cells]⟩
  | false =>
    have hn : n = 1 := by simpa using hb
    subst hn
    match cs, hl with
    | [v], _ =>
      obtain ⟨h1, h2⟩ := h
      match xs, h1 with
      | [], h1 => simp [RepL] at h1
      | x :: xs, h1 =>
        simp only [RepL] at h1
        obtain ⟨u, us, h3, _, h4⟩ := h1
        cases h4
        have hv : v.oneCell' = true := h2 v (by simp)
        exact ⟨h3, by cases v <;> simp_all [bxv, Value.cells, Value.oneCell']⟩

theorem slice_parts {α : Type} {e : TypeId} {b : Bool} {f : α → List SV} {wt : α → Nat} {n m : Nat} (hsz : P.cellsOf e = n) (hn : 0 < n) (hb : b = true ∨ n = 1) (he : Rd enc P W sp m e f wt) :
    ∀ (len : Nat) (blk off : Nat) (elems : List (DataW H × List MemPlace)), elems.length = len →
      (∀ i, i < len → (W.cells? 0 ⟨blk, off + i * n, none⟩ n).bind (DataW.trod enc P W 0 sp true m e) = elems[i]?) →
      ∃ (l : List α) (vs : List Value), l.length = len ∧ RepL (rdC W) (l.map fun x => bx b (f x)) vs ∧ (∀ u ∈ vs, u.cells.size = n ∧ okCells u) ∧ W.rangeAt blk off (cellsOf vs) ∧ (len = 0 ∨ blk < W.heap.size) ∧
        (l.map wt).sum ≤ Rows.uptoBulkAll (elems.map (·.1))
  | 0, blk, off, elems, hl, _ => by
    have : elems = [] := List.length_eq_zero_iff.1 hl
    subst this
    exact ⟨[], [], rfl, RepL.mk_nil, by simp, by intro j v hv; simp [cellsOf] at hv, .inl rfl, by simp⟩
  | len + 1, blk, off, [], hl, _ => by simp at hl
  | len + 1, blk, off, y :: elems, hl, hi => by
    have h0 := hi 0 (by omega)
    simp only [Nat.zero_mul, Nat.add_zero, List.getElem?_cons_zero, Option.bind_eq_some_iff] at h0
    obtain ⟨cs, hc, ht⟩ := h0
    obtain ⟨_, hlen, hr, hblk⟩ := cells_range hn hc
    obtain ⟨a, ha, _, hw⟩ := he cs y ht
    obtain ⟨l, vs, h1, h2, h3, h4, _, h5⟩ := slice_parts hsz hn hb he len blk (off + n) elems (by simpa using hl) (fun i hi' => by
      have := hi (i + 1) (by omega)
      rw [List.getElem?_cons_succ] at this
      rw [← this]
      have : off + n + i * n = off + (i + 1) * n := by rw [Nat.succ_mul]; omega
      rw [this])
    obtain ⟨h6, h7⟩ := bx_rep (b := b) ha hlen hb
    refine ⟨a :: l, bxv b cs :: vs, by simp [h1], ?_, ?_, ?_, .inr hblk, ?_⟩
    · simp only [List.map_cons, RepL]; exact ⟨_, _, h6, h2, rfl⟩
    · intro u hu
      rcases List.mem_cons.1 hu with rfl | hu
      · refine ⟨by rw [← Array.length_toList, h7, hlen], fun v hv => ?_⟩
        rw [h7] at hv
        exact ha.2 v hv
      · exact h3 u hu
    · have : cellsOf (bxv b cs :: vs) = cs ++ cellsOf vs := by simp [cellsOf, h7]
      rw [this]
      exact rangeAt_append hr (by rw [hlen]; exact h4)
    · simp only [List.map_cons, List.sum_cons, Rows.uptoBulkAll]; omega

theorem rd_slice {α : Type} {t e : TypeId} (b : Bool) {f : α → List SV} {wt : α → Nat} {n N : Nat} (ht : P.underlying t = some (.slice e)) (hc : P.cellsOf t = 1) (hsz : P.cellsOf e = n) (hn : 0 < n) (hb : b = true ∨ n = 1)
    (he : ∀ m, N = m + 1 → Rd enc P W sp m e f wt) : Rd enc P W sp N t (fun l : List α => [.list n (l.map fun x => bx b (f x))]) (fun l => 1 + (l.map wt).sum) := by
  intro cs x h
  rcases DataW.trod_slice ht h with ⟨rfl, rfl⟩ | ⟨a, len, cap, elems, rest, m, rfl, rfl, rfl, _, hlc, hcm, hel, hi, _⟩
  · exact ⟨[], .one (by simp only [Rep]; exact ⟨none, 0, rfl, Nat.le_refl _, Nat.zero_le _, .inl rfl⟩) rfl, by simp [hc], by simp [Rows.uptoBulk]⟩
  · rw [hsz] at hi
    rcases Nat.eq_zero_or_pos len with rfl | hpos
    · have : elems = [] := List.length_eq_zero_iff.1 hel
      subst this
      exact ⟨[], .one (by simp only [Rep]; exact ⟨some a, cap, rfl, Nat.zero_le _, hcm, .inl rfl⟩) rfl, by simp [hc], by simp [Rows.uptoBulk]⟩
    · have h0 := hi 0 hpos
      obtain ⟨y0, hy0⟩ : ∃ y, elems[0]? = some y := ⟨elems[0], by simp [hel, hpos]⟩
      rw [hy0, Option.bind_eq_some_iff] at h0
      obtain ⟨cs0, hc0, _⟩ := h0
      have hs : a.spot = none := by
        have := (cells_range hn hc0).1
        simpa [Addr.add] using this
      obtain ⟨blk, off, s⟩ := a
      cases hs
      obtain ⟨l, vs, h1, h2, h3, h4, h5, h6⟩ := slice_parts hsz hn hb (he m rfl) len blk off elems hel (fun i hi' => by
        have := hi i hi'
        rwa [Addr.add_mid] at this)
      refine ⟨l, .one ?_ rfl, by simp [hc], by simp only [Rows.uptoBulk]; omega⟩
      simp only [Rep]
      refine ⟨some ⟨blk, off, none⟩, cap, by simp [h1], by simpa [h1] using hlc, hcm, .inr ⟨blk, off, vs, rfl, h2, h3, h4, ?_⟩⟩
      rcases h5 with h5 | h5
      · omega
      · exact rdC_imm h5

theorem len_two {α : Type} : ∀ {xs : List α}, xs.length = 2 → ∃ z0 z1, xs = [z0, z1]
  | [z0, z1], _ => ⟨z0, z1, rfl⟩
theorem len_three {α : Type} : ∀ {xs : List α}, xs.length = 3 → ∃ z0 z1 z2, xs = [z0, z1, z2]
  | [z0, z1, z2], _ => ⟨z0, z1, z2, rfl⟩
theorem len_four {α : Type} : ∀ {xs : List α}, xs.length = 4 → ∃ z0 z1 z2 z3, xs = [z0, z1, z2, z3]
  | [z0, z1, z2, z3], _ => ⟨z0, z1, z2, z3, rfl⟩
theorem len_five {α : Type} : ∀ {xs : List α}, xs.length = 5 → ∃ z0 z1 z2 z3 z4, xs = [z0, z1, z2, z3, z4]
  | [z0, z1, z2, z3, z4], _ => ⟨z0, z1, z2, z3, z4, rfl⟩
theorem len_six {α : Type} : ∀ {xs : List α}, xs.length = 6 → ∃ z0 z1 z2 z3 z4 z5, xs = [z0, z1, z2, z3, z4, z5]
  | [z0, z1, z2, z3, z4, z5], _ => ⟨z0, z1, z2, z3, z4, z5, rfl⟩
theorem len_seven {α : Type} : ∀ {xs : List α}, xs.length = 7 → ∃ z0 z1 z2 z3 z4 z5 z6, xs = [z0, z1, z2, z3, z4, z5, z6]
  | [z0, z1, z2, z3, z4, z5, z6], _ => ⟨z0, z1, z2, z3, z4, z5, z6, rfl⟩
theorem len_eight {α : Type} : ∀ {xs : List α}, xs.length = 8 → ∃ z0 z1 z2 z3 z4 z5 z6 z7, xs = [z0, z1, z2, z3, z4, z5, z6, z7]
  | [z0, z1, z2, z3, z4, z5, z6, z7], _ => ⟨z0, z1, z2, z3, z4, z5, z6, z7, rfl⟩
/-- a struct's field -/
theorem field_of {cs : List Value} {xs : List (DataW H × List MemPlace)} {fs : Array Field} {n : Nat}
    (hf : ∀ (i : Nat) (f : Field), fs[i]? = some f → DataW.trod enc P W 0 sp true n f.type ((cs.drop f.offset).take (P.cellsOf f.type)) = xs[i]?) (i : Nat) {t : Nat} (o k : Nat)
    (h : (fs[i]?).map (fun f => (f.type, f.offset)) = some (t, o)) (hk : P.cellsOf t = k) {α : Type} {g : α → List SV} {wt : α → Nat} (hr : Rd enc P W sp n t g wt) (hl : i < xs.length) :
    ∃ (y : DataW H × List MemPlace) (a : α), xs[i]? = some y ∧ Good W (g a) ((cs.drop o).take k) ∧ wt a ≤ Rows.uptoBulk y.1 := by
  cases hi : fs[i]? with
  | none => rw [hi] at h; cases h
  | some f =>
    rw [hi] at h
    simp only [Option.map_some, Option.some.injEq, Prod.mk.injEq] at h
    obtain ⟨rfl, rfl⟩ := h
    subst hk
    have hy : xs[i]? = some xs[i] := by simp [hl]
    obtain ⟨a, h1, _, h2⟩ := hr _ _ ((hf i f hi).trans hy)
    exact ⟨_, a, hy, h1, h2⟩
end

theorem sum_wt {α : Type} (f : List α → Nat) (g : α → Nat) (h0 : f [] = 0) (h1 : ∀ x l, f (x :: l) = g x + f l) : ∀ l, f l = (l.map g).sum
  | [] => by simp [h0]
  | x :: l => by rw [h1, sum_wt f g h0 h1 l]; simp
theorem strsWt_sum (l : List Str) : strsWt l = (l.map fun s => s.length + 1).sum := sum_wt strsWt _ (by simp [strsWt]) (fun x l => by simp only [strsWt]; omega) l
theorem exsWt_sum (l : List Ex) : exsWt l = (l.map Ex.wt).sum := sum_wt exsWt _ (by simp [exsWt]) (fun x l => by simp only [exsWt]) l
theorem bdsWt_sum (l : List Bd) : bdsWt l = (l.map Bd.wt).sum := sum_wt bdsWt _ (by simp [bdsWt]) (fun x l => by simp only [bdsWt]) l
theorem alsWt_sum (l : List Al) : alsWt l = (l.map Al.wt).sum := sum_wt alsWt _ (by simp [alsWt]) (fun x l => by simp only [alsWt]) l

theorem okWide_array {P : Program} {w : World} {r : Reach} {base : Nat} {t : TypeId} {v : Value} {n : Nat} {e : TypeId} (ht : P.underlying t = some (.array n e)) (h : Value.okWide P w r base t v) : ∃ cs, v = .agg cs ∧ cs.size = P.cellsOf t := by
  simp only [Value.okWide, ht] at h
  obtain ⟨cs, h1, h2, _⟩ := h
  exact ⟨cs, h1, h2⟩

/-! ### behind the call -/
theorem Grow.below {W W' : World} {c' : Cx} (h : Grow (rdC W) c') (e : c'.w = W') : Below W.heap.size W W' := by
  subst e
  exact ⟨h.os, h.tape, h.output, h.size, fun k hk => h.old k hk (rdC_imm hk).2⟩


section
variable {H : Type} {enc : TypeId × Value → H} {P : Program} {W W' : World}
theorem trodAll_stays (hl : laidOutB P = true) (hb : Below W.heap.size W W') {sp : Nat → Bool} : ∀ {ts : List TypeId} {vs : List Value} {ds : List (DataW H)} {ps : List MemPlace},
    (∀ t ∈ ts, P.readableRec t = true ∧ t < P.types.size) → DataW.TrodAll enc P W 0 (fun _ => true) true ts vs ds ps → (∀ p ∈ ps, p.block < W.heap.size) → (∀ p ∈ ps, sp p.block = true) →
    DataW.TrodAll enc P W' 0 sp true ts vs ds ps
  | [], vs, ds, ps, _, h, _, _ => by
    obtain ⟨rfl, rfl, rfl⟩ := trodAll_nil h
    exact trodAll_mk0
  | t :: ts, vs, ds, ps, hr, h, hlt, hs => by
    obtain ⟨v, vs', d, ds', p, q, rfl, rfl, rfl, h1, h2⟩ := trodAll_cons h
    refine trodAll_cons_mk (WideElems.Trod_stays hl (hr t (by simp)).1 (hr t (by simp)).2 h1 (fun x hx => hb.same (hlt x (by simp [hx]))) (fun x hx => hs x (by simp [hx]))) ?_
    exact trodAll_stays hl hb (fun t ht => hr t (by simp [ht])) h2 (fun x hx => hlt x (by simp [hx])) (fun x hx => hs x (by simp [hx]))

/-- A law that is true, and leaves what it reads as it was. -/
theorem law_post (hl : laidOutB P = true) {f : Func} {s : ChangeSpec} (hsv : s.vars = []) {args : Array Value} {ds gs : List (DataW H)} {before : List MemPlace}
    (hW : DataW.Whole enc P f.params.toList s.vars false W args.toList ds gs before) (hr : ∀ t ∈ f.params.toList, P.readableRec t = true ∧ t < P.types.size)
    {tb : TypeId} (hrt : f.resultTypes = #[tb]) (htb : P.underlying tb = some .bool) (h1 : (s.fn H (ds ++ gs)).results = [.lit (.bool true)]) (h2 : (s.fn H (ds ++ gs)).args = ds) (h3 : (s.fn H (ds ++ gs)).vars = [])
    (hb : Below W.heap.size W W') : s.post enc P f false true false false W args (.bool true) W' := by
  have hW0 := hW
  obtain ⟨p, q, hA, hV, rfl, _, _⟩ := hW
  rw [hsv] at hV
  obtain ⟨rfl, rfl⟩ := trodVars_none hV
  have hlt : ∀ x ∈ p, x.block < W.heap.size := fun x hx => hW0.lt x (by simp [hx])
  refine ⟨ds, [], p ++ [], [], p, [], hW0, ?_, ?_, ?_, ?_, fun h => by cases h⟩
  · rw [hrt, h1]
    exact trodAll_cons_mk (p' := []) (shut_bool htb true) trodAll_mk0
  · rw [h2]
    exact trodAll_stays hl hb hr hA hlt (fun x hx => by simpa using hlt x hx)
  · rw [hsv, h3]; rfl
  · exact World.keptBut_mono (fun x hx => ⟨hx, .inr (.inl (by simpa using hx))⟩) (hb.frame (· ∈ p ++ []))

theorem law_calls {f : FuncId} {args : List SV} {vs : List Value} (h : ACall P ⟨[], none⟩ f args [] (fun r H' => H' = [] ∧ r = .bool true)) (hv : RepL (rdC W) args vs) {R : World → Prop} (hR : ∀ W', Below W.heap.size W W' → R W') :
    Calls P f vs.toArray W fun e W' => ∃ v, e = .returned v ∧ v = .bool true ∧ R W' := by
  refine (callsIn_wide (n := 0)).1 ((h.2 (rdC W) vs rfl (rdC_ok W) ⟨by simp, fun _ h => by cases h⟩ hv).mono ?_)
  rintro e w' ⟨v, x, c', rfl, hw, ⟨_, rfl⟩, _, hx, hg⟩
  simp only [Rep] at hx
  exact ⟨v, rfl, hx, hR _ (Grow.below hg hw)⟩
end
theorem gclosed0 : GClosed ⟨[], none⟩ := by
  intro p hp; cases hp

end Go.Proofs.YtehfihnfeakmaaaGreatDoor
end

section
/- A VERIFIED INTERPRETER over abstract values: what it reckons of a concrete call is what the call does. -/
namespace Go.Proofs.YtehfihnfeakmaaaGreatDoor
open Go
set_option linter.unusedVariables false
set_option linter.unusedSimpArgs false

/-! ### two values, surely the same -/
mutual
def SV.same : SV → SV → Bool
  | .undef, y => (match y with | .undef => true | _ => false)
  | .bool a, y => (match y with | .bool b => a == b | _ => false)
  | .int k n, y => (match y with | .int k' n' => decide (k = k') && decide (n = n') | _ => false)
  | .str s, y => (match y with | .str t => decide (s = t) | _ => false)
  | .agg xs, y => (match y with | .agg ys => SV.sames xs ys | _ => false)
  | .nil, y => (match y with | .nil => true | _ => false)
  | .list a xs, y => (match y with | .list b ys => Nat.beq a b && SV.sames xs ys | _ => false)
  | .ptr a b c d, y => (match y with | .ptr a' b' c' d' => Nat.beq a a' && Nat.beq b b' && Nat.beq c c' && Nat.beq d d' | _ => false)
  | .sl a b c d, y => (match y with | .sl a' b' c' d' => Nat.beq a a' && Nat.beq b b' && Nat.beq c c' && Nat.beq d d' | _ => false)
  | .map a, y => (match y with | .map b => Nat.beq a b | _ => false)
  | .nilmap, y => (match y with | .nilmap => true | _ => false)
  | .nilptr, y => (match y with | .nilptr => true | _ => false)
  | .nilfn, y => (match y with | .nilfn => true | _ => false)
  | .tuple xs, y => (match y with | .tuple ys => SV.sames xs ys | _ => false)
  | .pto x, y => (match y with | .pto z => SV.same x z | _ => false)
  | .fn f xs ys, y => (match f, y with | .func a, .fn (.func b) us vs => Nat.beq a b && SV.sames xs us && SV.sames ys vs | _, _ => false)
  | _, _ => false
def SV.sames : List SV → List SV → Bool
  | [], ys => (match ys with | [] => true | _ => false)
  | x :: xs, ys => (match ys with | y :: ys => SV.same x y && SV.sames xs ys | _ => false)
end
theorem SV.same_both : (∀ x : SV, ∀ y, SV.same x y = true → x = y) ∧ (∀ xs : List SV, ∀ ys, SV.sames xs ys = true → xs = ys) := by
  refine SV.both (fun x h1 h2 h3 h4 h5 h6 y h => ?_) (fun fs ih y h => ?_) (fun n xs ih y h => ?_) (fun x ih y h => ?_) (fun f a b ia ib y h => ?_) (fun xs ih y h => ?_) (fun b clk born kd ks vs i1 i2 y h => ?_) (fun ys h => ?_) (fun x xs ix ixs ys h => ?_)
  · cases x <;> first | (exact (h1 _ rfl).elim) | (exact (h2 _ _ rfl).elim) | (exact (h3 _ rfl).elim) | (exact (h4 _ _ _ rfl).elim) | (exact (h5 _ rfl).elim) | (exact (h6 _ _ _ _ _ _ rfl).elim) | (cases y <;> simp_all [SV.same])
  · cases y <;> simp only [SV.same] at h <;> first | (cases h; done) | (rw [ih _ h])
  · cases y <;> simp only [SV.same, Bool.and_eq_true] at h <;> first | (cases h; done) | (obtain ⟨h1, h2⟩ := h; rw [ih _ h2, Nat.eq_of_beq_eq_true h1])
  · cases y <;> simp only [SV.same] at h <;> first | (cases h; done) | (rw [ih _ h])
  · simp only [SV.same] at h
    split at h
    · simp only [Bool.and_eq_true] at h
      obtain ⟨⟨h1, h2⟩, h3⟩ := h
      rw [Nat.eq_of_beq_eq_true h1, ia _ h2, ib _ h3]
    · cases h
  · cases y <;> simp only [SV.same] at h <;> first | (cases h; done) | (rw [ih _ h])
  · simp [SV.same] at h
  · cases ys with
    | nil => rfl
    | cons => simp [SV.sames] at h
  · cases ys with
    | nil => simp [SV.sames] at h
    | cons y ys => simp only [SV.sames, Bool.and_eq_true] at h; rw [ix _ h.1, ixs _ h.2]
def optSame : Option SV → Option SV → Bool
  | some a, some b => SV.same a b
  | none, none => true
  | _, _ => false
theorem optSame_eq {a b : Option SV} (h : optSame a b = true) : a = b := by
  cases a <;> cases b <;> simp only [optSame] at h <;> first | rfl | (cases h; done) | (rw [SV.same_both.1 _ _ h])

def sameE : List (SV × SV) → List (SV × SV) → Bool
  | [], ys => (match ys with | [] => true | _ => false)
  | (a, b) :: xs, ys => (match ys with | (c, d) :: ys => SV.same a c && SV.same b d && sameE xs ys | _ => false)
theorem sameE_eq : ∀ {xs ys : List (SV × SV)}, sameE xs ys = true → xs = ys
  | [], ys, h => by cases ys with
    | nil => rfl
    | cons => simp [sameE] at h
  | (a, b) :: xs, ys, h => by cases ys with
    | nil => simp [sameE] at h
    | cons y ys =>
      obtain ⟨c, d⟩ := y
      simp only [sameE, Bool.and_eq_true] at h
      rw [SV.same_both.1 _ _ h.1.1, SV.same_both.1 _ _ h.1.2, sameE_eq h.2]
/-- long lists are compared piece by piece, so that the kernel finds again what it has compared already -/
def sameC : List SV → Nat → List SV → Bool
  | [], _, ys => (match ys with | [] => true | _ => false)
  | x :: xs, c, ys => (match ys with
    | [] => false
    | y :: ys => (match c with
      | 0 => bif (bif sameC xs 255 ys then true else false) then SV.same x y else false
      | c + 1 => bif SV.same x y then sameC xs c ys else false))
theorem sameC_eq : ∀ {xs : List SV} {c : Nat} {ys : List SV}, sameC xs c ys = true → xs = ys
  | [], c, ys, h => by
    cases ys with
    | nil => rfl
    | cons => simp [sameC] at h
  | x :: xs, c, ys, h => by
    cases ys with
    | nil => simp [sameC] at h
    | cons y ys =>
      cases c with
      | zero =>
        simp only [sameC] at h
        cases h1 : sameC xs 255 ys with
        | false => rw [h1] at h; cases h
        | true => rw [h1] at h; rw [sameC_eq h1, SV.same_both.1 _ _ h]
      | succ c =>
        simp only [sameC] at h
        cases h1 : SV.same x y with
        | false => rw [h1] at h; cases h
        | true => rw [h1, cond_true] at h; rw [sameC_eq h, SV.same_both.1 _ _ h1]
/-- values that name no block -/
def SV.flat0 : SV → Bool
  | .bool _ => true
  | .int _ _ => true
  | .str _ => true
  | _ => false
def SV.flat1 : SV → Bool
  | .agg xs => xs.all SV.flat0
  | x => SV.flat0 x
theorem SV.flat0_under {n : Nat} {x : SV} (h : x.flat0 = true) : x.under n = true := by
  cases x <;> first | rfl | (cases h; done)
theorem SV.flat0_underL {n : Nat} : ∀ {xs : List SV}, xs.all SV.flat0 = true → SV.underL n xs = true
  | [], _ => rfl
  | x :: xs, h => by
    simp only [List.all_cons, Bool.and_eq_true] at h
    simp only [SV.underL, SV.flat0_under h.1, SV.flat0_underL h.2, Bool.and_self]
theorem SV.flat1_under {n : Nat} {x : SV} (h : x.flat1 = true) : x.under n = true := by
  cases x <;> first | exact SV.flat0_under h | (simp only [SV.under]; exact SV.flat0_underL h)
def flatC : List SV → Nat → Bool
  | [], _ => true
  | x :: xs, c => (match c with
    | 0 => bif (bif flatC xs 255 then true else false) then x.flat1 else false
    | c + 1 => bif x.flat1 then flatC xs c else false)
theorem flatC_under {n : Nat} : ∀ {xs : List SV} {c : Nat}, flatC xs c = true → SV.underL n xs = true
  | [], c, _ => rfl
  | x :: xs, c, h => by
    cases c with
    | zero =>
      simp only [flatC] at h
      cases h1 : flatC xs 255 with
      | false => rw [h1] at h; cases h
      | true =>
        rw [h1] at h
        simp only [SV.underL, SV.flat1_under (show x.flat1 = true from h), flatC_under h1, Bool.and_self]
    | succ c =>
      simp only [flatC] at h
      cases h1 : x.flat1 with
      | false => rw [h1] at h; cases h
      | true =>
        rw [h1, cond_true] at h
        simp only [SV.underL, SV.flat1_under h1, flatC_under h, Bool.and_self]
def Blk.same : Blk → Blk → Bool
  | .cells g sz xs, y => (match y with | .cells g' sz' ys => Nat.beq g g' && Nat.beq sz sz' && sameC xs 255 ys | _ => false)
  | .map kd es, y => (match y with | .map kd' es' => decide (kd = kd') && sameE es es' | _ => false)
  | .dead, y => (match y with | .dead => true | _ => false)
  | _, _ => false
theorem Blk.same_eq {a b : Blk} (h : Blk.same a b = true) : a = b := by
  cases a with
  | cells g sz xs => cases b with
    | cells g' sz' ys =>
      simp only [Blk.same, Bool.and_eq_true] at h
      rw [Nat.eq_of_beq_eq_true h.1.1, Nat.eq_of_beq_eq_true h.1.2, sameC_eq h.2]
    | _ => simp [Blk.same] at h
  | map kd es => cases b with
    | map kd' es' =>
      simp only [Blk.same, Bool.and_eq_true, decide_eq_true_eq] at h
      rw [h.1, sameE_eq h.2]
    | _ => simp [Blk.same] at h
  | obj o => simp [Blk.same] at h
  | dead => cases b with
    | dead => rfl
    | _ => simp [Blk.same] at h
def sameH : List Blk → List Blk → Bool
  | [], ys => (match ys with | [] => true | _ => false)
  | x :: xs, ys => (match ys with | y :: ys => Blk.same x y && sameH xs ys | _ => false)
theorem sameH_eq : ∀ {xs ys : List Blk}, sameH xs ys = true → xs = ys
  | [], ys, h => by cases ys with
    | nil => rfl
    | cons => simp [sameH] at h
  | x :: xs, ys, h => by cases ys with
    | nil => simp [sameH] at h
    | cons y ys =>
      simp only [sameH, Bool.and_eq_true] at h
      rw [Blk.same_eq h.1, sameH_eq h.2]

/-! ### operations -/
abbrev RC := FuncId → List SV → List Blk → Option (SV × List Blk)
def RCok (P : Program) (G : Gl) (call : RC) : Prop := ∀ f xs H x H', call f xs H = some (x, H') → ACall P G f xs H (fun r H2 => H2 = H' ∧ r = x)

def nilq (G : Gl) (T : Tab) (env : Env) (H : List Blk) : Op → Option SV
  | .binOp .eql t x y _ => ob (ev G env x) fun X => ob (ev G env y) fun Y => match Y with
      | .nil => chk (kindT T t = 2) (ob (slLen H X) fun n => bif Nat.beq n 0 then none else some (.bool false))
      | _ => none
  | .binOp .neq t x y _ => ob (ev G env x) fun X => ob (ev G env y) fun Y => match Y with
      | .nil => chk (kindT T t = 2) (ob (slLen H X) fun n => bif Nat.beq n 0 then none else some (.bool true))
      | _ => none
  | _ => none
/-- looking up, quickly for the kernel -/
def lookB : Env → Nat → Option SV
  | [], _ => none
  | (k, v) :: r, t => bif Nat.beq t k then some v else lookB r t
theorem lookB_eq : ∀ (env : Env) (t : Nat), lookB env t = look env t
  | [], _ => rfl
  | (k, v) :: r, t => by
    unfold lookB look
    cases h : Nat.beq t k with
    | true => rw [cond_true, if_pos (Nat.eq_of_beq_eq_true h)]
    | false =>
      rw [cond_false, if_neg (fun e => by rw [e, Nat.beq_refl] at h; cases h)]
      exact lookB_eq r t
/-- what operands name, and nothing else -/
def smallE (env : Env) : List Operand → Env
  | [] => []
  | .tmp t :: r => (match lookB env t with
    | some v => (t, v) :: smallE env r
    | none => smallE env r)
  | _ :: r => smallE env r
theorem smallE_sub {env : Env} {t : Nat} {v : SV} : ∀ {l : List Operand}, look (smallE env l) t = some v → look env t = some v
  | [], h => by cases h
  | x :: r, h => by
    cases x with
    | tmp s =>
      unfold smallE at h
      rw [lookB_eq] at h
      cases hs : look env s with
      | none => rw [hs] at h; exact smallE_sub h
      | some u =>
        rw [hs] at h
        have h : (if t = s then some u else look (smallE env r) t) = some v := h
        by_cases e : t = s
        · rw [if_pos e] at h; rw [e, hs]; exact h
        · rw [if_neg e] at h; exact smallE_sub h
    | _ => exact smallE_sub (l := r) h
theorem smallE_look {env : Env} {t : Nat} : ∀ {l : List Operand}, Operand.tmp t ∈ l → look (smallE env l) t = look env t
  | x :: r, h => by
    cases x with
    | tmp s =>
      unfold smallE
      rw [lookB_eq]
      cases hs : look env s with
      | some u =>
        show (if t = s then some u else look (smallE env r) t) = _
        by_cases e : t = s
        · rw [if_pos e, e, hs]
        · rw [if_neg e]
          rcases List.mem_cons.1 h with h | h
          · cases h; exact (e rfl).elim
          · exact smallE_look h
      | none =>
        show look (smallE env r) t = _
        by_cases e : t = s
        · rw [e, hs]
          cases hr : look (smallE env r) s with
          | none => rfl
          | some u => rw [smallE_sub hr] at hs; cases hs
        · rcases List.mem_cons.1 h with h | h
          · cases h; exact (e rfl).elim
          · exact smallE_look h
    | _ =>
      rcases List.mem_cons.1 h with h | h
      · cases h
      · exact smallE_look (l := r) h
theorem smallE_ev {G : Gl} {env : Env} {l : List Operand} {x : Operand} (h : x ∈ l) : ev G (smallE env l) x = ev G env x := by
  cases x with
  | tmp t => exact smallE_look h
  | _ => rfl
/-- is a list so long? (without counting all of it) -/
def longB (l : List SV) (n : Nat) : Bool := match n with
  | 0 => true
  | n + 1 => match l.drop n with
    | [] => false
    | _ :: _ => true
theorem longB_le {l : List SV} {n : Nat} (h : longB l n = true) : n ≤ l.length := by
  cases n with
  | zero => exact Nat.zero_le _
  | succ n =>
    rcases Nat.lt_or_ge n l.length with h2 | h2
    · exact h2
    · have h3 : (match l.drop n with
        | [] => false
        | _ :: _ => true) = true := h
      rw [List.drop_eq_nil_of_le h2] at h3
      cases h3
/-- copying into a long slice -/
def cpQ (G : Gl) (T : Tab) (env : Env) (H : List Blk) : Op → Option (SV × List Blk)
  | .call ⟨.builtin .copy, ⟨[d, s]⟩, ⟨[t, ts]⟩⟩ => ob (elemOf T t) fun e => ob (elemOf T ts) fun _ => ob (ev G env d) fun dv => ob (ev G env s) fun sv => ob (seqOf H sv) fun ys => bb (szOK H e.2.size sv)
      (match dv with
      | .sl id g off len => ob (blkOf H id g) fun b => bb (Nat.beq b.1 e.2.size && Nat.blt 0 e.2.size && longB b.2 (off + len))
          (some (.int .i64 (min ys.length len : Nat), H.set id (.cells g e.2.size (b.2.take off ++ ys.take (min ys.length len) ++ b.2.drop (off + min ys.length len))))) none
      | _ => none) none
  | _ => none
theorem cpQ_lv {G : Gl} {T : Tab} {own : List Nat} {env : Env} {H : List Blk} {dst : Option Nat} {ty : Nat} {op : Op} {r : SV × List Blk} (h : cpQ G T env H op = some r) : lv G T own env H dst ty op = some r := by
  unfold cpQ at h
  split at h
  · obtain ⟨e, h1, h⟩ := ob_eq h
    obtain ⟨e', h2, h⟩ := ob_eq h
    obtain ⟨dv, h3, h⟩ := ob_eq h
    obtain ⟨sv, h4, h⟩ := ob_eq h
    obtain ⟨ys, h5, h⟩ := ob_eq h
    rcases bb_eq h with ⟨h6, h⟩ | ⟨_, h⟩
    · cases dv with
      | sl id g off len =>
        obtain ⟨b, h7, h⟩ := ob_eq h
        rcases bb_eq h with ⟨h8, h⟩ | ⟨_, h⟩
        · simp only [Bool.and_eq_true] at h8
          obtain ⟨⟨a1, a2⟩, a3⟩ := h8
          have a1 := Nat.eq_of_beq_eq_true a1
          have a2 : 0 < e.2.size := by simpa [Nat.blt_eq] using a2
          have a3 := longB_le a3
          rw [← h]
          unfold lv
          simp only [ob, h1, h2, h3, h4, h5, h6, chk, copyV, h7, a1, a2, a3, and_self, if_true, Option.bind_some]
        · cases h
      | _ => cases h
    · cases h
  · cases h
def plainOp (G : Gl) (T : Tab) (own : List Nat) (env : Env) (H : List Blk) (dst : Option Nat) (ty : Nat) (op : Op) : Option (SV × List Blk) :=
  match qv G T own env H dst ty op with
  | some v => some (v, H)
  | none => match cpQ G T env H op with
   | some r => some r
   | none => match lv G T own env H dst ty op with
    | some r => some r
    | none => match lvI G T env H op with
      | some r => some r
      | none => match nilq G T env H op with
        | some v => some (v, H)
        | none => none
def doOp (call : RC) (G : Gl) (T : Tab) (own : List Nat) (env : Env) (H : List Blk) (dst : Option Nat) (ty : Nat) : Op → Option (SV × List Blk)
  | .call ⟨.value f, args, _⟩ => ob (ev G env f) fun fv => ob (evs G env args.toList) fun xs => match fv with
      | .fn (.func g) first cap => call g (first ++ xs ++ cap) H
      | _ => none
  | op => plainOp G T own env H dst ty op

section
variable {P : Program} {G : Gl} {T : Tab} {own : List Nat} {nt : Nat} {C : Cx} {call : RC}

theorem nilq_ok {env : Env} {H : List Blk} {dst : Option Nat} {ty : Nat} {op : Op} {v : SV} {k : SV → List Blk → Prop} (h : nilq G T env H op = some v) (hk : k v H) : exOp P G T own env H dst ty op k := by
  unfold nilq at h
  split at h
  · obtain ⟨X, h1, h⟩ := ob_eq h
    obtain ⟨Y, h2, h⟩ := ob_eq h
    split at h
    · obtain ⟨h3, h⟩ := chk_eq h
      obtain ⟨n, h4, h⟩ := ob_eq h
      cases hn : Nat.beq n 0 with
      | true => rw [hn] at h; cases h
      | false =>
        rw [hn] at h
        cases h
        refine exOp_nilq (eq := true) h1 h2 h3 h4 (fun e => ?_) hk
        subst e
        cases hn
    · cases h
  · obtain ⟨X, h1, h⟩ := ob_eq h
    obtain ⟨Y, h2, h⟩ := ob_eq h
    split at h
    · obtain ⟨h3, h⟩ := chk_eq h
      obtain ⟨n, h4, h⟩ := ob_eq h
      cases hn : Nat.beq n 0 with
      | true => rw [hn] at h; cases h
      | false =>
        rw [hn] at h
        cases h
        refine exOp_nilq (eq := false) h1 h2 h3 h4 (fun e => ?_) hk
        subst e
        cases hn
    · cases h
  · cases h
theorem plainOp_ok {env : Env} {H H' : List Blk} {dst : Option Nat} {ty : Nat} {op : Op} {v : SV} {k : SV → List Blk → Prop} (h : plainOp G T own env H dst ty op = some (v, H')) (hk : k v H') : exOp P G T own env H dst ty op k := by
  unfold plainOp at h
  split at h
  · rename_i hq; cases h; exact qv_ok hq hk
  · split at h
    · rename_i hq; cases h; exact lv_ok (cpQ_lv hq) hk
    split at h
    · rename_i hq; cases h; exact lv_ok hq hk
    · split at h
      · rename_i hq; cases h; exact lvI_ok hq hk
      · split at h
        · rename_i hq; cases h; exact nilq_ok hq hk
        · cases h
theorem doOp_ok (hc : RCok P G call) {env : Env} {H H' : List Blk} {dst : Option Nat} {ty : Nat} {op : Op} {v : SV} {k : SV → List Blk → Prop} (h : doOp call G T own env H dst ty op = some (v, H')) (hk : k v H') : exOp P G T own env H dst ty op k := by
  unfold doOp at h
  split at h
  · obtain ⟨fv, h1, h⟩ := ob_eq h
    obtain ⟨xs, h2, h⟩ := ob_eq h
    split at h
    · refine ⟨_, h1, xs, h2, ACallV.of ((hc _ _ _ _ _ h).mono ?_)⟩
      rintro r H2 ⟨rfl, rfl⟩
      exact hk
    · cases h
  · exact plainOp_ok h hk

theorem doOp_okS (hc : RCok P G call) {env : Env} {H H' : List Blk} {dst : Option Nat} {ty : Nat} {op : Op} {v : SV} {k : SV → List Blk → Prop} (h : doOp call G T own (smallE env (opds op)) H dst ty op = some (v, H')) (hk : k v H') : exOp P G T own env H dst ty op k := by
  rw [← exOp_congrO (env := smallE env (opds op)) (fun x hx => smallE_ev hx)]
  exact doOp_ok hc h hk

def putD (nt : Nat) (d : Option Nat) (x : SV) (env : Env) : Option Env := match d with
  | some d => bif Nat.blt d nt then some ((d, x) :: env) else none
  | none => some env
theorem putD_ok {d : Option Nat} {x : SV} {env env' : Env} {k : Env → Prop} (h : putD nt d x env = some env') (hk : k env') : putK nt d x env k := by
  cases d with
  | none => cases h; exact hk
  | some d =>
    unfold putD at h
    cases hb : Nat.blt d nt with
    | true => simp only [hb, cond_true, Option.some.injEq] at h; subst h; exact ⟨by simpa [Nat.blt_eq] using hb, hk⟩
    | false => simp only [hb, cond_false] at h; cases h
end

section
variable (call : RC) (G : Gl) (T : Tab) (own : List Nat) (nt : Nat)
def gOp (all : List Oper) (o : Oper) (env : Env) (H : List Blk) : Option (SV × List Blk) :=
  match o.guard with
  | none => doOp call G T own (smallE env (opds o.op)) H o.dst o.type o.op
  | some (j, want) => ob ((all[j]?).bind (·.dst)) fun dj => ob (lookB env dj) fun v => ob (asG v) fun b => bb (b == some want) (doOp call G T own (smallE env (opds o.op)) H o.dst o.type o.op) (some (.undef, H))
def evOps (all : List Oper) : List Oper → Env → List Blk → Option (Env × List Blk)
  | [], env, H => some (env, H)
  | o :: r, env, H => match gOp call G T own all o env H with
    | some (x, H') => (match putD nt o.dst x env with
      | some env' => evOps all r env' H'
      | none => none)
    | none => none
def agB (all : List Oper) (env : Env) (H : List Blk) : List Nat → Bool
  | [] => true
  | i :: r => (match all[i]? with
    | some o => optSame (qg G T own all o env H) ((o.dst).bind (look env))
    | none => false) && agB all env H r
def dstsOf (all : List Oper) : List Nat := all.filterMap (·.dst)
def sameOn (e1 e2 : Env) : List Nat → Bool
  | [] => true
  | t :: r => optSame (lookB e1 t) (lookB e2 t) && sameOn e1 e2 r
/-- whichever comes first, the same comes out -/
def drAll (all : List Oper) (f : Nat → Option (Env × List Blk)) : List Nat → Option (Env × List Blk)
  | [] => none
  | j :: js => match f j with
    | some (e1, h1) => (match js with
      | [] => some (e1, h1)
      | _ => match drAll all f js with
        | some (e2, h2) => bif sameOn e1 e2 (dstsOf all) && sameH h1 h2 then some (e2, h2) else none
        | none => none)
    | none => none
def evDr (all : List Oper) : Nat → Nat → List Nat → Env → List Blk → Option (Env × List Blk)
  | 0, _, _, _, _ => none
  | n + 1, m, ex, env, H =>
    bif Nat.ble all.length m then some (env, H) else
    bif memN m ex then evDr all n (m + 1) ex env H else
    match stepQ own all m ex with
    | some o => (match qg G T own all o env H with
      | some v => evDr all n (m + 1) ex (putE o.dst v env) H
      | none => none)
    | none => match firstQP own m ex 0 all with
      | some i => (match all[i]? with
        | some o => (match qg G T own all o env H with
          | some v => evDr all n m (i :: ex) (putE o.dst v env) H
          | none => none)
        | none => none)
      | none => drAll all (fun j => match all[j]? with
          | some o => (match gOp call G T own all o env H with
            | some (x, H') => bif agB G T own all (putE o.dst x env) H' (agR own all (getL (clo all) j) m ++ agL own all (getL (clo all) j) ex) then evDr all n m (j :: ex) (putE o.dst x env) H' else none
            | none => none)
          | none => none) (readyP m ex 0 all)
end

section
variable {P : Program} {G : Gl} {T : Tab} {own : List Nat} {nt : Nat} {C : Cx} {call : RC} {ρ : Option Nat}
theorem gOp_exG (hc : RCok P G call) {all : List Oper} {o : Oper} {env : Env} {H H' : List Blk} {x : SV} {k : SV → List Blk → Prop} (h : gOp call G T own all o env H = some (x, H')) (hk : k x H') : exG P G T own all o env H k := by
  unfold gOp at h
  unfold exG
  cases hgd : o.guard with
  | none =>
    simp only [hgd] at h
    exact doOp_okS hc h hk
  | some jw =>
    obtain ⟨j, want⟩ := jw
    simp only [hgd] at h
    obtain ⟨dj, h1, h⟩ := ob_eq h
    obtain ⟨v, h2, h⟩ := ob_eq h
    rw [lookB_eq] at h2
    obtain ⟨b, h3, h⟩ := ob_eq h
    refine ⟨dj, h1, v, h2, b, h3, fun e => ?_, fun e => ?_⟩
    · rw [e] at h; exact doOp_okS hc h hk
    · rw [e] at h; cases h; exact hk
theorem evOps_ok (hc : RCok P G call) {all : List Oper} : ∀ (l : List Oper) {env env' : Env} {H H' : List Blk} {k : Env → List Blk → Prop}, evOps call G T own nt all l env H = some (env', H') → k env' H' → exOps P G T own nt all l env H k
  | [], env, env', H, H', k, h, hk => by cases h; exact hk
  | o :: r, env, env', H, H', k, h, hk => by
    unfold evOps at h
    split at h
    · rename_i x H1 hg
      split at h
      · rename_i env1 hp
        have ih := evOps_ok hc r h hk
        unfold gOp at hg
        unfold exOps
        cases hgd : o.guard with
        | none =>
          simp only [hgd] at hg
          exact doOp_okS (k := fun x H' => putK nt o.dst x env fun env' => exOps P G T own nt all r env' H' k) hc hg (putD_ok hp ih)
        | some jw =>
          obtain ⟨j, want⟩ := jw
          simp only [hgd] at hg
          obtain ⟨dj, h1, hg⟩ := ob_eq hg
          obtain ⟨v, h2, hg⟩ := ob_eq hg
          rw [lookB_eq] at h2
          obtain ⟨b, h3, hg⟩ := ob_eq hg
          refine ⟨dj, h1, v, h2, b, h3, fun e => ?_, fun e => ?_⟩
          · rw [e] at hg; exact doOp_okS (k := fun x H' => putK nt o.dst x env fun env' => exOps P G T own nt all r env' H' k) hc hg (putD_ok hp ih)
          · rw [e] at hg; cases hg; exact putD_ok hp ih
      · cases h
    · cases h
theorem agB_ok {all : List Oper} {env : Env} {H : List Blk} : ∀ {l : List Nat}, agB G T own all env H l = true → AgAll G T own all env H l
  | [], _ => trivial
  | i :: r, h => by
    unfold agB at h
    rw [Bool.and_eq_true] at h
    obtain ⟨h1, h2⟩ := h
    split at h1
    · rename_i o ho
      exact ⟨⟨o, ho, optSame_eq h1⟩, agB_ok h2⟩
    · cases h1
theorem dr_doneK {all : List Oper} {n m : Nat} {ex : List Nat} {env : Env} {H : List Blk} {K : Env → List Blk → Prop} (hm : Nat.ble all.length m = true) (h : K env H) : (DrP P G T own all) (n + 1) m ex env H K := fun L hL => by
  have hall : ∀ i o, all[i]? = some o → i ∈ L := fun i o ho => (hL i).2 (LP_iff.2 (.inl (by
    have h1 := (List.getElem?_eq_some_iff.1 ho).1
    have h2 := Nat.le_of_ble_eq_true hm
    omega)))
  exact .inr ⟨fun i o ho hn => (hn (hall i o ho)).elim, .inl ⟨hall, h⟩⟩
theorem Dr.up {all : List Oper} {K : Env → List Blk → Prop} : ∀ (n : Nat) {L : List Nat} {env : Env} {H : List Blk}, Dr P G T own all n L env H K → Dr P G T own all (n + 1) L env H K
  | 0, _, _, _, h => h.elim
  | n + 1, L, env, H, h => by
    rcases h with ⟨i, o, v, h1, h2, h3, h4, h5, h6⟩ | ⟨h1, h2⟩
    · exact .inl ⟨i, o, v, h1, h2, h3, h4, h5, Dr.up n h6⟩
    · refine .inr ⟨h1, ?_⟩
      rcases h2 with h2 | ⟨h2, h3⟩
      · exact .inl h2
      · exact .inr ⟨h2, fun j o a1 a2 a3 => exG_mono (fun x H' hx => ⟨hx.1, Dr.up n hx.2⟩) (h3 j o a1 a2 a3)⟩
theorem DrP.le {all : List Oper} {m : Nat} {ex : List Nat} {env : Env} {H : List Blk} {K : Env → List Blk → Prop} {n n' : Nat} (hn : n ≤ n') (h : DrP P G T own all n m ex env H K) : DrP P G T own all n' m ex env H K := by
  induction hn with
  | refl => exact h
  | step _ ih => exact fun L hL => Dr.up _ (ih L hL)
theorem DrP.monoK {all : List Oper} {m : Nat} {ex : List Nat} {env : Env} {H : List Blk} {K K' : Env → List Blk → Prop} {n : Nat} (hk : ∀ e h, K e h → K' e h) (h : DrP P G T own all n m ex env H K) : DrP P G T own all n m ex env H K' := by
  have key : ∀ (n : Nat) {L : List Nat} {env : Env} {H : List Blk}, Dr P G T own all n L env H K → Dr P G T own all n L env H K' := by
    intro n
    induction n with
    | zero => intro L env H h; exact h.elim
    | succ n ih =>
      intro L env H h
      rcases h with ⟨i, o, v, h1, h2, h3, h4, h5, h6⟩ | ⟨h1, h2⟩
      · exact .inl ⟨i, o, v, h1, h2, h3, h4, h5, ih h6⟩
      · refine .inr ⟨h1, ?_⟩
        rcases h2 with ⟨h2, h3⟩ | ⟨h2, h3⟩
        · exact .inl ⟨h2, hk _ _ h3⟩
        · exact .inr ⟨h2, fun j o a1 a2 a3 => exG_mono (fun x H' hx => ⟨hx.1, ih hx.2⟩) (h3 j o a1 a2 a3)⟩
  exact fun L hL => key n (h L hL)
theorem mem_dsts {all : List Oper} {i : Nat} {o : Oper} (ho : all[i]? = some o) {d : Nat} (hd : o.dst = some d) : d ∈ dstsOf all :=
  List.mem_filterMap.2 ⟨o, List.mem_of_getElem? ho, hd⟩
theorem putE_look {all : List Oper} {i : Nat} {o : Oper} (ho : all[i]? = some o) {x : SV} {env : Env} {t : Nat} (ht : t ∉ dstsOf all) : look (putE o.dst x env) t = look env t := by
  cases hd : o.dst with
  | none => rfl
  | some d =>
    show (if t = d then some x else look env t) = look env t
    rw [if_neg (fun e => ht (by rw [e]; exact mem_dsts ho hd))]
theorem sameOn_look {e1 e2 : Env} : ∀ {l : List Nat}, sameOn e1 e2 l = true → ∀ t ∈ l, look e1 t = look e2 t
  | t :: r, h, s, hs => by
    simp only [sameOn, Bool.and_eq_true] at h
    rcases List.mem_cons.1 hs with rfl | hs
    · have := optSame_eq h.1
      rwa [lookB_eq, lookB_eq] at this
    · exact sameOn_look h.2 s hs
theorem drAll_mem {all : List Oper} {f : Nat → Option (Env × List Blk)} : ∀ {l : List Nat} {e : Env} {h : List Blk}, drAll all f l = some (e, h) → ∀ j ∈ l, ∃ e', f j = some (e', h) ∧ ∀ t ∈ dstsOf all, look e' t = look e t
  | j :: js, e, h, hd => by
    unfold drAll at hd
    split at hd
    · rename_i e1 h1 hf
      split at hd
      · cases hd
        intro j' hj'
        rw [List.mem_singleton.1 hj']
        exact ⟨_, hf, fun _ _ => rfl⟩
      · split at hd
        · rename_i e2 h2 hr
          cases hb : (sameOn e1 e2 (dstsOf all) && sameH h1 h2) with
          | false => rw [hb] at hd; cases hd
          | true =>
            rw [hb, cond_true] at hd
            cases hd
            rw [Bool.and_eq_true] at hb
            intro j' hj'
            rcases List.mem_cons.1 hj' with rfl | hj'
            · refine ⟨e1, ?_, sameOn_look hb.1⟩
              rw [hf, sameH_eq hb.2]
            · exact drAll_mem hr j' hj'
        · cases hd
    · cases hd
theorem common {P : Nat → Nat → Prop} (hP : ∀ j n n', n ≤ n' → P n j → P n' j) : ∀ (l : List Nat), (∀ j ∈ l, ∃ N, P N j) → ∃ N, ∀ j ∈ l, P N j
  | [], _ => ⟨0, fun _ h => by cases h⟩
  | j :: r, h => by
    obtain ⟨N1, h1⟩ := h j (List.mem_cons_self ..)
    obtain ⟨N2, h2⟩ := common hP r (fun j hj => h j (List.mem_cons_of_mem _ hj))
    refine ⟨max N1 N2, fun j' hj' => ?_⟩
    rcases List.mem_cons.1 hj' with rfl | hj'
    · exact hP _ _ _ (Nat.le_max_left ..) h1
    · exact hP _ _ _ (Nat.le_max_right ..) (h2 j' hj')
theorem evDr_ok (hc : RCok P G call) {all : List Oper} : ∀ (n m : Nat) (ex : List Nat) (env : Env) (H : List Blk) {env' : Env} {H' : List Blk}, evDr call G T own all n m ex env H = some (env', H') → (∃ N, DrP P G T own all N m ex env H (fun e h => h = H' ∧ EqE e env')) ∧ ∀ t, t ∉ dstsOf all → look env' t = look env t
  | 0, m, ex, env, H, env', H', h => by cases h
  | n + 1, m, ex, env, H, env', H', h => by
    unfold evDr at h
    cases h1 : Nat.ble all.length m with
    | true =>
      rw [h1, cond_true] at h
      cases h
      exact ⟨⟨1, dr_doneK h1 ⟨rfl, EqE.refl _⟩⟩, fun _ _ => rfl⟩
    | false =>
      rw [h1, cond_false] at h
      cases h2 : memN m ex with
      | true =>
        rw [h2, cond_true] at h
        obtain ⟨⟨N, hN⟩, hl⟩ := evDr_ok hc n (m + 1) ex env H h
        exact ⟨⟨N, dr_adv h2 hN⟩, hl⟩
      | false =>
        rw [h2, cond_false] at h
        split at h
        · rename_i o hs
          split at h
          · rename_i v hv
            obtain ⟨⟨N, hN⟩, hl⟩ := evDr_ok hc n (m + 1) ex _ H h
            obtain ⟨g1, g2, g3, g4⟩ := stepQ_some hs
            refine ⟨⟨N + 1, fun L hL => ?_⟩, fun t ht => (hl t ht).trans (putE_look g1 ht)⟩
            exact .inl ⟨m, _, v, g1, not_mem_next hL g2, g3, deps_LP hL g4, hv, hN (m :: L) (LP_next hL)⟩
          · cases h
        · split at h
          · rename_i i hf
            split at h
            · rename_i o ho
              split at h
              · rename_i v hv
                obtain ⟨⟨N, hN⟩, hl⟩ := evDr_ok hc n m (i :: ex) _ H h
                refine ⟨⟨N + 1, fun L hL => ?_⟩, fun t ht => (hl t ht).trans (putE_look ho ht)⟩
                obtain ⟨k, o', g1, g2, g3, g4, g5⟩ := firstQP_some hf
                rw [Nat.zero_add] at g1
                subst g1
                rw [ho] at g2
                cases g2
                exact .inl ⟨i, _, v, ho, not_LP hL g3, g4, deps_LP hL g5, hv, hN (i :: L) (LP_ins hL i)⟩
              · cases h
            · cases h
          · rename_i hf
            have hall := drAll_mem h
            cases hr : readyP m ex 0 all with
            | nil => rw [hr] at h; cases h
            | cons j0 js =>
              rw [hr] at hall
              have key : ∀ j ∈ j0 :: js, ∃ o x H1 e1, all[j]? = some o ∧ gOp call G T own all o env H = some (x, H1) ∧ agB G T own all (putE o.dst x env) H1 (agR own all (getL (clo all) j) m ++ agL own all (getL (clo all) j) ex) = true ∧ evDr call G T own all n m (j :: ex) (putE o.dst x env) H1 = some (e1, H') ∧ ∀ t ∈ dstsOf all, look e1 t = look env' t := by
                intro j hj
                obtain ⟨e1, hfj, hl⟩ := hall j hj
                split at hfj
                · rename_i o ho
                  split at hfj
                  · rename_i x H1 hg
                    cases hb : agB G T own all (putE o.dst x env) H1 (agR own all (getL (clo all) j) m ++ agL own all (getL (clo all) j) ex) with
                    | false => rw [hb] at hfj; cases hfj
                    | true => rw [hb, cond_true] at hfj; exact ⟨o, x, H1, e1, ho, hg, hb, hfj, hl⟩
                  · cases hfj
                · cases hfj
              have hrest : ∀ t, t ∉ dstsOf all → look env' t = look env t := by
                intro t ht
                -- the last one's environment is what comes out
                have : ∀ (l : List Nat), drAll all (fun j => match all[j]? with
                    | some o => (match gOp call G T own all o env H with
                      | some (x, H') => bif agB G T own all (putE o.dst x env) H' (agR own all (getL (clo all) j) m ++ agL own all (getL (clo all) j) ex) then evDr call G T own all n m (j :: ex) (putE o.dst x env) H' else none
                      | none => none)
                    | none => none) l = some (env', H') → look env' t = look env t := by
                  intro l
                  induction l with
                  | nil => intro h; cases h
                  | cons j js ih =>
                    intro hd
                    unfold drAll at hd
                    split at hd
                    · rename_i e1 h1 hf1
                      split at hd
                      · cases hd
                        split at hf1
                        · rename_i o ho
                          split at hf1
                          · rename_i x H1 hg
                            cases hb : agB G T own all (putE o.dst x env) H1 (agR own all (getL (clo all) j) m ++ agL own all (getL (clo all) j) ex) with
                            | false => rw [hb] at hf1; cases hf1
                            | true =>
                              rw [hb, cond_true] at hf1
                              exact ((evDr_ok hc n m (j :: ex) _ H1 hf1).2 t ht).trans (putE_look ho ht)
                          · cases hf1
                        · cases hf1
                      · split at hd
                        · rename_i e2 h2 hr2
                          cases hb : (sameOn e1 e2 (dstsOf all) && sameH h1 h2) with
                          | false => rw [hb] at hd; cases hd
                          | true =>
                            rw [hb, cond_true] at hd
                            cases hd
                            exact ih hr2
                        · cases hd
                    · cases hd
                exact this _ h
              obtain ⟨N, hN⟩ := common (P := fun N j => ∃ o, all[j]? = some o ∧ exG P G T own all o env H fun x H1 => AgP G T own all j m ex (putE o.dst x env) H1 ∧ (DrP P G T own all) N m (j :: ex) (putE o.dst x env) H1 (fun e h => h = H' ∧ EqE e env'))
                (fun j n n' hn ⟨o, ho, hx⟩ => ⟨o, ho, exG_mono (fun x H1 hh => ⟨hh.1, DrP.le hn hh.2⟩) hx⟩) (j0 :: js) (fun j hj => by
                  obtain ⟨o, x, H1, e1, ho, hg, hb, he, hl⟩ := key j hj
                  obtain ⟨⟨N, hN⟩, hl2⟩ := evDr_ok hc n m (j :: ex) _ H1 he
                  refine ⟨N, o, ho, gOp_exG hc hg ⟨agB_ok hb, DrP.monoK (fun e h hh => ⟨hh.1, hh.2.trans fun t => ?_⟩) hN⟩⟩
                  by_cases ht : t ∈ dstsOf all
                  · exact hl t ht
                  · rw [hl2 t ht, putE_look ho ht, hrest t ht])
              exact ⟨⟨N + 1, loud_any hf hr hN⟩, hrest⟩
end

/-! ### code -/
def evB (G : Gl) (env : Env) : Operand → Option SV
  | .tmp t => lookB env t
  | x => ev G env x
theorem evB_eq {G : Gl} {env : Env} (x : Operand) : evB G env x = ev G env x := by
  cases x with
  | tmp t => exact lookB_eq env t
  | _ => rfl
/-- each temporary once -/
def ded : List Nat → Env → Env
  | _, [] => []
  | seen, (t, x) :: r => bif memN t seen then ded seen r else (t, x) :: ded (t :: seen) r
theorem ded_look : ∀ (env : Env) (seen : List Nat) (t : Nat) (x : SV), look (ded seen env) t = some x → t ∉ seen ∧ look env t = some x
  | [], seen, t, x, h => by cases h
  | (s, y) :: r, seen, t, x, h => by
    unfold ded at h
    cases hm : memN s seen with
    | true =>
      rw [hm, cond_true] at h
      obtain ⟨h1, h2⟩ := ded_look r seen t x h
      refine ⟨h1, ?_⟩
      unfold look
      rw [if_neg (fun e => h1 (by rw [e]; exact memN_iff.1 hm))]
      exact h2
    | false =>
      rw [hm, cond_false] at h
      unfold look at h ⊢
      by_cases e : t = s
      · rw [if_pos e] at h ⊢
        refine ⟨fun hi => ?_, h⟩
        rw [e] at hi
        rw [memN_iff.2 hi] at hm
        cases hm
      · rw [if_neg e] at h ⊢
        obtain ⟨h1, h2⟩ := ded_look r (s :: seen) t x h
        exact ⟨fun hi => h1 (List.mem_cons_of_mem _ hi), h2⟩

section
variable (call : RC) (G : Gl) (T : Tab) (own : List Nat) (nt : Nat)
def evC : Nat → Code → Env → List Blk → Option (Exit × Env × List Blk)
  | 0, _, _, _ => none
  | n + 1, cd, env, H => match cd with
    | .skip => some (.normal, env, H)
    | .label _ => some (.normal, env, H)
    | .ret => some (.ret, env, H)
    | .exit id => some (.exit id, env, H)
    | .cond x p q => (match evB G env x with
      | some (.bool true) => evC n p env H
      | some (.bool false) => evC n q env H
      | _ => none)
    | .seq x y => (match evC n x env H with
      | some (.normal, env', H') => evC n y env' H'
      | r => r)
    | .block id x => (match evC n x env H with
      | some (.exit id', env', H') => if id' = id then some (.normal, env', H') else some (.exit id', env', H')
      | r => r)
    | .loop x => (match evC n x env H with
      | some (.normal, env', H') => evC n (.loop x) (ded [] env') H'
      | r => r)
    | .region _ ops false => (match evOps call G T own nt ops.toList ops.toList env H with
      | some (env', H') => some (.normal, env', H')
      | none => none)
    | .region _ ops true => bif drawOK nt ops.toList then (match evDr call G T own ops.toList 300 0 [] env H with
      | some (env', H') => some (.normal, env', H')
      | none => none) else none
    | _ => none
end

section
variable {P : Program} {G : Gl} {T : Tab} {own : List Nat} {nt : Nat} {C : Cx} {call : RC} {ρ : Option Nat}
theorem evC_ok (hT : TabOK P T) (hm : P.follows .mixedOrders = true) (hc : RCok P G call) : ∀ (N n : Nat), n ≤ N → ∀ (cd : Code) (env : Env) (H : List Blk) (e : Exit) (env' : Env) (H' : List Blk), evC call G T own nt n cd env H = some (e, env', H') →
    AWP P G nt ρ C cd (fun e2 s => e2 = e ∧ s.H = H' ∧ EqE s.env env') ⟨env, H⟩ := by
  intro N
  induction N with
  | zero =>
    intro n hn cd env H e env' H' h
    obtain rfl : n = 0 := by omega
    cases h
  | succ N ih =>
    intro n hn cd env H e env' H' h
    cases n with
    | zero => cases h
    | succ n =>
    have hn : n ≤ N := by omega
    have ihn := ih n hn
    unfold evC at h
    split at h
    · cases h; exact AWP.skip ⟨rfl, rfl, EqE.refl _⟩
    · cases h; exact fun c a hc hi hg => wpIn_label ⟨_, c, ⟨rfl, rfl, EqE.refl _⟩, hc, rfl, hi, hg⟩
    · cases h; exact AWP.ret ⟨rfl, rfl, EqE.refl _⟩
    · cases h; exact AWP.exit ⟨rfl, rfl, EqE.refl _⟩
    · rename_i x p q
      split at h
      · rename_i hv
        rw [evB_eq] at hv
        refine AWP.cond ⟨_, hv, true, rfl, ?_⟩
        exact ⟨fun _ => ihn _ _ _ _ _ _ h, fun e => (by cases e)⟩
      · rename_i hv
        rw [evB_eq] at hv
        refine AWP.cond ⟨_, hv, false, rfl, ?_⟩
        exact ⟨fun e => (by cases e), fun _ => ihn _ _ _ _ _ _ h⟩
      · cases h
    · rename_i x y
      split at h
      · rename_i env1 H1 h1
        refine AWP.seq (AWP.mono (ihn _ _ _ _ _ _ h1) ?_)
        rintro e2 ⟨envx, Hx⟩ ⟨rfl, rfl, he⟩
        simp only at he
        exact AWP.wk (Wk.env fun t x hx => (he t).trans hx) (ihn _ _ _ _ _ _ h)
      · rename_i r hr
        refine AWP.seq (AWP.mono (ihn _ _ _ _ _ _ h) ?_)
        rintro e2 ⟨envx, Hx⟩ ⟨rfl, rfl, he⟩
        simp only at he
        cases e2 with
        | normal => exact (hr _ _ h).elim
        | _ => exact ⟨rfl, rfl, he⟩
    · rename_i id x
      split at h
      · rename_i id' env1 H1 h1
        refine AWP.block (AWP.mono (ihn _ _ _ _ _ _ h1) ?_)
        rintro e2 ⟨envx, Hx⟩ ⟨rfl, rfl, he⟩
        simp only at he
        by_cases hid : id' = id
        · rw [if_pos hid] at h
          cases h
          simp only [hid, if_true]
          exact ⟨trivial, trivial, he⟩
        · rw [if_neg hid] at h
          cases h
          simp only [hid, if_false]
          exact ⟨trivial, trivial, he⟩
      · rename_i r hr
        refine AWP.block (AWP.mono (ihn _ _ _ _ _ _ h) ?_)
        rintro e2 ⟨envx, Hx⟩ ⟨rfl, rfl, he⟩
        simp only at he
        cases e2 with
        | exit id' => exact (hr _ _ _ h).elim
        | _ => exact ⟨rfl, rfl, he⟩
    · rename_i x
      have h0 : evC call G T own nt (n + 1) (.loop x) env H = some (e, env', H') := by unfold evC; exact h
      refine AWP.loopW (fun m s => m ≤ n ∧ evC call G T own nt (m + 1) (.loop x) s.env s.H = some (e, env', H')) n ⟨env, H⟩ (Wk.env fun t x hx => hx) ⟨Nat.le_refl _, h0⟩ ?_
      rintro m ⟨env0, H0⟩ ⟨hmn, hr⟩
      unfold evC at hr
      simp only at hr
      split at hr
      · rename_i env1 H1 h1
        refine AWP.mono (ih m (by omega) _ _ _ _ _ _ h1) ?_
        rintro e2 ⟨envx, Hx⟩ ⟨rfl, rfl, he⟩
        simp only at he
        cases m with
        | zero => cases h1
        | succ m => exact ⟨m, ⟨ded [] env1, _⟩, by omega, Wk.env (fun t x hx => (he t).trans (ded_look _ _ _ _ hx).2), by omega, hr⟩
      · rename_i r hr2
        refine AWP.mono (ih m (by omega) _ _ _ _ _ _ hr) ?_
        rintro e2 ⟨envx, Hx⟩ ⟨rfl, rfl, he⟩
        simp only at he
        cases e2 with
        | normal => exact (hr2 _ _ hr).elim
        | _ => exact ⟨rfl, rfl, he⟩
    · rename_i ops
      split at h
      · rename_i env1 H1 h1
        cases h
        exact AWP.region hT (evOps_ok hc _ h1 ⟨rfl, rfl, EqE.refl _⟩)
      · cases h
    · rename_i ops
      cases hd : drawOK nt ops.toList with
      | false => rw [hd] at h; cases h
      | true =>
        rw [hd, cond_true] at h
        split at h
        · rename_i env1 H1 h1
          cases h
          obtain ⟨⟨N2, hN⟩, _⟩ := evDr_ok (P := P) hc _ _ _ _ _ h1
          exact AWP.draw hT hm hd (DrP.monoK (K' := fun env H => (fun e2 s => e2 = Exit.normal ∧ s.H = H' ∧ EqE s.env env') .normal (St.mk env H)) (fun e h hh => ⟨rfl, hh⟩) hN [] (fun i => by simp [LP, memN, Nat.blt_eq]))
        · cases h
    · cases h
end

/-! ### calls -/
/-- where slices are built -/
def ownC : Code → List Nat
  | .seq x y => ownC x ++ ownC y
  | .block _ x => ownC x
  | .loop x => ownC x
  | .cond _ p q => ownC p ++ ownC q
  | .region _ ops _ => ops.toList.filterMap fun o => match o.op with
    | .buildSlice .. => o.dst
    | _ => none
  | _ => []

/-- own slices told as plain lists, as far down as d -/
def frzVL (f : SV → Option SV) : List SV → Option (List SV)
  | [] => some []
  | x :: r => match f x with
    | some y => (match frzVL f r with
      | some ys => some (y :: ys)
      | none => none)
    | none => none
def frzV (H : List Blk) (n : Nat) : Nat → SV → Option SV
  | 0, _ => none
  | d + 1, x => bif x.under n then some x else match x with
    | .agg fs => (match frzVL (frzV H n d) fs with
      | some ys => some (.agg ys)
      | none => none)
    | .tuple fs => (match frzVL (frzV H n d) fs with
      | some ys => some (.tuple ys)
      | none => none)
    | .list sz fs => (match frzVL (frzV H n d) fs with
      | some ys => some (.list sz ys)
      | none => none)
    | .sl id g off len => bif Nat.ble n id then (match H[id]? with
      | some (.cells g' sz vals) => bif Nat.beq g g' then (match frzVL (frzV H n d) ((vals.drop off).take len) with
        | some ys => some (.list sz ys)
        | none => none) else none
      | _ => none) else none
    | _ => none
theorem frzVL_ok {H : List Blk} {n : Nat} {f : SV → Option SV} (hf : ∀ x y, f x = some y → Frz H n [] x y) : ∀ {xs ys : List SV}, frzVL f xs = some ys → FrzL H n [] xs ys
  | [], ys, h => by cases h; exact .nil
  | x :: r, ys, h => by
    unfold frzVL at h
    split at h
    · rename_i y hy
      split at h
      · rename_i zs hzs
        cases h
        exact .cons _ _ _ _ (hf _ _ hy) (frzVL_ok hf hzs)
      · cases h
    · cases h
theorem frzV_ok {H : List Blk} {n : Nat} : ∀ (d : Nat) (x y : SV), frzV H n d x = some y → Frz H n [] x y
  | 0, x, y, h => by cases h
  | d + 1, x, y, h => by
    unfold frzV at h
    cases hu : x.under n with
    | true => rw [hu, cond_true] at h; cases h; exact .same _ hu
    | false =>
      rw [hu, cond_false] at h
      cases x with
      | agg fs =>
        simp only at h
        split at h
        · rename_i ys hy; cases h; exact .agg _ _ (frzVL_ok (frzV_ok d) hy)
        · cases h
      | tuple fs =>
        simp only at h
        split at h
        · rename_i ys hy; cases h; exact .tuple _ _ (frzVL_ok (frzV_ok d) hy)
        · cases h
      | list sz fs =>
        simp only at h
        split at h
        · rename_i ys hy; cases h; exact .list _ _ _ (frzVL_ok (frzV_ok d) hy)
        · cases h
      | sl id g off len =>
        simp only at h
        cases hb : Nat.ble n id with
        | false => rw [hb] at h; cases h
        | true =>
          rw [hb, cond_true] at h
          split at h
          · rename_i g' sz vals hH
            cases hg : Nat.beq g g' with
            | false => rw [hg] at h; cases h
            | true =>
              rw [hg, cond_true] at h
              have hg := Nat.eq_of_beq_eq_true hg
              subst hg
              split at h
              · rename_i ys hy; cases h; exact .sl _ _ _ _ _ _ _ hH (Nat.le_of_ble_eq_true hb) (by simp) (frzVL_ok (frzV_ok d) hy)
              · cases h
          · cases h
      | _ => cases h
/-- a block names none but those below n (a long one: none at all) -/
def Blk.underB (n : Nat) : Blk → Bool
  | .cells _ _ vals => bif longB vals 1000 then flatC vals 255 else SV.underL n vals
  | b => b.under n
theorem Blk.underB_under {n : Nat} {b : Blk} (h : b.underB n = true) : b.under n = true := by
  cases b with
  | cells g sz vals =>
    simp only [Blk.underB] at h
    cases h1 : longB vals 1000 with
    | true => rw [h1, cond_true] at h; exact flatC_under h
    | false => rw [h1, cond_false] at h; exact h
  | _ => exact h
/-- forgetting what a call leaves behind -/
def gcR (n0 : Nat) (x : SV) (H' : List Blk) : SV × List Blk := bif Nat.ble n0 H'.length && (H'.take n0).all (·.underB n0) then (match frzV H' n0 12 x with
  | some y => (y, H'.take n0)
  | none => (x, H')) else (x, H')
theorem gcR_fin {C : Cx} {H' : List Blk} {x : SV} {n0 : Nat} (hC : C.H.length = n0) : Fin C H' x (fun r H2 => H2 = (gcR n0 x H').2 ∧ r = (gcR n0 x H').1) := by
  unfold gcR
  cases hb : (Nat.ble n0 H'.length && (H'.take n0).all (·.underB n0)) with
  | false => exact Fin.same ⟨rfl, rfl⟩
  | true =>
    simp only [cond_true]
    simp only [Bool.and_eq_true] at hb
    obtain ⟨h1, h3⟩ := hb
    have hlen : (H'.take n0).length = n0 := by rw [List.length_take]; exact Nat.min_eq_left (Nat.le_of_ble_eq_true h1)
    have hcl : closed (H'.take n0) := fun B hB => by rw [hlen]; exact Blk.underB_under (List.all_eq_true.1 h3 B hB)
    cases hy : frzV H' n0 12 x with
    | none => exact Fin.same ⟨rfl, rfl⟩
    | some y =>
      have hfz : Frz (H'.take n0 ++ H'.drop n0) n0 [] x y := by rw [List.take_append_drop]; exact frzV_ok _ _ _ hy
      have key : Fin C (H'.take n0 ++ H'.drop n0) x (fun r H2 => H2 = H'.take n0 ∧ r = y) := Fin.tellN (fun _ _ h => h) hlen hC hcl hfz ⟨rfl, rfl⟩
      rwa [List.take_append_drop] at key
section
variable (P : Program) (G : Gl) (T : Tab) (ow : FuncId → List Nat) (gc : FuncId → Bool) (ov : RC) (fuel : Nat)
/-- ov: what is known of some functions already -/
def evF : Nat → RC
  | 0 => fun _ _ _ => none
  | d + 1 => fun f args H => match ov f args H with
   | some r => some r
   | none => match P.funcs[f]? with
    | some fn => (match fn.body with
      | some cd => bif Nat.ble args.length fn.ntmps then (match evC (evF d) G T (ow f) fn.ntmps fuel cd (initEnv args 0) H with
        | some (e, env, H') => (match e with
          | .ret => ob (resL T env H' fn.results.toList) fun xs => some (bif gc f then gcR H.length (resSV xs) H' else (resSV xs, H'))
          | .normal => ob (resL T env H' fn.results.toList) fun xs => some (bif gc f then gcR H.length (resSV xs) H' else (resSV xs, H'))
          | _ => none)
        | none => none) else none
      | none => none)
    | none => none
end
theorem evF_ok {P : Program} {G : Gl} {T : Tab} {ow : FuncId → List Nat} {gc : FuncId → Bool} {ov : RC} {fuel : Nat} (ho : RCok P G ov) (hT : TabOK P T) (hm : P.follows .mixedOrders = true) (hn : ∀ (f : FuncId) (fn : Func), P.funcs[f]? = some fn → (fn.name == "runtime.NumGoroutine") = false) : ∀ d, RCok P G (evF P G T ow gc ov fuel d)
  | 0 => fun f xs H x H' h => by cases h
  | d + 1 => fun f args H x H' h => by
    unfold evF at h
    split at h
    · rename_i r hr
      cases h
      exact ho _ _ _ _ _ hr
    split at h
    · rename_i fn hf
      split at h
      · rename_i cd hb
        cases hl : Nat.ble args.length fn.ntmps with
        | false => rw [hl] at h; cases h
        | true =>
          rw [hl, cond_true] at h
          refine ACall.of_awp hT hf hb (hn f fn hf) rfl (Nat.le_of_ble_eq_true hl) rfl fun C h1 h2 h3 => ?_
          have hfin : ∀ (xs : List SV) (H1 : List Blk), (bif gc f then gcR H.length (resSV xs) H1 else (resSV xs, H1)) = (x, H') → Fin C H1 (resSV xs) (fun r H2 => H2 = H' ∧ r = x) := by
            intro xs H1 hx
            cases hg : gc f with
            | true =>
              rw [hg, cond_true] at hx
              have := gcR_fin (C := C) (H' := H1) (x := resSV xs) (n0 := H.length) (by rw [h1])
              rw [hx] at this
              exact this
            | false =>
              rw [hg, cond_false] at hx
              cases hx
              exact Fin.same ⟨rfl, rfl⟩
          split at h
          · rename_i e env1 H1 hr
            split at h
            · obtain ⟨xs, hx, h⟩ := ob_eq h
              refine AWP.mono (evC_ok hT hm (evF_ok ho hT hm hn d) _ _ (Nat.le_refl _) _ _ _ _ _ _ hr) ?_
              rintro e2 ⟨envx, Hx⟩ ⟨rfl, rfl, he⟩
              exact ⟨xs, (resL_look he).trans hx, hfin _ _ (Option.some.inj h)⟩
            · obtain ⟨xs, hx, h⟩ := ob_eq h
              refine AWP.mono (evC_ok hT hm (evF_ok ho hT hm hn d) _ _ (Nat.le_refl _) _ _ _ _ _ _ hr) ?_
              rintro e2 ⟨envx, Hx⟩ ⟨rfl, rfl, he⟩
              exact ⟨xs, (resL_look he).trans hx, hfin _ _ (Option.some.inj h)⟩
            · cases h
          · cases h
      · cases h
    · cases h
/-- WHAT A CALL WITHOUT ARGUMENTS ANSWERS with nothing known, it answers wherever it stands, and nothing that is known changes. -/
theorem ACall.lift {P : Program} {G0 G : Gl} {f : FuncId} {b : Bool} (C0 : Cx) (hb : G0.base = some C0) (hb2 : G.base = some C0) (h0 : C0.H = []) (hG : GClosed G0) (hs : ∀ p ∈ G0.l, p ∈ G.l) (h : ACall P G0 f [] [] (fun r _ => r = .bool b)) (H : List Blk) : ACall P G f [] H (fun r H' => H' = H ∧ r = .bool b) := by
  refine ⟨h.1, fun c vs hH hc hg hv => ?_⟩
  subst hH
  have h00 := Cx.cut (θ := c.θ) (H := []) (X := c.H) (w := c.w) hc (fun B hB => by cases hB)
  have hg0 : GOK G0 ⟨c.θ, [], c.w⟩ := ⟨fun p hp => (Rep.cut_both (θ := c.θ) (H := []) (X := c.H) (w := c.w)).1 _ _ (hg.1 p (hs p hp)) (hG p hp), fun C1 e => by
    rw [hb] at e
    cases e
    exact h00.2 C0 (by rw [h0]; exact Nat.le_refl _) (hg.2 C0 hb2)⟩
  have hv0 : RepL ⟨c.θ, [], c.w⟩ [] vs := hv
  refine (h.2 ⟨c.θ, [], c.w⟩ vs rfl h00.1 hg0 hv0).mono ?_
  rintro e w' ⟨v, x, c', e1, e2, e3, e4, e5, e6⟩
  subst e2
  have hold : ∀ k, k < c.w.heap.size → c'.w.heap[k]? = c.w.heap[k]? := fun k hk => e6.old k hk (fun ⟨id, o, ⟨B, hB, _⟩, _⟩ => by cases hB)
  obtain ⟨g1, g2⟩ := Cx.world hc (w' := c'.w) hold e6.size e6.os e6.tape e6.output
  exact ⟨v, x, { c with w := c'.w }, e1, rfl, ⟨rfl, e3⟩, g2, by rw [e3] at e5 ⊢; exact e5, g1⟩
end Go.Proofs.YtehfihnfeakmaaaGreatDoor
end

section
/- Contracts of the shelf told of abstract heaps: a map's copy; a call one of whose answers is not looked at. -/
namespace Go.Proofs.YtehfihnfeakmaaaGreatDoor
open Go
set_option linter.unusedVariables false
set_option linter.unusedSimpArgs false

theorem ACall.of_clone {P : Program} {G : Gl} {f : FuncId} (hf : ∃ fn, P.funcs[f]? = some fn ∧ (fn.name == "runtime.NumGoroutine") = false ∧ fn.body.isNone = false)
    (hc : ∀ (b : Nat) (es : Array MapEntry) (clock : Nat) (w : World), w.heap[b]? = some (.map es clock) → Calls P f #[.map (some b)] w fun e w' => e = .returned (.map (some w.heap.size)) ∧ w' = w.alloc (.map es clock))
    (id : Nat) (H : List Blk) (kd : Option IntKind) (es : List (SV × SV)) (hH : H[id]? = some (.map kd es)) : ACall P G f [.map id] H (fun r H' => H' = H ++ [.map kd es] ∧ r = .map H.length) := by
  refine ⟨hf, fun c vs e1 hh hG hv => ?_⟩
  subst e1
  obtain ⟨v, us, hv1, hv2, rfl⟩ := RepL.cons_iff.1 hv
  rw [RepL.nil_iff.1 hv2]
  simp only [Rep, hH] at hv1
  obtain ⟨_, b, hθ, rfl⟩ := hv1
  obtain ⟨b', ents, clk, h1, h2, h3, h4, h5⟩ := hh.blk id _ hH
  rw [hθ] at h1; cases h1
  refine (callsIn_wide (n := 0)).2 ?_
  refine (hc b ents clk c.w h2).mono ?_
  rintro e w' ⟨rfl, rfl⟩
  have hnew : (c.w.alloc (.map ents clk)).heap[c.w.heap.size]? = some (.map ents clk) := heap_alloc_new c.w _
  obtain ⟨g1, g2⟩ := Cx.fresh hh (w' := c.w.alloc (.map ents clk)) c.w.heap.size (Nat.le_refl _) 0 (some (c.w.heap.size, 0)) (.inr rfl) (.map kd es) (fun b hb => Go.RowKit.Below.heap_alloc _ _ b hb) (by simp) rfl rfl rfl (fun hg => ⟨c.w.heap.size, ents, clk, by simp, hnew, RepE.grow hg _ _ h3, h4, h5⟩)
  refine ⟨.map (some c.w.heap.size), .map c.H.length, _, rfl, rfl, ⟨rfl, rfl⟩, g2, ?_, g1⟩
  simp only [Rep]
  refine ⟨rfl, ?_⟩
  simp

/-- a number, and something of one cell that nobody looks at -/
theorem ACall.of_opaque {P : Program} {G : Gl} {f : FuncId} {s : Str} {k : IntKind} {n : Int} (hn : k.min ≤ n ∧ n ≤ k.max) (hf : ∃ fn, P.funcs[f]? = some fn ∧ (fn.name == "runtime.NumGoroutine") = false ∧ fn.body.isNone = false)
    (hc : ∀ c : Cx, GOK G c → Calls P f #[.string ⟨⟨s⟩⟩] c.w fun e w' => ∃ v, e = .returned (.tuple #[.int k n, v]) ∧ v.oneCell' = true ∧ Go.RowKit.Below c.w.heap.size c.w w')
    (H : List Blk) : ACall P G f [.str s] H (fun r H' => H' = H ++ [.dead] ∧ r = .tuple [.int k n, .ptr H.length 0 0 0]) := by
  refine ⟨hf, fun c vs e1 hh hG hv => ?_⟩
  subst e1
  obtain ⟨v, us, hv1, hv2, rfl⟩ := RepL.cons_iff.1 hv
  rw [RepL.nil_iff.1 hv2]
  simp only [Rep] at hv1
  obtain ⟨rfl, hs⟩ := hv1
  refine (callsIn_wide (n := 0)).2 ?_
  refine (hc c hG).mono ?_
  rintro e w' ⟨v, rfl, hv, hb⟩
  obtain ⟨g1, g2⟩ := Cx.fresh hh (w' := w') w'.heap.size hb.size 0 none (.inl rfl) .dead (fun b h => hb.block b h) hb.size hb.os hb.tape hb.output (fun _ => trivial)
  refine ⟨.tuple #[.int k n, v], .tuple [.int k n, .ptr c.H.length 0 0 0], _, rfl, rfl, ⟨rfl, rfl⟩, g2, ?_, g1⟩
  simp only [Rep]
  refine ⟨[.int k n, v], RepL.mk_cons ?_ (RepL.mk_cons ?_ RepL.mk_nil), rfl⟩
  · simp only [Rep]; exact ⟨trivial, hn⟩
  · simp only [Rep]
    refine ⟨hv, ?_⟩
    simp
end Go.Proofs.YtehfihnfeakmaaaGreatDoor
end

section
namespace Go.Proofs.YtehfihnfeakmaaaGreatDoor
open Go
set_option linter.unusedSimpArgs false
set_option linter.unusedVariables false
set_option maxRecDepth 10000
set_option maxHeartbeats 4000000

/-! ### drawn regions of which several things may come out -/
def hasO (all : List Oper) (p : Env × List Blk) : List (Env × List Blk) → Bool
  | [] => false
  | q :: r => bif sameOn p.1 q.1 (dstsOf all) && sameH p.2 q.2 then true else hasO all p r
def mergeL (all : List Oper) : List (Env × List Blk) → List (Env × List Blk) → List (Env × List Blk)
  | [], l2 => l2
  | p :: r, l2 => bif hasO all p l2 then mergeL all r l2 else mergeL all r (p :: l2)
def drAllL (all : List Oper) (f : Nat → Option (List (Env × List Blk))) : List Nat → Option (List (Env × List Blk))
  | [] => some []
  | j :: js => match f j with
    | some l1 => (match drAllL all f js with
      | some l2 => some (mergeL all l1 l2)
      | none => none)
    | none => none
theorem hasO_ok {all : List Oper} {p : Env × List Blk} : ∀ {l : List (Env × List Blk)}, hasO all p l = true → ∃ q ∈ l, q.2 = p.2 ∧ ∀ t ∈ dstsOf all, look p.1 t = look q.1 t
  | [], h => by cases h
  | q :: r, h => by
    unfold hasO at h
    cases hb : (sameOn p.1 q.1 (dstsOf all) && sameH p.2 q.2) with
    | true =>
      rw [Bool.and_eq_true] at hb
      exact ⟨q, List.mem_cons_self .., (sameH_eq hb.2).symm, sameOn_look hb.1⟩
    | false =>
      rw [hb, cond_false] at h
      obtain ⟨q', h1, h2⟩ := hasO_ok h
      exact ⟨q', List.mem_cons_of_mem _ h1, h2⟩
theorem mergeL_ok {all : List Oper} : ∀ (l1 l2 : List (Env × List Blk)), (∀ p ∈ l1, ∃ q ∈ mergeL all l1 l2, q.2 = p.2 ∧ ∀ t ∈ dstsOf all, look p.1 t = look q.1 t) ∧ (∀ p ∈ l2, p ∈ mergeL all l1 l2) ∧ (∀ q ∈ mergeL all l1 l2, q ∈ l1 ∨ q ∈ l2)
  | [], l2 => ⟨fun p hp => (by cases hp), fun p hp => hp, fun q hq => .inr hq⟩
  | p :: r, l2 => by
    unfold mergeL
    cases hb : hasO all p l2 with
    | true =>
      rw [cond_true]
      obtain ⟨i1, i2, i3⟩ := mergeL_ok (all := all) r l2
      refine ⟨fun p' hp' => ?_, i2, fun q hq => ?_⟩
      · rcases List.mem_cons.1 hp' with rfl | hp'
        · obtain ⟨q, h1, h2⟩ := hasO_ok hb
          exact ⟨q, i2 q h1, h2⟩
        · exact i1 p' hp'
      · rcases i3 q hq with h | h
        · exact .inl (List.mem_cons_of_mem _ h)
        · exact .inr h
    | false =>
      rw [cond_false]
      obtain ⟨i1, i2, i3⟩ := mergeL_ok (all := all) r (p :: l2)
      refine ⟨fun p' hp' => ?_, fun q hq => i2 q (List.mem_cons_of_mem _ hq), fun q hq => ?_⟩
      · rcases List.mem_cons.1 hp' with rfl | hp'
        · exact ⟨_, i2 _ (List.mem_cons_self ..), rfl, fun _ _ => rfl⟩
        · exact i1 p' hp'
      · rcases i3 q hq with h | h
        · exact .inl (List.mem_cons_of_mem _ h)
        · rcases List.mem_cons.1 h with rfl | h
          · exact .inl (List.mem_cons_self ..)
          · exact .inr h
theorem drAllL_mem {all : List Oper} {f : Nat → Option (List (Env × List Blk))} : ∀ {l : List Nat} {L : List (Env × List Blk)}, drAllL all f l = some L → (∀ j ∈ l, ∃ lj, f j = some lj ∧ ∀ p ∈ lj, ∃ q ∈ L, q.2 = p.2 ∧ ∀ t ∈ dstsOf all, look p.1 t = look q.1 t) ∧ ∀ q ∈ L, ∃ j ∈ l, ∃ lj, f j = some lj ∧ q ∈ lj
  | [], L, h => by
    cases h
    exact ⟨fun j hj => (by cases hj), fun q hq => (by cases hq)⟩
  | j :: js, L, h => by
    unfold drAllL at h
    split at h
    · rename_i l1 hf
      split at h
      · rename_i l2 hr
        cases h
        obtain ⟨i1, i2⟩ := drAllL_mem hr
        obtain ⟨m1, m2, m3⟩ := mergeL_ok (all := all) l1 l2
        refine ⟨fun j' hj' => ?_, fun q hq => ?_⟩
        · rcases List.mem_cons.1 hj' with rfl | hj'
          · exact ⟨l1, hf, m1⟩
          · obtain ⟨lj, e1, e2⟩ := i1 j' hj'
            refine ⟨lj, e1, fun p hp => ?_⟩
            obtain ⟨q, h1, h2⟩ := e2 p hp
            exact ⟨q, m2 q h1, h2⟩
        · rcases m3 q hq with h | h
          · exact ⟨j, List.mem_cons_self .., l1, hf, h⟩
          · obtain ⟨j', h1, h2⟩ := i2 q h
            exact ⟨j', List.mem_cons_of_mem _ h1, h2⟩
      · cases h
    · cases h

section
variable (call : RC) (G : Gl) (T : Tab) (own : List Nat) (nt : Nat)
def evDrL (all : List Oper) : Nat → Nat → List Nat → Env → List Blk → Option (List (Env × List Blk))
  | 0, _, _, _, _ => none
  | n + 1, m, ex, env, H =>
    bif Nat.ble all.length m then some [(env, H)] else
    bif memN m ex then evDrL all n (m + 1) ex env H else
    match stepQ own all m ex with
    | some o => (match qg G T own all o env H with
      | some v => evDrL all n (m + 1) ex (putE o.dst v env) H
      | none => none)
    | none => match firstQP own m ex 0 all with
      | some i => (match all[i]? with
        | some o => (match qg G T own all o env H with
          | some v => evDrL all n m (i :: ex) (putE o.dst v env) H
          | none => none)
        | none => none)
      | none => (match readyP m ex 0 all with
        | [] => none
        | js => drAllL all (fun j => match all[j]? with
          | some o => (match gOp call G T own all o env H with
            | some (x, H') => bif agB G T own all (putE o.dst x env) H' (agR own all (getL (clo all) j) m ++ agL own all (getL (clo all) j) ex) then evDrL all n m (j :: ex) (putE o.dst x env) H' else none
            | none => none)
          | none => none) js)
end
section
variable {P : Program} {G : Gl} {T : Tab} {own : List Nat} {nt : Nat} {C : Cx} {call : RC} {ρ : Option Nat}
theorem evDrL_ok (hc : RCok P G call) {all : List Oper} : ∀ (n m : Nat) (ex : List Nat) (env : Env) (H : List Blk) {L : List (Env × List Blk)}, evDrL call G T own all n m ex env H = some L → (∃ N, DrP P G T own all N m ex env H (fun e h => ∃ p ∈ L, h = p.2 ∧ EqE e p.1)) ∧ ∀ p ∈ L, ∀ t, t ∉ dstsOf all → look p.1 t = look env t
  | 0, m, ex, env, H, L, h => by cases h
  | n + 1, m, ex, env, H, L, h => by
    unfold evDrL at h
    cases h1 : Nat.ble all.length m with
    | true =>
      rw [h1, cond_true] at h
      cases h
      refine ⟨⟨1, dr_doneK h1 ⟨_, List.mem_singleton.2 rfl, rfl, EqE.refl _⟩⟩, fun p hp _ _ => ?_⟩
      rw [List.mem_singleton.1 hp]
    | false =>
      rw [h1, cond_false] at h
      cases h2 : memN m ex with
      | true =>
        rw [h2, cond_true] at h
        obtain ⟨⟨N, hN⟩, hl⟩ := evDrL_ok hc n (m + 1) ex env H h
        exact ⟨⟨N, dr_adv h2 hN⟩, hl⟩
      | false =>
        rw [h2, cond_false] at h
        split at h
        · rename_i o hs
          split at h
          · rename_i v hv
            obtain ⟨⟨N, hN⟩, hl⟩ := evDrL_ok hc n (m + 1) ex _ H h
            obtain ⟨g1, g2, g3, g4⟩ := stepQ_some hs
            refine ⟨⟨N + 1, fun L hL => ?_⟩, fun p hp t ht => (hl p hp t ht).trans (putE_look g1 ht)⟩
            exact .inl ⟨m, _, v, g1, not_mem_next hL g2, g3, deps_LP hL g4, hv, hN (m :: L) (LP_next hL)⟩
          · cases h
        · split at h
          · rename_i i hf
            split at h
            · rename_i o ho
              split at h
              · rename_i v hv
                obtain ⟨⟨N, hN⟩, hl⟩ := evDrL_ok hc n m (i :: ex) _ H h
                refine ⟨⟨N + 1, fun L hL => ?_⟩, fun p hp t ht => (hl p hp t ht).trans (putE_look ho ht)⟩
                obtain ⟨k, o', g1, g2, g3, g4, g5⟩ := firstQP_some hf
                rw [Nat.zero_add] at g1
                subst g1
                rw [ho] at g2
                cases g2
                exact .inl ⟨i, _, v, ho, not_LP hL g3, g4, deps_LP hL g5, hv, hN (i :: L) (LP_ins hL i)⟩
              · cases h
            · cases h
          · rename_i hf
            split at h
            · cases h
            · rename_i js hne
              obtain ⟨hall, hback⟩ := drAllL_mem h
              have open_ : ∀ {j : Nat} {lj : List (Env × List Blk)}, (match all[j]? with
                  | some o => (match gOp call G T own all o env H with
                    | some (x, H') => bif agB G T own all (putE o.dst x env) H' (agR own all (getL (clo all) j) m ++ agL own all (getL (clo all) j) ex) then evDrL call G T own all n m (j :: ex) (putE o.dst x env) H' else none
                    | none => none)
                  | none => none) = some lj → ∃ o x H1, all[j]? = some o ∧ gOp call G T own all o env H = some (x, H1) ∧ agB G T own all (putE o.dst x env) H1 (agR own all (getL (clo all) j) m ++ agL own all (getL (clo all) j) ex) = true ∧ evDrL call G T own all n m (j :: ex) (putE o.dst x env) H1 = some lj := by
                intro j lj hfj
                split at hfj
                · rename_i o ho
                  split at hfj
                  · rename_i x H1 hg
                    cases hb : agB G T own all (putE o.dst x env) H1 (agR own all (getL (clo all) j) m ++ agL own all (getL (clo all) j) ex) with
                    | false => rw [hb] at hfj; cases hfj
                    | true => rw [hb, cond_true] at hfj; exact ⟨o, x, H1, ho, hg, hb, hfj⟩
                  · cases hfj
                · cases hfj
              have hrest : ∀ p ∈ L, ∀ t, t ∉ dstsOf all → look p.1 t = look env t := by
                intro p hp t ht
                obtain ⟨j, hj, lj, e1, e2⟩ := hback p hp
                obtain ⟨o, x, H1, ho, hg, hb, he⟩ := open_ e1
                exact ((evDrL_ok hc n m (j :: ex) _ H1 he).2 p e2 t ht).trans (putE_look ho ht)
              obtain ⟨N, hN⟩ := common (P := fun N j => ∃ o, all[j]? = some o ∧ exG P G T own all o env H fun x H1 => AgP G T own all j m ex (putE o.dst x env) H1 ∧ (DrP P G T own all) N m (j :: ex) (putE o.dst x env) H1 (fun e h => ∃ p ∈ L, h = p.2 ∧ EqE e p.1))
                (fun j n n' hn ⟨o, ho, hx⟩ => ⟨o, ho, exG_mono (fun x H1 hh => ⟨hh.1, DrP.le hn hh.2⟩) hx⟩) (readyP m ex 0 all) (fun j hj => by
                  obtain ⟨lj, e1, e2⟩ := hall j hj
                  obtain ⟨o, x, H1, ho, hg, hb, he⟩ := open_ e1
                  obtain ⟨⟨N, hN⟩, hl2⟩ := evDrL_ok hc n m (j :: ex) _ H1 he
                  refine ⟨N, o, ho, gOp_exG hc hg ⟨agB_ok hb, DrP.monoK (fun e h hh => ?_) hN⟩⟩
                  obtain ⟨p, hp, h3, h4⟩ := hh
                  obtain ⟨q, hq, h5, h6⟩ := e2 p hp
                  refine ⟨q, hq, h3.trans h5.symm, h4.trans fun t => ?_⟩
                  by_cases ht : t ∈ dstsOf all
                  · exact h6 t ht
                  · rw [hl2 p hp t ht, putE_look ho ht, hrest q hq t ht])
              cases hr : readyP m ex 0 all with
              | nil => exact (hne hr).elim
              | cons j0 js0 =>
                rw [hr] at hN
                exact ⟨⟨N + 1, loud_any hf hr hN⟩, hrest⟩
end

/-! ### blocks told in the order in which they are named -/
def idxN (id : Nat) : List Nat → Nat → Option Nat
  | [], _ => none
  | k :: r, i => bif Nat.beq k id then some i else idxN id r (i + 1)
theorem idxN_get {id : Nat} : ∀ {ks : List Nat} {i j : Nat}, idxN id ks i = some j → ∃ k, j = i + k ∧ ks[k]? = some id
  | [], i, j, h => by cases h
  | k :: r, i, j, h => by
    unfold idxN at h
    cases hb : Nat.beq k id with
    | true => rw [hb] at h; cases h; exact ⟨0, rfl, by rw [Nat.eq_of_beq_eq_true hb]; rfl⟩
    | false =>
      rw [hb, cond_false] at h
      obtain ⟨m, h1, h2⟩ := idxN_get h
      exact ⟨m + 1, by omega, h2⟩
def renV (H : List Blk) (n : Nat) (ks : List Nat) : Nat → SV → Option SV
  | 0, _ => none
  | d + 1, x => bif x.under n then some x else match x with
    | .agg fs => (match frzVL (renV H n ks d) fs with
      | some ys => some (.agg ys)
      | none => none)
    | .tuple fs => (match frzVL (renV H n ks d) fs with
      | some ys => some (.tuple ys)
      | none => none)
    | .list sz fs => (match frzVL (renV H n ks d) fs with
      | some ys => some (.list sz ys)
      | none => none)
    | .fn f xs ys => (match frzVL (renV H n ks d) xs with
      | some us => (match frzVL (renV H n ks d) ys with
        | some vs => some (.fn f us vs)
        | none => none)
      | none => none)
    | .sl id g off len => (match idxN id ks 0 with
      | some i => (match H[id]? with
        | some (.cells g' sz vals) => bif Nat.beq g g' then some (.sl (n + i) 0 off len) else none
        | _ => none)
      | none => none)
    | .ptr id g j o => (match idxN id ks 0 with
      | some i => (match H[id]? with
        | some (.cells g' sz vals) => bif Nat.beq g g' then some (.ptr (n + i) 0 j o) else none
        | _ => none)
      | none => none)
    | .map id => (match idxN id ks 0 with
      | some i => (match H[id]? with
        | some (.map kd es) => some (.map (n + i))
        | _ => none)
      | none => none)
    | _ => none
def keepOf (ks : List Nat) : Keep := ks.map fun id => (id, 0)
theorem frzVL_okK {H : List Blk} {n : Nat} {ks : Keep} {f : SV → Option SV} (hf : ∀ x y, f x = some y → Frz H n ks x y) : ∀ {xs ys : List SV}, frzVL f xs = some ys → FrzL H n ks xs ys
  | [], ys, h => by cases h; exact .nil
  | x :: r, ys, h => by
    unfold frzVL at h
    split at h
    · rename_i y hy
      split at h
      · rename_i zs hzs
        cases h
        exact .cons _ _ _ _ (hf _ _ hy) (frzVL_okK hf hzs)
      · cases h
    · cases h
theorem keepOf_get {ks : List Nat} {i id : Nat} (h : ks[i]? = some id) : (keepOf ks)[i]? = some (id, 0) := by
  unfold keepOf
  rw [List.getElem?_map, h]; rfl
theorem renV_ok {H : List Blk} {n : Nat} {ks : List Nat} : ∀ (d : Nat) (x y : SV), renV H n ks d x = some y → Frz H n (keepOf ks) x y
  | 0, x, y, h => by cases h
  | d + 1, x, y, h => by
    unfold renV at h
    cases hu : x.under n with
    | true => rw [hu, cond_true] at h; cases h; exact .same _ hu
    | false =>
      rw [hu, cond_false] at h
      cases x with
      | agg fs =>
        simp only at h
        split at h
        · rename_i ys hy; cases h; exact .agg _ _ (frzVL_okK (renV_ok d) hy)
        · cases h
      | tuple fs =>
        simp only at h
        split at h
        · rename_i ys hy; cases h; exact .tuple _ _ (frzVL_okK (renV_ok d) hy)
        · cases h
      | list sz fs =>
        simp only at h
        split at h
        · rename_i ys hy; cases h; exact .list _ _ _ (frzVL_okK (renV_ok d) hy)
        · cases h
      | fn f xs ys =>
        simp only at h
        split at h
        · rename_i us hus
          split at h
          · rename_i vs hvs; cases h; exact .fn _ _ _ _ _ (frzVL_okK (renV_ok d) hus) (frzVL_okK (renV_ok d) hvs)
          · cases h
        · cases h
      | sl id g off len =>
        simp only at h
        split at h
        · rename_i i hi
          obtain ⟨k, rfl, hk⟩ := idxN_get hi
          split at h
          · rename_i g' sz vals hH
            cases hg : Nat.beq g g' with
            | false => rw [hg] at h; cases h
            | true =>
              rw [hg, cond_true] at h
              cases h
              have hg := Nat.eq_of_beq_eq_true hg
              subst hg
              have := Frz.keepSl (H := H) (n := n) (ks := keepOf ks) k id 0 g off len sz vals (keepOf_get hk) hH (Nat.zero_le _)
              simpa using this
          · cases h
        · cases h
      | ptr id g j o =>
        simp only at h
        split at h
        · rename_i i hi
          obtain ⟨k, rfl, hk⟩ := idxN_get hi
          split at h
          · rename_i g' sz vals hH
            cases hg : Nat.beq g g' with
            | false => rw [hg] at h; cases h
            | true =>
              rw [hg, cond_true] at h
              cases h
              have hg := Nat.eq_of_beq_eq_true hg
              subst hg
              have := Frz.keepPtr (H := H) (n := n) (ks := keepOf ks) k id 0 g j o sz vals (keepOf_get hk) hH (Nat.zero_le _)
              simpa using this
          · cases h
        · cases h
      | map id =>
        simp only at h
        split at h
        · rename_i i hi
          obtain ⟨k, rfl, hk⟩ := idxN_get hi
          split at h
          · rename_i kd es hH
            cases h
            have := Frz.keepMap (H := H) (n := n) (ks := keepOf ks) k id 0 kd es (keepOf_get hk) hH
            simpa using this
          · cases h
        · cases h
      | _ => cases h
/-- the blocks that a value names, from n on -/
def idsL (f : SV → List Nat) : List SV → List Nat
  | [] => []
  | x :: r => f x ++ idsL f r
def idsV (n : Nat) : Nat → SV → List Nat
  | 0, _ => []
  | d + 1, x => match x with
    | .agg fs => idsL (idsV n d) fs
    | .tuple fs => idsL (idsV n d) fs
    | .list _ fs => idsL (idsV n d) fs
    | .fn _ xs ys => idsL (idsV n d) xs ++ idsL (idsV n d) ys
    | .sl id _ _ _ => bif Nat.ble n id then [id] else []
    | .ptr id _ _ _ => bif Nat.ble n id then [id] else []
    | .map id => bif Nat.ble n id then [id] else []
    | _ => []
def addN : List Nat → List Nat → List Nat
  | ks, [] => ks
  | ks, x :: r => bif memN x ks then addN ks r else addN (ks ++ [x]) r
def idsB (n : Nat) (H : List Blk) : List Nat → List Nat
  | [] => []
  | id :: r => (match H[id]? with
    | some (.cells _ _ vals) => idsL (idsV n 8) vals
    | some (.map _ es) => es.foldr (fun p l => idsV n 8 p.2 ++ l) []
    | _ => []) ++ idsB n H r
def nodN : List Nat → Bool
  | [] => true
  | k :: r => bif memN k r then false else nodN r
theorem nodN_ok : ∀ {ks : List Nat}, nodN ks = true → ks.Nodup
  | [], _ => List.nodup_nil
  | k :: r, h => by
    unfold nodN at h
    cases hb : memN k r with
    | true => rw [hb] at h; cases h
    | false =>
      rw [hb, cond_false] at h
      refine List.nodup_cons.2 ⟨fun hm => ?_, nodN_ok h⟩
      rw [memN_iff.2 hm] at hb
      cases hb
def renE (f : SV → Option SV) (n : Nat) : List (SV × SV) → Option (List (SV × SV))
  | [] => some []
  | (k, x) :: r => bif k.under n then (match f x with
    | some y => (match renE f n r with
      | some r' => some ((k, y) :: r')
      | none => none)
    | none => none) else none
theorem renE_ok {H : List Blk} {n : Nat} {ks : Keep} {f : SV → Option SV} (hf : ∀ x y, f x = some y → Frz H n ks x y) : ∀ {es fs : List (SV × SV)}, renE f n es = some fs → FrzE H n ks es fs
  | [], fs, h => by cases h; exact .nil
  | (k, x) :: r, fs, h => by
    unfold renE at h
    cases hk : k.under n with
    | false => rw [hk] at h; cases h
    | true =>
      rw [hk, cond_true] at h
      split at h
      · rename_i y hy
        split at h
        · rename_i r' hr; cases h; exact .cons _ _ _ _ _ hk (hf _ _ hy) (renE_ok hf hr)
        · cases h
      · cases h
def keepBs (H : List Blk) (n : Nat) (ks : List Nat) : List Nat → Option (List Blk)
  | [] => some []
  | id :: r => bif Nat.ble n id then (match H[id]? with
    | some (.cells _ sz vals) => (match frzVL (renV H n ks 12) vals with
      | some ys => (match keepBs H n ks r with
        | some bs => some (.cells 0 sz ys :: bs)
        | none => none)
      | none => none)
    | some (.map kd es) => (match renE (renV H n ks 12) n es with
      | some fs => (match keepBs H n ks r with
        | some bs => some (.map kd fs :: bs)
        | none => none)
      | none => none)
    | _ => none) else none
theorem keepBs_ok {H : List Blk} {n : Nat} {ks : List Nat} : ∀ {r : List Nat} {bs : List Blk}, keepBs H n ks r = some bs → KeepB H n (keepOf ks) (keepOf r) bs
  | [], bs, h => by cases h; exact .nil
  | id :: r, bs, h => by
    unfold keepBs at h
    cases hn : Nat.ble n id with
    | false => rw [hn] at h; cases h
    | true =>
      rw [hn, cond_true] at h
      have hn := Nat.le_of_ble_eq_true hn
      split at h
      · rename_i g sz vals hH
        split at h
        · rename_i ys hy
          split at h
          · rename_i bs' hb; cases h; exact .cells id 0 _ _ _ _ _ _ hH hn (Nat.zero_le _) (frzVL_okK (renV_ok 12) (by rw [List.drop_zero]; exact hy)) (keepBs_ok hb)
          · cases h
        · cases h
      · rename_i kd es hH
        split at h
        · rename_i fs hf
          split at h
          · rename_i bs' hb; cases h; exact .map id _ _ _ _ _ hH hn (renE_ok (renV_ok 12) hf) (keepBs_ok hb)
          · cases h
        · cases h
      · cases h
/-- the region's temporaries, told anew -/
def envT (f : SV → Option SV) (env : Env) : List Nat → Env
  | [] => []
  | t :: r => match lookB env t with
    | some x => (match f x with
      | some y => (t, y) :: envT f env r
      | none => envT f env r)
    | none => envT f env r
/-- the others, so far as they name no new block -/
def envR (n : Nat) (ts : List Nat) (seen : List Nat) : Env → Env
  | [] => []
  | (t, x) :: r => bif memN t ts || memN t seen then envR n ts seen r else bif x.under n then (t, x) :: envR n ts (t :: seen) r else envR n ts (t :: seen) r
theorem envT_ok {H : List Blk} {n : Nat} {ks : Keep} {f : SV → Option SV} (hf : ∀ x y, f x = some y → Frz H n ks x y) {env : Env} : ∀ (ts : List Nat), ∀ p ∈ envT f env ts, ∃ x, look env p.1 = some x ∧ Frz H n ks x p.2
  | [], p, hp => by cases hp
  | t :: r, p, hp => by
    unfold envT at hp
    split at hp
    · rename_i x hx
      rw [lookB_eq] at hx
      split at hp
      · rename_i y hy
        rcases List.mem_cons.1 hp with rfl | hp
        · exact ⟨x, hx, hf _ _ hy⟩
        · exact envT_ok hf r p hp
      · exact envT_ok hf r p hp
    · exact envT_ok hf r p hp
theorem envR_ok {n : Nat} {ts : List Nat} : ∀ (env : Env) (seen : List Nat), ∀ p ∈ envR n ts seen env, p.1 ∉ seen ∧ look env p.1 = some p.2 ∧ p.2.under n = true
  | [], seen, p, hp => by cases hp
  | (t, x) :: r, seen, p, hp => by
    unfold envR at hp
    have step : ∀ (seen' : List Nat), (∀ s, s ∈ seen → s ∈ seen') → (t ∈ ts ∨ t ∈ seen') → p ∈ envR n ts seen' r → (p.1 ≠ t) → p.1 ∉ seen ∧ look ((t, x) :: r) p.1 = some p.2 ∧ p.2.under n = true := by
      intro seen' h1 h2 h3 h4
      obtain ⟨g1, g2, g3⟩ := envR_ok r seen' p h3
      refine ⟨fun h => g1 (h1 _ h), ?_, g3⟩
      unfold look
      rw [if_neg h4]
      exact g2
    cases hb : (memN t ts || memN t seen) with
    | true =>
      rw [hb, cond_true] at hp
      rw [Bool.or_eq_true] at hb
      have hne : p.1 ≠ t := by
        intro e
        obtain ⟨g1, g2, g3⟩ := envR_ok r seen p hp
        have hts : p.1 ∉ ts := envR_ts r seen p hp
        rcases hb with hb | hb
        · exact hts (e ▸ memN_iff.1 hb)
        · exact g1 (e ▸ memN_iff.1 hb)
      exact step seen (fun s h => h) (by rcases hb with hb | hb; exact .inl (memN_iff.1 hb); exact .inr (memN_iff.1 hb)) hp hne
    | false =>
      rw [hb, cond_false] at hp
      rw [Bool.or_eq_false_iff] at hb
      have hts : t ∉ seen := fun h => by rw [memN_iff.2 h] at hb; cases hb.2
      cases hu : x.under n with
      | true =>
        rw [hu, cond_true] at hp
        rcases List.mem_cons.1 hp with rfl | hp
        · refine ⟨hts, ?_, hu⟩
          unfold look
          rw [if_pos rfl]
        · have hne : p.1 ≠ t := fun e => (envR_ok r (t :: seen) p hp).1 (e ▸ List.mem_cons_self ..)
          exact step (t :: seen) (fun s h => List.mem_cons_of_mem _ h) (.inr (List.mem_cons_self ..)) hp hne
      | false =>
        rw [hu, cond_false] at hp
        have hne : p.1 ≠ t := fun e => (envR_ok r (t :: seen) p hp).1 (e ▸ List.mem_cons_self ..)
        exact step (t :: seen) (fun s h => List.mem_cons_of_mem _ h) (.inr (List.mem_cons_self ..)) hp hne
where
  envR_ts {n : Nat} {ts : List Nat} : ∀ (env : Env) (seen : List Nat), ∀ p ∈ envR n ts seen env, p.1 ∉ ts
  | [], seen, p, hp => by cases hp
  | (t, x) :: r, seen, p, hp => by
    unfold envR at hp
    cases hb : (memN t ts || memN t seen) with
    | true => rw [hb, cond_true] at hp; exact envR_ts r seen p hp
    | false =>
      rw [hb, cond_false] at hp
      rw [Bool.or_eq_false_iff] at hb
      cases hu : x.under n with
      | true =>
        rw [hu, cond_true] at hp
        rcases List.mem_cons.1 hp with rfl | hp
        · intro h; rw [memN_iff.2 h] at hb; cases hb.1
        · exact envR_ts r _ p hp
      | false => rw [hu, cond_false] at hp; exact envR_ts r _ p hp
theorem subEnvF_of {H : List Blk} {n : Nat} {ks : Keep} {env : Env} : ∀ {env2 : Env}, (∀ p ∈ env2, ∃ x, look env p.1 = some x ∧ Frz H n ks x p.2) → subEnvF H n ks env2 env
  | [], _ => trivial
  | (t, y) :: r, h => ⟨h (t, y) (List.mem_cons_self ..), subEnvF_of fun p hp => h p (List.mem_cons_of_mem _ hp)⟩
def namedV (n : Nat) (env : Env) : List Nat → List Nat
  | [] => []
  | t :: r => (match lookB env t with
    | some x => idsV n 8 x
    | none => []) ++ namedV n env r
def keysC (n : Nat) (ts : List Nat) (env : Env) (H : List Blk) : List Nat :=
  let k0 := addN [] (namedV n env ts)
  let k1 := addN k0 (idsB n H k0)
  addN k1 (idsB n H k1)
def canonA (n : Nat) (ts ks : List Nat) (env : Env) (H : List Blk) : Option (Env × List Blk) :=
  bif Nat.ble n H.length && (H.take n).all (·.underB n) && nodN ks then (match keepBs H n ks ks with
    | some KB => some (envT (renV H n ks 12) env ts ++ envR n ts [] env, H.take n ++ KB)
    | none => none) else none
def canonE (n : Nat) (ts : List Nat) (p : Env × List Blk) : Option (Env × List Blk) := canonA n ts (keysC n ts p.1 p.2) p.1 p.2
theorem canonA_ok {G : Gl} {nt : Nat} {C : Cx} {n : Nat} {ts ks : List Nat} {env : Env} {H : List Blk} {q : Env × List Blk} (hG : GClosed G) (hB : Based G n) (hC : C.H.length ≤ n) (h : canonA n ts ks env H = some q) : Wk G nt C ⟨env, H⟩ ⟨q.1, q.2⟩ := by
  unfold canonA at h
  cases hb : (Nat.ble n H.length && (H.take n).all (·.underB n) && nodN ks) with
  | false => rw [hb] at h; cases h
  | true =>
    rw [hb, cond_true] at h
    simp only [Bool.and_eq_true] at hb
    obtain ⟨⟨h1, h2⟩, h3⟩ := hb
    split at h
    · rename_i KB hk
      cases h
      have hlen : (H.take n).length = n := by rw [List.length_take]; exact Nat.min_eq_left (Nat.le_of_ble_eq_true h1)
      have hcl : closed (H.take n) := fun B hB => by rw [hlen]; exact Blk.underB_under (List.all_eq_true.1 h2 B hB)
      have hsplit : H.take n ++ H.drop n = H := List.take_append_drop ..
      have hk' := keepBs_ok hk
      have hnd : ((keepOf ks).map (·.1)).Nodup := by
        have : (keepOf ks).map (·.1) = ks := by simp [keepOf, List.map_map, Function.comp_def]
        rw [this]; exact nodN_ok h3
      have key : Wk G nt C ⟨env, H.take n ++ H.drop n⟩ ⟨envT (renV H n ks 12) env ts ++ envR n ts [] env, H.take n ++ KB⟩ := by
        refine Wk.keep (keepOf ks) KB hG (by rw [hlen]; exact hB) (by rw [hlen]; exact hC) hcl ⟨by rw [hlen, hsplit]; exact hk', hnd⟩ ?_
        rw [hlen, hsplit]
        refine subEnvF_of fun p hp => ?_
        rcases List.mem_append.1 hp with hp | hp
        · exact envT_ok (renV_ok 12) ts p hp
        · obtain ⟨_, g2, g3⟩ := envR_ok env [] p hp
          exact ⟨_, g2, .same _ g3⟩
      rwa [hsplit] at key
    · cases h
def sameEnv : Env → Env → Bool
  | [], ys => (match ys with | [] => true | _ => false)
  | (t, x) :: r, ys => (match ys with | (s, y) :: r' => Nat.beq t s && SV.same x y && sameEnv r r' | [] => false)
theorem sameEnv_eq : ∀ {a b : Env}, sameEnv a b = true → a = b
  | [], b, h => by cases b with
    | nil => rfl
    | cons => simp [sameEnv] at h
  | (t, x) :: r, b, h => by cases b with
    | nil => simp [sameEnv] at h
    | cons p r' =>
      obtain ⟨s, y⟩ := p
      simp only [sameEnv, Bool.and_eq_true] at h
      rw [Nat.eq_of_beq_eq_true h.1.1, SV.same_both.1 _ _ h.1.2, sameEnv_eq h.2]
def allSame (n : Nat) (ts : List Nat) (q : Env × List Blk) : List (Env × List Blk) → Bool
  | [] => true
  | p :: r => match canonE n ts p with
    | some q' => bif sameEnv q.1 q'.1 && sameH q.2 q'.2 then allSame n ts q r else false
    | none => false
theorem allSame_ok {n : Nat} {ts : List Nat} {q : Env × List Blk} : ∀ {l : List (Env × List Blk)}, allSame n ts q l = true → ∀ p ∈ l, canonE n ts p = some q
  | p :: r, h, p', hp' => by
    unfold allSame at h
    split at h
    · rename_i q' hq
      cases hb : (sameEnv q.1 q'.1 && sameH q.2 q'.2) with
      | false => rw [hb] at h; cases h
      | true =>
        rw [hb, cond_true] at h
        rw [Bool.and_eq_true] at hb
        rcases List.mem_cons.1 hp' with rfl | hp'
        · rw [hq]
          obtain ⟨a, b⟩ := q
          obtain ⟨c, d⟩ := q'
          have e1 := sameEnv_eq hb.1
          have e2 := sameH_eq hb.2
          simp only at e1 e2
          rw [e1, e2]
        · exact allSame_ok h p' hp'
    · cases h
/-- one of them, or what all of them are when the new blocks are told in order -/
def oneOf (n : Nat) (ts : List Nat) : List (Env × List Blk) → Option (Env × List Blk)
  | [] => none
  | p :: r => match r with
    | [] => some p
    | _ => (match canonE n ts p with
      | some q => bif allSame n ts q r then some q else none
      | none => none)
theorem oneOf_ok {G : Gl} {nt : Nat} {C : Cx} {n : Nat} {ts : List Nat} {L : List (Env × List Blk)} {q : Env × List Blk} (hG : GClosed G) (hB : Based G n) (hC : C.H.length ≤ n) (h : oneOf n ts L = some q) : ∀ p ∈ L, Wk G nt C ⟨p.1, p.2⟩ ⟨q.1, q.2⟩ := by
  unfold oneOf at h
  split at h
  · cases h
  · rename_i p r
    split at h
    · cases h
      intro p' hp'
      rw [List.mem_singleton.1 hp']
      exact Wk.refl _
    · split at h
      · rename_i q' hq
        cases hb : allSame n ts q' r with
        | false => rw [hb] at h; cases h
        | true =>
          rw [hb, cond_true] at h
          cases h
          intro p' hp'
          rcases List.mem_cons.1 hp' with rfl | hp'
          · exact canonA_ok hG hB hC hq
          · exact canonA_ok hG hB hC (allSame_ok hb p' hp')
      · cases h
end Go.Proofs.YtehfihnfeakmaaaGreatDoor
end

section
namespace Go.Proofs.YtehfihnfeakmaaaGreatDoor
open Go
set_option linter.unusedSimpArgs false
set_option linter.unusedVariables false
set_option maxRecDepth 10000
set_option maxHeartbeats 4000000

section
variable (call : RC) (G : Gl) (T : Tab) (own : List Nat) (nt : Nat)
def evC2 : Nat → Code → Env → List Blk → Option (Exit × Env × List Blk)
  | 0, _, _, _ => none
  | n + 1, cd, env, H => match cd with
    | .skip => some (.normal, env, H)
    | .label _ => some (.normal, env, H)
    | .ret => some (.ret, env, H)
    | .exit id => some (.exit id, env, H)
    | .cond x p q => (match evB G env x with
      | some (.bool true) => evC2 n p env H
      | some (.bool false) => evC2 n q env H
      | _ => none)
    | .seq x y => (match evC2 n x env H with
      | some (.normal, env', H') => evC2 n y env' H'
      | r => r)
    | .block id x => (match evC2 n x env H with
      | some (.exit id', env', H') => if id' = id then some (.normal, env', H') else some (.exit id', env', H')
      | r => r)
    | .loop x => (match evC2 n x env H with
      | some (.normal, env', H') => evC2 n (.loop x) (ded [] env') H'
      | r => r)
    | .region _ ops false => (match evOps call G T own nt ops.toList ops.toList env H with
      | some (env', H') => some (.normal, env', H')
      | none => none)
    | .region _ ops true => bif drawOK nt ops.toList then (match evDrL call G T own ops.toList 300 0 [] env H with
      | some L => (match oneOf H.length (dstsOf ops.toList) L with
        | some p => some (.normal, p.1, p.2)
        | none => none)
      | none => none) else none
    | _ => none
end

section
variable {P : Program} {G : Gl} {T : Tab} {own : List Nat} {nt : Nat} {C : Cx} {call : RC} {ρ : Option Nat}
theorem evC2_ok (hG : GClosed G) (hB : Based G C.H.length) (hT : TabOK P T) (hm : P.follows .mixedOrders = true) (hc : RCok P G call) : ∀ (N n : Nat), n ≤ N → ∀ (cd : Code) (env : Env) (H : List Blk) (e : Exit) (env' : Env) (H' : List Blk), evC2 call G T own nt n cd env H = some (e, env', H') →
    AWP P G nt ρ C cd (fun e2 s => e2 = e ∧ s.H = H' ∧ EqE s.env env') ⟨env, H⟩ := by
  intro N
  induction N with
  | zero =>
    intro n hn cd env H e env' H' h
    obtain rfl : n = 0 := by omega
    cases h
  | succ N ih =>
    intro n hn cd env H e env' H' h
    cases n with
    | zero => cases h
    | succ n =>
    have hn : n ≤ N := by omega
    have ihn := ih n hn
    unfold evC2 at h
    split at h
    · cases h; exact AWP.skip ⟨rfl, rfl, EqE.refl _⟩
    · cases h; exact fun c a hc hi hg => wpIn_label ⟨_, c, ⟨rfl, rfl, EqE.refl _⟩, hc, rfl, hi, hg⟩
    · cases h; exact AWP.ret ⟨rfl, rfl, EqE.refl _⟩
    · cases h; exact AWP.exit ⟨rfl, rfl, EqE.refl _⟩
    · rename_i x p q
      split at h
      · rename_i hv
        rw [evB_eq] at hv
        refine AWP.cond ⟨_, hv, true, rfl, ?_⟩
        exact ⟨fun _ => ihn _ _ _ _ _ _ h, fun e => (by cases e)⟩
      · rename_i hv
        rw [evB_eq] at hv
        refine AWP.cond ⟨_, hv, false, rfl, ?_⟩
        exact ⟨fun e => (by cases e), fun _ => ihn _ _ _ _ _ _ h⟩
      · cases h
    · rename_i x y
      split at h
      · rename_i env1 H1 h1
        refine AWP.seq (AWP.mono (ihn _ _ _ _ _ _ h1) ?_)
        rintro e2 ⟨envx, Hx⟩ ⟨rfl, rfl, he⟩
        simp only at he
        exact AWP.wk (Wk.env fun t x hx => (he t).trans hx) (ihn _ _ _ _ _ _ h)
      · rename_i r hr
        refine AWP.seq (AWP.mono (ihn _ _ _ _ _ _ h) ?_)
        rintro e2 ⟨envx, Hx⟩ ⟨rfl, rfl, he⟩
        simp only at he
        cases e2 with
        | normal => exact (hr _ _ h).elim
        | _ => exact ⟨rfl, rfl, he⟩
    · rename_i id x
      split at h
      · rename_i id' env1 H1 h1
        refine AWP.block (AWP.mono (ihn _ _ _ _ _ _ h1) ?_)
        rintro e2 ⟨envx, Hx⟩ ⟨rfl, rfl, he⟩
        simp only at he
        by_cases hid : id' = id
        · rw [if_pos hid] at h
          cases h
          simp only [hid, if_true]
          exact ⟨trivial, trivial, he⟩
        · rw [if_neg hid] at h
          cases h
          simp only [hid, if_false]
          exact ⟨trivial, trivial, he⟩
      · rename_i r hr
        refine AWP.block (AWP.mono (ihn _ _ _ _ _ _ h) ?_)
        rintro e2 ⟨envx, Hx⟩ ⟨rfl, rfl, he⟩
        simp only at he
        cases e2 with
        | exit id' => exact (hr _ _ _ h).elim
        | _ => exact ⟨rfl, rfl, he⟩
    · rename_i x
      have h0 : evC2 call G T own nt (n + 1) (.loop x) env H = some (e, env', H') := by unfold evC2; exact h
      refine AWP.loopW (fun m s => m ≤ n ∧ evC2 call G T own nt (m + 1) (.loop x) s.env s.H = some (e, env', H')) n ⟨env, H⟩ (Wk.env fun t x hx => hx) ⟨Nat.le_refl _, h0⟩ ?_
      rintro m ⟨env0, H0⟩ ⟨hmn, hr⟩
      unfold evC2 at hr
      simp only at hr
      split at hr
      · rename_i env1 H1 h1
        refine AWP.mono (ih m (by omega) _ _ _ _ _ _ h1) ?_
        rintro e2 ⟨envx, Hx⟩ ⟨rfl, rfl, he⟩
        simp only at he
        cases m with
        | zero => cases h1
        | succ m => exact ⟨m, ⟨ded [] env1, _⟩, by omega, Wk.env (fun t x hx => (he t).trans (ded_look _ _ _ _ hx).2), by omega, hr⟩
      · rename_i r hr2
        refine AWP.mono (ih m (by omega) _ _ _ _ _ _ hr) ?_
        rintro e2 ⟨envx, Hx⟩ ⟨rfl, rfl, he⟩
        simp only at he
        cases e2 with
        | normal => exact (hr2 _ _ hr).elim
        | _ => exact ⟨rfl, rfl, he⟩
    · rename_i ops
      split at h
      · rename_i env1 H1 h1
        cases h
        exact AWP.region hT (evOps_ok hc _ h1 ⟨rfl, rfl, EqE.refl _⟩)
      · cases h
    · rename_i ops
      cases hd : drawOK nt ops.toList with
      | false => rw [hd] at h; cases h
      | true =>
        rw [hd, cond_true] at h
        split at h
        · rename_i L h1
          split at h
          · rename_i p ho
            cases h
            obtain ⟨⟨N2, hN⟩, _⟩ := evDrL_ok (P := P) hc _ _ _ _ _ h1
            intro c0 a0 hc0 hi0 hg0
            have hle : C.H.length ≤ H.length := by
              have := Grow.length hg0
              rw [hc0] at this
              exact this
            have hone := oneOf_ok (nt := nt) (C := C) hG (fun C0 h0 => Nat.le_trans (hB C0 h0) hle) hle ho
            refine AWP.monoW (Q := fun e2 s => e2 = Exit.normal ∧ ∃ q ∈ L, s.H = q.2 ∧ EqE s.env q.1) (AWP.draw hT hm hd (DrP.monoK (fun e h hh => ⟨rfl, hh⟩) hN [] (fun i => by simp [LP, memN, Nat.blt_eq]))) ?_ c0 a0 hc0 hi0 hg0
            rintro e2 ⟨envx, Hx⟩ ⟨rfl, q, hq, rfl, he⟩
            exact ⟨⟨p.1, p.2⟩, Wk.trans (Wk.env fun t x hx => (he t).trans hx) (hone q hq), rfl, rfl, EqE.refl _⟩
          · cases h
        · cases h
    · cases h
end

section
variable (P : Program) (G : Gl) (T : Tab) (ow : FuncId → List Nat) (gc : FuncId → Bool) (ov : RC) (fuel : Nat)
/-- ov: what is known of some functions already -/
def evF2 : Nat → RC
  | 0 => fun _ _ _ => none
  | d + 1 => fun f args H => match ov f args H with
   | some r => some r
   | none => match P.funcs[f]? with
    | some fn => (match fn.body with
      | some cd => bif Nat.ble args.length fn.ntmps then (match evC2 (evF2 d) G T (ow f) fn.ntmps fuel cd (initEnv args 0) H with
        | some (e, env, H') => (match e with
          | .ret => ob (resL T env H' fn.results.toList) fun xs => some (bif gc f then gcR H.length (resSV xs) H' else (resSV xs, H'))
          | .normal => ob (resL T env H' fn.results.toList) fun xs => some (bif gc f then gcR H.length (resSV xs) H' else (resSV xs, H'))
          | _ => none)
        | none => none) else none
      | none => none)
    | none => none
end
theorem evF2_ok {P : Program} {G : Gl} {T : Tab} {ow : FuncId → List Nat} {gc : FuncId → Bool} {ov : RC} {fuel : Nat} (hG : GClosed G) (ho : RCok P G ov) (hT : TabOK P T) (hm : P.follows .mixedOrders = true) (hn : ∀ (f : FuncId) (fn : Func), P.funcs[f]? = some fn → (fn.name == "runtime.NumGoroutine") = false) : ∀ d, RCok P G (evF2 P G T ow gc ov fuel d)
  | 0 => fun f xs H x H' h => by cases h
  | d + 1 => fun f args H x H' h => by
    unfold evF2 at h
    split at h
    · rename_i r hr
      cases h
      exact ho _ _ _ _ _ hr
    split at h
    · rename_i fn hf
      split at h
      · rename_i cd hb
        cases hl : Nat.ble args.length fn.ntmps with
        | false => rw [hl] at h; cases h
        | true =>
          rw [hl, cond_true] at h
          refine ACall.of_awp hT hf hb (hn f fn hf) rfl (Nat.le_of_ble_eq_true hl) rfl fun C h1 h2 h3 => ?_
          have hfin : ∀ (xs : List SV) (H1 : List Blk), (bif gc f then gcR H.length (resSV xs) H1 else (resSV xs, H1)) = (x, H') → Fin C H1 (resSV xs) (fun r H2 => H2 = H' ∧ r = x) := by
            intro xs H1 hx
            cases hg : gc f with
            | true =>
              rw [hg, cond_true] at hx
              have := gcR_fin (C := C) (H' := H1) (x := resSV xs) (n0 := H.length) (by rw [h1])
              rw [hx] at this
              exact this
            | false =>
              rw [hg, cond_false] at hx
              cases hx
              exact Fin.same ⟨rfl, rfl⟩
          split at h
          · rename_i e env1 H1 hr
            split at h
            · obtain ⟨xs, hx, h⟩ := ob_eq h
              refine AWP.mono (evC2_ok hG (by rw [h1]; rw [h1] at h3; exact h3) hT hm (evF2_ok hG ho hT hm hn d) _ _ (Nat.le_refl _) _ _ _ _ _ _ hr) ?_
              rintro e2 ⟨envx, Hx⟩ ⟨rfl, rfl, he⟩
              exact ⟨xs, (resL_look he).trans hx, hfin _ _ (Option.some.inj h)⟩
            · obtain ⟨xs, hx, h⟩ := ob_eq h
              refine AWP.mono (evC2_ok hG (by rw [h1]; rw [h1] at h3; exact h3) hT hm (evF2_ok hG ho hT hm hn d) _ _ (Nat.le_refl _) _ _ _ _ _ _ hr) ?_
              rintro e2 ⟨envx, Hx⟩ ⟨rfl, rfl, he⟩
              exact ⟨xs, (resL_look he).trans hx, hfin _ _ (Option.some.inj h)⟩
            · cases h
          · cases h
      · cases h
    · cases h
end Go.Proofs.YtehfihnfeakmaaaGreatDoor
end

section
/-
  slices.Sort at []string in this seat's translation: the shelf's contract laid in plain words (numbers by names; printed by mkshelfs.py).
-/
namespace Go.Proofs
open Go.Shelf
def Tryz.lays190_ren : Go.Shelf.Ren := ⟨fun | 190 => 50 | 125 => 106 | 258 => 105 | 128 => 139 | 129 => 140 | 302 => 130 | 303 => 131 | 304 => 132 | 305 => 133 | 306 => 134 | 307 => 135 | 308 => 136 | 309 => 137 | 310 => 138 | 333 => 155 | 329 => 156 | 330 => 157 | 334 => 158 | 335 => 159 | 336 => 160 | 344 => 169 | n => n, fun | 31 => 36 | 9 => 9 | 3 => 3 | 46 => 135 | 0 => 0 | 51 => 163 | 53 => 165 | 4 => 4 | 183 => 156 | 182 => 155 | 131 => 41 | 5 => 5 | 218 => 179 | 222 => 183 | 228 => 196 | 229 => 145 | n => n, fun | n => n⟩
theorem Tryz.lays190 : Go.Proofs.Lays.n190 Tryz.prog Tryz.lays190_ren := {
  mixed := by kernel_rfl
  f125 := Tryz.func106.trans (congrArg some (by kernel_rfl))
  f128 := Tryz.func139.trans (congrArg some (by kernel_rfl))
  f129 := Tryz.func140.trans (congrArg some (by kernel_rfl))
  f190 := Tryz.func50.trans (congrArg some (by kernel_rfl))
  f258 := Tryz.func105.trans (congrArg some (by kernel_rfl))
  f302 := Tryz.func130.trans (congrArg some (by kernel_rfl))
  f303 := Tryz.func131.trans (congrArg some (by kernel_rfl))
  f304 := Tryz.func132.trans (congrArg some (by kernel_rfl))
  f305 := Tryz.func133.trans (congrArg some (by kernel_rfl))
  f306 := Tryz.func134.trans (congrArg some (by kernel_rfl))
  f307 := Tryz.func135.trans (congrArg some (by kernel_rfl))
  f308 := Tryz.func136.trans (congrArg some (by kernel_rfl))
  f309 := Tryz.func137.trans (congrArg some (by kernel_rfl))
  f310 := Tryz.func138.trans (congrArg some (by kernel_rfl))
  f329 := Tryz.func156.trans (congrArg some (by kernel_rfl))
  f330 := Tryz.func157.trans (congrArg some (by kernel_rfl))
  f333 := Tryz.func155.trans (congrArg some (by kernel_rfl))
  f334 := Tryz.func158.trans (congrArg some (by kernel_rfl))
  f335 := Tryz.func159.trans (congrArg some (by kernel_rfl))
  f336 := Tryz.func160.trans (congrArg some (by kernel_rfl))
  f344 := Tryz.func169.trans (congrArg some (by kernel_rfl))
  t0 := Tryz.underlying0
  a0 := Tryz.isAgg0
  z0 := Tryz.sizeOf0
  v0 := Tryz.zeroValue0
  t3 := Tryz.underlying3
  a3 := Tryz.isAgg3
  z3 := Tryz.sizeOf3
  v3 := Tryz.zeroValue3
  t4 := Tryz.underlying4
  a4 := Tryz.isAgg4
  z4 := Tryz.sizeOf4
  v4 := Tryz.zeroValue4
  t5 := Tryz.underlying5
  a5 := Tryz.isAgg5
  z5 := Tryz.sizeOf5
  v5 := Tryz.zeroValue5
  t9 := Tryz.underlying9
  a9 := Tryz.isAgg9
  z9 := Tryz.sizeOf9
  v9 := Tryz.zeroValue9
  t31 := Tryz.underlying36
  a31 := Tryz.isAgg36
  z31 := Tryz.sizeOf36
  v31 := Tryz.zeroValue36
  t46 := Tryz.underlying135
  a46 := Tryz.isAgg135
  z46 := Tryz.sizeOf135
  v46 := Tryz.zeroValue135
  t51 := Tryz.underlying163
  a51 := Tryz.isAgg163
  z51 := Tryz.sizeOf163
  v51 := Tryz.zeroValue163
  t53 := Tryz.underlying165
  a53 := Tryz.isAgg165
  z53 := Tryz.sizeOf165
  v53 := Tryz.zeroValue165
  t131 := Tryz.underlying41
  a131 := Tryz.isAgg41
  z131 := Tryz.sizeOf41
  v131 := Tryz.zeroValue41
  t182 := Tryz.underlying155
  a182 := Tryz.isAgg155
  z182 := Tryz.sizeOf155
  v182 := Tryz.zeroValue155
  t183 := Tryz.underlying156
  a183 := Tryz.isAgg156
  z183 := Tryz.sizeOf156
  v183 := Tryz.zeroValue156
  t218 := Tryz.underlying179
  a218 := Tryz.isAgg179
  z218 := Tryz.sizeOf179
  v218 := Tryz.zeroValue179
  t222 := Tryz.underlying183
  a222 := Tryz.isAgg183
  z222 := Tryz.sizeOf183
  v222 := Tryz.zeroValue183
  t228 := Tryz.underlying196
  a228 := Tryz.isAgg196
  z228 := Tryz.sizeOf196
  v228 := Tryz.zeroValue196
  t229 := Tryz.underlying145
  a229 := Tryz.isAgg145
  z229 := Tryz.sizeOf145
  v229 := Tryz.zeroValue145 }
open Go.Sort Go.RowKit in
theorem Tryz.slices_Sort_string (blk off cap : Nat) (ss : List (List UInt8)) (w : World) (hH : Holds encStr w blk off ss.toArray) (hblk : blk < w.heap.size) (hsz : ss.length < 4611686018427387904) :
    Calls Tryz.prog 50 #[.slice (some ⟨blk, off, none⟩) ss.length cap] w fun e w' =>
      e = .returned (.tuple #[]) ∧ ∃ n os, w' = grow (putRow encStr (Sort.ahead w n) blk off (ss.mergeSort fun x y => decide (x ≤ y)).toArray) os := Any.slices_Sort_string Tryz.lays190 blk off cap ss w hH hblk hsz
open Go.RowKit Go.Sort in
theorem Tryz.slices_Sort_string_none (p : Option Addr) (cap : Nat) (w : World) :
    Calls Tryz.prog 50 #[.slice p 0 cap] w fun e w' => e = .returned (.tuple #[]) ∧ w' = w := Any.slices_Sort_string_none Tryz.lays190 p cap w
end Go.Proofs
end

section
/- strconv.Atoi at what is no numeral, and maps.Clone: the shelf's contracts laid at this seat in plain words (the first printed by lay-plain.mjs). -/
namespace Go.Proofs
open Go.Shelf
def Tryz.laysC172_ren : Go.Shelf.Ren := ⟨fun | 172 => 81 | 244 => 124 | 245 => 125 | 247 => 148 | 279 => 149 | 280 => 150 | 281 => 151 | 282 => 152 | 287 => 162 | 316 => 163 | 171 => 82 | 205 => 164 | 321 => 170 | 322 => 171 | 243 => 126 | 246 => 153 | 283 => 165 | 284 => 166 | 285 => 167 | 286 => 168 | 129 => 140 | 317 => 172 | 318 => 173 | 319 => 174 | 320 => 175 | 337 => 176 | 338 => 177 | n => n, fun | 9 => 9 | 3 => 3 | 75 => 116 | 76 => 117 | 4 => 4 | 5 => 5 | 167 => 170 | 37 => 171 | 0 => 0 | 85 => 172 | 2 => 2 | 168 => 174 | 53 => 165 | 175 => 186 | 46 => 135 | 210 => 190 | 127 => 199 | 145 => 202 | 143 => 200 | 21 => 21 | 171 => 192 | 173 => 194 | 212 => 204 | 51 => 163 | 20 => 20 | 213 => 205 | 232 => 206 | 233 => 207 | 80 => 208 | n => n, fun | 15 => 0 | 16 => 1 | 17 => 2 | 18 => 3 | 19 => 4 | n => n⟩
theorem Tryz.laysC172 : Go.Proofs.LaysC.n172 Tryz.prog Tryz.laysC172_ren := {
  mixed := by kernel_rfl
  f129 := Tryz.func140.trans (congrArg some (by kernel_rfl))
  f171 := Tryz.func82.trans (congrArg some (by kernel_rfl))
  f172 := Tryz.func81.trans (congrArg some (by kernel_rfl))
  f205 := Tryz.func164.trans (congrArg some (by kernel_rfl))
  f243 := Tryz.func126.trans (congrArg some (by kernel_rfl))
  f244 := Tryz.func124.trans (congrArg some (by kernel_rfl))
  f245 := Tryz.func125.trans (congrArg some (by kernel_rfl))
  f246 := Tryz.func153.trans (congrArg some (by kernel_rfl))
  f247 := Tryz.func148.trans (congrArg some (by kernel_rfl))
  f279 := Tryz.func149.trans (congrArg some (by kernel_rfl))
  f280 := Tryz.func150.trans (congrArg some (by kernel_rfl))
  f281 := Tryz.func151.trans (congrArg some (by kernel_rfl))
  f282 := Tryz.func152.trans (congrArg some (by kernel_rfl))
  f283 := Tryz.func165.trans (congrArg some (by kernel_rfl))
  f284 := Tryz.func166.trans (congrArg some (by kernel_rfl))
  f285 := Tryz.func167.trans (congrArg some (by kernel_rfl))
  f286 := Tryz.func168.trans (congrArg some (by kernel_rfl))
  f287 := Tryz.func162.trans (congrArg some (by kernel_rfl))
  f316 := Tryz.func163.trans (congrArg some (by kernel_rfl))
  f317 := Tryz.func172.trans (congrArg some (by kernel_rfl))
  f318 := Tryz.func173.trans (congrArg some (by kernel_rfl))
  f319 := Tryz.func174.trans (congrArg some (by kernel_rfl))
  f320 := Tryz.func175.trans (congrArg some (by kernel_rfl))
  f321 := Tryz.func170.trans (congrArg some (by kernel_rfl))
  f322 := Tryz.func171.trans (congrArg some (by kernel_rfl))
  f337 := Tryz.func176.trans (congrArg some (by kernel_rfl))
  f338 := Tryz.func177.trans (congrArg some (by kernel_rfl))
  t0 := Tryz.underlying0
  a0 := Tryz.isAgg0
  z0 := Tryz.sizeOf0
  v0 := Tryz.zeroValue0
  t2 := Tryz.underlying2
  a2 := Tryz.isAgg2
  z2 := Tryz.sizeOf2
  v2 := Tryz.zeroValue2
  t3 := Tryz.underlying3
  a3 := Tryz.isAgg3
  z3 := Tryz.sizeOf3
  v3 := Tryz.zeroValue3
  t4 := Tryz.underlying4
  a4 := Tryz.isAgg4
  z4 := Tryz.sizeOf4
  v4 := Tryz.zeroValue4
  t5 := Tryz.underlying5
  a5 := Tryz.isAgg5
  z5 := Tryz.sizeOf5
  v5 := Tryz.zeroValue5
  t9 := Tryz.underlying9
  a9 := Tryz.isAgg9
  z9 := Tryz.sizeOf9
  v9 := Tryz.zeroValue9
  t20 := Tryz.underlying20
  a20 := Tryz.isAgg20
  z20 := Tryz.sizeOf20
  v20 := Tryz.zeroValue20
  t21 := Tryz.underlying21
  a21 := Tryz.isAgg21
  z21 := Tryz.sizeOf21
  v21 := Tryz.zeroValue21
  t37 := Tryz.underlying171
  a37 := Tryz.isAgg171
  z37 := Tryz.sizeOf171
  v37 := Tryz.zeroValue171
  t46 := Tryz.underlying135
  a46 := Tryz.isAgg135
  z46 := Tryz.sizeOf135
  v46 := Tryz.zeroValue135
  t51 := Tryz.underlying163
  a51 := Tryz.isAgg163
  z51 := Tryz.sizeOf163
  v51 := Tryz.zeroValue163
  t53 := Tryz.underlying165
  a53 := Tryz.isAgg165
  z53 := Tryz.sizeOf165
  v53 := Tryz.zeroValue165
  t75 := Tryz.underlying116
  a75 := Tryz.isAgg116
  z75 := Tryz.sizeOf116
  v75 := Tryz.zeroValue116
  t76 := Tryz.underlying117
  a76 := Tryz.isAgg117
  z76 := Tryz.sizeOf117
  v76 := Tryz.zeroValue117
  t85 := Tryz.underlying172
  a85 := Tryz.isAgg172
  z85 := Tryz.sizeOf172
  v85 := Tryz.zeroValue172
  t127 := Tryz.underlying199
  a127 := Tryz.isAgg199
  z127 := Tryz.sizeOf199
  v127 := Tryz.zeroValue199
  t143 := Tryz.underlying200
  a143 := Tryz.isAgg200
  z143 := Tryz.sizeOf200
  v143 := Tryz.zeroValue200
  t145 := Tryz.underlying202
  a145 := Tryz.isAgg202
  z145 := Tryz.sizeOf202
  v145 := Tryz.zeroValue202
  t167 := Tryz.underlying170
  a167 := Tryz.isAgg170
  z167 := Tryz.sizeOf170
  v167 := Tryz.zeroValue170
  t168 := Tryz.underlying174
  a168 := Tryz.isAgg174
  z168 := Tryz.sizeOf174
  v168 := Tryz.zeroValue174
  t171 := Tryz.underlying192
  a171 := Tryz.isAgg192
  z171 := Tryz.sizeOf192
  v171 := Tryz.zeroValue192
  t173 := Tryz.underlying194
  a173 := Tryz.isAgg194
  z173 := Tryz.sizeOf194
  v173 := Tryz.zeroValue194
  t175 := Tryz.underlying186
  a175 := Tryz.isAgg186
  z175 := Tryz.sizeOf186
  v175 := Tryz.zeroValue186
  t210 := Tryz.underlying190
  a210 := Tryz.isAgg190
  z210 := Tryz.sizeOf190
  v210 := Tryz.zeroValue190
  t212 := Tryz.underlying204
  a212 := Tryz.isAgg204
  z212 := Tryz.sizeOf204
  v212 := Tryz.zeroValue204
  t213 := Tryz.underlying205
  a213 := Tryz.isAgg205
  z213 := Tryz.sizeOf205
  t232 := Tryz.underlying206
  a232 := Tryz.isAgg206
  z232 := Tryz.sizeOf206
  v232 := Tryz.zeroValue206
  t233 := Tryz.underlying207
  a233 := Tryz.isAgg207
  z233 := Tryz.sizeOf207
  v233 := Tryz.zeroValue207
  g15 := by kernel_rfl
  g16 := by kernel_rfl
  g17 := by kernel_rfl
  g18 := by kernel_rfl
  g19 := by kernel_rfl
  t80 := Tryz.underlying208
  a80 := Tryz.isAgg208
  z80 := Tryz.sizeOf208
  v80 := Tryz.zeroValue208
  i0 := by kernel_rfl
  i2 := by kernel_rfl
  i3 := by kernel_rfl
  i4 := by kernel_rfl
  i5 := by kernel_rfl
  i9 := by kernel_rfl
  i20 := by kernel_rfl
  i21 := by kernel_rfl
  i37 := by kernel_rfl
  i46 := by kernel_rfl
  i51 := by kernel_rfl
  i53 := by kernel_rfl
  i75 := by kernel_rfl
  i76 := by kernel_rfl
  i80 := by kernel_rfl
  i85 := by kernel_rfl
  i127 := by kernel_rfl
  i143 := by kernel_rfl
  i145 := by kernel_rfl
  i167 := by kernel_rfl
  i168 := by kernel_rfl
  i171 := by kernel_rfl
  i173 := by kernel_rfl
  i175 := by kernel_rfl
  i210 := by kernel_rfl
  i212 := by kernel_rfl
  i232 := by kernel_rfl
  i233 := by kernel_rfl
  m15 := by kernel_rfl
  m16 := by kernel_rfl
  m17 := by kernel_rfl
  m18 := by kernel_rfl
  m19 := by kernel_rfl
  c0 := by kernel_rfl
  c2 := by kernel_rfl
  c3 := by kernel_rfl
  c4 := by kernel_rfl
  c5 := by kernel_rfl
  c9 := by kernel_rfl
  c20 := by kernel_rfl
  c21 := by kernel_rfl
  c37 := by kernel_rfl
  c46 := by kernel_rfl
  c51 := by kernel_rfl
  c53 := by kernel_rfl
  c75 := by kernel_rfl
  c76 := by kernel_rfl
  c80 := by kernel_rfl
  c85 := by kernel_rfl
  c127 := by kernel_rfl
  c143 := by kernel_rfl
  c145 := by kernel_rfl
  c167 := by kernel_rfl
  c168 := by kernel_rfl
  c171 := by kernel_rfl
  c173 := by kernel_rfl
  c175 := by kernel_rfl
  c210 := by kernel_rfl
  c212 := by kernel_rfl
  c213 := by kernel_rfl
  c232 := by kernel_rfl
  c233 := by kernel_rfl }
open Go.RowKit in
/-- strconv.Atoi, AT EVERY STRING OF AT MOST 18 BYTES THAT IS NO DECIMAL NUMERAL (the empty one too): 0, AND AN ERROR THAT IS NOT nil: a *NumError in a new block N: {Func: "Atoi", Num: s's bytes, Err: what the variable ErrSyntax holds}. Of what was there nothing has turned. (LAID: no walk: one application.) -/
theorem Tryz.strconv_Atoi_err (s : ByteArray) (hl : s.size ≤ 18) (h : Lib.atoi s.data.toList = none) (ev : Value) (w : World) (hv : w.cell? ⟨0, 0, none⟩ = some ev) (hev : ev = .nilIface ∨ ∃ te pe, ev = .iface te pe) :
    Calls Tryz.prog 81 #[.string s] w fun e w' => ∃ N, e = .returned (.tuple #[.int .i64 0, .iface 174 (.pointer (some ⟨N, 0, none⟩))]) ∧ w.heap.size ≤ N ∧ w'.heap[N]? = some (.cells #[.string ⟨#[65, 116, 111, 105]⟩, .string s, ev] 190 (0, 0)) ∧ Below w.heap.size w w' := Any.strconv_Atoi_err Tryz.laysC172 s hl h ev w hv hev

def Tryz.laysW5_ren : Go.Shelf.Ren := ⟨fun | 5 => 52 | 7 => 107 | n => n, fun | 23 => 85 | 25 => 9 | n => n, fun | n => n⟩
theorem Tryz.laysW5 : SlLaysW.n5 Tryz.prog Tryz.laysW5_ren := {
  mixed := by kernel_rfl
  f5 := ⟨ "maps.Clone[map[string]int,string,int]", by decide, by kernel_rfl⟩
  f7 := Tryz.func107
  t4 := Tryz.underlying4
  a4 := Tryz.isAgg4
  z4 := Tryz.sizeOf4
  v4 := Tryz.zeroValue4
  t20 := Tryz.underlying20
  a20 := Tryz.isAgg20
  z20 := Tryz.sizeOf20
  v20 := Tryz.zeroValue20
  t23 := Tryz.underlying85
  a23 := Tryz.isAgg85
  z23 := Tryz.sizeOf85
  v23 := Tryz.zeroValue85 }
theorem Tryz.maps_Clone (b : Nat) (es : Array MapEntry) (clock : Nat) (w : World) (hb : w.heap[b]? = some (.map es clock)) :
    Calls Tryz.prog 52 #[.map (some b)] w fun e w' => e = .returned (.map (some w.heap.size)) ∧ w' = w.alloc (.map es clock) := AnyW.maps_Clone Tryz.laysW5 b es clock w hb
end Go.Proofs
end
