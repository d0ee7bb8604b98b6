/- A part of the proof: SwI, SwJ, SwK, X2, U1, U2, U6, U7, U8, U4, U9, V1, W1, W2, W3, W4, Shelf, W5, W6, Y4, Y5, Y6, Y7, Y9, D0, D3, I1, J1, J2, I2, I3, J3, I4, I5, I6, I7. -/
import Derived.Test.YtehfihnfeakmaaaGreatDoorMc
import Derived.Sort.Grow
import Derived.Laws.IdiomRangeMap
import Derived.Test.YtehfihnfeakmaaaGreatDoorRows
import Derived.WalkKit
import Derived.ProofKit
import Derived.OpenShut
import Derived.JoinedCond
import Derived.Carry
import Derived.ChangeMaps5
import Derived.ChangeSame
import Derived.Sort.KeysCollected
import Derived.Shelf.Sort.Plain
import Derived.Shelf.Slices.In.SortNone
import Derived.Test.YtehfihnfeakmaaaGreatDoorProg

set_option linter.unusedSimpArgs false
set_option linter.unusedVariables false
section
/- A sort by a contract of the shelf, told of abstract heaps. -/
namespace Go.Proofs.YtehfihnfeakmaaaGreatDoor
open Go
theorem RepL.all {c : Cx} {α : Type} {sv : α → SV} {enc : α → Value} {ok : α → Prop} (hrep : ∀ (c : Cx) x v, Rep c (sv x) v ↔ (v = enc x ∧ ok x)) : ∀ {zs : List α} {vs : List Value}, RepL c (zs.map sv) vs ↔ (vs = zs.map enc ∧ ∀ x ∈ zs, ok x)
  | [], vs => by simp [RepL]
  | x :: zs, vs => by
    rw [List.map_cons, RepL.cons_iff]
    constructor
    · rintro ⟨u, us, h1, h2, rfl⟩
      obtain ⟨rfl, h3⟩ := (hrep c x u).1 h1
      obtain ⟨rfl, h4⟩ := (RepL.all hrep).1 h2
      exact ⟨rfl, fun y hy => by rcases List.mem_cons.1 hy with rfl | hy; exact h3; exact h4 y hy⟩
    · rintro ⟨rfl, h⟩
      exact ⟨_, _, (hrep c x _).2 ⟨rfl, h x (List.mem_cons_self ..)⟩, (RepL.all hrep).2 ⟨rfl, fun y hy => h y (List.mem_cons_of_mem _ hy)⟩, rfl⟩
theorem cellsOf_ones : ∀ {vs : List Value}, (∀ v ∈ vs, v.oneCell' = true) → cellsOf vs = vs
  | [], _ => rfl
  | v :: vs, h => by rw [cellsOf_cons, cells_one (h v (List.mem_cons_self ..)), cellsOf_ones (fun u hu => h u (List.mem_cons_of_mem _ hu))]; rfl
section
variable {P : Program} {G : Gl} {α : Type} [Inhabited α]
open Go.Sort
theorem ACall.of_sort (enc : α → Value) (sv : α → SV) (ok : α → Prop) (hrep : ∀ (c : Cx) x v, Rep c (sv x) v ↔ (v = enc x ∧ ok x)) (hone : ∀ x, (enc x).oneCell' = true) (le : α → α → Bool) {f : FuncId}
    (hf : ∃ fn, P.funcs[f]? = some fn ∧ (fn.name == "runtime.NumGoroutine") = false ∧ fn.body.isNone = false)
    (hc : ∀ (blk off cap : Nat) (zs : List α) (w : World), Holds enc w blk off zs.toArray → blk < w.heap.size → zs.length < 4611686018427387904 → Calls P f #[.slice (some ⟨blk, off, none⟩) zs.length cap] w fun e w' =>
      e = .returned (.tuple #[]) ∧ ∃ n os, w' = grow (putRow enc (Sort.ahead w n) blk off (zs.mergeSort le).toArray) os)
    (h0 : ∀ (p : Option Addr) (cap : Nat) (w : World), Calls P f #[.slice p 0 cap] w fun e w' => e = .returned (.tuple #[]) ∧ w' = w)
    (id g : Nat) (zs : List α) (H : List Blk) (hH : H[id]? = some (.cells g 1 (zs.map sv))) (hl : zs.length < 4611686018427387904) :
    ACall P G f [.sl id g 0 zs.length] H (fun r H' => H' = H.set id (.cells g 1 ((zs.mergeSort le).map sv)) ∧ r = .tuple []) := by
  refine ⟨hf, fun c vs e1 hh hG hv => ?_⟩
  obtain ⟨v, us, hv1, hv2, rfl⟩ := RepL.cons_iff.1 hv
  rw [RepL.nil_iff.1 hv2]
  have hB : c.H[id]? = some (.cells g 1 (zs.map sv)) := by rw [e1]; exact hH
  simp only [Rep, hB] at hv1
  have hperm := List.mergeSort_perm zs le
  have hlen : (zs.mergeSort le).length = zs.length := hperm.length_eq
  refine (callsIn_wide (n := 0)).2 ?_
  rcases hv1.2 with h | ⟨_, h1, a, cap, rfl, h2, h3, h4⟩
  · omega
  by_cases hz : zs = []
  · subst hz
    refine (h0 a cap c.w).mono ?_
    rintro e w' ⟨rfl, rfl⟩
    refine ⟨_, .tuple [], c, rfl, rfl, ⟨?_, rfl⟩, hh, by simp only [Rep]; exact ⟨[], RepL.mk_nil, rfl⟩, Grow.refl c⟩
    rw [e1]
    obtain ⟨hlt, he⟩ := List.getElem?_eq_some_iff.1 hH
    have : (List.mergeSort ([] : List α) le).map sv = [] := by simp
    rw [this]
    conv => lhs; rw [← List.set_getElem_self hlt]
    rw [he]; rfl
  have hpos : 0 < zs.length := List.length_pos_iff.2 hz
  rcases h4 with h4 | ⟨b, o, cs, Ty, fr, h4, h5, h6, h7⟩
  · omega
  rcases hh.blk id _ hB with ⟨h8, _⟩ | ⟨b', o', cs', Ty', fr', vs', h8, h9, h10, h11, h12, h13⟩
  · rw [h4] at h8; cases h8
  rw [h4] at h8; cases h8
  rw [h6] at h9; cases h9
  obtain ⟨rfl, hok⟩ := (RepL.all hrep).1 h11
  have hall1 : ∀ l : List α, ∀ v ∈ l.map enc, v.oneCell' = true := fun l v hv => by obtain ⟨x, _, rfl⟩ := List.mem_map.1 hv; exact hone x
  rw [cellsOf_ones (hall1 zs)] at h13
  have hblk : b < c.w.heap.size := (Array.getElem?_eq_some_iff.1 h6).1
  have hsz : o + zs.length ≤ cs.size := by
    have := rangeAt_size h6 h13 (by simpa using hpos)
    simpa using this
  have hthere : c.w.there b o zs.length := rangeAt_there h6 h10 hsz
  have hholds : Holds enc c.w b o zs.toArray := fun j hj => by
    have hj' : j < zs.length := by simpa using hj
    refine ⟨?_, (hthere j hj').2⟩
    have := h13 j (enc zs[j]) (by simp [hj'])
    rw [this]
    simp [hj']
  rw [show a = some ⟨b, o, none⟩ by rw [h5]; simp]
  refine (hc b o cap zs c.w hholds hblk hl).mono ?_
  rintro e w' ⟨rfl, n, os, rfl⟩
  have hother : ∀ k, k < c.w.heap.size → k ≠ b → (grow (putRow enc (Sort.ahead c.w n) b o (zs.mergeSort le).toArray) os).heap[k]? = c.w.heap[k]? := fun k hk hne => by
    rw [heap_grow_old _ _ (by simpa using hk)]
    show (Array.modify c.w.heap b _)[k]? = _
    rw [Array.getElem?_modify, if_neg (fun e => hne e.symm)]
  have hat : (grow (putRow enc (Sort.ahead c.w n) b o (zs.mergeSort le).toArray) os).heap[b]? = some (.cells (putCells enc o (zs.mergeSort le).toArray cs) Ty fr) := by
    rw [heap_grow_old _ _ (by simpa using hblk)]
    show (Array.modify c.w.heap b _)[b]? = _
    rw [Array.getElem?_modify, if_pos rfl, h6]
    rfl
  have hcsz : (putCells enc o (zs.mergeSort le).toArray cs).size = cs.size := by simp [putCells]
  obtain ⟨t1, t2⟩ := Cx.turn hh (w' := grow (putRow enc (Sort.ahead c.w n) b o (zs.mergeSort le).toArray) os) hB rfl (B' := .cells g 1 ((zs.mergeSort le).map sv)) (c.θ id)
    ⟨g, _, rfl, Nat.le_refl _, fun _ => ⟨rfl, by simp [hlen]⟩, fun b' o' h' => .inr ⟨o', h'⟩⟩
    (fun k hk hno => hother k hk fun e => hno o (by rw [h4, e])) (by simp) rfl rfl rfl
    (fun b' cs0 T0 fr0 hb' => by
      by_cases e : b' = b
      · subst e
        rw [h6] at hb'; cases hb'
        exact ⟨_, fr, hat, hcsz⟩
      · exact ⟨cs0, fr0, by rw [hother b' (Array.getElem?_eq_some_iff.1 hb').1 e]; exact hb', rfl⟩)
    (fun hg => .inr ⟨b, o, _, Ty, fr, (zs.mergeSort le).map enc, by simp [h4], hat, by unfold noFreeze; rw [hcsz]; exact h10,
      (RepL.all hrep).2 ⟨rfl, fun x hx => hok x (hperm.mem_iff.1 hx)⟩, fun u hu => by
        have := hall1 _ u hu
        exact ⟨by rw [cells_one this]; rfl, okCells_one this⟩, by
        rw [cellsOf_ones (hall1 _)]
        intro j v hj
        rw [cell_at hat]
        obtain ⟨hj', hje⟩ := List.getElem?_eq_some_iff.1 hj
        simp only [List.length_map] at hj'
        simp only [List.getElem_map] at hje
        simp only [putCells, Array.getElem?_mapIdx]
        rw [Array.getElem?_eq_getElem (by omega)]
        simp only [Option.map_some]
        rw [if_pos (by constructor; omega; simp; omega)]
        rw [← hje]
        simp only [Nat.add_sub_cancel_left, List.getElem!_toArray, List.getElem!_eq_getElem?_getD]
        rw [List.getElem?_eq_getElem hj']; rfl⟩)
  refine ⟨_, .tuple [], _, rfl, rfl, ⟨?_, rfl⟩, t2, by simp only [Rep]; exact ⟨[], RepL.mk_nil, rfl⟩, t1⟩
  rw [← e1]
end
theorem rep_str_iff (c : Cx) (s : List UInt8) (v : Value) : Rep c (.str s) v ↔ (v = .string ⟨⟨s⟩⟩ ∧ s.length ≤ maxLen) := by simp only [Rep]
end Go.Proofs.YtehfihnfeakmaaaGreatDoor
end

section
/- Ranging over a map that nobody writes any more. -/
namespace Go.Proofs.YtehfihnfeakmaaaGreatDoor
open Go
section
variable {P : Program}
theorem run_next_at (w : World) (ty r bm clk : Nat) (seen : Array Nat) (es : Array MapEntry) (hr : w.heap[r]? = some (.mapIter (some bm) clk seen clk)) (hb : w.heap[bm]? = some (.map es clk)) (hold : ∀ x ∈ es.toList, x.born < clk) :
    ((∀ e ∈ es.toList, seen.contains e.born = true) ∧ (Instr.next (.pointer (some ⟨r, 0, none⟩)) false ty).run P w = .ok (.tuple #[.bool false]) w) ∨
    ∃ e ∈ es.toList, seen.contains e.born = false ∧ ∃ w1 : World, (w1 = w ∨ w1 = w.drew) ∧ (Instr.next (.pointer (some ⟨r, 0, none⟩)) false ty).run P w = .ok (.tuple #[.bool true, e.key, e.val]) (w1.putObj r (.mapIter (some bm) clk (seen.push e.born) clk)) := by
  simp only [Instr.next, getObj, Sem.run_bind, Sem.run, hr, hb, Result.andThen, next_test_false seen es clk clk hold (Nat.le_refl _), Bool.false_eq_true, if_false]
  generalize hL : Array.filter (fun e => !seen.contains e.born) es = L
  have mem : ∀ e, e ∈ L.toList ↔ e ∈ es.toList ∧ seen.contains e.born = false := fun e => by rw [← hL]; simp
  have old : L.filter (fun x => decide (x.born < clk)) = L := Array.filter_eq_self.2 (fun x hx => by simpa using hold x ((mem x).1 (by simpa using hx)).1)
  have new : L.filter (fun x => decide (x.born ≥ clk)) = #[] := by
    rw [Array.filter_eq_empty_iff]
    intro x hx
    have := hold x ((mem x).1 (by simpa using hx)).1
    simp; omega
  simp only [old, new, Array.append_empty]
  by_cases h0 : L.size = 0
  · left
    have hLe : L = #[] := Array.eq_empty_of_size_eq_zero h0
    refine ⟨fun e he => ?_, by subst hLe; simp [choose, Sem.run, Question.forced]⟩
    cases hs : seen.contains e.born with
    | true => rfl
    | false => have := (mem e).2 ⟨he, hs⟩; rw [hLe] at this; cases this
  · right
    have hne : L.isEmpty = false := by simp [Array.isEmpty, h0]
    simp only [hne, Bool.false_eq_true, if_false, Array.empty_append, Array.size_map]
    obtain ⟨j, w1, hj, hw, hrun⟩ : ∃ (j : Nat) (w1 : World), j < L.size ∧ (w1 = w ∨ w1 = w.drew) ∧ (choose (Question.mapNext L.size)).run P w = .ok j w1 := by
      by_cases hf : L.size ≤ 1
      · exact ⟨0, w, by omega, .inl rfl, by simp [choose, Sem.run, Question.forced, hf]⟩
      · exact ⟨_, w.drew, Nat.mod_lt _ (by omega), .inr rfl, by
          simp only [choose, Sem.run, Question.forced, decide_eq_true_eq, hf, if_false, Question.cut]
          rfl⟩
    have hheap : w1.heap = w.heap := by rcases hw with rfl | rfl <;> rfl
    obtain ⟨m1, m2⟩ := (mem L[j]).1 (by simp)
    refine ⟨L[j], m1, m2, w1, hw, ?_⟩
    have hset : ∀ o' : Obj, (setObj r o').run P w1 = .ok () (w1.putObj r o') := fun o' => by
      have : w1.heap[r]? = some (.mapIter (some bm) clk seen clk) := by rw [hheap]; exact hr
      simp only [setObj, Sem.run, this]
      rfl
    simp only [hrun, Array.getElem?_map, Array.getElem?_eq_getElem hj, Option.map_some, Sem.run_bind, hset, Result.andThen]
    rfl
theorem run_entry_at (w : World) (r bm clk : Nat) (seen : Array Nat) (es : Array MapEntry) (e : MapEntry) (hr : w.heap[r]? = some (.mapIter (some bm) clk (seen.push e.born) clk)) (hb : w.heap[bm]? = some (.map es clk)) (he : e ∈ es.toList) (hn : (es.toList.map (·.born)).Nodup) :
    (Instr.entry (.pointer (some ⟨r, 0, none⟩))).run P w = .ok (.tuple #[e.key, e.val]) w := by
  have hf : es.find? (·.born == e.born) = some e := by rw [← Array.find?_toList]; exact find_born e es.toList hn he
  simp only [Instr.entry, getObj, Sem.run_bind, Sem.run, hr, hb, Result.andThen, Array.back?_push, bne_self_eq_false, Bool.false_eq_true, if_false, hf]
  rfl
theorem run_range_at (w : World) (t k e : TypeId) (bm clk : Nat) (es : Array MapEntry) (ht : P.underlying t = some (.map k e)) (hb : w.heap[bm]? = some (.map es clk)) :
    (Instr.range t (.map (some bm))).run P w = .ok (.pointer (some ⟨w.heap.size, 0, none⟩)) (w.alloc (.mapIter (some bm) clk #[] clk)) := run_range_map w t k e bm es clk ht hb
end
section
variable {P : Program} {G : Gl} {T : Tab} {own : List Nat} {nt B : Nat} {ρ : Option Nat} {C : Cx} {rs : List ResultVar} {R : SV → List Blk → Prop} {env env2 : Env} {H H' : List Blk} {k : List It}
variable {all r : List Oper} {ty d j dj : Nat} {op : Op} {pos : String} {after : Array Edge} {v : SV}
theorem Rep.kill_both {θ : Nat → Option (Nat × Nat)} {H : List Blk} {w : World} {io : Nat} {kd : Option IntKind} {es : List (SV × SV)} (hm : H[io]? = some (.map kd es)) :
    (∀ x v, Rep ⟨θ, H, w⟩ x v → Rep ⟨θ, H.set io .dead, w⟩ x v) ∧ (∀ xs vs, RepL ⟨θ, H, w⟩ xs vs → RepL ⟨θ, H.set io .dead, w⟩ xs vs) := by
  have hlt := (List.getElem?_eq_some_iff.1 hm).1
  have himm : ∀ b, Cx.imm ⟨θ, H, w⟩ b → Cx.imm ⟨θ, H.set io .dead, w⟩ b := fun b ⟨h1, h2⟩ => ⟨h1, fun ⟨id, o, ⟨B, hB, hl⟩, ht⟩ => h2 ⟨id, o, ⟨B, by
    have hB' : (H.set io .dead)[id]? = some B := hB
    rw [List.getElem?_set] at hB'
    split at hB'
    · cases hB'; cases hl
    · exact hB', hl⟩, ht⟩⟩
  have hget : ∀ id : Nat, (H.set io .dead)[id]? = if io = id then some .dead else H[id]? := fun id => by
    rw [List.getElem?_set]
    by_cases e : io = id
    · rw [if_pos e, if_pos e, if_pos (e ▸ hlt)]
    · rw [if_neg e, if_neg e]
  apply SV.both
  · intro x h1 h2 h3 h4 h5 h6 v h
    cases x with
    | agg fs => exact absurd rfl (h1 fs)
    | list n xs => exact absurd rfl (h2 n xs)
    | pto y => exact absurd rfl (h3 y)
    | fn f a b => exact absurd rfl (h4 f a b)
    | tuple xs => exact absurd rfl (h5 xs)
    | imap b clk born kd ks vs => exact absurd rfl (h6 b clk born kd ks vs)
    | ptr id g i off =>
      simp only [Rep, hget] at h ⊢
      by_cases e : io = id
      · simp only [if_pos e]; exact ⟨h.1, trivial⟩
      · simp only [if_neg e]; exact h
    | sl id g off len =>
      simp only [Rep, hget] at h ⊢
      by_cases e : io = id
      · simp only [if_pos e]; exact ⟨h.1, trivial⟩
      · simp only [if_neg e]; exact h
    | map id =>
      simp only [Rep, hget] at h ⊢
      by_cases e : io = id
      · simp only [if_pos e]; exact ⟨h.1, trivial⟩
      · simp only [if_neg e]; exact h
    | it id =>
      simp only [Rep, hget] at h ⊢
      by_cases e : io = id
      · simp only [if_pos e]; exact ⟨h.1, trivial⟩
      · simp only [if_neg e]; exact h
    | _ => exact h
  · intro fs ih v h
    simp only [Rep] at h ⊢
    obtain ⟨vs, h1, h2⟩ := h
    exact ⟨vs, ih vs h1, h2⟩
  · intro sz xs ih v h
    simp only [Rep] at h ⊢
    obtain ⟨a, cap, h0, h1, h2, h3⟩ := h
    refine ⟨a, cap, h0, h1, h2, ?_⟩
    rcases h3 with h3 | ⟨b, o, vs, h3, h4, h5, h6, h7⟩
    · exact .inl h3
    · exact .inr ⟨b, o, vs, h3, ih vs h4, h5, h6, himm b h7⟩
  · intro x ih v h
    simp only [Rep] at h ⊢
    obtain ⟨b, o, u, h0, h1, h2, h3, h4⟩ := h
    exact ⟨b, o, u, h0, ih u h1, h2, h3, himm b h4⟩
  · intro f xs ys ih1 ih2 v h
    simp only [Rep] at h ⊢
    obtain ⟨us, vs, h0, h1, h2⟩ := h
    exact ⟨us, vs, ih1 us h0, ih2 vs h1, h2⟩
  · intro xs ih v h
    simp only [Rep] at h ⊢
    obtain ⟨vs, h0, h1⟩ := h
    exact ⟨vs, ih vs h0, h1⟩
  · intro b clk born kd ks vs ih1 ih2 v h
    simp only [Rep] at h ⊢
    obtain ⟨h0, h1, ents, h2, h3, h4, h5, h6, h7⟩ := h
    exact ⟨h0, himm b h1, ents, h2, h3, h4, ih1 _ h5, ih2 _ h6, h7⟩
  · intro vs h; simpa [RepL] using h
  · intro x xs ih1 ih2 vs h
    obtain ⟨u, us, h1, h2, h3⟩ := RepL.cons_iff.1 h
    exact RepL.cons_iff.2 ⟨u, us, ih1 u h1, ih2 us h2, h3⟩
theorem RepE.lists {c : Cx} : ∀ {es : List (SV × SV)} {l : List MapEntry}, RepE c es l → RepL c (es.map Prod.fst) (l.map (·.key)) ∧ RepL c (es.map Prod.snd) (l.map (·.val))
  | [], l, h => by simp only [RepE] at h; subst h; exact ⟨RepL.mk_nil, RepL.mk_nil⟩
  | (q, x) :: es, l, h => by
    simp only [RepE] at h
    obtain ⟨e, es', h1, h2, h3, rfl⟩ := h
    obtain ⟨a, b⟩ := RepE.lists h3
    exact ⟨RepL.mk_cons h1 a, RepL.mk_cons h2 b⟩
theorem RepE.mono {c c' : Cx} (hr : ∀ x v, Rep c x v → Rep c' x v) : ∀ {es : List (SV × SV)} {l : List MapEntry}, RepE c es l → RepE c' es l
  | [], l, h => by simpa [RepE] using h
  | (q, x) :: es, l, h => by
    simp only [RepE] at h ⊢
    obtain ⟨e, es', h1, h2, h3, h4⟩ := h
    exact ⟨e, es', hr _ _ h1, hr _ _ h2, RepE.mono hr h3, h4⟩
theorem Cx.kill {θ : Nat → Option (Nat × Nat)} {H : List Blk} {w : World} {io : Nat} {kd : Option IntKind} {es : List (SV × SV)} (hm : H[io]? = some (.map kd es)) (hc : HeapOK ⟨θ, H, w⟩) (hC : C.H.length ≤ io) :
    HeapOK ⟨θ, H.set io .dead, w⟩ ∧ (∀ C0 : Cx, C0.H.length ≤ io → Grow C0 ⟨θ, H, w⟩ → Grow C0 ⟨θ, H.set io .dead, w⟩) ∧
    ∃ b clk born, θ io = some (b, 0) ∧ born.length = es.length ∧ born.Nodup ∧ Rep ⟨θ, H.set io .dead, w⟩ (.imap b clk born kd (es.map Prod.fst) (es.map Prod.snd)) (.map (some b)) := by
  have hlt := (List.getElem?_eq_some_iff.1 hm).1
  have hget : ∀ (id : Nat) (B : Blk), (H.set io .dead)[id]? = some B → B = .dead ∨ (id ≠ io ∧ H[id]? = some B) := fun id B hB => by
    rw [List.getElem?_set] at hB
    split at hB
    · cases hB; exact .inl rfl
    · rename_i h; exact .inr ⟨fun e => h e.symm, hB⟩
  obtain ⟨rk, rkl⟩ := Rep.kill_both (θ := θ) (w := w) hm
  refine ⟨⟨fun id B hB => ?_, fun i j b o o' ⟨Bi, h1, h2⟩ ⟨Bj, h3, h4⟩ h5 h6 => ?_⟩, fun C0 h0 hg => ?_, ?_⟩
  · rcases hget id B hB with rfl | ⟨_, hB⟩
    · trivial
    · have hb := hc.blk id B hB
      cases B with
      | dead => trivial
      | obj o => exact hb
      | cells g sz vals =>
        rcases hb with hb | ⟨b, o, cs, T, fr, vs, h1, h2, h3, h4, h5, h6⟩
        · exact .inl hb
        · exact .inr ⟨b, o, cs, T, fr, vs, h1, h2, h3, rkl _ _ h4, h5, h6⟩
      | map kd es =>
        obtain ⟨b, ents, clk, h1, h2, h3, h4⟩ := hb
        exact ⟨b, ents, clk, h1, h2, RepE.mono rk h3, h4⟩
  · rcases hget i Bi h1 with rfl | ⟨_, h1⟩
    · cases h2
    · rcases hget j Bj h3 with rfl | ⟨_, h3⟩
      · cases h4
      · exact hc.inj i j b o o' ⟨Bi, h1, h2⟩ ⟨Bj, h3, h4⟩ h5 h6
  · refine ⟨hg.os, hg.tape, hg.output, hg.size, hg.old, hg.shape, fun id B hB => ?_, fun id b o hn hl ht => ?_⟩
    · obtain ⟨B', h1, h2⟩ := hg.ids id B hB
      have hid : id < C0.H.length := (List.getElem?_eq_some_iff.1 hB).1
      exact ⟨B', by show (H.set io .dead)[id]? = _; rw [List.getElem?_set_ne (by omega)]; exact h1, h2⟩
    · obtain ⟨B, h1, h2⟩ := hl
      rcases hget id B h1 with rfl | ⟨_, h1⟩
      · cases h2
      · exact hg.new id b o hn ⟨B, h1, h2⟩ ht
  · obtain ⟨b, ents, clk, h1, h2, h3, h4, h5⟩ := hc.blk io _ hm
    obtain ⟨l1, l2⟩ := (RepE.mono rk h3).lists
    refine ⟨b, clk, ents.toList.map (·.born), h1, ?_, h5.2.1, ?_⟩
    · have := l1.length; simp only [List.length_map] at this ⊢; exact this.symm ▸ rfl
    · simp only [Rep]
      refine ⟨trivial, ⟨(Array.getElem?_eq_some_iff.1 h2).1, fun ⟨id, o, ⟨B, hB, hl⟩, ht⟩ => ?_⟩, ents, h2, h5, rfl, l1, l2, fun x hx => ?_⟩
      · rcases hget id B hB with rfl | ⟨hne, hB⟩
        · cases hl
        · exact hne (hc.inj id io b o 0 ⟨B, hB, hl⟩ ⟨_, hm, rfl⟩ ht h1)
      · obtain ⟨p, hp, rfl⟩ := List.mem_map.1 hx
        exact h4 p hp
theorem go_pin {c0 : Code} {t io : Nat} {kd : Option IntKind} {es : List (SV × SV)} (hm : H[io]? = some (.map kd es)) (hC : C.H.length ≤ io) (hB : Based G C.H.length) (ht : look env t = some (.map io))
    (h : ∀ b clk born, born.length = es.length → born.Nodup → (Out P G T own nt ρ C rs R) (.code c0 :: k) .normal ((t, .imap b clk born kd (es.map Prod.fst) (es.map Prod.snd)) :: env) (H.set io .dead)) : (Out P G T own nt ρ C rs R) (.code c0 :: k) .normal env H := by
  rintro ⟨θ, Hc, w⟩ a hc hi hg
  simp only at hc
  subst hc
  obtain ⟨k1, k2, b, clk, born, k3, k4, k5, k6⟩ := Cx.kill (C := C) hm hi.heap hC
  refine h b clk born k4 k5 ⟨θ, Hc.set io .dead, w⟩ a rfl ⟨k1, ⟨fun p hp => (Rep.kill_both hm).1 _ _ (hi.glob.1 p hp), fun C0 h0 => k2 C0 (Nat.le_trans (hB C0 h0) hC) (hi.glob.2 C0 h0)⟩, hi.size, fun t' x hx => ?_, ?_⟩ (k2 C hC hg)
  · simp only [look] at hx
    split at hx
    · rename_i e
      cases hx
      subst e
      have hv := hi.env t' _ ht
      simp only [Rep, hm] at hv
      obtain ⟨_, b', e1, e2⟩ := hv
      rw [k3] at e1
      cases e1
      rw [e2]; exact k6
    · exact (Rep.kill_both hm).1 _ _ (hi.env t' x hx)
  · refine ⟨fun d hd => ?_, hi.defs.2⟩
    obtain ⟨r, q1, q2, q3, q4⟩ := hi.defs.1 d hd
    refine ⟨r, q1, q2, ⟨q3.1, fun ⟨id, o, ⟨B, hB', hl⟩, ht'⟩ => q3.2 ⟨id, o, ⟨B, ?_, hl⟩, ht'⟩⟩, q4⟩
    have hB2 : (Hc.set io .dead)[id]? = some B := hB'
    rw [List.getElem?_set] at hB2
    split at hB2
    · split at hB2
      · cases hB2; cases hl
      · cases hB2
    · exact hB2
theorem go_trunc {c0 : Code} {t id g off len sz : Nat} {vals : List SV} (hb : H[id]? = some (.cells g sz vals)) (ht : look env t = some (.sl id g off len)) (hl : off + len ≤ vals.length)
    (h : (Out P G T own nt ρ C rs R) (.code c0 :: k) .normal ((t, .sl id (g + 1) off len) :: env) (H.set id (.cells (g + 1) sz (vals.take (off + len))))) : (Out P G T own nt ρ C rs R) (.code c0 :: k) .normal env H := by
  rintro ⟨θ, Hc, w⟩ a hc hi hg
  simp only at hc
  subst hc
  have hlt := (List.getElem?_eq_some_iff.1 hb).1
  have hv := hi.env t _ ht
  simp only [Rep, hb] at hv
  obtain ⟨hone, hv⟩ := hv
  rcases hv with hv | ⟨_, _, a0, cap, e1, e2, e3, e4⟩
  · exact absurd hv (Nat.lt_irrefl _)
  obtain ⟨g1, g2⟩ := Cx.turn (c := ⟨θ, Hc, w⟩) (w' := w) hi.heap hb rfl (B' := .cells (g + 1) sz (vals.take (off + len))) (θ id)
    ⟨g + 1, _, rfl, Nat.le_succ _, fun e => absurd e (Nat.ne_of_lt (Nat.lt_succ_self _)), fun b o hb => .inr ⟨o, hb⟩⟩ (fun _ _ _ => rfl) (Nat.le_refl _) rfl rfl rfl (fun b cs T fr h => ⟨cs, fr, h, rfl⟩)
    (fun g1 => by
      rcases hi.heap.blk id _ hb with ⟨h1, rfl⟩ | ⟨b0, o0, cs, Ty, fr, vs, h1, h2, h3, h4, h5, h6⟩
      · exact .inl ⟨by simpa using h1, by simp⟩
      · exact .inr ⟨b0, o0, cs, Ty, fr, vs.take (off + len), by simpa using h1, h2, h3, ((h4.take _).grow g1), fun u hu => h5 u (List.mem_of_mem_take hu), rangeAt_take h6 _⟩)
  refine h { θ := fun i => if i = id then θ id else θ i, H := Hc.set id (.cells (g + 1) sz (vals.take (off + len))), w := w } a rfl ⟨g2, hi.glob.grow g1, hi.size, fun t' x hx => ?_, hi.defs.grow g1⟩ (hg.trans g1)
  simp only [look] at hx
  split at hx
  · rename_i e
    cases hx
    subst e
    simp only [Rep, List.getElem?_set_self hlt]
    refine ⟨hone, .inr ⟨trivial, by rw [List.length_take]; omega, a0, cap, e1, e2, e3, ?_⟩⟩
    rcases e4 with ⟨h1, h2⟩ | ⟨b, o, cs, T', fr, h1, h2, h3, h4⟩
    · refine .inl ⟨h1, h2.elim .inl fun h => .inr ?_⟩
      rw [List.length_take]; omega
    · exact .inr ⟨b, o, cs, T', fr, by simpa using h1, h2, h3, h4⟩
  · exact (hi.env t' x hx).grow g1
theorem go_ownNil (t sz : Nat) {c0 : Code} (ht : look env t = some .nil) (h : (Out P G T own nt ρ C rs R) (.code c0 :: k) .normal ((t, .sl H.length 0 0 0) :: env) (H ++ [.cells 0 sz []])) : (Out P G T own nt ρ C rs R) (.code c0 :: k) .normal env H := by
  intro c a hc hi hg
  obtain ⟨g1, g2⟩ := Cx.fresh hi.heap (w' := c.w) c.w.heap.size (Nat.le_refl _) 0 none (.inl rfl) (.cells 0 sz []) (fun _ _ => rfl) (Nat.le_refl _) rfl rfl rfl (fun _ => .inl ⟨by simp, rfl⟩)
  generalize hc2 : (⟨fun i => if i = c.H.length then none else c.θ i, c.H ++ [.cells 0 sz []], c.w⟩ : Cx) = c2 at g1 g2
  have hH : c2.H = H ++ [.cells 0 sz []] := by rw [← hc2]; show c.H ++ _ = _; rw [hc]
  have hw : c2.w = c.w := by rw [← hc2]
  rw [← hw]
  refine h c2 a hH ⟨g2, hi.glob.grow g1, hi.size, fun t' x hx => ?_, hi.defs.grow g1⟩ (hg.trans g1)
  simp only [look] at hx
  split at hx
  · rename_i e
    cases hx
    subst e
    have hv := hi.env t' _ ht
    simp only [Rep] at hv
    rw [hv]
    simp only [Rep, hH]
    refine ⟨rfl, ?_⟩
    simp only [List.getElem?_append_right (Nat.le_refl _), Nat.sub_self, List.getElem?_cons_zero]
    exact .inr ⟨trivial, Nat.le_refl _, none, 0, rfl, Nat.le_refl _, Nat.zero_le _, .inl ⟨rfl, .inr (Nat.le_refl _)⟩⟩
  · exact (hi.env t' x hx).grow g1
theorem go_range {x : Operand} {t bm clk : Nat} {born : List Nat} {kd : Option IntKind} {ks vs : List SV} {ti : TI} (h1 : ev G env x = some (.imap bm clk born kd ks vs)) (h2 : mapTypes T t = some (kd, ti)) (hd : Nat.blt d nt = true)
    (hk : (Out P G T own nt ρ C rs R) (.ops all r :: k) .normal ((d, .it H.length) :: env) (H ++ [.obj (.mapIter (some bm) clk #[] clk)])) : (Out P G T own nt ρ C rs R) (.ops all (⟨some d, .range t x, ty, pos, after, none⟩ :: r) :: k) .normal env H := by
  refine OW.law (R0 := fun y H' => y = .it H.length ∧ H' = H ++ [.obj (.mapIter (some bm) clk #[] clk)]) rfl rfl hd (fun hT c a o' hs hc hi hg next Q hn => ?_) (fun y H' hy => by obtain ⟨rfl, rfl⟩ := hy; exact hk)
  have hv := ev_ok hi h1
  simp only [Rep] at hv
  obtain ⟨e1, e2, ents, e3, _⟩ := hv
  have hu : ∃ kk e, P.underlying t = some (.map kk e) := by
    unfold mapTypes at h2
    split at h2
    · rename_i q; exact ⟨_, _, (hT _ _ q).1⟩
    · cases h2
  obtain ⟨kk, e, hu⟩ := hu
  obtain ⟨g1, g2⟩ := Cx.fresh hi.heap (w' := c.w.alloc (.mapIter (some bm) clk #[] clk)) c.w.heap.size (Nat.le_refl _) 0 (some (c.w.heap.size, 0)) (.inr rfl) (.obj (.mapIter (some bm) clk #[] clk)) (fun b hb => Go.RowKit.Below.heap_alloc _ _ b hb) (by simp) rfl rfl rfl
    (fun _ => ⟨c.w.heap.size, by simp, World.alloc_heap_new _ _, fun ds e => by cases e⟩)
  obtain ⟨s1, s2, s3⟩ := hs
  refine wp_val (u := .pointer (some ⟨c.w.heap.size, 0, none⟩)) (w' := c.w.alloc (.mapIter (some bm) clk #[] clk)) (by rw [s2]; intro _ e; cases e) ?_ ?_
  · simp [execOp, s2, e1, run_range_at c.w t kk e bm clk ents hu e3]
  · rw [s1]
    have := hn (.it c.H.length) _ (.pointer (some ⟨c.w.heap.size, 0, none⟩)) (by rw [hc]; exact ⟨rfl, rfl⟩) g2 (by
      simp only [Rep]
      refine ⟨rfl, ?_⟩
      simp only [List.getElem?_append_right (Nat.le_refl _), Nat.sub_self, List.getElem?_cons_zero]
      exact ⟨c.w.heap.size, by simp, rfl⟩) g1
    exact this
theorem RepL.at {c : Cx} {α : Type} {f : α → Value} : ∀ {xs : List SV} {l : List α}, RepL c xs (l.map f) → ∀ {i : Nat} {e : α}, l[i]? = some e → ∃ x, xs[i]? = some x ∧ Rep c x (f e)
  | [], l, h, i, e, he => by
    have := RepL.nil_iff.1 h
    rw [List.map_eq_nil_iff] at this
    subst this; cases he
  | x :: xs, l, h, i, e, he => by
    cases l with
    | nil => cases he
    | cons y l =>
      obtain ⟨u, us, h1, h2, h3⟩ := RepL.cons_iff.1 h
      rw [List.map_cons, List.cons.injEq] at h3
      obtain ⟨rfl, rfl⟩ := h3
      cases i with
      | zero => cases he; exact ⟨x, rfl, h1⟩
      | succ i => exact RepL.at h2 (i := i) he
theorem go_next {x : Operand} {tm iid bm clk : Nat} {seen : Array Nat} {born : List Nat} {kd : Option IntKind} {ks vs : List SV} (h1 : ev G env x = some (.it iid)) (h2 : look env tm = some (.imap bm clk born kd ks vs)) (h3 : H[iid]? = some (.obj (.mapIter (some bm) clk seen clk))) (hd : Nat.blt d nt = true)
    (hk0 : (∀ b ∈ born, seen.contains b = true) → (Out P G T own nt ρ C rs R) (.ops all r :: k) .normal ((d, .tuple [.bool false]) :: env) H)
    (hk1 : ∀ (i b : Nat) (q y : SV), born[i]? = some b → seen.contains b = false → ks[i]? = some q → vs[i]? = some y → (Out P G T own nt ρ C rs R) (.ops all r :: k) .normal ((d, .tuple [.bool true, q, y]) :: env) (H.set iid (.obj (.mapIter (some bm) clk (seen.push b) clk)))) :
    (Out P G T own nt ρ C rs R) (.ops all (⟨some d, .next x false, ty, pos, after, none⟩ :: r) :: k) .normal env H := by
  refine OW.law (R0 := fun z H' => ((∀ b ∈ born, seen.contains b = true) ∧ z = .tuple [.bool false] ∧ H' = H) ∨ ∃ (i b : Nat) (q y : SV), born[i]? = some b ∧ seen.contains b = false ∧ ks[i]? = some q ∧ vs[i]? = some y ∧ z = .tuple [.bool true, q, y] ∧ H' = H.set iid (.obj (.mapIter (some bm) clk (seen.push b) clk)))
    rfl rfl hd (fun hT c a o' hs hc hi hg next Q hn => ?_) (fun z H' hz => by
      rcases hz with ⟨q1, rfl, rfl⟩ | ⟨i, b, q, y, q1, q2, q3, q4, rfl, rfl⟩
      · exact hk0 q1
      · exact hk1 i b q y q1 q2 q3 q4)
  have hv := ev_ok hi h1
  have hm := hi.env tm _ h2
  rw [← hc] at h3
  simp only [Rep, h3] at hv
  obtain ⟨_, rb, r1, r2⟩ := hv
  simp only [Rep] at hm
  obtain ⟨_, m1, ents, m2, m3, m4, m5, m6, m7⟩ := hm
  obtain ⟨b', q1, q2⟩ := obj_at hi.heap h3
  rw [r1] at q1; cases q1
  obtain ⟨s1, s2, s3⟩ := hs
  have r2' : a.eval x = .pointer (some ⟨rb, 0, none⟩) := r2
  rcases run_next_at (P := P) c.w o'.type rb bm clk seen ents q2 m2 m3.1 with ⟨n1, n2⟩ | ⟨e, n1, n2, w1, n3, n4⟩
  · refine wp_val (u := .tuple #[.bool false]) (w' := c.w) (by rw [s2]; intro _ e; cases e) ?_ ?_
    · simp [execOp, s2, r2', n2]
    · rw [s1]
      exact hn (.tuple [.bool false]) c _ (.inl ⟨fun b hb => by
        rw [← m4] at hb
        obtain ⟨e, he, rfl⟩ := List.mem_map.1 hb
        exact n1 e he, rfl, hc⟩) hi.heap (by simp only [Rep]; exact ⟨[.bool false], RepL.mk_cons (rep_bool c false) RepL.mk_nil, rfl⟩) (Grow.refl c)
  · obtain ⟨i, hi'⟩ := List.getElem?_of_mem n1
    obtain ⟨y1, y2, y3⟩ := RepL.at m5 hi'
    obtain ⟨z1, z2, z3⟩ := RepL.at m6 hi'
    have hb : born[i]? = some e.born := by rw [← m4, List.getElem?_map, hi']; rfl
    obtain ⟨c1, hc1, hg1, hh1⟩ : ∃ c1 : Cx, c1 = { c with w := w1 } ∧ Grow c c1 ∧ HeapOK c1 := by
      have := Cx.world hi.heap (w' := w1) (fun b _ => by rcases n3 with rfl | rfl <;> rfl) (by rcases n3 with rfl | rfl <;> exact Nat.le_refl _) (by rcases n3 with rfl | rfl <;> rfl) (by rcases n3 with rfl | rfl <;> rfl) (by rcases n3 with rfl | rfl <;> rfl)
      exact ⟨_, rfl, this.1, this.2⟩
    obtain ⟨c2, g1, g2, g3, g4⟩ := obj_turn (o := .mapIter (some bm) clk seen clk) (o' := .mapIter (some bm) clk (seen.push e.born) clk) hh1 (id := iid) (b := rb) (by rw [hc1]; exact h3) (by rw [hc1]; exact r1) rfl (fun _ _ _ e => by cases e) (fun _ e => by cases e)
    refine wp_val (u := .tuple #[.bool true, e.key, e.val]) (w' := w1.putObj rb (.mapIter (some bm) clk (seen.push e.born) clk)) (by rw [s2]; intro _ e; cases e) ?_ ?_
    · simp [execOp, s2, r2', n4]
    · rw [s1]
      have := hn (.tuple [.bool true, y1, z1]) c2 (.tuple #[.bool true, e.key, e.val]) (.inr ⟨i, e.born, y1, z1, hb, n2, y2, z2, rfl, by rw [g1, hc1]; show c.H.set _ _ = _; rw [hc]⟩) g4 (by
        simp only [Rep]
        exact ⟨[.bool true, e.key, e.val], RepL.mk_cons (rep_bool c2 true) (RepL.mk_cons (y3.grow (hg1.trans g3)) (RepL.mk_cons (z3.grow (hg1.trans g3)) RepL.mk_nil)), rfl⟩) (hg1.trans g3)
      rw [g2, hc1] at this
      exact this
theorem go_entry {x : Operand} {tm iid bm clk i b : Nat} {seen : Array Nat} {born : List Nat} {kd : Option IntKind} {ks vs : List SV} {q y : SV} (h1 : ev G env x = some (.it iid)) (h2 : look env tm = some (.imap bm clk born kd ks vs)) (h3 : H[iid]? = some (.obj (.mapIter (some bm) clk (seen.push b) clk)))
    (hb : born[i]? = some b) (hq : ks[i]? = some q) (hy : vs[i]? = some y) (hd : Nat.blt d nt = true)
    (hk : (Out P G T own nt ρ C rs R) (.ops all r :: k) .normal ((d, .tuple [q, y]) :: env) H) :
    (Out P G T own nt ρ C rs R) (.ops all (⟨some d, .entry x, ty, pos, after, none⟩ :: r) :: k) .normal env H := by
  refine OW.law (R0 := fun z H' => z = .tuple [q, y] ∧ H' = H) rfl rfl hd (fun hT c a o' hs hc hi hg next Q hn => ?_) (fun z H' hz => by obtain ⟨rfl, rfl⟩ := hz; exact hk)
  have hv := ev_ok hi h1
  have hm := hi.env tm _ h2
  rw [← hc] at h3
  simp only [Rep, h3] at hv
  obtain ⟨_, rb, r1, r2⟩ := hv
  simp only [Rep] at hm
  obtain ⟨_, m1, ents, m2, m3, m4, m5, m6, m7⟩ := hm
  obtain ⟨b', q1, q2⟩ := obj_at hi.heap h3
  rw [r1] at q1; cases q1
  obtain ⟨s1, s2, s3⟩ := hs
  have r2' : a.eval x = .pointer (some ⟨rb, 0, none⟩) := r2
  rw [← m4, List.getElem?_map] at hb
  obtain ⟨e, he, rfl⟩ := Option.map_eq_some_iff.1 hb
  obtain ⟨y1, y2, y3⟩ := RepL.at m5 he
  obtain ⟨z1, z2, z3⟩ := RepL.at m6 he
  rw [hq] at y2; cases y2
  rw [hy] at z2; cases z2
  refine wp_val (u := .tuple #[e.key, e.val]) (w' := c.w) (by rw [s2]; intro _ e; cases e) ?_ ?_
  · simp [execOp, s2, r2', run_entry_at (P := P) c.w rb bm clk seen ents e q2 m2 (List.mem_of_getElem? he) m3.2.1]
  · rw [s1]
    exact hn (.tuple [q, y]) c _ ⟨rfl, hc⟩ hi.heap (by simp only [Rep]; exact ⟨[e.key, e.val], RepL.mk_cons y3 (RepL.mk_cons z3 RepL.mk_nil), rfl⟩) (Grow.refl c)
end
end Go.Proofs.YtehfihnfeakmaaaGreatDoor
end

section
/- From the reading of the arguments to abstract values; the step from a contract to a statement's row. -/
namespace Go.Proofs.YtehfihnfeakmaaaGreatDoor
open Go Go.ChangeShapes Go.WideShapes Go.RowKit
def rdC (W : World) : Cx := ⟨fun _ => none, [], W⟩
theorem rdC_imm {W : World} {b : Nat} (h : b < W.heap.size) : (rdC W).imm b := ⟨h, fun ⟨_, _, _, ht⟩ => by cases ht⟩
theorem rdC_ok (W : World) : HeapOK (rdC W) := ⟨fun id B h => by simp [rdC] at h, fun i j b o o' _ _ h => by cases h⟩
section
variable {H : Type} {enc : TypeId × Value → H} {P : Program} {W : World} {sp : Nat → Bool}
def Good (W : World) (xs : List SV) (cs : List Value) : Prop := RepL (rdC W) xs cs ∧ ∀ v ∈ cs, v.oneCell' = true
def Rd (enc : TypeId × Value → H) (P : Program) (W : World) (sp : Nat → Bool) (n : Nat) (t : TypeId) {α : Type} (f : α → List SV) (wt : α → Nat) : Prop :=
  ∀ cs x, DataW.trod enc P W 0 sp true n t cs = some x → ∃ a : α, Good W (f a) cs ∧ cs.length = P.cellsOf t ∧ wt a ≤ Rows.uptoBulk x.1
theorem Good.nil : Good W [] [] := ⟨RepL.mk_nil, by simp⟩
theorem Good.append {xs ys : List SV} {cs ds : List Value} (h : Good W xs cs) (h' : Good W ys ds) : Good W (xs ++ ys) (cs ++ ds) :=
  ⟨h.1.append h'.1, fun v hv => (List.mem_append.1 hv).elim (h.2 v) (h'.2 v)⟩
theorem Good.cut {xs ys : List SV} {cs : List Value} {o k : Nat} (h : Good W xs ((cs.drop o).take k)) (h' : Good W ys (cs.drop (o + k))) : Good W (xs ++ ys) (cs.drop o) := by
  have := h.append h'
  rwa [← List.drop_drop, List.take_append_drop] at this
theorem Good.one {x : SV} {v : Value} (h : Rep (rdC W) x v) (hv : v.oneCell' = true) : Good W [x] [v] :=
  ⟨by simp only [RepL]; exact ⟨v, [], h, rfl, rfl⟩, by simpa using hv⟩
theorem wf_range {k : IntKind} {n : Int} (h : (Lit.int k n).wf = true) : k.min ≤ n ∧ n ≤ k.max := by
  simpa [Lit.wf] using h
theorem rd_int {n : Nat} {t : TypeId} {k : IntKind} (ht : P.underlying t = some (.int k)) (hc : P.cellsOf t = 1) : Rd enc P W sp n t (fun i : Int => [.int k i]) (fun _ => 1) := by
  intro cs x h
  obtain ⟨i, rfl, rfl, hw⟩ := DataW.trod_int ht h
  exact ⟨i, .one (by simp only [Rep]; exact ⟨trivial, wf_range hw⟩) rfl, by simp [hc], by simp [Rows.uptoBulk]⟩
theorem rd_str {n : Nat} {t : TypeId} (ht : P.underlying t = some .string) (hc : P.cellsOf t = 1) : Rd enc P W sp n t (fun s : Str => [.str s]) (fun s => s.length + 1) := by
  intro cs x h
  obtain ⟨i, rfl, rfl, hs⟩ := DataW.trod_string ht h
  exact ⟨i.data.toList, .one (by simp only [Rep]; exact ⟨trivial, by simpa using hs⟩) rfl, by simp [hc], by simp [Rows.uptoBulk]⟩
theorem cells_range {a : Addr} {n : Nat} {cs : List Value} (hn : 0 < n) (h : W.cells? 0 a n = some cs) : a.spot = none ∧ cs.length = n ∧ W.rangeAt a.block a.off cs ∧ a.block < W.heap.size := by
  obtain ⟨_, hl, hc⟩ := World.cells?_some h
  have h0 := hc 0 hn
  obtain ⟨c0, e0⟩ : ∃ c0, cs[0]? = some c0 := ⟨cs[0], by simp [hl, hn]⟩
  rw [e0] at h0
  have hs : a.spot = none := by simpa [Addr.add] using World.cell?_spot h0
  obtain ⟨b, o, s⟩ := a
  cases hs
  refine ⟨rfl, hl, fun j v hv => ?_, ?_⟩
  · have hj : j < n := by
      rcases Nat.lt_or_ge j n with h1 | h1
      · exact h1
      · rw [List.getElem?_eq_none (by omega)] at hv; cases hv
    have := hc j hj
    rwa [Addr.add_mid, hv] at this
  · have h1 : W.cell? ⟨b, o, none⟩ = some c0 := by simpa [Addr.add] using h0
    have : W.heap[b]? ≠ none := fun e => by simp [World.cell?, e] at h1
    simpa using this
def bx (b : Bool) (x : List SV) : SV := if b then .agg x else x.headD .nil
def bxv (b : Bool) (v : List Value) : Value := if b then .agg v.toArray else v.headD (.bool false)
theorem bx_rep {b : Bool} {xs : List SV} {cs : List Value} {n : Nat} (h : Good W xs cs) (hl : cs.length = n) (hb : b = true ∨ n = 1) : Rep (rdC W) (bx b xs) (bxv b cs) ∧ (bxv b cs).cells.toList = cs := by
  cases b with
  | true => exact ⟨by simp only [bx, bxv, Rep, if_true]; exact ⟨cs, h.1, h.2, rfl⟩, by simp [bxv, Value.cells]⟩
  | false =>
    have hn : n = 1 := by simpa using hb
    subst hn
    match cs, hl with
    | [v], _ =>
      obtain ⟨h1, h2⟩ := h
      match xs, h1 with
      | [], h1 => simp [RepL] at h1
      | x :: xs, h1 =>
        simp only [RepL] at h1
        obtain ⟨u, us, h3, _, h4⟩ := h1
        cases h4
        have hv : v.oneCell' = true := h2 v (by simp)
        exact ⟨h3, by cases v <;> simp_all [bxv, Value.cells, Value.oneCell']⟩
theorem slice_parts {α : Type} {e : TypeId} {b : Bool} {f : α → List SV} {wt : α → Nat} {n m : Nat} (hsz : P.cellsOf e = n) (hn : 0 < n) (hb : b = true ∨ n = 1) (he : Rd enc P W sp m e f wt) :
    ∀ (len : Nat) (blk off : Nat) (elems : List (DataW H × List MemPlace)), elems.length = len →
      (∀ i, i < len → (W.cells? 0 ⟨blk, off + i * n, none⟩ n).bind (DataW.trod enc P W 0 sp true m e) = elems[i]?) →
      ∃ (l : List α) (vs : List Value), l.length = len ∧ RepL (rdC W) (l.map fun x => bx b (f x)) vs ∧ (∀ u ∈ vs, u.cells.size = n ∧ okCells u) ∧ W.rangeAt blk off (cellsOf vs) ∧ (len = 0 ∨ blk < W.heap.size) ∧
        (l.map wt).sum ≤ Rows.uptoBulkAll (elems.map (·.1))
  | 0, blk, off, elems, hl, _ => by
    have : elems = [] := List.length_eq_zero_iff.1 hl
    subst this
    exact ⟨[], [], rfl, RepL.mk_nil, by simp, by intro j v hv; simp [cellsOf] at hv, .inl rfl, by simp⟩
  | len + 1, blk, off, [], hl, _ => by simp at hl
  | len + 1, blk, off, y :: elems, hl, hi => by
    have h0 := hi 0 (by omega)
    simp only [Nat.zero_mul, Nat.add_zero, List.getElem?_cons_zero, Option.bind_eq_some_iff] at h0
    obtain ⟨cs, hc, ht⟩ := h0
    obtain ⟨_, hlen, hr, hblk⟩ := cells_range hn hc
    obtain ⟨a, ha, _, hw⟩ := he cs y ht
    obtain ⟨l, vs, h1, h2, h3, h4, _, h5⟩ := slice_parts hsz hn hb he len blk (off + n) elems (by simpa using hl) (fun i hi' => by
      have := hi (i + 1) (by omega)
      rw [List.getElem?_cons_succ] at this
      rw [← this]
      have : off + n + i * n = off + (i + 1) * n := by rw [Nat.succ_mul]; omega
      rw [this])
    obtain ⟨h6, h7⟩ := bx_rep (b := b) ha hlen hb
    refine ⟨a :: l, bxv b cs :: vs, by simp [h1], ?_, ?_, ?_, .inr hblk, ?_⟩
    · simp only [List.map_cons, RepL]; exact ⟨_, _, h6, h2, rfl⟩
    · intro u hu
      rcases List.mem_cons.1 hu with rfl | hu
      · refine ⟨by rw [← Array.length_toList, h7, hlen], fun v hv => ?_⟩
        rw [h7] at hv
        exact ha.2 v hv
      · exact h3 u hu
    · have : cellsOf (bxv b cs :: vs) = cs ++ cellsOf vs := by simp [cellsOf, h7]
      rw [this]
      exact rangeAt_append hr (by rw [hlen]; exact h4)
    · simp only [List.map_cons, List.sum_cons, Rows.uptoBulkAll]; omega
theorem rd_slice {α : Type} {t e : TypeId} (b : Bool) {f : α → List SV} {wt : α → Nat} {n N : Nat} (ht : P.underlying t = some (.slice e)) (hc : P.cellsOf t = 1) (hsz : P.cellsOf e = n) (hn : 0 < n) (hb : b = true ∨ n = 1)
    (he : ∀ m, N = m + 1 → Rd enc P W sp m e f wt) : Rd enc P W sp N t (fun l : List α => [.list n (l.map fun x => bx b (f x))]) (fun l => 1 + (l.map wt).sum) := by
  intro cs x h
  rcases DataW.trod_slice ht h with ⟨rfl, rfl⟩ | ⟨a, len, cap, elems, rest, m, rfl, rfl, rfl, _, hlc, hcm, hel, hi, _⟩
  · exact ⟨[], .one (by simp only [Rep]; exact ⟨none, 0, rfl, Nat.le_refl _, Nat.zero_le _, .inl rfl⟩) rfl, by simp [hc], by simp [Rows.uptoBulk]⟩
  · rw [hsz] at hi
    rcases Nat.eq_zero_or_pos len with rfl | hpos
    · have : elems = [] := List.length_eq_zero_iff.1 hel
      subst this
      exact ⟨[], .one (by simp only [Rep]; exact ⟨some a, cap, rfl, Nat.zero_le _, hcm, .inl rfl⟩) rfl, by simp [hc], by simp [Rows.uptoBulk]⟩
    · have h0 := hi 0 hpos
      obtain ⟨y0, hy0⟩ : ∃ y, elems[0]? = some y := ⟨elems[0], by simp [hel, hpos]⟩
      rw [hy0, Option.bind_eq_some_iff] at h0
      obtain ⟨cs0, hc0, _⟩ := h0
      have hs : a.spot = none := by
        have := (cells_range hn hc0).1
        simpa [Addr.add] using this
      obtain ⟨blk, off, s⟩ := a
      cases hs
      obtain ⟨l, vs, h1, h2, h3, h4, h5, h6⟩ := slice_parts hsz hn hb (he m rfl) len blk off elems hel (fun i hi' => by
        have := hi i hi'
        rwa [Addr.add_mid] at this)
      refine ⟨l, .one ?_ rfl, by simp [hc], by simp only [Rows.uptoBulk]; omega⟩
      simp only [Rep]
      refine ⟨some ⟨blk, off, none⟩, cap, by simp [h1], by simpa [h1] using hlc, hcm, .inr ⟨blk, off, vs, rfl, h2, h3, h4, ?_⟩⟩
      rcases h5 with h5 | h5
      · omega
      · exact rdC_imm h5
theorem len_two {α : Type} : ∀ {xs : List α}, xs.length = 2 → ∃ z0 z1, xs = [z0, z1]
  | [z0, z1], _ => ⟨z0, z1, rfl⟩
theorem len_five {α : Type} : ∀ {xs : List α}, xs.length = 5 → ∃ z0 z1 z2 z3 z4, xs = [z0, z1, z2, z3, z4]
  | [z0, z1, z2, z3, z4], _ => ⟨z0, z1, z2, z3, z4, rfl⟩
theorem len_eight {α : Type} : ∀ {xs : List α}, xs.length = 8 → ∃ z0 z1 z2 z3 z4 z5 z6 z7, xs = [z0, z1, z2, z3, z4, z5, z6, z7]
  | [z0, z1, z2, z3, z4, z5, z6, z7], _ => ⟨z0, z1, z2, z3, z4, z5, z6, z7, rfl⟩
theorem field_of {cs : List Value} {xs : List (DataW H × List MemPlace)} {fs : Array Field} {n : Nat}
    (hf : ∀ (i : Nat) (f : Field), fs[i]? = some f → DataW.trod enc P W 0 sp true n f.type ((cs.drop f.offset).take (P.cellsOf f.type)) = xs[i]?) (i : Nat) {t : Nat} (o k : Nat)
    (h : (fs[i]?).map (fun f => (f.type, f.offset)) = some (t, o)) (hk : P.cellsOf t = k) {α : Type} {g : α → List SV} {wt : α → Nat} (hr : Rd enc P W sp n t g wt) (hl : i < xs.length) :
    ∃ (y : DataW H × List MemPlace) (a : α), xs[i]? = some y ∧ Good W (g a) ((cs.drop o).take k) ∧ wt a ≤ Rows.uptoBulk y.1 := by
  cases hi : fs[i]? with
  | none => rw [hi] at h; cases h
  | some f =>
    rw [hi] at h
    simp only [Option.map_some, Option.some.injEq, Prod.mk.injEq] at h
    obtain ⟨rfl, rfl⟩ := h
    subst hk
    have hy : xs[i]? = some xs[i] := by simp [hl]
    obtain ⟨a, h1, _, h2⟩ := hr _ _ ((hf i f hi).trans hy)
    exact ⟨_, a, hy, h1, h2⟩
end
theorem sum_wt {α : Type} (f : List α → Nat) (g : α → Nat) (h0 : f [] = 0) (h1 : ∀ x l, f (x :: l) = g x + f l) : ∀ l, f l = (l.map g).sum
  | [] => by simp [h0]
  | x :: l => by rw [h1, sum_wt f g h0 h1 l]; simp
theorem strsWt_sum (l : List Str) : strsWt l = (l.map fun s => s.length + 1).sum := sum_wt strsWt _ (by simp [strsWt]) (fun x l => by simp only [strsWt]; omega) l
theorem exsWt_sum (l : List Ex) : exsWt l = (l.map Ex.wt).sum := sum_wt exsWt _ (by simp [exsWt]) (fun x l => by simp only [exsWt]) l
theorem bdsWt_sum (l : List Bd) : bdsWt l = (l.map Bd.wt).sum := sum_wt bdsWt _ (by simp [bdsWt]) (fun x l => by simp only [bdsWt]) l
theorem alsWt_sum (l : List Al) : alsWt l = (l.map Al.wt).sum := sum_wt alsWt _ (by simp [alsWt]) (fun x l => by simp only [alsWt]) l
theorem Grow.below {W W' : World} {c' : Cx} (h : Grow (rdC W) c') (e : c'.w = W') : Below W.heap.size W W' := by
  subst e
  exact ⟨h.os, h.tape, h.output, h.size, fun k hk => h.old k hk (rdC_imm hk).2⟩
section
variable {H : Type} {enc : TypeId × Value → H} {P : Program} {W W' : World}
theorem trodAll_stays (hl : laidOutB P = true) (hb : Below W.heap.size W W') {sp : Nat → Bool} : ∀ {ts : List TypeId} {vs : List Value} {ds : List (DataW H)} {ps : List MemPlace},
    (∀ t ∈ ts, P.readableRec t = true ∧ t < P.types.size) → DataW.TrodAll enc P W 0 (fun _ => true) true ts vs ds ps → (∀ p ∈ ps, p.block < W.heap.size) → (∀ p ∈ ps, sp p.block = true) →
    DataW.TrodAll enc P W' 0 sp true ts vs ds ps
  | [], vs, ds, ps, _, h, _, _ => by
    obtain ⟨rfl, rfl, rfl⟩ := trodAll_nil h
    exact trodAll_mk0
  | t :: ts, vs, ds, ps, hr, h, hlt, hs => by
    obtain ⟨v, vs', d, ds', p, q, rfl, rfl, rfl, h1, h2⟩ := trodAll_cons h
    refine trodAll_cons_mk (WideElems.Trod_stays hl (hr t (by simp)).1 (hr t (by simp)).2 h1 (fun x hx => hb.same (hlt x (by simp [hx]))) (fun x hx => hs x (by simp [hx]))) ?_
    exact trodAll_stays hl hb (fun t ht => hr t (by simp [ht])) h2 (fun x hx => hlt x (by simp [hx])) (fun x hx => hs x (by simp [hx]))
theorem law_post (hl : laidOutB P = true) {f : Func} {s : ChangeSpec} (hsv : s.vars = []) {args : Array Value} {ds gs : List (DataW H)} {before : List MemPlace}
    (hW : DataW.Whole enc P f.params.toList s.vars false W args.toList ds gs before) (hr : ∀ t ∈ f.params.toList, P.readableRec t = true ∧ t < P.types.size)
    {tb : TypeId} (hrt : f.resultTypes = #[tb]) (htb : P.underlying tb = some .bool) (h1 : (s.fn H (ds ++ gs)).results = [.lit (.bool true)]) (h2 : (s.fn H (ds ++ gs)).args = ds) (h3 : (s.fn H (ds ++ gs)).vars = [])
    (hb : Below W.heap.size W W') : s.post enc P f false true false false W args (.bool true) W' := by
  have hW0 := hW
  obtain ⟨p, q, hA, hV, rfl, _, _⟩ := hW
  rw [hsv] at hV
  obtain ⟨rfl, rfl⟩ := trodVars_none hV
  have hlt : ∀ x ∈ p, x.block < W.heap.size := fun x hx => hW0.lt x (by simp [hx])
  refine ⟨ds, [], p ++ [], [], p, [], hW0, ?_, ?_, ?_, ?_, fun h => by cases h⟩
  · rw [hrt, h1]
    exact trodAll_cons_mk (p' := []) (shut_bool htb true) trodAll_mk0
  · rw [h2]
    exact trodAll_stays hl hb hr hA hlt (fun x hx => by simpa using hlt x hx)
  · rw [hsv, h3]; rfl
  · exact World.keptBut_mono (fun x hx => ⟨hx, .inr (.inl (by simpa using hx))⟩) (hb.frame (· ∈ p ++ []))
end
end Go.Proofs.YtehfihnfeakmaaaGreatDoor
end

section
namespace Go.Proofs.YtehfihnfeakmaaaGreatDoor
open Go Go.ChangeShapes Go.WideShapes Go.RowKit
section
variable {H : Type} {enc : TypeId × Value → H} {W : World} {sp : Nat → Bool}
theorem read_str (n : Nat) : Rd enc Tryz.prog W sp n 9 (fun s : Str => [.str s]) (fun s => s.length + 1) := rd_str (by kernel_rfl) (by kernel_rfl)
theorem read_int (n : Nat) : Rd enc Tryz.prog W sp n 3 (fun i : Int => [.int .i64 i]) (fun _ => 1) := rd_int (by kernel_rfl) (by kernel_rfl)
theorem read_strs (n : Nat) : Rd enc Tryz.prog W sp n 36 (fun l : List Str => [.list 1 (l.map .str)]) (fun l => 1 + strsWt l) := by
  have h := rd_slice (enc := enc) (P := Tryz.prog) (W := W) (sp := sp) (t := 36) (e := 9) false (f := fun s : Str => [SV.str s]) (wt := fun s => s.length + 1) (n := 1) (N := n) (by kernel_rfl) (by kernel_rfl) (by kernel_rfl) (by omega) (.inr rfl) (fun m _ => read_str m)
  intro cs x hx
  obtain ⟨a, h1, h2, h3⟩ := h cs x hx
  exact ⟨a, h1, h2, by show 1 + strsWt a ≤ _; rw [strsWt_sum]; exact h3⟩
theorem ex_cells (k : Int) (s : Str) (n o : Int) (l : List Str) (subs : List Ex) (binds : List Bd) (alts : List Al) :
    (Ex.mk k s n o l subs binds alts).cells = [.int .i64 k] ++ ([.str s] ++ ([.int .i64 n] ++ ([.int .i64 o] ++ ([.list 1 (l.map .str)] ++ ([.list 8 (subs.map fun x => bx true x.cells)] ++ ([.list 9 (binds.map fun x => bx true x.cells)] ++ ([.list 12 (alts.map fun x => bx true x.cells)] ++ []))))))) := by
  simp only [Ex.cells, exCells_map, bdCells_map, alCells_map]; rfl
theorem read_ex (n : Nat) : Rd enc Tryz.prog W sp n 40 Ex.cells Ex.wt ∧ Rd enc Tryz.prog W sp n 54 Bd.cells Bd.wt ∧ Rd enc Tryz.prog W sp n 60 Al.cells Al.wt := by
  induction n using Nat.strongRecOn with
  | _ n ih =>
  have hE : Rd enc Tryz.prog W sp n 40 Ex.cells Ex.wt := by
    intro cs x hx
    obtain ⟨xs, m, rfl, rfl, hl, hlen, hf⟩ := DataW.trod_struct Tryz.underlying40 hx
    obtain ⟨z0, z1, z2, z3, z4, z5, z6, z7, rfl⟩ := len_eight (show xs.length = 8 from hlen)
    have hsz : Tryz.prog.cellsOf 40 = 8 := by kernel_rfl
    have hsubs : ∀ m', m = m' + 1 → Rd enc Tryz.prog W sp m' 40 Ex.cells Ex.wt := fun m' e => (ih m' (by omega)).1
    have hbinds : ∀ m', m = m' + 1 → Rd enc Tryz.prog W sp m' 54 Bd.cells Bd.wt := fun m' e => (ih m' (by omega)).2.1
    have halts : ∀ m', m = m' + 1 → Rd enc Tryz.prog W sp m' 60 Al.cells Al.wt := fun m' e => (ih m' (by omega)).2.2
    obtain ⟨y0, k, e0, g0, w0⟩ := field_of hf 0 0 1 (by kernel_rfl) (by kernel_rfl) (read_int m) (by simp)
    obtain ⟨y1, s, e1, g1, w1⟩ := field_of hf 1 1 1 (by kernel_rfl) (by kernel_rfl) (read_str m) (by simp)
    obtain ⟨y2, i, e2, g2, w2⟩ := field_of hf 2 2 1 (by kernel_rfl) (by kernel_rfl) (read_int m) (by simp)
    obtain ⟨y3, o, e3, g3, w3⟩ := field_of hf 3 3 1 (by kernel_rfl) (by kernel_rfl) (read_int m) (by simp)
    obtain ⟨y4, l, e4, g4, w4⟩ := field_of hf 4 4 1 (by kernel_rfl) (by kernel_rfl) (read_strs m) (by simp)
    obtain ⟨y5, subs, e5, g5, w5⟩ := field_of hf 5 5 1 (by kernel_rfl) (by kernel_rfl) (rd_slice (t := 37) (e := 40) true (by kernel_rfl) (by kernel_rfl) (n := 8) (by kernel_rfl) (by omega) (.inl rfl) hsubs) (by simp)
    obtain ⟨y6, binds, e6, g6, w6⟩ := field_of hf 6 6 1 (by kernel_rfl) (by kernel_rfl) (rd_slice (t := 23) (e := 54) true (by kernel_rfl) (by kernel_rfl) (n := 9) (by kernel_rfl) (by omega) (.inl rfl) hbinds) (by simp)
    obtain ⟨y7, alts, e7, g7, w7⟩ := field_of hf 7 7 1 (by kernel_rfl) (by kernel_rfl) (rd_slice (t := 38) (e := 60) true (by kernel_rfl) (by kernel_rfl) (n := 12) (by kernel_rfl) (by omega) (.inl rfl) halts) (by simp)
    rw [hsz] at hl
    refine ⟨.mk k s i o l subs binds alts, ?_, by rw [hsz, hl], ?_⟩
    · rw [ex_cells, ← List.drop_zero (l := cs)]
      refine .cut g0 (.cut g1 (.cut g2 (.cut g3 (.cut g4 (.cut g5 (.cut g6 (.cut g7 ?_)))))))
      rw [List.drop_eq_nil_of_le (by omega)]
      exact .nil
    · cases e0; cases e1; cases e2; cases e3; cases e4; cases e5; cases e6; cases e7
      simp only [Rows.uptoBulk, Rows.uptoBulkAll, List.map_cons, List.map_nil, Ex.wt, exsWt_sum, bdsWt_sum, alsWt_sum]
      omega
  have hE' : ∀ m, n = m + 1 → Rd enc Tryz.prog W sp m 40 Ex.cells Ex.wt := fun m e => (ih m (by omega)).1
  refine ⟨hE, ?_, ?_⟩
  · intro cs x hx
    obtain ⟨xs, m, hm, rfl, hl, hlen, hf⟩ := DataW.trod_struct Tryz.underlying54 hx
    obtain ⟨z0, z1, rfl⟩ := len_two (show xs.length = 2 from hlen)
    have hsz : Tryz.prog.cellsOf 54 = 9 := by kernel_rfl
    obtain ⟨y0, s, e0, g0, w0⟩ := field_of hf 0 0 1 (by kernel_rfl) (by kernel_rfl) (read_str m) (by simp)
    obtain ⟨y1, e, e1, g1, w1⟩ := field_of hf 1 1 8 (by kernel_rfl) (by kernel_rfl) (hE' m hm) (by simp)
    rw [hsz] at hl
    refine ⟨.mk s e, ?_, by rw [hsz, hl], ?_⟩
    · have : (Bd.mk s e).cells = [.str s] ++ (e.cells ++ []) := by simp [Bd.cells]
      rw [this, ← List.drop_zero (l := cs)]
      refine .cut g0 (.cut g1 ?_)
      rw [List.drop_eq_nil_of_le (by omega)]
      exact .nil
    · cases e0; cases e1
      simp only [Rows.uptoBulk, Rows.uptoBulkAll, List.map_cons, List.map_nil, Bd.wt]
      omega
  · intro cs x hx
    obtain ⟨xs, m, hm, rfl, hl, hlen, hf⟩ := DataW.trod_struct Tryz.underlying60 hx
    obtain ⟨z0, z1, z2, z3, z4, rfl⟩ := len_five (show xs.length = 5 from hlen)
    have hsz : Tryz.prog.cellsOf 60 = 12 := by kernel_rfl
    obtain ⟨y0, k, e0, g0, w0⟩ := field_of hf 0 0 1 (by kernel_rfl) (by kernel_rfl) (read_int m) (by simp)
    obtain ⟨y1, s, e1, g1, w1⟩ := field_of hf 1 1 1 (by kernel_rfl) (by kernel_rfl) (read_str m) (by simp)
    obtain ⟨y2, i, e2, g2, w2⟩ := field_of hf 2 2 1 (by kernel_rfl) (by kernel_rfl) (read_int m) (by simp)
    obtain ⟨y3, l, e3, g3, w3⟩ := field_of hf 3 3 1 (by kernel_rfl) (by kernel_rfl) (read_strs m) (by simp)
    obtain ⟨y4, e, e4, g4, w4⟩ := field_of hf 4 4 8 (by kernel_rfl) (by kernel_rfl) (hE' m hm) (by simp)
    rw [hsz] at hl
    refine ⟨.mk k s i l e, ?_, by rw [hsz, hl], ?_⟩
    · have : (Al.mk k s i l e).cells = [.int .i64 k] ++ ([.str s] ++ ([.int .i64 i] ++ ([.list 1 (l.map .str)] ++ (e.cells ++ [])))) := by simp [Al.cells]
      rw [this, ← List.drop_zero (l := cs)]
      refine .cut g0 (.cut g1 (.cut g2 (.cut g3 (.cut g4 ?_))))
      rw [List.drop_eq_nil_of_le (by omega)]
      exact .nil
    · cases e0; cases e1; cases e2; cases e3; cases e4
      simp only [Rows.uptoBulk, Rows.uptoBulkAll, List.map_cons, List.map_nil, Al.wt]
      omega
end
end Go.Proofs.YtehfihnfeakmaaaGreatDoor
end

section
namespace Go.Proofs.YtehfihnfeakmaaaGreatDoor
open Go
set_option maxRecDepth 10000
def idxFrom : Nat → List (List UInt8) → List UInt8 → Int
  | _, [], _ => -1
  | i, x :: r, v => if v = x then i else idxFrom (i + 1) r v
theorem index_list (G : Gl) (l : List (List UInt8)) (v : List UInt8) (H : List Blk) (hl : l.length < 4611686018427387904) :
    ACall Tryz.prog G 28 [.list 1 (l.map .str), .str v] H (fun r H' => H' = H ∧ r = .int .i64 (idxFrom 0 l v)) := by
  refine ACall.of_go TB [] tabOK _ Tryz.func28 rfl (by decide) Tryz.ntmps28 (by simp) rfl (by simp only [initEnv, Nat.reduceAdd]; rfl) fun C R' hR hC hcl hB => ?_; have X := noX; have hC' := congrArg List.length hC
  (refine runO ?_; repeat' (first | with_reducible exact trivial | ((with_reducible apply Fork.mk) <;> intro hb) | with_reducible apply Two.mk))
  · refine go_loop (fun i : Nat => [(0, .list 1 (l.map .str)), (1, .str v), (4, .int .i64 0), (7, .int .i64 l.length), (8, .int .i64 i)]) (fun _ => H) (fun i => l.length - i) (fun i => i ≤ l.length ∧ idxFrom i (l.drop i) v = idxFrom 0 l v) 0 (by simp) (Wk.sub ?_) ?_
    · simp (decide := true) [subEnv, look]
    intro K i hi hK
    (refine runO ?_; repeat' (first | with_reducible exact trivial | ((with_reducible apply Fork.mk) <;> intro hb) | with_reducible apply Two.mk))
    · have hi' : i < l.length := by omega
      rw [List.drop_eq_getElem_cons hi', idxFrom, if_pos hb] at hi
      exact Fin.out hR ⟨rfl, by rw [← hi.2]; rfl⟩
    · have hi' : i < l.length := by omega
      rw [List.drop_eq_getElem_cons hi', idxFrom, if_neg hb] at hi
      exact hK _ _ (i + 1) (by omega) ⟨hi', hi.2⟩ (Wk.sub (by simp [subEnv, look]))
    · rw [List.drop_of_length_le (by omega), idxFrom] at hi
      exact Fin.out hR ⟨rfl, by rw [← hi.2]; rfl⟩
end Go.Proofs.YtehfihnfeakmaaaGreatDoor
end

section
namespace Go.Proofs.YtehfihnfeakmaaaGreatDoor
open Go
set_option maxRecDepth 10000
theorem idxFrom_ge : ∀ (l : List Str) (v : Str) (i : Nat), (idxFrom i l v = -1 ∧ v ∉ l) ∨ ((i : Int) ≤ idxFrom i l v ∧ v ∈ l)
  | [], v, i => .inl ⟨rfl, by simp⟩
  | x :: r, v, i => by
    rw [idxFrom]
    split
    · rename_i h; exact .inr ⟨Int.le_refl _, by simp [h]⟩
    · rename_i h
      rcases idxFrom_ge r v (i + 1) with h1 | h1
      · exact .inl ⟨h1.1, by simp [h, h1.2]⟩
      · exact .inr ⟨by omega, by simp [h1.2]⟩
theorem contains_list (G : Gl) (l : List Str) (v : Str) (H : List Blk) (hl : l.length < 4611686018427387904) :
    ACall Tryz.prog G 86 [.list 1 (l.map .str), .str v] H (fun r H' => H' = H ∧ r = .bool (decide (v ∈ l))) := by
  refine ACall.of_go TB [] tabOK _ Tryz.func86 rfl (by decide) Tryz.ntmps86 (by simp) rfl (by simp only [initEnv, Nat.reduceAdd]; rfl) fun C R' hR hC hcl hB => ?_; have X := noX; have hC' := congrArg List.length hC
  (refine runO ?_; repeat' (first | with_reducible exact trivial | ((with_reducible apply Fork.mk) <;> intro hb) | with_reducible apply Two.mk))
  refine go_call (xs := [.list 1 (l.map .str), .str v]) (by exact evS) rfl (index_list G l v H hl) ?_
  rintro r H' ⟨rfl, rfl⟩
  (refine runO ?_; repeat' (first | with_reducible exact trivial | ((with_reducible apply Fork.mk) <;> intro hb) | with_reducible apply Two.mk))
  refine Fin.out hR ⟨rfl, ?_⟩
  rcases idxFrom_ge l v 0 with h | h
  · simp [h.1, h.2, resSV]
  · simp only [h.2, decide_true, SV.bool.injEq, decide_eq_true_eq, resSV]; omega
end Go.Proofs.YtehfihnfeakmaaaGreatDoor
end

section
namespace Go.Proofs.YtehfihnfeakmaaaGreatDoor
open Go
set_option maxRecDepth 10000
set_option maxHeartbeats 4000000
end Go.Proofs.YtehfihnfeakmaaaGreatDoor
end

section
namespace Go.Proofs.YtehfihnfeakmaaaGreatDoor
open Go
set_option maxRecDepth 10000
set_option maxHeartbeats 4000000
def someB (H : List Blk) : SV → List Blk → Prop := fun r H' => H' = H ∧ ∃ b, r = .bool b
end Go.Proofs.YtehfihnfeakmaaaGreatDoor
end

section
namespace Go.Proofs.YtehfihnfeakmaaaGreatDoor
open Go
set_option maxRecDepth 10000
set_option maxHeartbeats 4000000
end Go.Proofs.YtehfihnfeakmaaaGreatDoor
end

section
namespace Go.Proofs.YtehfihnfeakmaaaGreatDoor
open Go
set_option maxRecDepth 10000
set_option maxHeartbeats 4000000
def tl (s : Str) (n : Int) (b : Bool) : SV := .agg [.str s, .int .i64 n, .bool b]
def ownOf (k : Int) (l : List Str) (binds : List Bd) : List Str := if k = 3 then l else if k = 5 then binds.map Bd.name else []
mutual
def occ (s : Str) : Ex → Nat
  | .mk k nm _ _ l subs binds alts => if k = 1 then (if nm = s then 1 else 0) else if s ∈ ownOf k l binds then 0 else occL s subs + occB s binds + occA s (k = 6 ∧ nm = s) alts
def occL (s : Str) : List Ex → Nat
  | [] => 0
  | e :: r => occ s e + occL s r
def occBd (s : Str) : Bd → Nat
  | .mk _ e => occ s e
def occB (s : Str) : List Bd → Nat
  | [] => 0
  | b :: r => occBd s b + occB s r
def occAl (s : Str) (c : Prop) [Decidable c] : Al → Nat
  | .mk _ _ _ l e => if s ∈ l ∨ c then 0 else occ s e
def occA (s : Str) (c : Prop) [Decidable c] : List Al → Nat
  | [] => 0
  | a :: r => occAl s c a + occA s c r
end
mutual
def insd (s : Str) (b : Bool) : Ex → Bool
  | .mk k nm _ _ l subs binds alts => if k = 1 then (b && decide (nm = s)) else if s ∈ ownOf k l binds then false else insdL s (b || decide (k = 3)) subs || insdB s (b || decide (k = 3)) binds || insdA s (b || decide (k = 3)) (k = 6 ∧ nm = s) alts
def insdL (s : Str) (b : Bool) : List Ex → Bool
  | [] => false
  | e :: r => insd s b e || insdL s b r
def insdBd (s : Str) (b : Bool) : Bd → Bool
  | .mk _ e => insd s b e
def insdB (s : Str) (b : Bool) : List Bd → Bool
  | [] => false
  | x :: r => insdBd s b x || insdB s b r
def insdAl (s : Str) (b : Bool) (c : Prop) [Decidable c] : Al → Bool
  | .mk _ _ _ l e => if s ∈ l ∨ c then false else insd s b e
def insdA (s : Str) (b : Bool) (c : Prop) [Decidable c] : List Al → Bool
  | [] => false
  | a :: r => insdAl s b c a || insdA s b c r
end
mutual
theorem occ_le (s : Str) : ∀ e : Ex, occ s e ≤ e.wt
  | .mk k nm n o l subs binds alts => by
    have h1 := occL_le s subs
    have h2 := occB_le s binds
    have h3 := occA_le s (k = 6 ∧ nm = s) alts
    simp only [occ, Ex.wt]
    split
    · split <;> omega
    · split <;> omega
theorem occL_le (s : Str) : ∀ l : List Ex, occL s l ≤ exsWt l
  | [] => Nat.le_refl _
  | e :: r => by have h1 := occ_le s e; have h2 := occL_le s r; simp only [occL, exsWt]; omega
theorem occBd_le (s : Str) : ∀ b : Bd, occBd s b ≤ b.wt
  | .mk n e => by have h1 := occ_le s e; simp only [occBd, Bd.wt]; omega
theorem occB_le (s : Str) : ∀ l : List Bd, occB s l ≤ bdsWt l
  | [] => Nat.le_refl _
  | e :: r => by have h1 := occBd_le s e; have h2 := occB_le s r; simp only [occB, bdsWt]; omega
theorem occAl_le (s : Str) (c : Prop) [Decidable c] : ∀ b : Al, occAl s c b ≤ b.wt
  | .mk k nm n l e => by have h1 := occ_le s e; simp only [occAl, Al.wt]; split <;> omega
theorem occA_le (s : Str) (c : Prop) [Decidable c] : ∀ l : List Al, occA s c l ≤ alsWt l
  | [] => Nat.le_refl _
  | e :: r => by have h1 := occAl_le s c e; have h2 := occA_le s c r; simp only [occA, alsWt]; omega
end
theorem Al.wt_names (a : Al) : a.names.length ≤ a.wt := by cases a; simp only [Al.wt, Al.names]; have := strsWt_len ‹_›; omega
end Go.Proofs.YtehfihnfeakmaaaGreatDoor
end

section
namespace Go.Proofs.YtehfihnfeakmaaaGreatDoor
open Go
set_option maxRecDepth 10000
set_option maxHeartbeats 4000000
end Go.Proofs.YtehfihnfeakmaaaGreatDoor
end

section
namespace Go.Proofs.YtehfihnfeakmaaaGreatDoor
open Go
set_option maxRecDepth 10000
set_option maxHeartbeats 4000000
theorem Al.names_lt {kd : Int} {nm : Str} {nn op : Int} {names : List Str} {subs : List Ex} {binds : List Bd} {alts : List Al} {i : Nat} (h : i < alts.length) : alts[i].names.length ≤ (Ex.mk kd nm nn op names subs binds alts).wt := by
  have h1 := alsWt_mem (List.getElem_mem h)
  have h2 := Al.wt_names alts[i]
  simp only [Ex.wt]
  omega
end Go.Proofs.YtehfihnfeakmaaaGreatDoor
end

section
namespace Go.Proofs.YtehfihnfeakmaaaGreatDoor
open Go
set_option maxRecDepth 10000
set_option maxHeartbeats 4000000
theorem clone_strs (G : Gl) (hG : GClosed G) (l : List Str) (H : List Blk) (hl : l.length < 1099511627776) : ACall Tryz.prog G 57 [.list 1 (l.map .str)] H (fun r H' => H' = H ++ [.cells 0 1 (l.map .str)] ∧ r = .sl H.length 0 0 l.length) := by
  refine ACall.of_go TB [2,5] tabOK _ Tryz.func57 rfl (by decide) Tryz.ntmps57 (by simp) rfl (by simp only [initEnv, Nat.reduceAdd]; rfl) fun C R' hR hC hcl hB => ?_; have X := noX; have hC' := congrArg List.length hC
  (refine runO ?_; repeat' (first | with_reducible exact trivial | ((with_reducible apply Fork.mk) <;> intro hb) | with_reducible apply Two.mk))
  · obtain rfl : l = [] := List.length_eq_zero_iff.1 hb
    exact finK [(H.length + 1, 0)] (.sl H.length 0 0 0) [.cells 0 1 []] hR hC' hcl ⟨rfl, rfl⟩
  · exact finK [(H.length + 1, 0)] (.sl H.length 0 0 l.length) [.cells 0 1 (l.map .str)] hR hC' hcl ⟨rfl, rfl⟩
def scopeParts : Ex → List (Ex × List Str)
  | .mk kd nm _ _ names subs binds alts => subs.map (fun x => (x, ownOf kd names binds)) ++ (binds.map (fun b => (b.e, ownOf kd names binds)) ++ alts.map (fun a => (a.body, a.names ++ if kd = 6 then [nm] else [])))
theorem scope_sub {kd : Int} {nm : Str} {nn op : Int} {names : List Str} {subs : List Ex} {binds : List Bd} {alts : List Al} {i : Nat} (h : i < subs.length) : (scopeParts (.mk kd nm nn op names subs binds alts))[i]? = some (subs[i], ownOf kd names binds) := by
  simp only [scopeParts]
  rw [List.getElem?_append_left (by simpa using h), List.getElem?_map, List.getElem?_eq_getElem h]; rfl
theorem scope_bind {kd : Int} {nm : Str} {nn op : Int} {names : List Str} {subs : List Ex} {binds : List Bd} {alts : List Al} {i : Nat} (h : i < binds.length) : (scopeParts (.mk kd nm nn op names subs binds alts))[subs.length + i]? = some (binds[i].e, ownOf kd names binds) := by
  simp only [scopeParts]
  rw [List.getElem?_append_right (by simp), List.length_map, Nat.add_sub_cancel_left, List.getElem?_append_left (by simpa using h), List.getElem?_map, List.getElem?_eq_getElem h]; rfl
theorem scope_alt {kd : Int} {nm : Str} {nn op : Int} {names : List Str} {subs : List Ex} {binds : List Bd} {alts : List Al} {i : Nat} (h : i < alts.length) : (scopeParts (.mk kd nm nn op names subs binds alts))[subs.length + binds.length + i]? = some (alts[i].body, alts[i].names ++ if kd = 6 then [nm] else []) := by
  simp only [scopeParts]
  rw [List.getElem?_append_right (by simp; omega), List.length_map, show subs.length + binds.length + i - subs.length = binds.length + i by omega, List.getElem?_append_right (by simp), List.length_map, Nat.add_sub_cancel_left, List.getElem?_map, List.getElem?_eq_getElem h]; rfl
theorem scopes_ok (G : Gl) (hG : GClosed G) (e : Ex) (hw : e.wt < 549755813888) (fv : SV) (Hs : Nat → List Blk) (n0 : Nat) (hlen : ∀ i, (Hs i).length = n0) (hfu : fv.under n0 = true) (hcls : closed (Hs 0) → ∀ i, closed (Hs i))
    (hy : ∀ i p X, (scopeParts e)[i]? = some p → ACallV Tryz.prog G fv [p.1.sv, .list 1 (p.2.map .str)] (Hs i ++ X) (fun r H' => H' = Hs (i + 1) ++ X)) :
    ACall Tryz.prog G 95 [e.sv, fv] (Hs 0) (fun r H' => H' = Hs (scopeParts e).length) := by
  obtain ⟨kd, nm, nn, op, names, subs, binds, alts⟩ := e
  have hle := Ex.wt_lens kd nm nn op names subs binds alts
  have hpl : (scopeParts (Ex.mk kd nm nn op names subs binds alts)).length = subs.length + binds.length + alts.length := by simp [scopeParts]; omega
  refine ACall.of_go TB [4] tabOK _ Tryz.func95 rfl (by decide) Tryz.ntmps95 (by simp) rfl (by simp only [initEnv, Nat.reduceAdd]; rfl) fun C R' hR hC hcl hB => ?_; have X := noX; have hC' := congrArg List.length hC
  have hcl := hcls hcl
  have hC' := hC'.trans (hlen 0)
  have X := hsX Hs n0 hlen
  (refine runB ?_; repeat' (first | with_reducible exact trivial | ((with_reducible apply Fork.mk) <;> intro hb) | with_reducible apply Two.mk))
  refine go_cut (fun _ : Unit => [(1, fv), (2, .ptr n0 0 0 0), (4, .list 1 ((ownOf kd names binds).map .str))]) (fun _ => Hs 0 ++ [.cells 0 8 [.agg [.int .i64 kd, .str nm, .int .i64 nn, .int .i64 op, .list 1 (names.map .str), .list 8 (exCells subs), .list 9 (bdCells binds), .list 12 (alCells alts)]]]) (fun _ => True) (fun K hK => ?_) (fun _ _ => ?_)
  · (refine runO ?_; repeat' (first | with_reducible exact trivial | ((with_reducible apply Fork.mk) <;> intro hb) | with_reducible apply Two.mk))
    · refine hK _ _ () trivial ?_
      simp only [ownOf, if_pos hb]
      exact wkS (n0 := n0) [(n0, 0)] hG hB hC' (hcl 0)
    · refine go_loop (fun i : Nat => [(1, fv), (2, .ptr n0 0 0 0), (23, .list 9 (bdCells binds)), (24, .int .i64 binds.length), (25, .int .i64 i), (4, .sl (n0 + 1) 0 0 i)])
        (fun i => Hs 0 ++ [.cells 0 8 [.agg [.int .i64 kd, .str nm, .int .i64 nn, .int .i64 op, .list 1 (names.map .str), .list 8 (exCells subs), .list 9 (bdCells binds), .list 12 (alCells alts)]], .cells 0 1 ((binds.take i).map fun b => .str b.name)]) (fun i => binds.length - i) (fun i => i ≤ binds.length) 0 (Nat.zero_le _) ?_ ?_
      · exact wkS (n0 := n0) [(n0, 0), (n0 + 1, 0)] hG hB hC' (hcl 0)
      · intro K2 i hi hK2
        (refine runO ?_; repeat' (first | with_reducible exact trivial | ((with_reducible apply Fork.mk) <;> intro hb) | with_reducible apply Two.mk))
        · refine hK2 _ _ (i + 1) (by omega) (by omega) ?_
          simp only [List.take_succ_eq_append_getElem (show i < binds.length by omega), List.map_append, List.map_cons, List.map_nil]
          exact wkS (n0 := n0) [(n0, 0), (n0 + 1, 0)] hG hB hC' (hcl 0)
        · refine hK _ _ () trivial ?_
          obtain rfl : i = binds.length := by omega
          have e1 : ownOf kd names binds = binds.map Bd.name := by simp [ownOf, ‹kd = 5›]
          simp only [e1, List.take_length, List.map_map]
          exact wkS (n0 := n0) [(n0, 0)] hG hB hC' (hcl 0)
    · refine hK _ _ () trivial ?_
      simp only [ownOf, if_neg ‹¬ kd = 3›, if_neg ‹¬ kd = 5›, List.map_nil]
      exact wkS (n0 := n0) [(n0, 0)] hG hB hC' (hcl 0)
  · (refine runB ?_; repeat' (first | with_reducible exact trivial | ((with_reducible apply Fork.mk) <;> intro hb) | with_reducible apply Two.mk))
    refine go_cut (fun _ : Unit => [(1, fv), (2, .ptr n0 0 0 0), (4, .list 1 ((ownOf kd names binds).map .str))]) (fun _ => Hs subs.length ++ [.cells 0 8 [.agg [.int .i64 kd, .str nm, .int .i64 nn, .int .i64 op, .list 1 (names.map .str), .list 8 (exCells subs), .list 9 (bdCells binds), .list 12 (alCells alts)]]]) (fun _ => True) (fun K hK => ?_) (fun _ _ => ?_)
    · (refine runO ?_; repeat' (first | with_reducible exact trivial | ((with_reducible apply Fork.mk) <;> intro hb) | with_reducible apply Two.mk))
      refine go_loop (fun i : Nat => [(1, fv), (2, .ptr n0 0 0 0), (4, .list 1 ((ownOf kd names binds).map .str)), (36, .list 8 (exCells subs)), (37, .int .i64 subs.length), (38, .int .i64 i)])
        (fun i => Hs i ++ [.cells 0 8 [.agg [.int .i64 kd, .str nm, .int .i64 nn, .int .i64 op, .list 1 (names.map .str), .list 8 (exCells subs), .list 9 (bdCells binds), .list 12 (alCells alts)]]]) (fun i => subs.length - i) (fun i => i ≤ subs.length) 0 (Nat.zero_le _) ?_ ?_
      · exact wkS (n0 := n0) [(n0, 0)] hG hB hC' (hcl 0)
      · intro K2 i hi hK2
        (refine runO ?_; repeat' (first | with_reducible exact trivial | ((with_reducible apply Fork.mk) <;> intro hb) | with_reducible apply Two.mk))
        · refine callV (hy i _ _ (scope_sub (by omega))) ?_
          rintro r H' rfl
          (refine runO ?_; repeat' (first | with_reducible exact trivial | ((with_reducible apply Fork.mk) <;> intro hb) | with_reducible apply Two.mk))
          refine hK2 _ _ (i + 1) (by omega) (by omega) ?_
          exact wkS (n0 := n0) [(n0, 0)] hG hB hC' (hcl (i + 1))
        · obtain rfl : i = subs.length := by omega
          refine hK _ _ () trivial ?_
          exact wkS (n0 := n0) [(n0, 0)] hG hB hC' (hcl _)
    · (refine runB ?_; repeat' (first | with_reducible exact trivial | ((with_reducible apply Fork.mk) <;> intro hb) | with_reducible apply Two.mk))
      refine go_cut (fun _ : Unit => [(1, fv), (2, .ptr n0 0 0 0), (4, .list 1 ((ownOf kd names binds).map .str))]) (fun _ => Hs (subs.length + binds.length) ++ [.cells 0 8 [.agg [.int .i64 kd, .str nm, .int .i64 nn, .int .i64 op, .list 1 (names.map .str), .list 8 (exCells subs), .list 9 (bdCells binds), .list 12 (alCells alts)]]]) (fun _ => True) (fun K hK => ?_) (fun _ _ => ?_)
      · (refine runO ?_; repeat' (first | with_reducible exact trivial | ((with_reducible apply Fork.mk) <;> intro hb) | with_reducible apply Two.mk))
        refine go_loop (fun i : Nat => [(1, fv), (2, .ptr n0 0 0 0), (4, .list 1 ((ownOf kd names binds).map .str)), (48, .list 9 (bdCells binds)), (49, .int .i64 binds.length), (50, .int .i64 i)])
          (fun i => Hs (subs.length + i) ++ [.cells 0 8 [.agg [.int .i64 kd, .str nm, .int .i64 nn, .int .i64 op, .list 1 (names.map .str), .list 8 (exCells subs), .list 9 (bdCells binds), .list 12 (alCells alts)]]]) (fun i => binds.length - i) (fun i => i ≤ binds.length) 0 (Nat.zero_le _) ?_ ?_
        · exact wkS (n0 := n0) [(n0, 0)] hG hB hC' (hcl _)
        · intro K2 i hi hK2
          (refine runO ?_; repeat' (first | with_reducible exact trivial | ((with_reducible apply Fork.mk) <;> intro hb) | with_reducible apply Two.mk))
          · refine callV (hy (subs.length + i) _ _ (scope_bind (by omega))) ?_
            rintro r H' rfl
            (refine runO ?_; repeat' (first | with_reducible exact trivial | ((with_reducible apply Fork.mk) <;> intro hb) | with_reducible apply Two.mk))
            refine hK2 _ _ (i + 1) (by omega) (by omega) ?_
            exact wkS (n0 := n0) [(n0, 0)] hG hB hC' (hcl _)
          · obtain rfl : i = binds.length := by omega
            refine hK _ _ () trivial ?_
            exact wkS (n0 := n0) [(n0, 0)] hG hB hC' (hcl _)
      · (refine runO ?_; repeat' (first | with_reducible exact trivial | ((with_reducible apply Fork.mk) <;> intro hb) | with_reducible apply Two.mk))
        refine go_loop (fun i : Nat => [(1, fv), (2, .ptr n0 0 0 0), (61, .list 12 (alCells alts)), (62, .int .i64 alts.length), (63, .int .i64 i)])
          (fun i => Hs (subs.length + binds.length + i) ++ [.cells 0 8 [.agg [.int .i64 kd, .str nm, .int .i64 nn, .int .i64 op, .list 1 (names.map .str), .list 8 (exCells subs), .list 9 (bdCells binds), .list 12 (alCells alts)]]]) (fun i => alts.length - i) (fun i => i ≤ alts.length) 0 (Nat.zero_le _) ?_ ?_
        · exact wkS (n0 := n0) [(n0, 0)] hG hB hC' (hcl _)
        · intro K2 i hi hK2
          (refine runO ?_; repeat' (first | with_reducible exact trivial | ((with_reducible apply Fork.mk) <;> intro hb) | with_reducible apply Two.mk))
          · have hi' : i < alts.length := by omega
            have hnl := Al.names_lt (kd := kd) (nm := nm) (nn := nn) (op := op) (names := names) (subs := subs) (binds := binds) hi'
            refine callS (clone_strs G hG alts[i].names _ (by omega)) ?_
            rintro r H' ⟨rfl, rfl⟩
            simp only [List.append_assoc, List.cons_append, List.nil_append, List.length_append, List.length_cons, List.length_nil, List.length_set, X, Nat.reduceAdd]
            (refine runC ?_; repeat' (first | with_reducible exact trivial | ((with_reducible apply Fork.mk) <;> intro hb) | with_reducible apply Two.mk))
            refine go_cut (fun _ : Unit => [(1, fv), (2, .ptr n0 0 0 0), (61, .list 12 (alCells alts)), (62, .int .i64 alts.length), (63, .int .i64 i), (12, .ptr (n0 + 1) 0 0 0), (13, .list 1 ((alts[i].names ++ if kd = 6 then [nm] else []).map .str))])
              (fun _ => Hs (subs.length + binds.length + i) ++ [.cells 0 8 [.agg [.int .i64 kd, .str nm, .int .i64 nn, .int .i64 op, .list 1 (names.map .str), .list 8 (exCells subs), .list 9 (bdCells binds), .list 12 (alCells alts)]], .cells 0 12 [.agg (.int .i64 alts[i].kind :: .str alts[i].name :: .int .i64 alts[i].n :: .list 1 (alts[i].names.map .str) :: alts[i].body.cells)]]) (fun _ => True) (fun K3 hK3 => ?_) (fun _ _ => ?_)
            · (refine runO ?_; repeat' (first | with_reducible exact trivial | ((with_reducible apply Fork.mk) <;> intro hb) | with_reducible apply Two.mk))
              · refine hK3 _ _ () trivial ?_
                simp only [if_pos hb, List.map_append, List.map_cons, List.map_nil, Nat.add_assoc]
                exact wkS (n0 := n0) [(n0, 0), (n0 + 1, 0)] hG hB hC' (hcl _)
              · refine hK3 _ _ () trivial ?_
                simp only [if_neg hb, List.append_nil, Nat.add_assoc]
                exact wkS (n0 := n0) [(n0, 0), (n0 + 1, 0)] hG hB hC' (hcl _)
            · (refine runO ?_; repeat' (first | with_reducible exact trivial | ((with_reducible apply Fork.mk) <;> intro hb) | with_reducible apply Two.mk))
              refine callV (hy (subs.length + binds.length + i) _ _ (scope_alt hi')) ?_
              rintro r H' rfl
              (refine runO ?_; repeat' (first | with_reducible exact trivial | ((with_reducible apply Fork.mk) <;> intro hb) | with_reducible apply Two.mk))
              refine hK2 _ _ (i + 1) (by omega) (by omega) ?_
              exact wkS (n0 := n0) [(n0, 0)] hG hB hC' (hcl _)
          · obtain rfl : i = alts.length := by omega
            refine Fin.tellN (n0 := n0) hR (hlen _) hC' (hcl _) (.same _ rfl) ?_
            rw [hpl]
end Go.Proofs.YtehfihnfeakmaaaGreatDoor
end

section
namespace Go.Proofs.YtehfihnfeakmaaaGreatDoor
open Go
def cntB : List (Str × Int) → Str → Int
  | [], _ => 0
  | (k, n) :: r, s => if s = k then n else cntB r s
def setB : List (Str × Int) → Str → Int → List (Str × Int)
  | [], s, n => [(s, n)]
  | (k, m) :: r, s, n => if s = k then (s, n) :: r else (k, m) :: setB r s n
def esB (l : List (Str × Int)) : List (SV × SV) := l.map fun p => (.str p.1, .int .i64 p.2)
def putO (l : List Str) (s : Str) : List Str := if s ∈ l then l else l ++ [s]
def esO (l : List Str) : List (SV × SV) := l.map fun s => (.str s, .bool true)
theorem findSV_esB : ∀ (l : List (Str × Int)) (s : Str), (findSV (esB l) (.str s)).getD (.int .i64 0) = .int .i64 (cntB l s)
  | [], s => rfl
  | (k, n) :: r, s => by
    simp only [esB, List.map_cons, findSV, SV.keyEq, cntB]
    by_cases h : s = k
    · simp [h]
    · simp only [beq_eq_false_iff_ne.2 h, h, if_false, Bool.false_eq_true]
      exact findSV_esB r s
theorem setSV_esB : ∀ (l : List (Str × Int)) (s : Str) (n : Int), setSV (esB l) (.str s) (.int .i64 n) = esB (setB l s n)
  | [], s, n => rfl
  | (k, m) :: r, s, n => by
    simp only [esB, List.map_cons, setSV, SV.keyEq, setB]
    by_cases h : s = k
    · simp [h]
    · simp only [beq_eq_false_iff_ne.2 h, h, if_false, Bool.false_eq_true]
      rw [show setSV (List.map _ r) (.str s) (.int .i64 n) = _ from setSV_esB r s n]
      rfl
theorem setSV_esO : ∀ (l : List Str) (s : Str), setSV (esO l) (.str s) (.bool true) = esO (putO l s)
  | [], s => rfl
  | k :: r, s => by
    simp only [esO, List.map_cons, setSV, SV.keyEq, putO]
    by_cases h : s = k
    · simp [h]
    · simp only [beq_eq_false_iff_ne.2 h, if_false, Bool.false_eq_true]
      rw [show setSV (List.map _ r) (.str s) (.bool true) = _ from setSV_esO r s]
      simp only [esO, putO, List.mem_cons, h, false_or]
      split <;> rfl
theorem cnt_set : ∀ (l : List (Str × Int)) (s : Str) (n : Int) (t : Str), cntB (setB l s n) t = if t = s then n else cntB l t
  | [], s, n, t => by simp [setB, cntB]
  | (k, m) :: r, s, n, t => by
    by_cases h : s = k
    · subst h
      by_cases ht : t = s <;> simp [setB, cntB, ht]
    · simp only [setB, if_neg h, cntB, cnt_set r s n t]
      by_cases ht : t = k
      · subst ht
        rw [if_pos rfl, if_neg (fun e => h e.symm)]
        rw [if_pos rfl]
      · rw [if_neg ht, if_neg ht]
def incB (b : List (Str × Int)) (l : List Str) : List (Str × Int) := l.foldl (fun b n => setB b n (cntB b n + 1)) b
def decB (b : List (Str × Int)) (l : List Str) : List (Str × Int) := l.foldl (fun b n => setB b n (cntB b n - 1)) b
theorem cnt_inc : ∀ (l : List Str) (b : List (Str × Int)) (s : Str), cntB (incB b l) s = cntB b s + l.count s
  | [], b, s => by simp [incB]
  | x :: l, b, s => by
    rw [incB, List.foldl_cons, ← incB, cnt_inc l, cnt_set, List.count_cons]
    by_cases h : s = x
    · subst h; simp; omega
    · have h2 : ¬ x = s := fun e => h e.symm
      simp [h, h2]
theorem cnt_dec : ∀ (l : List Str) (b : List (Str × Int)) (s : Str), cntB (decB b l) s = cntB b s - l.count s
  | [], b, s => by simp [decB]
  | x :: l, b, s => by
    rw [decB, List.foldl_cons, ← decB, cnt_dec l, cnt_set, List.count_cons]
    by_cases h : s = x
    · subst h; simp; omega
    · have h2 : ¬ x = s := fun e => h e.symm
      simp [h, h2]
theorem inc_snoc (b : List (Str × Int)) (l : List Str) (x : Str) : incB b (l ++ [x]) = setB (incB b l) x (cntB (incB b l) x + 1) := by simp [incB]
theorem dec_snoc (b : List (Str × Int)) (l : List Str) (x : Str) : decB b (l ++ [x]) = setB (decB b l) x (cntB (decB b l) x - 1) := by simp [decB]
abbrev BO := List (Str × Int) × List Str
def cstep (f : Ex → BO → BO) (st : BO) (p : Ex × List Str) : BO := (decB (f p.1 (incB st.1 p.2, st.2)).1 p.2, (f p.1 (incB st.1 p.2, st.2)).2)
def unbF : Nat → Ex → BO → BO
  | 0, _, st => st
  | m + 1, e, st => if e.kind = 1 then (if cntB st.1 e.name = 0 then (st.1, putO st.2 e.name) else st) else (scopeParts e).foldl (cstep (unbF m)) st
theorem unb_cnt : ∀ (m : Nat) (e : Ex) (st : BO) (s : Str), cntB (unbF m e st).1 s = cntB st.1 s
  | 0, e, st, s => rfl
  | m + 1, e, st, s => by
    rw [unbF]
    split
    · split <;> rfl
    · generalize scopeParts e = l
      induction l generalizing st with
      | nil => rfl
      | cons p l ih =>
        rw [List.foldl_cons, ih]
        simp only [cstep, cnt_dec, unb_cnt m, cnt_inc]
        omega
theorem cstep_cnt (m : Nat) (st : BO) (p : Ex × List Str) (s : Str) : cntB (cstep (unbF m) st p).1 s = cntB st.1 s := by
  simp only [cstep, cnt_dec, unb_cnt m, cnt_inc]
  omega
theorem csteps_cnt (m : Nat) : ∀ (l : List (Ex × List Str)) (st : BO) (s : Str), cntB (l.foldl (cstep (unbF m)) st).1 s = cntB st.1 s
  | [], st, s => rfl
  | p :: l, st, s => by rw [List.foldl_cons, csteps_cnt m l, cstep_cnt]
theorem scope_wt {e : Ex} {p : Ex × List Str} (h : p ∈ scopeParts e) : p.1.wt + p.2.length < e.wt := by
  obtain ⟨kd, nm, nn, op, names, subs, binds, alts⟩ := e
  have h1 := strsWt_len names
  have h2 : ∀ (l : List Bd) (b : Bd), b ∈ l → b.e.wt + l.length ≤ bdsWt l := fun l => by
    induction l with
    | nil => intro b hb; cases hb
    | cons x r ih =>
      intro b hb
      simp only [bdsWt, List.length_cons]
      have hx := x.wt_gt
      rcases List.mem_cons.1 hb with rfl | hb
      · have := bdsWt_len r; omega
      · have := ih b hb; omega
  have hown : (ownOf kd names binds).length ≤ strsWt names + binds.length := by
    unfold ownOf
    split
    · omega
    · split <;> simp
  have h3 := bdsWt_len binds
  simp only [Ex.wt]
  simp only [scopeParts, List.mem_append, List.mem_map] at h
  rcases h with ⟨x, hx, rfl⟩ | ⟨b, hb, rfl⟩ | ⟨a, ha, rfl⟩
  · have := exsWt_mem hx
    simp only; omega
  · have := h2 binds b hb
    simp only
    have : (ownOf kd names binds).length ≤ strsWt names + binds.length := hown
    unfold ownOf
    split
    · omega
    · split
      · simp; omega
      · simp; omega
  · have h4 := alsWt_mem ha
    obtain ⟨ak, an, am, al, ab⟩ := a
    simp only [Al.wt] at h4
    simp only [Al.body, Al.names, List.length_append]
    have := strsWt_len al
    split <;> simp <;> omega
def UH (H : List Blk) (ib io : Nat) (st : BO) : List Blk := (H.set ib (.map none (esB st.1))).set io (.map none (esO st.2))
theorem esB_under (n : Nat) : ∀ l : List (Str × Int), belowE n (esB l) = true
  | [] => rfl
  | p :: l => by simp only [esB, List.map_cons, belowE, SV.under, Bool.and_self, Bool.true_and]; exact esB_under n l
theorem esO_under (n : Nat) : ∀ l : List Str, belowE n (esO l) = true
  | [] => rfl
  | p :: l => by simp only [esO, List.map_cons, belowE, SV.under, Bool.and_self, Bool.true_and]; exact esO_under n l
structure MapsAt (M : BO → List Blk) (n0 ib io : Nat) : Prop where
  len : ∀ st, (M st).length = n0
  lt : ib < n0 ∧ io < n0 ∧ ib ≠ io
  get : ∀ st, (M st)[ib]? = some (.map none (esB st.1)) ∧ (M st)[io]? = some (.map none (esO st.2))
  set : ∀ st b o, (M st).set ib (.map none (esB b)) = M (b, st.2) ∧ (M st).set io (.map none (esO o)) = M (st.1, o)
  rest : ∀ st st' i, i ≠ ib → i ≠ io → (M st)[i]? = (M st')[i]?
theorem UH_maps {H : List Blk} {ib io : Nat} {st0 : BO} (hb : H[ib]? = some (.map none (esB st0.1))) (ho : H[io]? = some (.map none (esO st0.2))) (hne : ib ≠ io) : MapsAt (UH H ib io) H.length ib io ∧ UH H ib io st0 = H := by
  have lb := (List.getElem?_eq_some_iff.1 hb).1
  have lo := (List.getElem?_eq_some_iff.1 ho).1
  refine ⟨⟨fun st => by simp [UH], ⟨lb, lo, hne⟩, fun st => ⟨?_, ?_⟩, fun st b o => ⟨?_, ?_⟩, fun st st' i h1 h2 => ?_⟩, ?_⟩
  · simp only [UH]
    rw [List.getElem?_set_ne (fun e => hne e.symm), List.getElem?_set_self lb]
  · simp only [UH]
    rw [List.getElem?_set_self (by simpa using lo)]
  · simp only [UH]
    rw [List.set_comm _ _ (fun e => hne e.symm), List.set_set]
  · simp only [UH]
    rw [List.set_set]
  · simp only [UH]
    rw [List.getElem?_set_ne (fun e => h2 e.symm), List.getElem?_set_ne (fun e => h1 e.symm), List.getElem?_set_ne (fun e => h2 e.symm), List.getElem?_set_ne (fun e => h1 e.symm)]
  · simp only [UH]
    rw [set_same hb, set_same ho]
theorem MapsAt.cls {M : BO → List Blk} {n0 ib io : Nat} (h : MapsAt M n0 ib io) {st st' : BO} (hc : closed (M st)) : closed (M st') := by
  intro B hB
  obtain ⟨i, hi, rfl⟩ := List.getElem_of_mem hB
  have hi2 : i < (M st).length := by rw [h.len] at hi ⊢; exact hi
  have hl : (M st').length = (M st).length := by rw [h.len, h.len]
  have hg : (M st')[i]? = some (M st')[i] := List.getElem?_eq_getElem hi
  rw [hl]
  show Blk.under _ ((M st')[i]) = true
  by_cases h1 : i = ib
  · subst h1; rw [(h.get st').1] at hg; rw [← Option.some.inj hg]; exact esB_under _ _
  · by_cases h2 : i = io
    · subst h2; rw [(h.get st').2] at hg; rw [← Option.some.inj hg]; exact esO_under _ _
    · rw [h.rest st' st i h1 h2, List.getElem?_eq_getElem hi2] at hg
      rw [← Option.some.inj hg]
      exact hc _ (List.getElem_mem hi2)
theorem MapsAt.app {M : BO → List Blk} {n0 ib io : Nat} (h : MapsAt M n0 ib io) (L : List Blk) : MapsAt (fun st => M st ++ L) (n0 + L.length) ib io := by
  have lb : ∀ st, ib < (M st).length := fun st => by rw [h.len]; exact h.lt.1
  have lo : ∀ st, io < (M st).length := fun st => by rw [h.len]; exact h.lt.2.1
  refine ⟨fun st => by simp [h.len], ⟨by have := h.lt.1; omega, by have := h.lt.2.1; omega, h.lt.2.2⟩, fun st => ⟨?_, ?_⟩, fun st b o => ⟨?_, ?_⟩, fun st st' i h1 h2 => ?_⟩
  · rw [List.getElem?_append_left (lb st)]; exact (h.get st).1
  · rw [List.getElem?_append_left (lo st)]; exact (h.get st).2
  · rw [set_old (lb st), (h.set st b o).1]
  · rw [set_old (lo st), (h.set st b o).2]
  · rw [List.getElem?_append, List.getElem?_append, h.len, h.len, h.rest st st' i h1 h2]
theorem MapsAt.UH {M : BO → List Blk} {n0 ib io : Nat} (h : MapsAt M n0 ib io) (st st' : BO) : UH (M st) ib io st' = M st' := by
  simp only [Go.Proofs.YtehfihnfeakmaaaGreatDoor.UH]
  rw [(h.set st st'.1 []).1, (h.set _ [] st'.2).2]
theorem MapsAt.X {M : BO → List Blk} {n0 ib io : Nat} (h : MapsAt M n0 ib io) : ((∀ st L, (M st ++ L)[ib]? = some (.map none (esB st.1))) ∧ (∀ st L, (M st ++ L)[io]? = some (.map none (esO st.2)))) ∧
    ((∀ st b L, (M st ++ L).set ib (.map none (esB b)) = M (b, st.2) ++ L) ∧ (∀ st o L, (M st ++ L).set io (.map none (esO o)) = M (st.1, o) ++ L)) ∧
    ((∀ st b, (M st).set ib (.map none (esB b)) = M (b, st.2)) ∧ (∀ st o, (M st).set io (.map none (esO o)) = M (st.1, o))) ∧
    ((∀ st, (M st)[ib]? = some (.map none (esB st.1))) ∧ (∀ st, (M st)[io]? = some (.map none (esO st.2)))) ∧
    ((∀ st, (M st).length = n0) ∧ (∀ st L, (M st ++ L)[n0]? = L[0]?) ∧ (∀ st L k, (M st ++ L)[n0 + k]? = L[k]?) ∧ (∀ st L x, (M st ++ L).set n0 x = M st ++ L.set 0 x) ∧ (∀ st L k x, (M st ++ L).set (n0 + k) x = M st ++ L.set k x)) := by
  have lb : ∀ st, ib < (M st).length := fun st => by rw [h.len]; exact h.lt.1
  have lo : ∀ st, io < (M st).length := fun st => by rw [h.len]; exact h.lt.2.1
  exact ⟨⟨fun st L => by rw [List.getElem?_append_left (lb st)]; exact (h.get st).1, fun st L => by rw [List.getElem?_append_left (lo st)]; exact (h.get st).2⟩,
    ⟨fun st b L => by rw [set_old (lb st), (h.set st b []).1], fun st o L => by rw [set_old (lo st), (h.set st [] o).2]⟩,
    ⟨fun st b => (h.set st b []).1, fun st o => (h.set st [] o).2⟩,
    ⟨fun st => (h.get st).1, fun st => (h.get st).2⟩, hsX M n0 h.len⟩
attribute [go_sem] findSV_esB setSV_esB setSV_esO
end Go.Proofs.YtehfihnfeakmaaaGreatDoor
end

section
namespace Go.Proofs.YtehfihnfeakmaaaGreatDoor
open Go
set_option maxRecDepth 10000
set_option maxHeartbeats 4000000
def cntOK (b : List (Str × Int)) (w : Nat) : Prop := ∀ s, 0 ≤ cntB b s ∧ cntB b s + w < 1099511627776
def UnbOK (G : Gl) (f : Ex → BO → BO) (e : Ex) : Prop := ∀ (H : List Blk) (ib io : Nat) (st : BO), H[ib]? = some (.map none (esB st.1)) → H[io]? = some (.map none (esO st.2)) → ib ≠ io → cntOK st.1 e.wt →
  ACall Tryz.prog G 40 [e.sv, .map ib, .map io] H (fun r H' => H' = UH H ib io (f e st))
theorem unbound1_ok (G : Gl) (hG : GClosed G) (f : Ex → BO → BO) (s : Ex) (names : List Str) (hf : UnbOK G f s) (hfc : ∀ st t, cntB (f s st).1 t = cntB st.1 t) (M : BO → List Blk) (n0 ib io pb po : Nat) (hM : MapsAt M n0 ib io)
    (hpb : ∀ st L, (M st ++ L)[pb]? = some (.cells 0 1 [.map ib])) (hpo : ∀ st L, (M st ++ L)[po]? = some (.cells 0 1 [.map io])) (hp : pb < n0 ∧ po < n0) (st : BO) (hc : cntOK st.1 (s.wt + names.length)) (hw : s.wt + names.length < 549755813888) :
    ACall Tryz.prog G 96 [s.sv, .list 1 (names.map .str), .ptr pb 0 0 0, .ptr po 0 0 0] (M st) (fun r H' => H' = M (cstep f st (s, names))) := by
  refine ACall.of_go TB [] tabOK _ Tryz.func96 rfl (by decide) Tryz.ntmps96 (by simp) rfl (by simp only [initEnv, Nat.reduceAdd]; rfl) fun C R' hR hC hcl hB => ?_; have X := noX; have hC' := congrArg List.length hC
  have hC' := hC'.trans (hM.len st)
  have X := And.intro hM.X (And.intro hpb hpo)
  have hlen := hM.len
  have hcls : ∀ st', closed (M st') := fun st' => hM.cls hcl
  have hc2 := hc
  (refine runO ?_; repeat' (first | with_reducible exact trivial | ((with_reducible apply Fork.mk) <;> intro hb) | with_reducible apply Two.mk))
  refine go_loop (fun i : Nat => [(1, .list 1 (names.map .str)), (2, .ptr pb 0 0 0), (3, .ptr po 0 0 0), (4, .ptr n0 0 0 0), (10, .list 1 (names.map .str)), (11, .int .i64 names.length), (12, .int .i64 i)])
    (fun i => M (incB st.1 (names.take i), st.2) ++ [.cells 0 8 [s.sv]]) (fun i => names.length - i) (fun i => i ≤ names.length) 0 (Nat.zero_le _) ?_ ?_
  · exact wkS (n0 := n0) [(n0, 0)] hG hB hC' (hcls _)
  · intro K i hi hK
    (refine runO ?_; repeat' (first | with_reducible exact trivial | ((with_reducible apply Fork.mk) <;> intro hb) | with_reducible apply Two.mk))
    · have hi' : i < names.length := by omega
      have h1 := cnt_inc (names.take i) st.1 names[i]
      have h2 := hc2 names[i]
      have h3 : (names.take i).count names[i] ≤ (names.take i).length := List.count_le_length
      rw [List.length_take] at h3
      rw [wrap_i64 _ (by omega), ← inc_snoc, ← List.take_succ_eq_append_getElem hi']
      exact hK _ _ (i + 1) (by omega) (by omega) (wkS (n0 := n0) [(n0, 0)] hG hB hC' (hcls _))
    · obtain rfl : i = names.length := by omega
      rw [List.take_length]
      have hcall := hf (M (incB st.1 names, st.2) ++ [.cells 0 8 [s.sv]]) ib io (incB st.1 names, st.2) (hM.X.1.1 _ _) (hM.X.1.2 _ _) hM.lt.2.2 (fun t => by
        have h1 := cnt_inc names st.1 t
        have h2 := hc2 t
        have h3 : names.count t ≤ names.length := List.count_le_length
        simp only
        omega)
      rw [(hM.app _).UH] at hcall
      refine callS hcall ?_
      rintro r H' rfl
      generalize hst2 : f s (incB st.1 names, st.2) = st2
      have hcn : ∀ t, cntB st2.1 t = cntB st.1 t + names.count t := fun t => by rw [← hst2, hfc, cnt_inc]
      (refine runO ?_; repeat' (first | with_reducible exact trivial | ((with_reducible apply Fork.mk) <;> intro hb) | with_reducible apply Two.mk))
      refine go_loop (fun i : Nat => [(2, .ptr pb 0 0 0), (25, .list 1 (names.map .str)), (26, .int .i64 names.length), (27, .int .i64 i)])
        (fun i => M (decB st2.1 (names.take i), st2.2) ++ []) (fun i => names.length - i) (fun i => i ≤ names.length) 0 (Nat.zero_le _) ?_ ?_
      · exact wkS (n0 := n0) [] hG hB hC' (hcls _)
      · intro K2 i hi hK2
        (refine runO ?_; repeat' (first | with_reducible exact trivial | ((with_reducible apply Fork.mk) <;> intro hb) | with_reducible apply Two.mk))
        · have hi' : i < names.length := by omega
          have h1 := cnt_dec (names.take i) st2.1 names[i]
          rw [hcn] at h1
          have h2 := hc2 names[i]
          have h3 : (names.take i).count names[i] ≤ (names.take i).length := List.count_le_length
          have h4 : names.count names[i] ≤ names.length := List.count_le_length
          rw [List.length_take] at h3
          rw [wrap_i64 _ (by omega), ← dec_snoc, ← List.take_succ_eq_append_getElem hi']
          exact hK2 _ _ (i + 1) (by omega) (by omega) (wkS (n0 := n0) [] hG hB hC' (hcls _))
        · obtain rfl : i = names.length := by omega
          rw [List.take_length]
          refine Fin.tellN (n0 := n0) hR (hlen _) hC' (hcls _) (.same _ rfl) ?_
          simp only [cstep, hst2]
theorem unbound_ok (G : Gl) (hG : GClosed G) : ∀ (m : Nat) (e : Ex), e.wt ≤ m → e.wt < 549755813888 → UnbOK G (unbF m) e
  | 0, e, hw, _ => by have := e.wt_pos; omega
  | m + 1, e, hw, hw0 => by
    intro H ib io st hb ho hne hc
    obtain ⟨kd, nm, nn, op, names, subs, binds, alts⟩ := e
    obtain ⟨hM, hM0⟩ := UH_maps hb ho hne
    generalize UH H ib io = M at hM hM0 ⊢
    have hlt := hM.lt
    have hlen := hM.len
    rw [← hM0]
    refine ACall.of_go TB [] tabOK _ Tryz.func40 rfl (by decide) Tryz.ntmps40 (by simp) rfl (by simp only [initEnv, Nat.reduceAdd]; rfl) fun C R' hR hC hcl hB => ?_; have X := noX; have hC' := congrArg List.length hC
    have hC' := hC'.trans (hlen st)
    generalize H.length = n0 at hM hlt hlen hC' ⊢
    have X := hM.X
    have hcls : ∀ st', closed (M st') := fun st' => hM.cls hcl
    have hu : kd ≠ 1 → unbF (m + 1) (.mk kd nm nn op names subs binds alts) st = (scopeParts (.mk kd nm nn op names subs binds alts)).foldl (cstep (unbF m)) st := fun h => by rw [unbF]; exact if_neg h
    have hv : kd = 1 → unbF (m + 1) (.mk kd nm nn op names subs binds alts) st = if cntB st.1 nm = 0 then (st.1, putO st.2 nm) else st := fun h => by rw [unbF]; exact if_pos h
    (refine run ?_; repeat' (first | with_reducible exact trivial | ((with_reducible apply Fork.mk) <;> intro hb) | with_reducible apply Two.mk))
    · refine Fin.tellN (n0 := n0) hR (hlen _) hC' (hcls _) (.same _ rfl) ?_
      have h3 := ‹(decide (kd = 1) && decide (cntB st.1 nm = 0)) = true›
      simp only [Bool.and_eq_true, decide_eq_true_eq] at h3
      rw [hv hb, if_pos h3.2]
    · exfalso; simp_all
    · refine Fin.tellN (n0 := n0) hR (hlen _) hC' (hcls _) (.same _ rfl) ?_
      have h3 := ‹(decide (kd = 1) && decide (cntB st.1 nm = 0)) = false›
      simp only [Bool.and_eq_false_iff, decide_eq_false_iff_not] at h3
      rw [hv hb, if_neg (by rcases h3 with h3 | h3; exact absurd hb h3; exact h3)]
    · let stI : Nat → BO := fun i => ((scopeParts (.mk kd nm nn op names subs binds alts)).take i).foldl (cstep (unbF m)) st
      have hsc := scopes_ok G hG (.mk kd nm nn op names subs binds alts) hw0 (.fn (.func 96) [] [.ptr (n0 + 1) 0 0 0, .ptr (n0 + 2) 0 0 0])
        (fun i => M (stI i) ++ [.cells 0 8 [.agg [.int .i64 kd, .str nm, .int .i64 nn, .int .i64 op, .list 1 (names.map .str), .list 8 (exCells subs), .list 9 (bdCells binds), .list 12 (alCells alts)]], .cells 0 1 [.map ib], .cells 0 1 [.map io]]) (n0 + 3) (fun i => by simp [hlen]) (by simp [SV.under, SV.underL]) (fun hc i => (hM.app _).cls hc) (fun i p Y hp => by
          refine ACallV.of ?_
          have hpm := List.mem_of_getElem? hp
          have hpw := scope_wt hpm
          have hst : stI (i + 1) = cstep (unbF m) (stI i) p := by
            have hi := (List.getElem?_eq_some_iff.1 hp)
            obtain ⟨hi1, hi2⟩ := hi
            simp only [stI, List.take_succ_eq_append_getElem hi1, List.foldl_append, List.foldl_cons, List.foldl_nil, hi2]
          have := unbound1_ok G hG (unbF m) p.1 p.2 (unbound_ok G hG m p.1 (by omega) (by omega)) (fun st t => unb_cnt m p.1 st t) (fun st => (M st ++ [.cells 0 8 [.agg [.int .i64 kd, .str nm, .int .i64 nn, .int .i64 op, .list 1 (names.map .str), .list 8 (exCells subs), .list 9 (bdCells binds), .list 12 (alCells alts)]], .cells 0 1 [.map ib], .cells 0 1 [.map io]]) ++ Y) _ ib io (n0 + 1) (n0 + 2) ((hM.app _).app Y)
            (fun st L => by simp only [List.append_assoc, List.cons_append, X, List.getElem?_cons_succ, List.getElem?_cons_zero]) (fun st L => by simp only [List.append_assoc, List.cons_append, X, List.getElem?_cons_succ, List.getElem?_cons_zero]) (by simp; omega) (stI i) (fun t => by
              have h1 := csteps_cnt m ((scopeParts (.mk kd nm nn op names subs binds alts)).take i) st t
              have h2 := hc t
              show 0 ≤ cntB (List.foldl (cstep (unbF m)) st _).1 t ∧ cntB (List.foldl (cstep (unbF m)) st _).1 t + _ < _
              omega) (by omega)
          simp only [hst]
          exact this)
      simp only [show stI 0 = st from rfl] at hsc
      refine callS hsc ?_
      rintro r H' rfl
      have hend : stI (scopeParts (.mk kd nm nn op names subs binds alts)).length = unbF (m + 1) (.mk kd nm nn op names subs binds alts) st := by
        rw [hu hb]; simp only [stI, List.take_length]
      simp only [hend]
      (refine run ?_; repeat' (first | with_reducible exact trivial | ((with_reducible apply Fork.mk) <;> intro hb) | with_reducible apply Two.mk))
      exact Fin.tellN (n0 := n0) hR (hlen _) hC' (hcls _) (.same _ rfl) rfl
end Go.Proofs.YtehfihnfeakmaaaGreatDoor
end

section
namespace Go.Proofs.YtehfihnfeakmaaaGreatDoor
open Go
set_option maxRecDepth 10000
set_option maxHeartbeats 4000000
theorem met_perm {l : List Str} {born : List Nat} {idx : List Nat} (hnd : idx.Nodup) (hlt : ∀ i ∈ idx, i < l.length) (hb : born.Nodup) (hlb : born.length = l.length)
    (hall : ∀ b ∈ born, (idx.map fun i => born.getD i 0).toArray.contains b = true) : (idx.map fun i => l.getD i []).Perm l := by
  have hin : ∀ i, i < l.length → i ∈ idx := fun i hi => by
    have hi' : i < born.length := by omega
    have := hall born[i] (List.getElem_mem hi')
    simp only [List.contains_toArray, List.contains_iff_mem, List.mem_map] at this
    obtain ⟨j, hj, e⟩ := this
    have hj' : j < born.length := by have := hlt j hj; omega
    rw [List.getD_eq_getElem?_getD, List.getElem?_eq_getElem hj'] at e
    simp only [Option.getD_some] at e
    obtain rfl : j = i := (List.getElem_inj hb).1 e
    exact hj
  have hp : idx.Perm (List.range l.length) := (List.perm_ext_iff_of_nodup hnd List.nodup_range).2 fun i => by
    rw [List.mem_range]; exact ⟨hlt i, hin i⟩
  have := hp.map fun i => l.getD i []
  refine this.trans (.of_eq ?_)
  apply List.ext_getElem?
  intro i
  rw [List.getElem?_map]
  by_cases h : i < l.length
  · rw [List.getElem?_range h]; simp [h]
  · rw [List.getElem?_eq_none (by simpa using h), List.getElem?_eq_none (by omega)]; rfl
theorem met_le {n : Nat} {idx : List Nat} (hnd : idx.Nodup) (hlt : ∀ i ∈ idx, i < n) : idx.length ≤ n := by
  have hp : idx.Perm ((List.range n).filter fun i => decide (i ∈ idx)) := (List.perm_ext_iff_of_nodup hnd (List.nodup_range.filter _)).2 fun i => by
    simp only [List.mem_filter, List.mem_range, decide_eq_true_eq]
    exact ⟨fun h => ⟨hlt i h, h⟩, fun h => h.2⟩
  have h2 := List.length_filter_le (fun i => decide (i ∈ idx)) (List.range n)
  rw [← hp.length_eq, List.length_range] at h2
  exact h2
theorem keys1_ok (G : Gl) (hG : GClosed G) (n1 pb n0 bm clk : Nat) (born : List Nat) (l : List Str) (vs : List SV) (hlb : born.length = l.length) (hlv : vs.length = l.length) (hnd : born.Nodup) (M : List Str → List Blk) (hlen : ∀ s, (M s).length = n0) (h1 : n1 < n0) (hll : l.length < 1099511627776)
    (hpb : ∀ s L, (M s ++ L)[pb]? = some (.cells 0 1 [.imap bm clk born none (l.map .str) vs])) (hvs : ∀ n, SV.underL n vs = true) (hcls : closed (M []) → ∀ s, closed (M s))
    (hy : ∀ s x X, s.length < l.length → ACallV Tryz.prog G (.it n1) [.str x] (M s ++ X) (fun r H' => H' = M (s ++ [x]) ++ X ∧ r = .bool true)) :
    ACall Tryz.prog G 98 [.it n1, .ptr pb 0 0 0] (M []) (fun r H' => ∃ s, s.Perm l ∧ H' = M s) := by
  refine ACall.of_go TB [] tabOK _ Tryz.func98 rfl (by decide) Tryz.ntmps98 (by simp) rfl (by simp only [initEnv, Nat.reduceAdd]; rfl) fun C R' hR hC hcl hB => ?_; have X := noX; have hC' := congrArg List.length hC
  have hC' := hC'.trans (hlen [])
  have hcl := hcls hcl
  have hpb0 : ∀ s, (M s)[pb]? = some (.cells 0 1 [.imap bm clk born none (l.map .str) vs]) := fun s => by simpa using hpb s []
  have X := And.intro (hsX M n0 hlen) (And.intro hpb hpb0)
  have hks : ∀ n, SV.underL n (l.map SV.str) = true := fun n => strs_under n l
  have him : (SV.imap bm clk born none (l.map SV.str) vs).under n0 = true := by simp only [SV.under, hks, hvs, Bool.and_self]
  (refine run ?_; repeat' (first | with_reducible exact trivial | ((with_reducible apply Fork.mk) <;> intro hb) | with_reducible apply Two.mk))
  refine go_range rfl rfl rfl ?_
  simp only [hlen]
  (refine run ?_; repeat' (first | with_reducible exact trivial | ((with_reducible apply Fork.mk) <;> intro hb) | with_reducible apply Two.mk))
  refine go_loop (fun idx : List Nat => [(0, .it n1), (4, .imap bm clk born none (l.map .str) vs), (5, .it n0)]) (fun idx => M (idx.map fun i => l.getD i []) ++ [.obj (.mapIter (some bm) clk (idx.map fun i => born.getD i 0).toArray clk)])
    (fun idx => l.length - idx.length) (fun idx => idx.Nodup ∧ ∀ i ∈ idx, i < l.length) [] ⟨List.nodup_nil, by simp⟩ ?_ ?_
  · exact Wk.sub (by simp [subEnv, look])
  · rintro K idx ⟨hi1, hi2⟩ hK
    have hle := met_le hi1 hi2
    generalize hs : idx.map (fun i => l.getD i []) = s
    generalize hse : (idx.map fun i => born.getD i 0).toArray = seen
    (refine run ?_; repeat' (first | with_reducible exact trivial | ((with_reducible apply Fork.mk) <;> intro hb) | with_reducible apply Two.mk))
    refine go_next (tm := 4) rfl rfl (by simp only [X, List.getElem?_cons_zero]; rfl) rfl (fun hall => ?_) (fun i b q y hb hsn hq hy2 => ?_)
    · (refine run ?_; repeat' (first | with_reducible exact trivial | ((with_reducible apply Fork.mk) <;> intro hb) | with_reducible apply Two.mk))
      refine Fin.tellN (n0 := n0) hR (hlen _) hC' (hcl _) (.same _ rfl) ⟨s, ?_, rfl⟩
      rw [← hs]
      exact met_perm hi1 hi2 hnd hlb (fun b hb => by rw [hse]; exact hall b hb)
    · have hi : i < l.length := by have := (List.getElem?_eq_some_iff.1 hb).1; omega
      have hq' : q = .str l[i] := by rw [List.getElem?_map, List.getElem?_eq_getElem hi] at hq; cases hq; rfl
      subst hq'
      have hni : i ∉ idx := fun hm => by
        rw [← hse] at hsn
        have : (idx.map fun i => born.getD i 0).toArray.contains b = true := by
          simp only [List.contains_toArray, List.contains_iff_mem, List.mem_map]
          exact ⟨i, hm, by rw [List.getD_eq_getElem?_getD, hb]; rfl⟩
        rw [this] at hsn; cases hsn
      have hlt : idx.length < l.length := by
        have := met_le (n := l.length) (idx := idx ++ [i]) (List.nodup_append.2 ⟨hi1, by simp, by simp; exact fun a ha e => hni (e ▸ ha)⟩) (by simp only [List.mem_append, List.mem_singleton]; exact fun a ha => ha.elim (hi2 a) (fun e => e ▸ hi))
        simp at this; omega
      have hsl : s.length = idx.length := by rw [← hs]; simp
      simp only [X, List.set_cons_zero]
      (refine run ?_; repeat' (first | with_reducible exact trivial | ((with_reducible apply Fork.mk) <;> intro hb) | with_reducible apply Two.mk))
      refine go_entry (tm := 4) rfl rfl (by simp only [X, List.getElem?_cons_zero]; rfl) hb (by rw [List.getElem?_map, List.getElem?_eq_getElem hi]; rfl) hy2 rfl ?_
      (refine run ?_; repeat' (first | with_reducible exact trivial | ((with_reducible apply Fork.mk) <;> intro hb) | with_reducible apply Two.mk))
      refine callV (hy s l[i] _ (by omega)) ?_
      rintro r H' ⟨rfl, rfl⟩
      (refine run ?_; repeat' (first | with_reducible exact trivial | ((with_reducible apply Fork.mk) <;> intro hb) | with_reducible apply Two.mk))
      have e1 : (idx ++ [i]).map (fun i => l.getD i []) = s ++ [l[i]] := by
        rw [List.map_append, hs]; simp [hi]
      have e2 : ((idx ++ [i]).map fun i => born.getD i 0).toArray = seen.push b := by
        rw [List.map_append, ← hse]; simp [hb]
      refine hK _ _ (idx ++ [i]) (by simp; omega) ⟨List.nodup_append.2 ⟨hi1, by simp, by simp; exact fun a ha e => hni (e ▸ ha)⟩, by simp only [List.mem_append, List.mem_singleton]; exact fun a ha => ha.elim (hi2 a) (fun e => e ▸ hi)⟩ ?_
      rw [e1, e2]
      exact Wk.sub (by simp [subEnv, look])
end Go.Proofs.YtehfihnfeakmaaaGreatDoor
end

section
/-
  slices.Sort at []string in this seat's translation: the shelf's contract laid in plain words (numbers by names; printed by mkshelfs.py).
-/
namespace Go.Proofs
open Go.Shelf
def Tryz.lays190_ren : Go.Shelf.Ren := ⟨fun | 190 => 50 | 125 => 106 | 258 => 105 | 128 => 139 | 129 => 140 | 302 => 130 | 303 => 131 | 304 => 132 | 305 => 133 | 306 => 134 | 307 => 135 | 308 => 136 | 309 => 137 | 310 => 138 | 333 => 155 | 329 => 156 | 330 => 157 | 334 => 158 | 335 => 159 | 336 => 160 | 344 => 169 | n => n, fun | 31 => 36 | 9 => 9 | 3 => 3 | 46 => 135 | 0 => 0 | 51 => 163 | 53 => 165 | 4 => 4 | 183 => 156 | 182 => 155 | 131 => 41 | 5 => 5 | 218 => 179 | 222 => 183 | 228 => 196 | 229 => 145 | n => n, fun | n => n⟩
theorem Tryz.lays190 : Go.Proofs.Lays.n190 Tryz.prog Tryz.lays190_ren := {
  mixed := by kernel_rfl
  f125 := Tryz.func106.trans (congrArg some (by kernel_rfl))
  f128 := Tryz.func139.trans (congrArg some (by kernel_rfl))
  f129 := Tryz.func140.trans (congrArg some (by kernel_rfl))
  f190 := Tryz.func50.trans (congrArg some (by kernel_rfl))
  f258 := Tryz.func105.trans (congrArg some (by kernel_rfl))
  f302 := Tryz.func130.trans (congrArg some (by kernel_rfl))
  f303 := Tryz.func131.trans (congrArg some (by kernel_rfl))
  f304 := Tryz.func132.trans (congrArg some (by kernel_rfl))
  f305 := Tryz.func133.trans (congrArg some (by kernel_rfl))
  f306 := Tryz.func134.trans (congrArg some (by kernel_rfl))
  f307 := Tryz.func135.trans (congrArg some (by kernel_rfl))
  f308 := Tryz.func136.trans (congrArg some (by kernel_rfl))
  f309 := Tryz.func137.trans (congrArg some (by kernel_rfl))
  f310 := Tryz.func138.trans (congrArg some (by kernel_rfl))
  f329 := Tryz.func156.trans (congrArg some (by kernel_rfl))
  f330 := Tryz.func157.trans (congrArg some (by kernel_rfl))
  f333 := Tryz.func155.trans (congrArg some (by kernel_rfl))
  f334 := Tryz.func158.trans (congrArg some (by kernel_rfl))
  f335 := Tryz.func159.trans (congrArg some (by kernel_rfl))
  f336 := Tryz.func160.trans (congrArg some (by kernel_rfl))
  f344 := Tryz.func169.trans (congrArg some (by kernel_rfl))
  t0 := Tryz.underlying0
  a0 := Tryz.isAgg0
  z0 := Tryz.sizeOf0
  v0 := Tryz.zeroValue0
  t3 := Tryz.underlying3
  a3 := Tryz.isAgg3
  z3 := Tryz.sizeOf3
  v3 := Tryz.zeroValue3
  t4 := Tryz.underlying4
  a4 := Tryz.isAgg4
  z4 := Tryz.sizeOf4
  v4 := Tryz.zeroValue4
  t5 := Tryz.underlying5
  a5 := Tryz.isAgg5
  z5 := Tryz.sizeOf5
  v5 := Tryz.zeroValue5
  t9 := Tryz.underlying9
  a9 := Tryz.isAgg9
  z9 := Tryz.sizeOf9
  v9 := Tryz.zeroValue9
  t31 := Tryz.underlying36
  a31 := Tryz.isAgg36
  z31 := Tryz.sizeOf36
  v31 := Tryz.zeroValue36
  t46 := Tryz.underlying135
  a46 := Tryz.isAgg135
  z46 := Tryz.sizeOf135
  v46 := Tryz.zeroValue135
  t51 := Tryz.underlying163
  a51 := Tryz.isAgg163
  z51 := Tryz.sizeOf163
  v51 := Tryz.zeroValue163
  t53 := Tryz.underlying165
  a53 := Tryz.isAgg165
  z53 := Tryz.sizeOf165
  v53 := Tryz.zeroValue165
  t131 := Tryz.underlying41
  a131 := Tryz.isAgg41
  z131 := Tryz.sizeOf41
  v131 := Tryz.zeroValue41
  t182 := Tryz.underlying155
  a182 := Tryz.isAgg155
  z182 := Tryz.sizeOf155
  v182 := Tryz.zeroValue155
  t183 := Tryz.underlying156
  a183 := Tryz.isAgg156
  z183 := Tryz.sizeOf156
  v183 := Tryz.zeroValue156
  t218 := Tryz.underlying179
  a218 := Tryz.isAgg179
  z218 := Tryz.sizeOf179
  v218 := Tryz.zeroValue179
  t222 := Tryz.underlying183
  a222 := Tryz.isAgg183
  z222 := Tryz.sizeOf183
  v222 := Tryz.zeroValue183
  t228 := Tryz.underlying196
  a228 := Tryz.isAgg196
  z228 := Tryz.sizeOf196
  v228 := Tryz.zeroValue196
  t229 := Tryz.underlying145
  a229 := Tryz.isAgg145
  z229 := Tryz.sizeOf145
  v229 := Tryz.zeroValue145 }
open Go.Sort Go.RowKit in
theorem Tryz.slices_Sort_string (blk off cap : Nat) (ss : List (List UInt8)) (w : World) (hH : Holds encStr w blk off ss.toArray) (hblk : blk < w.heap.size) (hsz : ss.length < 4611686018427387904) :
    Calls Tryz.prog 50 #[.slice (some ⟨blk, off, none⟩) ss.length cap] w fun e w' =>
      e = .returned (.tuple #[]) ∧ ∃ n os, w' = grow (putRow encStr (Sort.ahead w n) blk off (ss.mergeSort fun x y => decide (x ≤ y)).toArray) os := Any.slices_Sort_string Tryz.lays190 blk off cap ss w hH hblk hsz
open Go.RowKit Go.Sort in
theorem Tryz.slices_Sort_string_none (p : Option Addr) (cap : Nat) (w : World) :
    Calls Tryz.prog 50 #[.slice p 0 cap] w fun e w' => e = .returned (.tuple #[]) ∧ w' = w := Any.slices_Sort_string_none Tryz.lays190 p cap w
end Go.Proofs
end

section
namespace Go.Proofs.YtehfihnfeakmaaaGreatDoor
open Go
set_option maxRecDepth 10000
set_option maxHeartbeats 4000000
theorem closed_swap {H L L' : List Blk} (h : closed (H ++ L)) (hl : L'.length = L.length) (hu : ∀ b ∈ L', b.under (H.length + L.length) = true) : closed (H ++ L') := by
  intro B hB
  rw [List.length_append, hl]
  rcases List.mem_append.1 hB with h1 | h1
  · have := h B (List.mem_append_left _ h1)
    rwa [List.length_append] at this
  · exact hu B h1
theorem appendSeq_ok (G : Gl) (hG : GClosed G) (pb bm clk : Nat) (born : List Nat) (l : List Str) (vs : List SV) (hlb : born.length = l.length) (hlv : vs.length = l.length) (hnd : born.Nodup) (hll : l.length < 1099511627776) (H : List Blk)
    (hpb : H[pb]? = some (.cells 0 1 [.imap bm clk born none (l.map .str) vs])) (hvs : ∀ n, SV.underL n vs = true) :
    ACall Tryz.prog G 129 [.nil, .fn (.func 98) [] [.ptr pb 0 0 0]] H (fun r H' => ∃ s : List Str, s.Perm l ∧ H' = H ++ [.cells 0 1 (s.map .str)] ∧ r = .sl H.length 0 0 s.length) := by
  have hpl : pb < H.length := (List.getElem?_eq_some_iff.1 hpb).1
  refine ACall.of_go TB [] tabOK _ Tryz.func129 rfl (by decide) Tryz.ntmps129 (by simp) rfl (by simp only [initEnv, Nat.reduceAdd]; rfl) fun C R' hR hC hcl hB => ?_; have X := noX; have hC' := congrArg List.length hC
  refine go_ownNil 0 1 rfl ?_
  (refine run ?_; repeat' (first | with_reducible exact trivial | ((with_reducible apply Fork.mk) <;> intro hb) | with_reducible apply Two.mk))
  refine go_rangeFunc tabOK (σ := List Str) (ξ := Str) (fun s => H ++ [.cells s.length 1 (s.map .str), .cells 0 1 [.sl H.length s.length 0 s.length]]) (H.length + 2) (fun s => by simp) []
    [(2, .ptr (H.length + 1) 0 0 0), (6, .fn (.func 98) [] [.ptr pb 0 0 0])] (fun x => [.str x]) (fun s x => s.length < l.length) (fun s x => s ++ [x]) (fun s => s.Perm l)
    (fun x => [(7, .str x), (2, .ptr (H.length + 1) 0 0 0), (6, .fn (.func 98) [] [.ptr pb 0 0 0])]) rfl rfl (fun x => rfl) (fun x => rfl) ?_ ?_ ?_ ?_
  · exact Wk.sub (by simp [subEnv, look])
  · intro G' LO hGl hLO hy
    have := keys1_ok G' (by unfold GClosed; rw [hGl]; exact hG) (H.length + 2) pb (H.length + 3) bm clk born l vs hlb hlv hnd (fun s => (H ++ [.cells s.length 1 (s.map .str), .cells 0 1 [.sl H.length s.length 0 s.length]]) ++ [LO]) (fun s => by simp) (by omega) hll
      (fun s L => by simp only [List.append_assoc]; rw [List.getElem?_append_left hpl]; exact hpb) hvs (fun hc s => by
        simp only [List.append_assoc] at hc ⊢
        refine closed_swap hc (by simp) (fun b hb => ?_)
        simp only [List.cons_append, List.nil_append, List.mem_cons, List.not_mem_nil, or_false] at hb
        rcases hb with rfl | rfl | rfl
        · exact strs_under _ _
        · simp [Blk.under, SV.underL, SV.under]
        · simpa using hLO) (fun s x X hs => by
          have := hy s x X hs
          simpa only [List.append_assoc, List.cons_append, List.nil_append] using this)
    exact this.mono fun r H' ⟨s, h1, h2⟩ => ⟨s, h1, h2⟩
  · intro G' C' ρ' s x Y LO LB K1 K hGl hB' hCH hcl' hLO hLB hs hK1 hK
    have X := noX
    have hG' : GClosed G' := by unfold GClosed; rw [hGl]; exact hG
    simp only [List.append_assoc, List.cons_append, List.nil_append] at hcl' hCH ⊢
    (refine run ?_; repeat' (first | with_reducible exact trivial | ((with_reducible apply Fork.mk) <;> intro hb) | with_reducible apply Two.mk))
    refine hK1 _ _ (by simp [List.getElem?_append_right]) ?_
    simp only [set_app, List.set_cons_succ, List.set_cons_zero]
    (refine run ?_; repeat' (first | with_reducible exact trivial | ((with_reducible apply Fork.mk) <;> intro hb) | with_reducible apply Two.mk))
    refine hK _ _ ?_
    simp only [List.append_assoc, List.cons_append, List.nil_append, List.length_append, List.length_cons, List.length_nil, List.map_append, List.map_cons, List.map_nil, Nat.zero_add]
    exact Wk.sub trivial
  · intro s LO hs hLO
    simp only [List.append_assoc, List.cons_append, List.nil_append]
    (refine run ?_; repeat' (first | with_reducible exact trivial | ((with_reducible apply Fork.mk) <;> intro hb) | with_reducible apply Two.mk))
    refine finK [(H.length, 0)] (.sl H.length 0 0 s.length) [.cells 0 1 (s.map .str)] hR hC' hcl ⟨s, hs, rfl, rfl⟩
theorem collect_ok (G : Gl) (hG : GClosed G) (pb bm clk : Nat) (born : List Nat) (l : List Str) (vs : List SV) (hlb : born.length = l.length) (hlv : vs.length = l.length) (hnd : born.Nodup) (hll : l.length < 1099511627776) (H : List Blk)
    (hpb : H[pb]? = some (.cells 0 1 [.imap bm clk born none (l.map .str) vs])) (hvs : ∀ n, SV.underL n vs = true) :
    ACall Tryz.prog G 97 [.fn (.func 98) [] [.ptr pb 0 0 0]] H (fun r H' => ∃ s : List Str, s.Perm l ∧ H' = H ++ [.cells 0 1 (s.map .str)] ∧ r = .sl H.length 0 0 s.length) := by
  refine ACall.of_go TB [] tabOK _ Tryz.func97 rfl (by decide) Tryz.ntmps97 (by simp) rfl (by simp only [initEnv, Nat.reduceAdd]; rfl) fun C R' hR hC hcl hB => ?_; have X := noX; have hC' := congrArg List.length hC
  (refine run ?_; repeat' (first | with_reducible exact trivial | ((with_reducible apply Fork.mk) <;> intro hb) | with_reducible apply Two.mk))
  refine callS (appendSeq_ok G hG pb bm clk born l vs hlb hlv hnd hll H hpb hvs) ?_
  rintro r H' ⟨s, hs, rfl, rfl⟩
  (refine run ?_; repeat' (first | with_reducible exact trivial | ((with_reducible apply Fork.mk) <;> intro hb) | with_reducible apply Two.mk))
  exact finK [(H.length, 0)] (.sl H.length 0 0 s.length) [.cells 0 1 (s.map .str)] hR hC' hcl ⟨s, hs, rfl, rfl⟩
def sortS (l : List Str) : List Str := l.mergeSort fun x y => decide (x ≤ y)
theorem sortS_perm (l : List Str) : (sortS l).Perm l := List.mergeSort_perm l _
theorem sortS_len (l : List Str) : (sortS l).length = l.length := (sortS_perm l).length_eq
theorem sortS_eq {s l : List Str} (h : s.Perm l) : sortS s = sortS l := Go.mergeSort_of_perm h
theorem sort_strs (G : Gl) (id g : Nat) (l : List Str) (H : List Blk) (hH : H[id]? = some (.cells g 1 (l.map .str))) (hl : l.length < 4611686018427387904) :
    ACall Tryz.prog G 50 [.sl id g 0 l.length] H (fun r H' => H' = H.set id (.cells g 1 ((sortS l).map .str)) ∧ r = .tuple []) :=
  ACall.of_sort encStr .str (fun s => s.length ≤ maxLen) (fun c x v => rep_str_iff c x v) (fun _ => rfl) (fun x y => decide (x ≤ y)) ⟨_, Tryz.func50, by decide, rfl⟩
    (fun blk off cap zs w h1 h2 h3 => Tryz.slices_Sort_string blk off cap zs w h1 h2 h3) (fun p cap w => Tryz.slices_Sort_string_none p cap w) id g l H hH hl
theorem sorted_ok (G : Gl) (hG : GClosed G) (pb bm clk : Nat) (born : List Nat) (l : List Str) (vs : List SV) (hlb : born.length = l.length) (hlv : vs.length = l.length) (hnd : born.Nodup) (hll : l.length < 1099511627776) (H : List Blk)
    (hpb : H[pb]? = some (.cells 0 1 [.imap bm clk born none (l.map .str) vs])) (hvs : ∀ n, SV.underL n vs = true) :
    ACall Tryz.prog G 41 [.fn (.func 98) [] [.ptr pb 0 0 0]] H (fun r H' => H' = H ++ [.cells 0 1 ((sortS l).map .str)] ∧ r = .sl H.length 0 0 l.length) := by
  refine ACall.of_go TB [] tabOK _ Tryz.func41 rfl (by decide) Tryz.ntmps41 (by simp) rfl (by simp only [initEnv, Nat.reduceAdd]; rfl) fun C R' hR hC hcl hB => ?_; have X := noX; have hC' := congrArg List.length hC
  (refine run ?_; repeat' (first | with_reducible exact trivial | ((with_reducible apply Fork.mk) <;> intro hb) | with_reducible apply Two.mk))
  refine callS (collect_ok G hG pb bm clk born l vs hlb hlv hnd hll H hpb hvs) ?_
  rintro r H' ⟨s, hs, rfl, rfl⟩
  (refine run ?_; repeat' (first | with_reducible exact trivial | ((with_reducible apply Fork.mk) <;> intro hb) | with_reducible apply Two.mk))
  have hsl := hs.length_eq
  refine callS (sort_strs G H.length 0 s _ (by simp) (by omega)) ?_
  rintro r H' ⟨rfl, rfl⟩
  rw [sortS_eq hs, hsl]
  simp only [set_app0, List.set_cons_zero]
  (refine run ?_; repeat' (first | with_reducible exact trivial | ((with_reducible apply Fork.mk) <;> intro hb) | with_reducible apply Two.mk))
  exact finK [(H.length, 0)] (.sl H.length 0 0 l.length) [.cells 0 1 ((sortS l).map .str)] hR hC' hcl ⟨rfl, rfl⟩
theorem keys_ok (G : Gl) (hG : GClosed G) (bm clk : Nat) (born : List Nat) (l : List Str) (vs : List SV) (hvs : ∀ n, SV.underL n vs = true) (H : List Blk) :
    ACall Tryz.prog G 42 [.imap bm clk born none (l.map .str) vs] H (fun r H' => H' = H ++ [.cells 0 1 [.imap bm clk born none (l.map .str) vs]] ∧ r = .fn (.func 98) [] [.ptr H.length 0 0 0]) := by
  refine ACall.of_go TB [] tabOK _ Tryz.func42 rfl (by decide) Tryz.ntmps42 (by simp) rfl (by simp only [initEnv, Nat.reduceAdd]; rfl) fun C R' hR hC hcl hB => ?_; have X := noX; have hC' := congrArg List.length hC
  have hks : ∀ n, SV.underL n (l.map SV.str) = true := fun n => strs_under n l
  (refine run ?_; repeat' (first | with_reducible exact trivial | ((with_reducible apply Fork.mk) <;> intro hb) | with_reducible apply Two.mk))
  refine finK [(H.length, 0)] (.fn (.func 98) [] [.ptr H.length 0 0 0]) [.cells 0 1 [.imap bm clk born none (l.map .str) vs]] hR hC' hcl ⟨rfl, rfl⟩ (.c (by exact hbS) (Nat.le_refl _) (Nat.zero_le _) (FrzL.same ?_) .nil) (by simp) (.fn _ _ _ _ _ .nil (.cons _ _ _ _ (Frz.kp 0 rfl (by exact hbS) (Nat.le_refl _) rfl rfl) .nil))
  simp only [List.drop_zero, SV.underL, SV.under, hks, hvs, Bool.and_self]
end Go.Proofs.YtehfihnfeakmaaaGreatDoor
end

section
namespace Go.Proofs.YtehfihnfeakmaaaGreatDoor
open Go
set_option maxRecDepth 10000
set_option maxHeartbeats 4000000
theorem scope_sum (e : Ex) : ((scopeParts e).map fun p => p.1.wt).sum < e.wt := by
  obtain ⟨kd, nm, nn, op, names, subs, binds, alts⟩ := e
  have h1 : ∀ l : List Ex, (l.map fun x => x.wt).sum = exsWt l := fun l => by
    induction l with
    | nil => rfl
    | cons x r ih => simp only [List.map_cons, List.sum_cons, exsWt, ih]
  have h2 : ∀ l : List Bd, (l.map fun b => b.e.wt).sum ≤ bdsWt l := fun l => by
    induction l with
    | nil => exact Nat.le_refl _
    | cons x r ih => simp only [List.map_cons, List.sum_cons, bdsWt]; have := x.wt_gt; omega
  have h3 : ∀ l : List Al, (l.map fun b => b.body.wt).sum ≤ alsWt l := fun l => by
    induction l with
    | nil => exact Nat.le_refl _
    | cons x r ih => simp only [List.map_cons, List.sum_cons, alsWt]; have := x.wt_gt; omega
  have := h1 subs; have := h2 binds; have := h3 alts
  simp only [scopeParts, List.map_append, List.map_map, Function.comp_def, List.sum_append, Ex.wt]
  omega
theorem putO_len (l : List Str) (s : Str) : (putO l s).length ≤ l.length + 1 := by
  unfold putO
  split <;> simp
theorem unb_len : ∀ (m : Nat) (e : Ex) (st : BO), (unbF m e st).2.length ≤ st.2.length + e.wt
  | 0, e, st => by simp [unbF]
  | m + 1, e, st => by
    rw [unbF]
    have hp := e.wt_pos
    split
    · split
      · have := putO_len st.2 e.name; simp only; omega
      · omega
    · have hs := scope_sum e
      generalize scopeParts e = l at hs
      have key : ∀ (l : List (Ex × List Str)) (st : BO), (l.foldl (cstep (unbF m)) st).2.length ≤ st.2.length + (l.map fun p => p.1.wt).sum := fun l => by
        induction l with
        | nil => intro st; exact Nat.le_refl _
        | cons p l ih =>
          intro st
          rw [List.foldl_cons]
          have h1 := ih (cstep (unbF m) st p)
          have h2 := unb_len m p.1 (incB st.1 p.2, st.2)
          simp only [List.map_cons, List.sum_cons]
          have e : (cstep (unbF m) st p).2.length = (unbF m p.1 (incB st.1 p.2, st.2)).2.length := rfl
          rw [e] at h1
          simp only at h2
          omega
      have := key l st
      omega
theorem putO_nodup {l : List Str} (h : l.Nodup) (s : Str) : (putO l s).Nodup := by
  unfold putO
  split
  · exact h
  · rename_i hs
    exact List.nodup_append.2 ⟨h, by simp, by simp; exact fun a ha e => hs (e ▸ ha)⟩
def freeS (e : Ex) : List Str := sortS (unbF e.wt e ([], [])).2
theorem free_ok (G : Gl) (hG : GClosed G) (e : Ex) (H : List Blk) (hw : e.wt < 549755813888) : ACall Tryz.prog G 16 [e.sv] H (fun r H' => H' = H ++ [.cells 0 1 ((freeS e).map .str)] ∧ r = .sl H.length 0 0 (freeS e).length) := by
  refine ACall.of_go TB [] tabOK _ Tryz.func16 rfl (by decide) Tryz.ntmps16 (by simp) rfl (by simp only [initEnv, Nat.reduceAdd]; rfl) fun C R' hR hC hcl hB => ?_; have X := noX; have hC' := congrArg List.length hC
  have hcall := unbound_ok G hG e.wt e (Nat.le_refl _) hw (H ++ [.cells 0 8 [e.sv], .map none [], .map none []]) (H.length + 2) (H.length + 1) ([], []) (by simp [esB]) (by simp [esO]) (by omega) (fun s => by simp only [cntB]; omega)
  have hlen := unb_len e.wt e ([], [])
  have hfl : (freeS e).length = (unbF e.wt e ([], [])).2.length := sortS_len _
  generalize hst : unbF e.wt e ([], []) = st at hcall hlen hfl
  (refine run ?_; repeat' (first | with_reducible exact trivial | ((with_reducible apply Fork.mk) <;> intro hb) | with_reducible apply Two.mk))
  refine callS hcall ?_
  rintro r H' rfl
  simp only [UH, set_app, List.set_cons_succ, List.set_cons_zero]
  refine go_nil ?_
  refine go_pin (t := 3) (io := H.length + 1) (kd := none) (es := esO st.2) (by exact hbS) (by omega) hB rfl (fun bm clk born hb hnd => ?_)
  have e1 : (esO st.2).map Prod.fst = st.2.map .str := by simp [esO]
  have e2 : (esO st.2).map Prod.snd = st.2.map fun _ => .bool true := by simp [esO]
  have e3 : (esO st.2).length = st.2.length := by simp [esO]
  rw [e1, e2]
  rw [e3] at hb
  simp only [set_app, List.set_cons_succ, List.set_cons_zero]
  (refine run ?_; repeat' (first | with_reducible exact trivial | ((with_reducible apply Fork.mk) <;> intro hb) | with_reducible apply Two.mk))
  refine callS (keys_ok G hG bm clk born st.2 _ (fun n => SV.underL_map fun _ _ => rfl) _) ?_
  rintro r H' ⟨rfl, rfl⟩
  simp only [List.append_assoc, List.cons_append, List.nil_append, List.length_append, List.length_cons, List.length_nil, List.length_set, X, Nat.reduceAdd]
  (refine run ?_; repeat' (first | with_reducible exact trivial | ((with_reducible apply Fork.mk) <;> intro hb) | with_reducible apply Two.mk))
  refine callS (sorted_ok G hG (H.length + 3) bm clk born st.2 (st.2.map fun _ => .bool true) hb (by simp) hnd (by simp only at hlen; simp at hlen; omega) _ (by rw [get_app]; rfl) (fun n => SV.underL_map fun _ _ => rfl)) ?_
  rintro r H' ⟨rfl, rfl⟩
  simp only [List.append_assoc, List.cons_append, List.nil_append, List.length_append, List.length_cons, List.length_nil, List.length_set, X, Nat.reduceAdd]
  (refine run ?_; repeat' (first | with_reducible exact trivial | ((with_reducible apply Fork.mk) <;> intro hb) | with_reducible apply Two.mk))
  have e4 : sortS st.2 = freeS e := by rw [freeS, hst]
  rw [e4, ← hfl]
  exact finK [(H.length + 4, 0)] (.sl H.length 0 0 (freeS e).length) [.cells 0 1 ((freeS e).map .str)] hR hC' hcl ⟨rfl, rfl⟩
end Go.Proofs.YtehfihnfeakmaaaGreatDoor
end

section
namespace Go.Proofs.YtehfihnfeakmaaaGreatDoor
open Go
set_option maxRecDepth 10000
set_option maxHeartbeats 4000000
theorem each_ok (G : Gl) (hG : GClosed G) (e : Ex) (hw : e.wt < 549755813888) (fv : SV) (Hs : Nat → List Blk) (n0 : Nat) (hlen : ∀ i, (Hs i).length = n0) (hfu : fv.under n0 = true) (hcls : closed (Hs 0) → ∀ i, closed (Hs i))
    (hy : ∀ i p X, e.parts[i]? = some p → ACallV Tryz.prog G fv [p.sv] (Hs i ++ X) (fun r H' => H' = Hs (i + 1) ++ X ∧ r = .bool true)) :
    ACall Tryz.prog G 100 [e.sv, fv] (Hs 0) (fun r H' => H' = Hs e.parts.length ∧ r = .bool true) := by
  obtain ⟨kd, nm, nn, op, names, subs, binds, alts⟩ := e
  have hle := Ex.wt_lens kd nm nn op names subs binds alts
  rw [Ex.parts_mk] at hy ⊢
  have hpl : (subs ++ (binds.map Bd.e ++ alts.map Al.body)).length = subs.length + binds.length + alts.length := by simp; omega
  have p1 : ∀ i (h : i < subs.length), (subs ++ (binds.map Bd.e ++ alts.map Al.body))[i]? = some subs[i] := fun i h => by
    rw [List.getElem?_append_left h, List.getElem?_eq_getElem h]
  have p2 : ∀ i (h : i < binds.length), (subs ++ (binds.map Bd.e ++ alts.map Al.body))[subs.length + i]? = some binds[i].e := fun i h => by
    rw [List.getElem?_append_right (by omega), Nat.add_sub_cancel_left, List.getElem?_append_left (by simpa using h), List.getElem?_map, List.getElem?_eq_getElem h]; rfl
  have p3 : ∀ i (h : i < alts.length), (subs ++ (binds.map Bd.e ++ alts.map Al.body))[subs.length + (binds.length + i)]? = some alts[i].body := fun i h => by
    rw [List.getElem?_append_right (by omega), Nat.add_sub_cancel_left, List.getElem?_append_right (by simp), List.length_map, Nat.add_sub_cancel_left, List.getElem?_map, List.getElem?_eq_getElem h]; rfl
  refine ACall.of_go TB [] tabOK _ Tryz.func100 rfl (by decide) Tryz.ntmps100 (by simp) rfl (by simp only [initEnv, Nat.reduceAdd]; rfl) fun C R' hR hC hcl hB => ?_; have X := noX; have hC' := congrArg List.length hC
  have hcl := hcls hcl
  have hC' := hC'.trans (hlen 0)
  have X := hsX Hs n0 hlen
  (refine runO ?_; repeat' (first | with_reducible exact trivial | ((with_reducible apply Fork.mk) <;> intro hb) | with_reducible apply Two.mk))
  refine go_loop (fun i : Nat => [(1, fv), (2, .ptr n0 0 0 0), (12, .list 8 (exCells subs)), (13, .int .i64 subs.length), (14, .int .i64 i)])
    (fun i => Hs i ++ [.cells 0 8 [.agg [.int .i64 kd, .str nm, .int .i64 nn, .int .i64 op, .list 1 (names.map .str), .list 8 (exCells subs), .list 9 (bdCells binds), .list 12 (alCells alts)]]]) (fun i => subs.length - i) (fun i => i ≤ subs.length) 0 (Nat.zero_le _) ?_ ?_
  · exact wkS (n0 := n0) [(n0, 0)] hG hB hC' (hcl 0)
  rintro K i hi hK
  (refine runO ?_; repeat' (first | with_reducible exact trivial | ((with_reducible apply Fork.mk) <;> intro hb) | with_reducible apply Two.mk))
  · refine callV (hy i _ _ (p1 i (by omega))) ?_
    rintro r H' ⟨rfl, rfl⟩
    (refine runO ?_; repeat' (first | with_reducible exact trivial | ((with_reducible apply Fork.mk) <;> intro hb) | with_reducible apply Two.mk))
    refine hK _ _ (i + 1) (by omega) (by omega) ?_
    exact wkS (n0 := n0) [(n0, 0)] hG hB hC' (hcl (i + 1))
  obtain rfl : i = subs.length := by omega
  clear hK
  refine go_loop (fun i : Nat => [(1, fv), (2, .ptr n0 0 0 0), (24, .list 9 (bdCells binds)), (25, .int .i64 binds.length), (26, .int .i64 i)])
    (fun i => Hs (subs.length + i) ++ [.cells 0 8 [.agg [.int .i64 kd, .str nm, .int .i64 nn, .int .i64 op, .list 1 (names.map .str), .list 8 (exCells subs), .list 9 (bdCells binds), .list 12 (alCells alts)]]]) (fun i => binds.length - i) (fun i => i ≤ binds.length) 0 (Nat.zero_le _) ?_ ?_
  · exact wkS (n0 := n0) [(n0, 0)] hG hB hC' (hcl _)
  rintro K i hi hK
  (refine runO ?_; repeat' (first | with_reducible exact trivial | ((with_reducible apply Fork.mk) <;> intro hb) | with_reducible apply Two.mk))
  · refine callV (hy (subs.length + i) _ _ (p2 i (by omega))) ?_
    rintro r H' ⟨rfl, rfl⟩
    (refine runO ?_; repeat' (first | with_reducible exact trivial | ((with_reducible apply Fork.mk) <;> intro hb) | with_reducible apply Two.mk))
    refine hK _ _ (i + 1) (by omega) (by omega) ?_
    exact wkS (n0 := n0) [(n0, 0)] hG hB hC' (hcl _)
  obtain rfl : i = binds.length := by omega
  clear hK
  refine go_loop (fun i : Nat => [(1, fv), (2, .ptr n0 0 0 0), (37, .list 12 (alCells alts)), (38, .int .i64 alts.length), (39, .int .i64 i)])
    (fun i => Hs (subs.length + (binds.length + i)) ++ [.cells 0 8 [.agg [.int .i64 kd, .str nm, .int .i64 nn, .int .i64 op, .list 1 (names.map .str), .list 8 (exCells subs), .list 9 (bdCells binds), .list 12 (alCells alts)]]]) (fun i => alts.length - i) (fun i => i ≤ alts.length) 0 (Nat.zero_le _) ?_ ?_
  · exact wkS (n0 := n0) [(n0, 0)] hG hB hC' (hcl _)
  rintro K i hi hK
  (refine runO ?_; repeat' (first | with_reducible exact trivial | ((with_reducible apply Fork.mk) <;> intro hb) | with_reducible apply Two.mk))
  · refine callV (hy (subs.length + (binds.length + i)) _ _ (p3 i (by omega))) ?_
    rintro r H' ⟨rfl, rfl⟩
    (refine runO ?_; repeat' (first | with_reducible exact trivial | ((with_reducible apply Fork.mk) <;> intro hb) | with_reducible apply Two.mk))
    refine hK _ _ (i + 1) (by omega) (by omega) ?_
    exact wkS (n0 := n0) [(n0, 0)] hG hB hC' (hcl _)
  obtain rfl : i = alts.length := by omega
  refine Fin.tellN (n0 := n0) hR (hlen _) hC' (hcl _) (.same _ rfl) ⟨?_, rfl⟩
  rw [hpl, Nat.add_assoc]
end Go.Proofs.YtehfihnfeakmaaaGreatDoor
end

section
namespace Go.Proofs.YtehfihnfeakmaaaGreatDoor
open Go
set_option maxRecDepth 10000
set_option maxHeartbeats 4000000
def szC (n : Int) : Blk := .cells 0 1 [.int .i64 n]
theorem size1_ok (G : Gl) (hG : GClosed G) (x : Ex) (H : List Blk) (n : Int) (nb : Nat) (h1 : H[nb]? = some (szC n)) (h2 : 0 ≤ n) (h3 : n + 1 < 4611686018427387904) :
    ACall Tryz.prog G 99 [x.sv, .ptr nb 0 0 0] H (fun r H' => H' = H.set nb (szC (n + 1)) ∧ r = .bool true) := by
  have hlt : nb < H.length := (List.getElem?_eq_some_iff.1 h1).1
  refine ACall.of_go TB [] tabOK _ Tryz.func99 rfl (by decide) Tryz.ntmps99 (by simp) rfl (by simp only [initEnv, Nat.reduceAdd]; rfl) fun C R' hR hC hcl hB => ?_; have X := noX; have hC' := congrArg List.length hC
  have X := h1
  unfold szC at X
  (refine run ?_; repeat' (first | with_reducible exact trivial | ((with_reducible apply Fork.mk) <;> intro hb) | with_reducible apply Two.mk))
  exact Fin.tellN (n0 := H.length) hR (by simp) hC' (hcl.set rfl) (.same _ rfl) ⟨rfl, rfl⟩
theorem sum_wtE {α : Type} (f : List α → Nat) (g : α → Nat) (h0 : f [] = 0) (h1 : ∀ x l, f (x :: l) = g x + f l) : ∀ l, f l = (l.map g).sum
  | [] => by simp [h0]
  | x :: l => by rw [h1, sum_wtE f g h0 h1 l]; simp
theorem exsSize_sum (l : List Ex) : exsSize l = (l.map Ex.size).sum := sum_wtE exsSize _ (by simp [exsSize]) (fun x l => by simp only [exsSize]) l
theorem bdsSize_sum (l : List Bd) : bdsSize l = ((l.map Bd.e).map Ex.size).sum := by
  rw [List.map_map]; exact sum_wtE bdsSize _ (by simp [bdsSize]) (fun x l => by cases x; simp only [bdsSize, Bd.size, Function.comp_def, Bd.e]) l
theorem alsSize_sum (l : List Al) : alsSize l = ((l.map Al.body).map Ex.size).sum := by
  rw [List.map_map]; exact sum_wtE alsSize _ (by simp [alsSize]) (fun x l => by cases x; simp only [alsSize, Al.size, Function.comp_def, Al.body]) l
theorem Ex.size_parts (e : Ex) : e.size = 1 + (e.parts.map Ex.size).sum := by
  obtain ⟨kd, nm, nn, op, names, subs, binds, alts⟩ := e
  rw [Ex.parts_mk, Ex.size, exsSize_sum, bdsSize_sum, alsSize_sum, List.map_append, List.map_append, List.sum_append, List.sum_append]
  omega
theorem sum_take_le {l : List Nat} : ∀ (i : Nat), (l.take i).sum ≤ l.sum := by
  induction l with
  | nil => intro i; simp
  | cons x r ih =>
    intro i
    cases i with
    | zero => simp
    | succ i => simp only [List.take_succ_cons, List.sum_cons]; have := ih i; omega
def AllC (G : Gl) (m : Nat) : Prop := ∀ (e : Ex) (H : List Blk) (n : Int) (nb : Nat), e.wt ≤ m → H[nb]? = some (szC n) → 0 ≤ n → n + e.size < 4611686018427387904 →
  ACall Tryz.prog G 48 [e.sv, .fn (.func 99) [] [.ptr nb 0 0 0]] H (fun r H' => H' = H.set nb (szC (n + e.size)) ∧ r = .bool true)
theorem all1_ok (G : Gl) (hG : GClosed G) (m : Nat) (hrec : AllC G m) (p : Ex) (H : List Blk) (n : Int) (nb ib : Nat) (hp : p.wt ≤ m) (h1 : H[nb]? = some (szC n)) (hib : H[ib]? = some (.cells 0 1 [.fn (.func 99) [] [.ptr nb 0 0 0]])) (h2 : 0 ≤ n) (h3 : n + p.size < 4611686018427387904) :
    ACall Tryz.prog G 103 [p.sv, .ptr ib 0 0 0] H (fun r H' => H' = H.set nb (szC (n + p.size)) ∧ r = .bool true) := by
  have hlt : nb < H.length := (List.getElem?_eq_some_iff.1 h1).1
  have hlt2 : ib < H.length := (List.getElem?_eq_some_iff.1 hib).1
  refine ACall.of_go TB [] tabOK _ Tryz.func103 rfl (by decide) Tryz.ntmps103 (by simp) rfl (by simp only [initEnv, Nat.reduceAdd]; rfl) fun C R' hR hC hcl hB => ?_; have X := noX; have hC' := congrArg List.length hC
  have X := And.intro h1 hib
  (refine run ?_; repeat' (first | with_reducible exact trivial | ((with_reducible apply Fork.mk) <;> intro hb) | with_reducible apply Two.mk))
  refine callS (hrec p _ n nb hp (by rw [get_old hlt]; exact h1) h2 h3) ?_
  rintro r H' ⟨rfl, rfl⟩
  rw [set_old hlt]
  (refine run ?_; repeat' (first | with_reducible exact trivial | ((with_reducible apply Fork.mk) <;> intro hb) | with_reducible apply Two.mk))
  exact Fin.tellN (n0 := H.length) hR (by simp) hC' (hcl.set rfl) (.same _ rfl) ⟨rfl, rfl⟩
theorem all_ok (G : Gl) (hG : GClosed G) : ∀ m, m < 549755813888 → AllC G m
  | 0, _, e, _, _, _, h, _, _, _ => absurd e.wt_pos (by omega)
  | m + 1, hm2, e, H, n, nb, hm, h1, h2, h3 => by
    have hlt : nb < H.length := (List.getElem?_eq_some_iff.1 h1).1
    have hsz := e.size_parts
    have hrec := all_ok G hG m (by omega)
    have hs0 := e.size_pos
    refine ACall.of_go TB [] tabOK _ Tryz.func48 rfl (by decide) Tryz.ntmps48 (by simp) rfl (by simp only [initEnv, Nat.reduceAdd]; rfl) fun C R' hR hC hcl hB => ?_; have X := noX; have hC' := congrArg List.length hC
    (refine run ?_; repeat' (first | with_reducible exact trivial | ((with_reducible apply Fork.mk) <;> intro hb) | with_reducible apply Two.mk))
    refine callV (ACallV.of (first := []) (args := [e.sv]) (cap := [.ptr nb 0 0 0]) (size1_ok G hG e _ n nb (by rw [get_old hlt]; exact h1) h2 (by omega))) ?_
    rintro r H' ⟨rfl, rfl⟩
    rw [set_old hlt]
    (refine run ?_; repeat' (first | with_reducible exact trivial | ((with_reducible apply Fork.mk) <;> intro hb) | with_reducible apply Two.mk))
    have hw : ∀ i, n + 1 + (((e.parts.take i).map Ex.size).sum : Nat) ≤ n + e.size := fun i => by
      have := sum_take_le (l := e.parts.map Ex.size) i
      rw [← List.map_take] at this
      omega
    have hk : ∀ (i : Nat) (L : List Blk), ((H.set nb (szC (n + 1 + (((e.parts.take i).map Ex.size).sum : Nat))) ++ L))[nb]? = some (szC (n + 1 + (((e.parts.take i).map Ex.size).sum : Nat))) := fun i L => get_oldS hlt
    have heach := each_ok G hG e (by omega) (.fn (.func 103) [] [.ptr (H.length + 1) 0 0 0]) (fun i => H.set nb (szC (n + 1 + (((e.parts.take i).map Ex.size).sum : Nat))) ++ [.cells 0 8 [.agg e.cells], .cells 0 1 [.fn (.func 99) [] [.ptr nb 0 0 0]]]) (H.length + 2) (fun i => by simp) (by simp [SV.under, SV.underL])
      (fun h i => by have := h.set (id := nb) (b := szC (n + 1 + (((e.parts.take i).map Ex.size).sum : Nat))) rfl; rwa [set_oldS hlt] at this) (fun i p X hp => by
        have hpw := Ex.wt_parts (List.mem_of_getElem? hp)
        have hlp := (List.getElem?_eq_some_iff.1 hp)
        have hnx : ((e.parts.take (i + 1)).map Ex.size).sum = ((e.parts.take i).map Ex.size).sum + p.size := by
          rw [List.take_succ_eq_append_getElem hlp.1, hlp.2]; simp
        have hwi := hw (i + 1)
        refine ACallV.of (first := []) (args := [p.sv]) (cap := [.ptr (H.length + 1) 0 0 0]) ((all1_ok G hG m hrec p _ (n + 1 + (((e.parts.take i).map Ex.size).sum : Nat)) nb (H.length + 1) (by omega) (by rw [List.append_assoc]; exact hk i _) (by rw [List.append_assoc]; simp) (by omega) (by omega)).mono ?_)
        rintro r H' ⟨rfl, rfl⟩
        refine ⟨?_, rfl⟩
        rw [List.append_assoc, set_oldS hlt, hnx, List.append_assoc]
        congr 3
        omega)
    rw [show n + 1 + ((((e.parts.take 0).map Ex.size).sum : Nat) : Int) = n + 1 by simp] at heach
    refine callS heach ?_
    rintro r H' ⟨rfl, rfl⟩
    rw [List.take_length, show n + 1 + (((e.parts.map Ex.size).sum : Nat) : Int) = n + e.size by omega]
    (refine run ?_; repeat' (first | with_reducible exact trivial | ((with_reducible apply Fork.mk) <;> intro hb) | with_reducible apply Two.mk))
    exact Fin.tellN (n0 := H.length) hR (by simp) hC' (hcl.set rfl) (.same _ rfl) ⟨rfl, rfl⟩
theorem size_ok (G : Gl) (hG : GClosed G) (e : Ex) (H : List Blk) (hw : e.wt < 549755813887) (hs : e.size < 4611686018427387904) : ACall Tryz.prog G 43 [e.sv] H (fun r H' => H' = H ∧ r = .int .i64 e.size) := by
  refine ACall.of_go TB [] tabOK _ Tryz.func43 rfl (by decide) Tryz.ntmps43 (by simp) rfl (by simp only [initEnv, Nat.reduceAdd]; rfl) fun C R' hR hC hcl hB => ?_; have X := noX; have hC' := congrArg List.length hC
  (refine run ?_; repeat' (first | with_reducible exact trivial | ((with_reducible apply Fork.mk) <;> intro hb) | with_reducible apply Two.mk))
  refine callS (all_ok G hG e.wt (by omega) e _ 0 (H.length + 1) (Nat.le_refl _) (by rw [get_app]; rfl) (by omega) (by omega)) ?_
  rintro r H' ⟨rfl, rfl⟩
  rw [set_app, szC, Int.zero_add]
  simp only [List.set_cons_succ, List.set_cons_zero]
  (refine run ?_; repeat' (first | with_reducible exact trivial | ((with_reducible apply Fork.mk) <;> intro hb) | with_reducible apply Two.mk))
  exact Fin.tellN (n0 := H.length) hR (by simp) hC' hcl (.same _ rfl) ⟨rfl, rfl⟩
end Go.Proofs.YtehfihnfeakmaaaGreatDoor
end

section
namespace Go.Proofs.YtehfihnfeakmaaaGreatDoor
open Go
set_option maxRecDepth 10000
set_option maxHeartbeats 4000000
def shp : Nat → Ex → Prop
  | 0, _ => True
  | m + 1, e => (e.kind ≠ 6 → e.alts = []) ∧ (e.kind ≠ 5 → e.binds = []) ∧ ∀ p ∈ e.parts, shp m p
end Go.Proofs.YtehfihnfeakmaaaGreatDoor
end

section
namespace Go.Proofs.YtehfihnfeakmaaaGreatDoor
open Go
set_option maxRecDepth 10000
set_option maxHeartbeats 4000000
end Go.Proofs.YtehfihnfeakmaaaGreatDoor
end

section
namespace Go.Proofs.YtehfihnfeakmaaaGreatDoor
open Go
theorem exs_le : ∀ l : List Ex, (l.map Ex.wt).sum ≤ exsWt l
  | [] => Nat.le_refl _
  | x :: l => by simp only [List.map_cons, List.sum_cons, exsWt]; have := exs_le l; omega
theorem bds_le : ∀ l : List Bd, ((l.map Bd.e).map Ex.wt).sum ≤ bdsWt l
  | [] => Nat.le_refl _
  | x :: l => by simp only [List.map_cons, List.sum_cons, bdsWt]; have := bds_le l; have := x.wt_gt; omega
theorem als_le : ∀ l : List Al, ((l.map Al.body).map Ex.wt).sum ≤ alsWt l
  | [] => Nat.le_refl _
  | x :: l => by simp only [List.map_cons, List.sum_cons, alsWt]; have := als_le l; have := x.wt_gt; omega
theorem parts_wt (e : Ex) : 1 + (e.parts.map Ex.wt).sum ≤ e.wt := by
  obtain ⟨kd, nm, nn, op, names, subs, binds, alts⟩ := e
  rw [Ex.parts_mk, List.map_append, List.map_append, List.sum_append, List.sum_append, Ex.wt]
  have := exs_le subs
  have := bds_le binds
  have := als_le alts
  omega
theorem sum_le {α : Type} {f g : α → Nat} : ∀ {l : List α}, (∀ x ∈ l, f x ≤ g x) → (l.map f).sum ≤ (l.map g).sum
  | [], _ => Nat.le_refl _
  | x :: l, h => by
    have h1 := h x (List.mem_cons_self ..)
    have h2 := sum_le fun y hy => h y (List.mem_cons_of_mem _ hy)
    simp only [List.map_cons, List.sum_cons]; omega
theorem size_le_wt : ∀ (m : Nat) (e : Ex), e.wt ≤ m → e.size ≤ e.wt
  | 0, e, h => absurd e.wt_pos (by omega)
  | m + 1, e, h => by
    rw [e.size_parts]
    have h1 := parts_wt e
    have h2 := sum_le (f := Ex.size) (g := Ex.wt) (l := e.parts) fun p hp => size_le_wt m p (by have := Ex.wt_parts hp; omega)
    omega
end Go.Proofs.YtehfihnfeakmaaaGreatDoor
end

section
namespace Go.Proofs.YtehfihnfeakmaaaGreatDoor
open Go
set_option maxRecDepth 10000
set_option maxHeartbeats 4000000
def maxL (l : List Nat) : Nat := l.foldl max 0
theorem maxL_app (l : List Nat) (x : Nat) : maxL (l ++ [x]) = max (maxL l) x := by simp [maxL, List.foldl_append]
theorem maxL_le {n : Nat} : ∀ {l : List Nat}, (∀ x ∈ l, x ≤ n) → maxL l ≤ n := by
  intro l h
  have key : ∀ (l : List Nat) (a : Nat), a ≤ n → (∀ x ∈ l, x ≤ n) → l.foldl max a ≤ n := by
    intro l
    induction l with
    | nil => intro a ha _; exact ha
    | cons x r ih => intro a ha h; exact ih _ (Nat.max_le.2 ⟨ha, h x (List.mem_cons_self ..)⟩) (fun y hy => h y (List.mem_cons_of_mem _ hy))
  exact key l 0 (Nat.zero_le _) h
def depF : Nat → Ex → Nat
  | 0, _ => 0
  | m + 1, e => maxL (e.parts.map (depF m)) + 1
theorem depF_le : ∀ (m : Nat) (e : Ex), depF m e ≤ m
  | 0, _ => Nat.le_refl _
  | m + 1, e => by
    have := maxL_le (n := m) (l := e.parts.map (depF m)) (fun x hx => by
      obtain ⟨p, _, rfl⟩ := List.mem_map.1 hx
      exact depF_le m p)
    unfold depF
    omega
def dep (e : Ex) : Nat := depF e.wt e
def bndF : Nat → Ex → List Str
  | 0, _ => []
  | m + 1, .mk kd nm _ _ names subs binds alts => (if kd = 3 then names else []) ++ subs.flatMap (bndF m) ++ binds.flatMap (fun b => b.name :: bndF m b.e) ++ (if kd = 6 then [nm] else []) ++ alts.flatMap (fun a => a.names ++ bndF m a.body)
theorem flat_len {α : Type} {f : α → List Str} {g : List α → Nat} {w : α → Nat} (h0 : g [] = 0) (h1 : ∀ x l, g (x :: l) = w x + g l) : ∀ {l : List α}, (∀ x ∈ l, (f x).length ≤ w x) → (l.flatMap f).length ≤ g l
  | [], _ => by simp
  | x :: r, h => by
    have h2 := flat_len (l := r) h0 h1 (fun y hy => h y (List.mem_cons_of_mem _ hy))
    have h3 := h x (List.mem_cons_self ..)
    rw [List.flatMap_cons, List.length_append, h1]
    omega
theorem bndF_len : ∀ (m : Nat) (e : Ex), (bndF m e).length ≤ e.wt
  | 0, e => by simp [bndF]
  | m + 1, .mk kd nm nn op names subs binds alts => by
    have h1 : (subs.flatMap (bndF m)).length ≤ exsWt subs := flat_len (w := Ex.wt) rfl (fun _ _ => rfl) fun x _ => bndF_len m x
    have h2 : (binds.flatMap (fun b => b.name :: bndF m b.e)).length ≤ bdsWt binds := flat_len (w := Bd.wt) rfl (fun _ _ => rfl) fun b _ => by
      have := bndF_len m b.e
      have := b.wt_gt
      simp only [List.length_cons]; omega
    have h3 : (alts.flatMap (fun a => a.names ++ bndF m a.body)).length ≤ alsWt alts := flat_len (w := Al.wt) rfl (fun _ _ => rfl) fun a _ => by
      have := bndF_len m a.body
      obtain ⟨k, s, n, l, e⟩ := a
      have := strsWt_len l
      simp only [Al.wt, Al.names, Al.body, List.length_append] at *; omega
    have h4 := strsWt_len names
    have h5 : (if kd = 3 then names else []).length ≤ names.length := by split <;> simp
    have h6 : (if kd = 6 then [nm] else []).length ≤ 1 := by split <;> simp
    simp only [bndF, List.length_append, Ex.wt]
    omega
def bnds (e : Ex) : List Str := bndF e.wt e
end Go.Proofs.YtehfihnfeakmaaaGreatDoor
end

section
namespace Go.Proofs.YtehfihnfeakmaaaGreatDoor
open Go
set_option maxRecDepth 10000
set_option maxHeartbeats 4000000
theorem flat_seq {α : Type} (f : α → List Str) (pre : List Str) (l : List α) : ∃ L : Nat → List Str, L 0 = pre ∧ (∀ (i : Nat) (h : i < l.length), L (i + 1) = L i ++ f l[i]) ∧ (∀ i, (L i).length ≤ (pre ++ l.flatMap f).length) ∧ L l.length = pre ++ l.flatMap f := by
  refine ⟨fun i => pre ++ (l.take i).flatMap f, by simp, fun i h => ?_, fun i => ?_, by simp⟩
  · simp only [List.take_succ_eq_append_getElem h, List.flatMap_append, List.flatMap_cons, List.flatMap_nil, List.append_nil, List.append_assoc]
  · have h : l.flatMap f = (l.take i).flatMap f ++ (l.drop i).flatMap f := by rw [← List.flatMap_append, List.take_append_drop]
    simp only [h, List.length_append]; omega
def BndC (G : Gl) (m : Nat) : Prop := ∀ (e : Ex) (H : List Blk), e.wt ≤ m → e.wt < 4294967296 → ACall Tryz.prog G 104 [e.sv] H (fun r H' => H' = H ++ [.cells 0 1 ((bndF m e).map .str)] ∧ r = .sl H.length 0 0 (bndF m e).length)
theorem binders_ok (G : Gl) (hG : GClosed G) : ∀ m, BndC G m
  | 0, e, H, h, _ => absurd e.wt_pos (by omega)
  | m + 1, e, H, hm, hw0 => by
    have hrec := binders_ok G hG m
    obtain ⟨kd, nm, nn, op, names, subs, binds, alts⟩ := e
    have hle := Ex.wt_lens kd nm nn op names subs binds alts
    have hln := bndF_len (m + 1) (.mk kd nm nn op names subs binds alts)
    have hpw : ∀ p ∈ (Ex.mk kd nm nn op names subs binds alts).parts, p.wt ≤ m ∧ p.wt < 4294967296 := fun p hp => by have := Ex.wt_parts hp; exact ⟨by omega, by omega⟩
    rw [Ex.parts_mk] at hpw
    have eb : bndF (m + 1) (.mk kd nm nn op names subs binds alts) = (if kd = 3 then names else []) ++ subs.flatMap (bndF m) ++ binds.flatMap (fun b => b.name :: bndF m b.e) ++ (if kd = 6 then [nm] else []) ++ alts.flatMap (fun a => a.names ++ bndF m a.body) := rfl
    rw [eb] at hln ⊢
    clear eb
    have h3n : (if kd = 3 then names else []).length ≤ names.length := by split <;> simp
    generalize hl0 : (if kd = 3 then names else []) = l0 at *
    generalize hl5 : (if kd = 6 then [nm] else []) = l5 at *
    obtain ⟨L1, a1, a2, a3, a4⟩ := flat_seq (bndF m) l0 subs
    rw [← a4] at hln ⊢
    obtain ⟨L2, b1, b2, b3, b4⟩ := flat_seq (fun b : Bd => b.name :: bndF m b.e) (L1 subs.length) binds
    rw [← b4] at hln ⊢
    obtain ⟨L4, d1, d2, d3, d4⟩ := flat_seq (fun a : Al => a.names ++ bndF m a.body) (L2 binds.length ++ l5) alts
    rw [← d4] at hln ⊢
    rw [← a4] at a3
    rw [← b4] at b3
    rw [← d4] at d3
    have q4 : (L2 binds.length).length + l5.length ≤ (L4 alts.length).length := by have := d3 0; rw [d1, List.length_append] at this; exact this
    have q2 : (L1 subs.length).length ≤ (L2 binds.length).length := by have := b3 0; rw [b1] at this; exact this
    generalize hW : (Ex.mk kd nm nn op names subs binds alts).wt = W at *
    refine ACall.of_go TB [3] tabOK _ Tryz.func104 rfl (by decide) Tryz.ntmps104 (by simp) rfl (by simp only [initEnv, Nat.reduceAdd]; rfl) fun C R' hR hC hcl hB => ?_; have X := noX; have hC' := congrArg List.length hC
    (refine runC ?_; repeat' (first | with_reducible exact trivial | ((with_reducible apply Fork.mk) <;> intro hb) | with_reducible apply Two.mk))
    refine go_cut (fun _ : Unit => [(1, .ptr H.length 0 0 0), (3, .sl (H.length + 1) 0 0 l0.length)]) (fun _ => H ++ [.cells 0 8 [.agg [.int .i64 kd, .str nm, .int .i64 nn, .int .i64 op, .list 1 (names.map .str), .list 8 (exCells subs), .list 9 (bdCells binds), .list 12 (alCells alts)]], .cells 0 1 (l0.map .str)]) (fun _ => True) (fun K hK => ?_) (fun _ _ => ?_)
    · (refine runO ?_; repeat' (first | with_reducible exact trivial | ((with_reducible apply Fork.mk) <;> intro hb) | with_reducible apply Two.mk))
      · refine hK _ _ () trivial ?_
        rw [if_pos hb] at hl0
        subst hl0
        exact wkS (n0 := H.length) [(H.length, 0), (H.length + 1, 0)] hG hB hC' hcl
      · refine hK _ _ () trivial ?_
        rw [if_neg hb] at hl0
        subst hl0
        simp only [List.length_nil, List.map_nil]
        exact wkS (n0 := H.length) [(H.length, 0), (H.length + 1, 0)] hG hB hC' hcl
    (refine runO ?_; repeat' (first | with_reducible exact trivial | ((with_reducible apply Fork.mk) <;> intro hb) | with_reducible apply Two.mk))
    refine go_loop (fun i : Nat => [(1, .ptr H.length 0 0 0), (3, .sl (H.length + 1) 0 0 (L1 i).length), (18, .list 8 (exCells subs)), (19, .int .i64 subs.length), (20, .int .i64 i)])
      (fun i => H ++ [.cells 0 8 [.agg [.int .i64 kd, .str nm, .int .i64 nn, .int .i64 op, .list 1 (names.map .str), .list 8 (exCells subs), .list 9 (bdCells binds), .list 12 (alCells alts)]], .cells 0 1 ((L1 i).map .str)]) (fun i => subs.length - i) (fun i => i ≤ subs.length) 0 (Nat.zero_le _) ?_ ?_
    · rw [a1]
      exact Wk.sub (by simp [subEnv, look])
    rintro K i hi hK
    rcases Nat.lt_or_ge i subs.length with hlt | hge
    · have c1 := fun H => hrec subs[i] H (hpw _ (by simp)).1 (hpw _ (by simp)).2
      have e1 := a2 i hlt
      have e2 := a3 (i + 1)
      have e3 := a3 i
      have e4 := bndF_len m subs[i]
      have e5 := (hpw subs[i] (by simp)).2
      rw [e1, List.length_append] at e2
      generalize bndF m subs[i] = l at *
      generalize L1 i = l1 at *
      have X := And.intro noX (show (l1.map SV.str).length = l1.length ∧ (l.map SV.str).length = l.length from ⟨List.length_map .., List.length_map ..⟩)
      (refine run ?_; repeat' (first | with_reducible exact trivial | ((with_reducible apply Fork.mk) <;> intro hb) | with_reducible apply Two.mk))
      refine hK _ _ (i + 1) (by omega) (by omega) ?_
      rw [e1, List.map_append, show (l1 ++ l).length = l1.length + l.length from List.length_append ..]
      exact wkS (n0 := H.length) [(H.length, 0), (H.length + 1, 0)] hG hB hC' hcl
    obtain rfl : i = subs.length := by omega
    clear hK
    (refine runO ?_; repeat' (first | with_reducible exact trivial | ((with_reducible apply Fork.mk) <;> intro hb) | with_reducible apply Two.mk))
    refine go_loop (fun i : Nat => [(1, .ptr H.length 0 0 0), (3, .sl (H.length + 1) 0 0 (L2 i).length), (30, .list 9 (bdCells binds)), (31, .int .i64 binds.length), (32, .int .i64 i)])
      (fun i => H ++ [.cells 0 8 [.agg [.int .i64 kd, .str nm, .int .i64 nn, .int .i64 op, .list 1 (names.map .str), .list 8 (exCells subs), .list 9 (bdCells binds), .list 12 (alCells alts)]], .cells 0 1 ((L2 i).map .str)]) (fun i => binds.length - i) (fun i => i ≤ binds.length) 0 (Nat.zero_le _) ?_ ?_
    · rw [b1]
      exact Wk.sub (by simp [subEnv, look])
    rintro K i hi hK
    rcases Nat.lt_or_ge i binds.length with hlt | hge
    · have hpb := hpw binds[i].e (by simp; exact .inr (.inl ⟨_, List.getElem_mem hlt, rfl⟩))
      have c1 := fun H => hrec binds[i].e H hpb.1 hpb.2
      have e1 := b2 i hlt
      have e2 := b3 (i + 1)
      have e3 := b3 i
      have e4 := bndF_len m binds[i].e
      rw [e1, List.length_append] at e2
      simp only [List.length_cons] at e2
      generalize bndF m binds[i].e = l at *
      generalize L2 i = l1 at *
      have X := And.intro noX (show (l1.map SV.str).length = l1.length ∧ (l.map SV.str).length = l.length from ⟨List.length_map .., List.length_map ..⟩)
      (refine run ?_; repeat' (first | with_reducible exact trivial | ((with_reducible apply Fork.mk) <;> intro hb) | with_reducible apply Two.mk))
      refine hK _ _ (i + 1) (by omega) (by omega) ?_
      rw [e1, List.map_append, List.map_cons, show (l1 ++ binds[i].name :: l).length = l1.length + (1 + l.length) from by simp; omega]
      exact wkS (n0 := H.length) [(H.length, 0), (H.length + 1, 0)] hG hB hC' hcl
    obtain rfl : i = binds.length := by omega
    clear hK
    (refine runC ?_; repeat' (first | with_reducible exact trivial | ((with_reducible apply Fork.mk) <;> intro hb) | with_reducible apply Two.mk))
    refine go_condDF rfl (by omega) ?_
    (refine runC ?_; repeat' (first | with_reducible exact trivial | ((with_reducible apply Fork.mk) <;> intro hb) | with_reducible apply Two.mk))
    refine go_cut (fun _ : Unit => [(1, .ptr H.length 0 0 0), (3, .sl (H.length + 1) 0 0 (L2 binds.length ++ l5).length)]) (fun _ => H ++ [.cells 0 8 [.agg [.int .i64 kd, .str nm, .int .i64 nn, .int .i64 op, .list 1 (names.map .str), .list 8 (exCells subs), .list 9 (bdCells binds), .list 12 (alCells alts)]], .cells 0 1 ((L2 binds.length ++ l5).map .str)]) (fun _ => True) (fun K hK => ?_) (fun _ _ => ?_)
    · have X := And.intro noX (show ((L2 binds.length).map SV.str).length = (L2 binds.length).length from List.length_map ..)
      (refine runO ?_; repeat' (first | with_reducible exact trivial | ((with_reducible apply Fork.mk) <;> intro hb) | with_reducible apply Two.mk))
      · refine hK _ _ () trivial ?_
        rw [if_pos hb] at hl5
        subst hl5
        rw [List.map_append, List.length_append, List.length_singleton]
        exact wkS (n0 := H.length) [(H.length, 0), (H.length + 1, 0)] hG hB hC' hcl
      · refine hK _ _ () trivial ?_
        rw [if_neg hb] at hl5
        subst hl5
        rw [List.append_nil]
        exact wkS (n0 := H.length) [(H.length, 0), (H.length + 1, 0)] hG hB hC' hcl
    (refine runO ?_; repeat' (first | with_reducible exact trivial | ((with_reducible apply Fork.mk) <;> intro hb) | with_reducible apply Two.mk))
    refine go_loop (fun i : Nat => [(1, .ptr H.length 0 0 0), (3, .sl (H.length + 1) 0 0 (L4 i).length), (55, .list 12 (alCells alts)), (56, .int .i64 alts.length), (57, .int .i64 i)])
      (fun i => H ++ [.cells 0 8 [.agg [.int .i64 kd, .str nm, .int .i64 nn, .int .i64 op, .list 1 (names.map .str), .list 8 (exCells subs), .list 9 (bdCells binds), .list 12 (alCells alts)]], .cells 0 1 ((L4 i).map .str)]) (fun i => alts.length - i) (fun i => i ≤ alts.length) 0 (Nat.zero_le _) ?_ ?_
    · rw [d1]
      exact Wk.sub (by simp [subEnv, look])
    rintro K i hi hK
    rcases Nat.lt_or_ge i alts.length with hlt | hge
    · have hpb := hpw alts[i].body (by simp; exact .inr (.inr ⟨_, List.getElem_mem hlt, rfl⟩))
      have c1 := fun H => hrec alts[i].body H hpb.1 hpb.2
      have e1 := d2 i hlt
      have e2 := d3 (i + 1)
      have e3 := d3 i
      have e4 := bndF_len m alts[i].body
      rw [e1, List.length_append] at e2
      simp only [List.length_append] at e2
      generalize bndF m alts[i].body = l at *
      generalize L4 i = l1 at *
      have X := And.intro noX (show (l1.map SV.str).length = l1.length ∧ (l.map SV.str).length = l.length from ⟨List.length_map .., List.length_map ..⟩)
      (refine run ?_; repeat' (first | with_reducible exact trivial | ((with_reducible apply Fork.mk) <;> intro hb) | with_reducible apply Two.mk))
      refine hK _ _ (i + 1) (by omega) (by omega) ?_
      rw [e1, List.map_append, List.map_append, show (l1 ++ (alts[i].names ++ l)).length = l1.length + (alts[i].names.length + l.length) from by simp]
      exact wkS (n0 := H.length) [(H.length, 0), (H.length + 1, 0)] hG hB hC' hcl
    obtain rfl : i = alts.length := by omega
    clear hK
    (refine runO ?_; repeat' (first | with_reducible exact trivial | ((with_reducible apply Fork.mk) <;> intro hb) | with_reducible apply Two.mk))
    exact finK [(H.length + 1, 0)] (.sl H.length 0 0 (L4 alts.length).length) [.cells 0 1 ((L4 alts.length).map .str)] hR hC' hcl ⟨rfl, rfl⟩
end Go.Proofs.YtehfihnfeakmaaaGreatDoor
end

section
namespace Go.Proofs.YtehfihnfeakmaaaGreatDoor
open Go
set_option maxRecDepth 10000
structure Cn where
  name : Str
  arity : Int
  tag : Int
  family : Int
deriving DecidableEq, Inhabited
def Cn.cells (c : Cn) : List SV := [.str c.name, .int .i64 c.arity, .int .i64 c.tag, .int .i64 c.family]
def Cn.sv (c : Cn) : SV := .agg c.cells
def cnCells (l : List Cn) : List SV := l.map Cn.sv
structure Pg where
  cons : List Cn
  binds : List Bd
def Pg.cells (p : Pg) : List SV := [.list 4 (cnCells p.cons), .list 9 (bdCells p.binds)]
def Pg.sv (p : Pg) : SV := .agg p.cells
theorem cnCells_len (l : List Cn) : (cnCells l).length = l.length := by simp [cnCells]
theorem cnCells_get (l : List Cn) {i : Nat} (h : i < l.length) : (cnCells l)[i]? = some (.agg l[i].cells) := by simp [cnCells, h, Cn.sv]
theorem cnCells_get2 (l : List Cn) (i : Nat) : (cnCells l)[i]? = l[i]?.map fun c => .agg [.str c.name, .int .i64 c.arity, .int .i64 c.tag, .int .i64 c.family] := by simp [cnCells, Cn.sv, Cn.cells]; rfl
attribute [go_sem] cnCells_len cnCells_get2
theorem cnCells_under (n : Nat) (l : List Cn) : SV.underL n (cnCells l) = true := SV.underL_map fun _ _ => by simp [Cn.sv, Cn.cells, SV.under, SV.underL]
theorem Cn.cells_len (c : Cn) : c.cells.length = 4 := rfl
def allF : Nat → (Ex → Bool) → Ex → Bool
  | 0, _, _ => true
  | m + 1, p, e => p e && e.parts.all (allF m p)
theorem allF_fuel (p : Ex → Bool) : ∀ (m m' : Nat) (e : Ex), e.wt ≤ m → e.wt ≤ m' → allF m p e = allF m' p e
  | 0, _, e, h, _ => absurd e.wt_pos (by omega)
  | m + 1, 0, e, _, h => absurd e.wt_pos (by omega)
  | m + 1, m' + 1, e, h, h' => by
    have h1 : e.parts.all (allF m p) = e.parts.all (allF m' p) := by
      rw [Bool.eq_iff_iff, List.all_eq_true, List.all_eq_true]
      refine forall_congr' fun x => forall_congr' fun hx => ?_
      have := Ex.wt_parts hx
      rw [allF_fuel p m m' x (by omega) (by omega)]
    rw [allF, allF, h1]
def allS (p : Ex → Bool) (e : Ex) : Bool := allF e.wt p e
theorem allS_eq (p : Ex → Bool) (e : Ex) : allS p e = (p e && e.parts.all (allS p)) := by
  have hp := e.wt_pos
  obtain ⟨m, hm⟩ : ∃ m, e.wt = m + 1 := ⟨e.wt - 1, by omega⟩
  have h1 : e.parts.all (allF m p) = e.parts.all (allS p) := by
    rw [Bool.eq_iff_iff, List.all_eq_true, List.all_eq_true]
    refine forall_congr' fun x => forall_congr' fun hx => ?_
    have := Ex.wt_parts hx
    rw [allS, allF_fuel p m x.wt x (by omega) (Nat.le_refl _)]
  rw [allS, hm, allF, h1]
def argS (op : Int) : Int := if 1 ≤ op ∧ op ≤ 8 then 2 else if op = 10 then 1 else if op = 9 ∨ op = 11 then 0 else -1
def badAl (a : Al) : Bool := if a.kind = 1 then !decide (a.n = 0) else if a.kind = 2 then (!decide (a.name = []) || decide (0 < a.names.length)) else if a.kind = 3 then (!decide (a.name = []) || decide (0 < a.names.length) || !decide (a.n = 0)) else true
def oddS (name names binds alts op n : Bool) (subs : Int) : Ex → Bool
  | .mk kd nm nn o ns ss bs als => (!name && !decide (nm = [])) || (!names && decide (0 < ns.length)) || (!binds && decide (0 < bs.length)) || (!alts && decide (0 < als.length)) || (!op && !decide (o = 0)) || (op && decide (argS o < 0)) || (!n && !decide (nn = 0)) || (decide (0 ≤ subs) && !decide ((ss.length : Int) = subs))
def shpC (e : Ex) : Bool :=
  if e.kind = 1 then !oddS true false false false false false 0 e && !(e.alts.any badAl)
  else if e.kind = 2 then !oddS false false false false false true 0 e && !(e.alts.any badAl)
  else if e.kind = 3 then !oddS false true false false false false 1 e && !(e.alts.any badAl)
  else if e.kind = 4 then !oddS false false false false false false (-1) e && !(e.alts.any badAl)
  else if e.kind = 5 then !oddS false false true false false false 1 e && !(e.alts.any badAl)
  else if e.kind = 6 then !oddS true false false true false false 1 e && !(e.alts.any badAl)
  else if e.kind = 7 then !oddS true false false false false false (-1) e && !(e.alts.any badAl)
  else if e.kind = 8 then !oddS false false false false true false (-1) e && !(e.alts.any badAl)
  else false
def esC (l : List Cn) : List (SV × SV) := l.map fun c => (.str c.name, c.sv)
def findCn : List Cn → Str → Option Cn
  | [], _ => none
  | c :: r, s => if s = c.name then some c else findCn r s
def noCn : Cn := ⟨[], 0, 0, 0⟩
def getCn (l : List Cn) (s : Str) : Cn := (findCn l s).getD noCn
theorem findSV_esC : ∀ (l : List Cn) (s : Str), findSV (esC l) (.str s) = (findCn l s).map Cn.sv
  | [], s => rfl
  | c :: r, s => by
    simp only [esC, List.map_cons, findSV, SV.keyEq, findCn]
    by_cases h : s = c.name
    · simp [h]
    · simp only [beq_eq_false_iff_ne.2 h, h, if_false, Bool.false_eq_true]
      exact findSV_esC r s
theorem findSV_esC0 (l : List Cn) (s : Str) : (findSV (esC l) (.str s)).getD (.agg [.str [], .int .i64 0, .int .i64 0, .int .i64 0]) = .agg (getCn l s).cells := by
  rw [findSV_esC, getCn]
  cases findCn l s <;> rfl
theorem esC_has (l : List Cn) (s : Str) : (findSV (esC l) (.str s)).isSome = (findCn l s).isSome := by
  rw [findSV_esC]; cases findCn l s <;> rfl
theorem setSV_esC : ∀ (l : List Cn) (c : Cn), findCn l c.name = none → setSV (esC l) (.str c.name) (.agg c.cells) = esC (l ++ [c])
  | [], c, _ => rfl
  | d :: r, c, h => by
    simp only [esC, List.map_cons, setSV, SV.keyEq, findCn, List.cons_append] at h ⊢
    by_cases h2 : c.name = d.name
    · rw [if_pos h2] at h; cases h
    · rw [if_neg h2] at h
      simp only [beq_eq_false_iff_ne.2 h2, if_false, Bool.false_eq_true]
      rw [show setSV (List.map _ r) (.str c.name) (.agg c.cells) = _ from setSV_esC r c h]
      rfl
theorem esC_under (n : Nat) : ∀ l : List Cn, belowE n (esC l) = true
  | [] => rfl
  | p :: l => by simp only [esC, List.map_cons, belowE, SV.under, SV.underL, Cn.sv, Cn.cells, Bool.and_self, Bool.true_and]; exact esC_under n l
def eqS (a b : Str) : Bool := decide (a = b)
def okCn (l : List Cn) (c : Cn) : Bool := !((findCn l c.name).isSome || eqS c.name [] || decide (c.arity < 0) || decide (100 < c.arity) || decide (c.family < 1) || decide (1000 < c.family) || decide (c.tag < 0) || decide (c.family ≤ c.tag))
def okCns : List Cn → List Cn → Bool
  | _, [] => true
  | l, c :: r => okCn l c && okCns (l ++ [c]) r
def hasCn (l : List Cn) (s : Str) (k : Int) : Bool := (findCn l s).isSome && decide ((getCn l s).arity = k)
def fulS (l : List Cn) (e : Ex) : Bool :=
  if e.kind = 3 then decide (0 < e.names.length) else if e.kind = 4 then decide (1 < e.subs.length) else if e.kind = 5 then decide (0 < e.binds.length)
  else if e.kind = 7 then hasCn l e.name e.subs.length else if e.kind = 8 then decide ((e.subs.length : Int) = argS e.op)
  else !(e.alts.any fun a => decide (a.kind = 1) && !hasCn l a.name a.names.length)
def restS (l : List Al) : List Al := if l.length = 0 then l else if ((l.getLast?.map Al.kind).getD 0) = 3 then l.take (l.length - 1) else l
def oddAl (cs : List Cn) (l : List Al) (k0 : Int) (s0 : Str) (a : Al) : Bool :=
  decide (a.kind = 3) || !decide (a.kind = k0) || (decide (a.name ∈ l.map Al.name) && decide (a.kind = 1)) || (decide (a.n ∈ l.map Al.n) && decide (a.kind = 2)) || (decide (a.kind = 1) && !decide ((getCn cs a.name).family = (getCn cs s0).family))
def oddAls (cs : List Cn) (k0 : Int) (s0 : Str) : List Al → List Al → Bool
  | _, [] => false
  | l, a :: r => oddAl cs l k0 s0 a || oddAls cs k0 s0 (l ++ [a]) r
def hdK (l : List Al) : Int := (l.head?.map Al.kind).getD 0
def hdN (l : List Al) : Str := (l.head?.map Al.name).getD []
def chsS (cs : List Cn) (e : Ex) : Bool := if e.kind ≠ 6 then true else !oddAls cs (hdK (restS e.alts)) (hdN (restS e.alts)) [] (restS e.alts) && decide (0 < e.alts.length)
def kno4 : List Cn := [⟨[80, 114, 105, 109, 46, 70, 97, 108, 115, 101], 0, 0, 2⟩, ⟨[80, 114, 105, 109, 46, 84, 114, 117, 101], 0, 1, 2⟩, ⟨[80, 114, 105, 109, 46, 40, 41], 0, 0, 1⟩, ⟨[80, 114, 105, 109, 46, 66, 111, 120], 1, 0, 1⟩]
def knoS (l : List Cn) : Bool := kno4.all fun c => decide (getCn l c.name = c)
def bindersP (l : List Bd) : List Str := l.flatMap fun b => b.name :: bnds b.e
def dedNs (l : List Str) : Nat → List Str
  | 0 => []
  | m + 1 => if 0 < m ∧ l.getD m [] = l.getD (m - 1) [] then dedNs l m else dedNs l m ++ [l.getD m []]
def dedS (l : List Str) : List Str := dedNs l l.length
def badNames (l : List Bd) : Bool := (decide (0 < (bindersP l).length) && eqS ((sortS (bindersP l)).getD 0 []) []) || decide ((dedS (sortS (bindersP l))).length ≠ (bindersP l).length)
def topB (l : List Bd) : List (Str × Int) := l.foldl (fun t b => setB t b.name 1) []
def bndS (t : List (Str × Int)) (b : Bd) : Bool := decide ((unbF b.e.wt b.e (t, [])).2.length = 0)
def mainN : Str := [77, 97, 105, 110, 46, 109, 97, 105, 110]
def sizeP (l : List Bd) : Nat := (l.map fun b => b.e.size).sum
def depP (l : List Bd) : Nat := maxL (l.map fun b => dep b.e)
def lintS (p : Pg) : Int :=
  if 100000 < sizeP p.binds then 3 else if 1000 < depP p.binds then 4
  else if !(p.binds.all fun b => allS shpC b.e) then 120
  else if !okCns [] p.cons then 121
  else if badNames p.binds then 122
  else if !(p.binds.all (bndS (topB p.binds))) then 123
  else if !(knoS p.cons && p.binds.all fun b => allS (fulS p.cons) b.e) then 124
  else if !(p.binds.all fun b => allS (chsS p.cons) b.e) then 125
  else if cntB (topB p.binds) mainN = 0 then 126 else 0
end Go.Proofs.YtehfihnfeakmaaaGreatDoor
end

section
namespace Go.Proofs.YtehfihnfeakmaaaGreatDoor
open Go
structure Od where
  name : Str
  arity : Int
  nums : List Int
deriving Inhabited
def intL (l : List Int) : List SV := l.map (SV.int .i64)
def Od.cells (o : Od) : List SV := [.str o.name, .int .i64 o.arity, .list 1 (intL o.nums)]
def Od.sv (o : Od) : SV := .agg o.cells
def odCells (l : List Od) : List SV := l.map Od.sv
theorem intL_len (l : List Int) : (intL l).length = l.length := by simp [intL]
theorem odCells_len (l : List Od) : (odCells l).length = l.length := by simp [odCells]
theorem intL_under (n : Nat) (l : List Int) : SV.underL n (intL l) = true := SV.underL_map fun _ _ => rfl
theorem Od.under (n : Nat) (o : Od) : SV.underL n o.cells = true := by simp [Od.cells, SV.underL, SV.under, intL_under]
theorem odCells_under (n : Nat) (l : List Od) : SV.underL n (odCells l) = true := SV.underL_map fun o _ => o.under n
def vrsF : Nat → Ex → List Str
  | 0, _ => []
  | m + 1, e => (if e.kind = 1 then [e.name] else []) ++ e.parts.flatMap (vrsF m)
def calmB (op : Int) : Bool := decide (1 ≤ op) && decide (op ≤ 8) && decide (op ≠ 4) && decide (op ≠ 5)
def simF : Nat → Ex → Bool
  | 0, _ => false
  | m + 1, e => if e.kind = 2 ∨ e.kind = 1 then true else if e.kind = 8 then calmB e.op && !(e.subs.any fun s => !simF m s) else false
def findOd : List Od → Str → Option Od
  | [], _ => none
  | o :: r, s => if s = o.name then some o else findOd r s
def noOd : Od := ⟨[], 0, []⟩
def getOd (l : List Od) (s : Str) : Od := (findOd l s).getD noOd
def knoF : List Od → List Od → List Od
  | k, [] => k
  | k, o :: r => if (findOd k o.name).isSome then knoF k r else knoF (k ++ [o]) r
def callO (k : List Od) (e : Ex) : Od × Bool :=
  match e.subs with
  | [] => (noOd, false)
  | s :: r => if s.kind ≠ 1 then (noOd, false) else (getOd k s.name, (findOd k s.name).isSome && decide ((getOd k s.name).arity < ((s :: r).length : Int)))
def joinF (l more : List Str) : List Str := more.foldl putO l
def untilF (l names : List Str) : List Str := l.takeWhile fun n => !decide (n ∈ names)
def rowF (f : Ex → List Str) (sim : Ex → Bool) : List Str → List Ex → List Str
  | out, [] => out
  | out, e :: r => if sim e then rowF f sim (joinF out (f e)) r else joinF out (f e)
def noEx : Ex := .mk 0 [] 0 0 [] [] [] []
def argsF (subs : List Ex) : List Int → List Ex
  | [] => []
  | n :: r => if n < 0 ∨ (subs.length : Int) - 1 ≤ n then [] else (subs.getD (n.toNat + 1) noEx) :: argsF subs r
def lcp : List Str → List Str → List Str
  | x :: a, y :: b => if x = y then x :: lcp a b else []
  | _, _ => []
def altF (f : Ex → List Str) (nm : Str) (out : List Str) (a : Al) : List Str := untilF ((f a.body).filter fun n => !(decide (n = nm) || decide (n ∈ out))) a.names
def comF (f : Ex → List Str) (nm : Str) (out : List Str) : List Str → List Al → List Str
  | c, [] => c
  | c, a :: r => comF f nm out (lcp c (altF f nm out a)) r
def comA (f : Ex → List Str) (nm : Str) (out : List Str) : List Al → List Str
  | [] => []
  | a :: r => comF f nm out (altF f nm out a) r
def chcF (f : Ex → List Str) (sim : Ex → Bool) (nm : Str) (s : Ex) (alts : List Al) : List Str := if sim s then joinF (f s) (comA f nm (f s) alts) else f s
def fstF (sim : Ex → Bool) (k : List Od) : Nat → Ex → List Str
  | 0, _ => []
  | m + 1, e => if e.kind = 1 then [e.name] else
    match e.subs with
    | [] => []
    | s :: r =>
      if e.kind = 8 then (if 0 < r.length ∧ 1 ≤ e.op ∧ e.op ≤ 8 then rowF (fstF sim k m) sim [] (e.subs.take 2) else fstF sim k m s)
      else if e.kind = 4 then (if (callO k e).2 then rowF (fstF sim k m) sim [] (argsF e.subs (callO k e).1.nums) else fstF sim k m s)
      else if e.kind = 5 then untilF (fstF sim k m s) (e.binds.map Bd.name)
      else if e.kind = 6 then chcF (fstF sim k m) sim e.name s e.alts
      else []
end Go.Proofs.YtehfihnfeakmaaaGreatDoor
end

section
namespace Go.Proofs.YtehfihnfeakmaaaGreatDoor
open Go
theorem memJ {l : List Str} {s t : Str} : s ∈ putO l t ↔ s ∈ l ∨ s = t := by
  unfold putO
  split
  · rename_i h
    constructor
    · exact .inl
    · rintro (h2 | rfl)
      · exact h2
      · exact h
  · simp
theorem mem_joinF {s : Str} : ∀ {more l : List Str}, s ∈ joinF l more ↔ s ∈ l ∨ s ∈ more
  | [], l => by simp [joinF]
  | t :: r, l => by
    rw [joinF, List.foldl_cons, ← joinF, mem_joinF (more := r), memJ, List.mem_cons]
    constructor
    · rintro ((h | h) | h)
      · exact .inl h
      · exact .inr (.inl h)
      · exact .inr (.inr h)
    · rintro (h | h | h)
      · exact .inl (.inl h)
      · exact .inl (.inr h)
      · exact .inr h
theorem joinF_nodup : ∀ {more l : List Str}, l.Nodup → (joinF l more).Nodup
  | [], l, h => h
  | t :: r, l, h => by rw [joinF, List.foldl_cons, ← joinF]; exact joinF_nodup (putO_nodup h t)
theorem mem_untilF {s : Str} {l names : List Str} (h : s ∈ untilF l names) : s ∈ l ∧ s ∉ names := by
  refine ⟨(List.takeWhile_sublist _).subset h, ?_⟩
  induction l with
  | nil => cases h
  | cons x r ih =>
    rw [untilF, List.takeWhile_cons] at h
    split at h
    · rename_i hx
      rcases List.mem_cons.1 h with rfl | h
      · simpa using hx
      · exact ih h
    · cases h
theorem untilF_nodup {l names : List Str} (h : l.Nodup) : (untilF l names).Nodup := (List.takeWhile_sublist _).nodup h
theorem lcp_sub : ∀ (a b : List Str), (lcp a b).Sublist a
  | [], b => by simp [lcp]
  | x :: a, [] => by simp [lcp]
  | x :: a, y :: b => by
    rw [lcp]
    split
    · exact (lcp_sub a b).cons_cons x
    · exact List.nil_sublist _
theorem comF_sub (f : Ex → List Str) (nm : Str) (out : List Str) : ∀ (l : List Al) (c : List Str), (comF f nm out c l).Sublist c
  | [], c => List.Sublist.refl _
  | a :: r, c => (comF_sub f nm out r _).trans (lcp_sub _ _)
theorem comA_sub (f : Ex → List Str) (nm : Str) (out : List Str) (hf : ∀ e, (f e).Nodup) : ∀ (l : List Al), (comA f nm out l).Nodup ∧ ∀ s ∈ comA f nm out l, ∃ a ∈ l, s ∈ altF f nm out a
  | [] => ⟨List.nodup_nil, fun s h => by cases h⟩
  | a :: r => by
    have h := comF_sub f nm out r (altF f nm out a)
    refine ⟨h.nodup (untilF_nodup ((List.filter_sublist ..).nodup (hf _))), fun s hs => ⟨a, List.mem_cons_self .., h.subset hs⟩⟩
theorem rowF_mem (f : Ex → List Str) (sim : Ex → Bool) {s : Str} : ∀ (l : List Ex) (out : List Str), s ∈ rowF f sim out l → s ∈ out ∨ ∃ e ∈ l, s ∈ f e
  | [], out, h => .inl h
  | e :: r, out, h => by
    rw [rowF] at h
    split at h
    · rcases rowF_mem f sim r _ h with h | ⟨x, h1, h2⟩
      · rcases mem_joinF.1 h with h | h
        · exact .inl h
        · exact .inr ⟨e, List.mem_cons_self .., h⟩
      · exact .inr ⟨x, List.mem_cons_of_mem _ h1, h2⟩
    · rcases mem_joinF.1 h with h | h
      · exact .inl h
      · exact .inr ⟨e, List.mem_cons_self .., h⟩
theorem rowF_nodup (f : Ex → List Str) (sim : Ex → Bool) : ∀ (l : List Ex) (out : List Str), out.Nodup → (rowF f sim out l).Nodup
  | [], out, h => h
  | e :: r, out, h => by
    rw [rowF]
    split
    · exact rowF_nodup f sim r _ (joinF_nodup h)
    · exact joinF_nodup h
theorem argsF_mem (subs : List Ex) {x : Ex} : ∀ (l : List Int), x ∈ argsF subs l → x ∈ subs
  | [], h => by cases h
  | n :: r, h => by
    rw [argsF] at h
    split at h
    · cases h
    · rename_i hn
      rcases List.mem_cons.1 h with h | h
      · subst h
        have : n.toNat + 1 < subs.length := by omega
        rw [List.getD_eq_getElem?_getD, List.getElem?_eq_getElem this]
        exact List.getElem_mem this
      · exact argsF_mem subs r h
theorem fst_nodup (sim : Ex → Bool) (k : List Od) : ∀ (m : Nat) (e : Ex), (fstF sim k m e).Nodup
  | 0, e => List.nodup_nil
  | m + 1, e => by
    have ih := fst_nodup sim k m
    rw [fstF]
    split
    · simp
    · split
      · simp
      · rename_i s r _
        split
        · split
          · exact rowF_nodup _ _ _ _ List.nodup_nil
          · exact ih s
        · split
          · split
            · exact rowF_nodup _ _ _ _ List.nodup_nil
            · exact ih s
          · split
            · exact untilF_nodup (ih s)
            · split
              · unfold chcF
                split
                · exact joinF_nodup (ih s)
                · exact ih s
              · simp
end Go.Proofs.YtehfihnfeakmaaaGreatDoor
end

section
namespace Go.Proofs.YtehfihnfeakmaaaGreatDoor
open Go
set_option maxRecDepth 10000
set_option maxHeartbeats 4000000
theorem idxP_any {α : Type} (p : α → Bool) (l : List α) : (match l.findIdx? p with | some i => decide (0 ≤ (i : Int)) | none => false) = l.any p := by
  cases h : l.findIdx? p with
  | none => rw [List.findIdx?_eq_none_iff] at h; simp only; symm; rw [List.any_eq_false]; intro x hx; simp [h x hx]
  | some i =>
    obtain ⟨hi, hp, _⟩ := List.findIdx?_eq_some_iff_getElem.1 h
    have : (0 : Int) ≤ i := by omega
    simp only [this, decide_true]
    symm; rw [List.any_eq_true]
    exact ⟨_, List.getElem_mem hi, hp⟩
theorem anyBd_ok (G : Gl) (hG : GClosed G) (f : SV) (p : Bd → Bool) (V : List Bd) (H : List Blk) (hl : V.length < 1125899906842624) (hfu : f.under H.length = true)
    (hf : ∀ x ∈ V, ACallV Tryz.prog G f [x.sv] H (fun r H' => H' = H ∧ r = .bool (p x))) :
    ACall Tryz.prog G 46 [.list 9 (bdCells V), f] H (fun r H' => H' = H ∧ r = .bool (V.any p)) := by
  have hidx : ACall Tryz.prog G 102 [.list 9 (bdCells V), f] H (fun r H' => H' = H ∧ r = .int .i64 (match V.findIdx? p with | some i => (i : Int) | none => -1)) := by
    have hlm : (bdCells V).length = V.length := by rw [bdCells_map, List.length_map]
    refine ACall.of_go TB [] tabOK _ Tryz.func102 rfl (by decide) Tryz.ntmps102 (by simp) rfl (by simp only [initEnv, Nat.reduceAdd]; rfl) fun C R' hR hC hcl hB => ?_; have X := noX; have hC' := congrArg List.length hC
    have X := And.intro X hlm
    have hcl1 := hcl
    (refine run ?_; repeat' (first | with_reducible exact trivial | ((with_reducible apply Fork.mk) <;> intro hb) | with_reducible apply Two.mk))
    refine go_loop (fun k : Nat => [(0, .list 9 (bdCells V)), (1, f), (7, .int .i64 V.length), (8, .int .i64 k)]) (fun _ => H) (fun k => V.length - k) (fun k => k ≤ V.length ∧ ∀ x ∈ V.take k, p x = false) 0 ⟨Nat.zero_le _, by simp⟩ (Wk.sub (by simp [subEnv, look])) ?_
    rintro K k ⟨hk, hno⟩ hK
    rcases Nat.lt_or_ge k V.length with hlt | hge
    · have e1 : (bdCells V)[k]? = some (.agg V[k].cells) := by simp [bdCells_map, hlt, Bd.sv]
      have hfk := hf V[k] (List.getElem_mem hlt)
      have hsv : V[k].sv = .agg V[k].cells := rfl
      rw [hsv] at hfk
      have X := And.intro X e1
      (refine run ?_; repeat' (first | with_reducible exact trivial | ((with_reducible apply Fork.mk) <;> intro hb) | with_reducible apply Two.mk))
      refine callV hfk ?_
      rintro r H' ⟨rfl, rfl⟩
      (refine run ?_; repeat' (first | with_reducible exact trivial | ((with_reducible apply Fork.mk) <;> intro hb) | with_reducible apply Two.mk))
      · have hfi : V.findIdx? p = some k := by
          rw [List.findIdx?_eq_some_iff_getElem]
          refine ⟨hlt, by simpa using hb, fun j hj => ?_⟩
          have := hno (V[j]'(by omega)) (by rw [List.mem_take_iff_getElem]; exact ⟨j, by omega, rfl⟩)
          simp [this]
        refine Fin.out hR ⟨rfl, ?_⟩
        simp only [resSV, hfi]
      · refine hK _ _ (k + 1) (by omega) ⟨by omega, ?_⟩ (Wk.sub (by simp [subEnv, look]))
        rw [List.take_succ_eq_append_getElem hlt]
        intro x hx
        rcases List.mem_append.1 hx with hx | hx
        · exact hno x hx
        · rw [List.mem_singleton.1 hx]; exact hb
    · have : k = V.length := by omega
      subst this
      clear hK
      have X := And.intro X (Int.lt_irrefl (V.length : Int))
      (refine run ?_; repeat' (first | with_reducible exact trivial | ((with_reducible apply Fork.mk) <;> intro hb) | with_reducible apply Two.mk))
      have hfi : V.findIdx? p = none := by rw [List.findIdx?_eq_none_iff]; rw [List.take_length] at hno; exact hno
      refine Fin.out hR ⟨rfl, ?_⟩
      simp only [resSV, hfi]
  have h2 := idxP_any p V
  generalize hI : (match V.findIdx? p with | some i => (i : Int) | none => -1) = I at hidx
  refine ACall.of_go TB [] tabOK _ Tryz.func46 rfl (by decide) Tryz.ntmps46 (by simp) rfl (by simp only [initEnv, Nat.reduceAdd]; rfl) fun C R' hR hC hcl hB => ?_; have X := noX; have hC' := congrArg List.length hC
  (refine run ?_; repeat' (first | with_reducible exact trivial | ((with_reducible apply Fork.mk) <;> intro hb) | with_reducible apply Two.mk))
  refine callS hidx ?_
  rintro r H' ⟨rfl, rfl⟩
  (refine run ?_; repeat' (first | with_reducible exact trivial | ((with_reducible apply Fork.mk) <;> intro hb) | with_reducible apply Two.mk))
  refine Fin.out hR ⟨rfl, ?_⟩
  rw [← h2, ← hI]
  simp only [resSV]
  cases V.findIdx? p with
  | none => rfl
  | some i => rfl
theorem anyAl_ok (G : Gl) (hG : GClosed G) (f : SV) (p : Al → Bool) (V : List Al) (H : List Blk) (hl : V.length < 1125899906842624) (hfu : f.under H.length = true)
    (hf : ∀ x ∈ V, ACallV Tryz.prog G f [x.sv] H (fun r H' => H' = H ∧ r = .bool (p x))) :
    ACall Tryz.prog G 109 [.list 12 (alCells V), f] H (fun r H' => H' = H ∧ r = .bool (V.any p)) := by
  have hidx : ACall Tryz.prog G 141 [.list 12 (alCells V), f] H (fun r H' => H' = H ∧ r = .int .i64 (match V.findIdx? p with | some i => (i : Int) | none => -1)) := by
    have hlm : (alCells V).length = V.length := by rw [alCells_map, List.length_map]
    refine ACall.of_go TB [] tabOK _ Tryz.func141 rfl (by decide) Tryz.ntmps141 (by simp) rfl (by simp only [initEnv, Nat.reduceAdd]; rfl) fun C R' hR hC hcl hB => ?_; have X := noX; have hC' := congrArg List.length hC
    have X := And.intro X hlm
    have hcl1 := hcl
    (refine run ?_; repeat' (first | with_reducible exact trivial | ((with_reducible apply Fork.mk) <;> intro hb) | with_reducible apply Two.mk))
    refine go_loop (fun k : Nat => [(0, .list 12 (alCells V)), (1, f), (7, .int .i64 V.length), (8, .int .i64 k)]) (fun _ => H) (fun k => V.length - k) (fun k => k ≤ V.length ∧ ∀ x ∈ V.take k, p x = false) 0 ⟨Nat.zero_le _, by simp⟩ (Wk.sub (by simp [subEnv, look])) ?_
    rintro K k ⟨hk, hno⟩ hK
    rcases Nat.lt_or_ge k V.length with hlt | hge
    · have e1 : (alCells V)[k]? = some (.agg V[k].cells) := by simp [alCells_map, hlt, Al.sv]
      have hfk := hf V[k] (List.getElem_mem hlt)
      have hsv : V[k].sv = .agg V[k].cells := rfl
      rw [hsv] at hfk
      have X := And.intro X e1
      (refine run ?_; repeat' (first | with_reducible exact trivial | ((with_reducible apply Fork.mk) <;> intro hb) | with_reducible apply Two.mk))
      refine callV hfk ?_
      rintro r H' ⟨rfl, rfl⟩
      (refine run ?_; repeat' (first | with_reducible exact trivial | ((with_reducible apply Fork.mk) <;> intro hb) | with_reducible apply Two.mk))
      · have hfi : V.findIdx? p = some k := by
          rw [List.findIdx?_eq_some_iff_getElem]
          refine ⟨hlt, by simpa using hb, fun j hj => ?_⟩
          have := hno (V[j]'(by omega)) (by rw [List.mem_take_iff_getElem]; exact ⟨j, by omega, rfl⟩)
          simp [this]
        refine Fin.out hR ⟨rfl, ?_⟩
        simp only [resSV, hfi]
      · refine hK _ _ (k + 1) (by omega) ⟨by omega, ?_⟩ (Wk.sub (by simp [subEnv, look]))
        rw [List.take_succ_eq_append_getElem hlt]
        intro x hx
        rcases List.mem_append.1 hx with hx | hx
        · exact hno x hx
        · rw [List.mem_singleton.1 hx]; exact hb
    · have : k = V.length := by omega
      subst this
      clear hK
      have X := And.intro X (Int.lt_irrefl (V.length : Int))
      (refine run ?_; repeat' (first | with_reducible exact trivial | ((with_reducible apply Fork.mk) <;> intro hb) | with_reducible apply Two.mk))
      have hfi : V.findIdx? p = none := by rw [List.findIdx?_eq_none_iff]; rw [List.take_length] at hno; exact hno
      refine Fin.out hR ⟨rfl, ?_⟩
      simp only [resSV, hfi]
  have h2 := idxP_any p V
  generalize hI : (match V.findIdx? p with | some i => (i : Int) | none => -1) = I at hidx
  refine ACall.of_go TB [] tabOK _ Tryz.func109 rfl (by decide) Tryz.ntmps109 (by simp) rfl (by simp only [initEnv, Nat.reduceAdd]; rfl) fun C R' hR hC hcl hB => ?_; have X := noX; have hC' := congrArg List.length hC
  (refine run ?_; repeat' (first | with_reducible exact trivial | ((with_reducible apply Fork.mk) <;> intro hb) | with_reducible apply Two.mk))
  refine callS hidx ?_
  rintro r H' ⟨rfl, rfl⟩
  (refine run ?_; repeat' (first | with_reducible exact trivial | ((with_reducible apply Fork.mk) <;> intro hb) | with_reducible apply Two.mk))
  refine Fin.out hR ⟨rfl, ?_⟩
  rw [← h2, ← hI]
  simp only [resSV]
  cases V.findIdx? p with
  | none => rfl
  | some i => rfl
theorem anyEx_ok (G : Gl) (hG : GClosed G) (f : SV) (p : Ex → Bool) (V : List Ex) (H : List Blk) (hl : V.length < 1125899906842624) (hfu : f.under H.length = true)
    (hf : ∀ x ∈ V, ACallV Tryz.prog G f [x.sv] H (fun r H' => H' = H ∧ r = .bool (p x))) :
    ACall Tryz.prog G 143 [.list 8 (exCells V), f] H (fun r H' => H' = H ∧ r = .bool (V.any p)) := by
  have hidx : ACall Tryz.prog G 161 [.list 8 (exCells V), f] H (fun r H' => H' = H ∧ r = .int .i64 (match V.findIdx? p with | some i => (i : Int) | none => -1)) := by
    have hlm : (exCells V).length = V.length := by rw [exCells_map, List.length_map]
    refine ACall.of_go TB [] tabOK _ Tryz.func161 rfl (by decide) Tryz.ntmps161 (by simp) rfl (by simp only [initEnv, Nat.reduceAdd]; rfl) fun C R' hR hC hcl hB => ?_; have X := noX; have hC' := congrArg List.length hC
    have X := And.intro X hlm
    have hcl1 := hcl
    (refine run ?_; repeat' (first | with_reducible exact trivial | ((with_reducible apply Fork.mk) <;> intro hb) | with_reducible apply Two.mk))
    refine go_loop (fun k : Nat => [(0, .list 8 (exCells V)), (1, f), (7, .int .i64 V.length), (8, .int .i64 k)]) (fun _ => H) (fun k => V.length - k) (fun k => k ≤ V.length ∧ ∀ x ∈ V.take k, p x = false) 0 ⟨Nat.zero_le _, by simp⟩ (Wk.sub (by simp [subEnv, look])) ?_
    rintro K k ⟨hk, hno⟩ hK
    rcases Nat.lt_or_ge k V.length with hlt | hge
    · have e1 : (exCells V)[k]? = some (.agg V[k].cells) := by simp [exCells_map, hlt, Ex.sv]
      have hfk := hf V[k] (List.getElem_mem hlt)
      have hsv : V[k].sv = .agg V[k].cells := rfl
      rw [hsv] at hfk
      have X := And.intro X e1
      (refine run ?_; repeat' (first | with_reducible exact trivial | ((with_reducible apply Fork.mk) <;> intro hb) | with_reducible apply Two.mk))
      refine callV hfk ?_
      rintro r H' ⟨rfl, rfl⟩
      (refine run ?_; repeat' (first | with_reducible exact trivial | ((with_reducible apply Fork.mk) <;> intro hb) | with_reducible apply Two.mk))
      · have hfi : V.findIdx? p = some k := by
          rw [List.findIdx?_eq_some_iff_getElem]
          refine ⟨hlt, by simpa using hb, fun j hj => ?_⟩
          have := hno (V[j]'(by omega)) (by rw [List.mem_take_iff_getElem]; exact ⟨j, by omega, rfl⟩)
          simp [this]
        refine Fin.out hR ⟨rfl, ?_⟩
        simp only [resSV, hfi]
      · refine hK _ _ (k + 1) (by omega) ⟨by omega, ?_⟩ (Wk.sub (by simp [subEnv, look]))
        rw [List.take_succ_eq_append_getElem hlt]
        intro x hx
        rcases List.mem_append.1 hx with hx | hx
        · exact hno x hx
        · rw [List.mem_singleton.1 hx]; exact hb
    · have : k = V.length := by omega
      subst this
      clear hK
      have X := And.intro X (Int.lt_irrefl (V.length : Int))
      (refine run ?_; repeat' (first | with_reducible exact trivial | ((with_reducible apply Fork.mk) <;> intro hb) | with_reducible apply Two.mk))
      have hfi : V.findIdx? p = none := by rw [List.findIdx?_eq_none_iff]; rw [List.take_length] at hno; exact hno
      refine Fin.out hR ⟨rfl, ?_⟩
      simp only [resSV, hfi]
  have h2 := idxP_any p V
  generalize hI : (match V.findIdx? p with | some i => (i : Int) | none => -1) = I at hidx
  refine ACall.of_go TB [] tabOK _ Tryz.func143 rfl (by decide) Tryz.ntmps143 (by simp) rfl (by simp only [initEnv, Nat.reduceAdd]; rfl) fun C R' hR hC hcl hB => ?_; have X := noX; have hC' := congrArg List.length hC
  (refine run ?_; repeat' (first | with_reducible exact trivial | ((with_reducible apply Fork.mk) <;> intro hb) | with_reducible apply Two.mk))
  refine callS hidx ?_
  rintro r H' ⟨rfl, rfl⟩
  (refine run ?_; repeat' (first | with_reducible exact trivial | ((with_reducible apply Fork.mk) <;> intro hb) | with_reducible apply Two.mk))
  refine Fin.out hR ⟨rfl, ?_⟩
  rw [← h2, ← hI]
  simp only [resSV]
  cases V.findIdx? p with
  | none => rfl
  | some i => rfl
end Go.Proofs.YtehfihnfeakmaaaGreatDoor
end

section
namespace Go.Proofs.YtehfihnfeakmaaaGreatDoor
open Go
set_option maxRecDepth 10000
set_option maxHeartbeats 4000000
theorem eachP_ok (G : Gl) (hG : GClosed G) (e : Ex) (hw : e.wt < 549755813888) (fv : SV) (p : Ex → Bool) (H : List Blk) (hfu : fv.under H.length = true)
    (hy : ∀ x ∈ e.parts, ∀ X, ACallV Tryz.prog G fv [x.sv] (H ++ X) (fun r H' => H' = H ++ X ∧ r = .bool (p x))) :
    ACall Tryz.prog G 100 [e.sv, fv] H (fun r H' => H' = H ∧ r = .bool (e.parts.all p)) := by
  obtain ⟨kd, nm, nn, op, names, subs, binds, alts⟩ := e
  have hle := Ex.wt_lens kd nm nn op names subs binds alts
  rw [Ex.parts_mk] at hy ⊢
  rw [List.all_append, List.all_append, List.all_map, List.all_map]
  have p1 : ∀ i (h : i < subs.length), subs[i] ∈ subs ++ (binds.map Bd.e ++ alts.map Al.body) := fun i h => List.mem_append_left _ (List.getElem_mem h)
  have p2 : ∀ i (h : i < binds.length), binds[i].e ∈ subs ++ (binds.map Bd.e ++ alts.map Al.body) := fun i h => List.mem_append_right _ (List.mem_append_left _ (List.mem_map.2 ⟨_, List.getElem_mem h, rfl⟩))
  have p3 : ∀ i (h : i < alts.length), alts[i].body ∈ subs ++ (binds.map Bd.e ++ alts.map Al.body) := fun i h => List.mem_append_right _ (List.mem_append_right _ (List.mem_map.2 ⟨_, List.getElem_mem h, rfl⟩))
  refine ACall.of_go TB [] tabOK _ Tryz.func100 rfl (by decide) Tryz.ntmps100 (by simp) rfl (by simp only [initEnv, Nat.reduceAdd]; rfl) fun C R' hR hC hcl hB => ?_; have X := noX; have hC' := congrArg List.length hC
  have X := noX
  (refine runO ?_; repeat' (first | with_reducible exact trivial | ((with_reducible apply Fork.mk) <;> intro hb) | with_reducible apply Two.mk))
  refine go_loop (fun i : Nat => [(1, fv), (2, .ptr H.length 0 0 0), (12, .list 8 (exCells subs)), (13, .int .i64 subs.length), (14, .int .i64 i)])
    (fun i => H ++ [.cells 0 8 [.agg [.int .i64 kd, .str nm, .int .i64 nn, .int .i64 op, .list 1 (names.map .str), .list 8 (exCells subs), .list 9 (bdCells binds), .list 12 (alCells alts)]]]) (fun i => subs.length - i) (fun i => i ≤ subs.length ∧ ∀ x ∈ subs.take i, p x = true) 0 ⟨Nat.zero_le _, by simp⟩ ?_ ?_
  · exact wkS (n0 := H.length) [(H.length, 0)] hG hB hC' hcl
  rintro K i ⟨hi, hno⟩ hK
  rcases Nat.lt_or_ge i subs.length with hlt | hge
  · (refine runO ?_; repeat' (first | with_reducible exact trivial | ((with_reducible apply Fork.mk) <;> intro hb) | with_reducible apply Two.mk))
    refine callV (hy _ (p1 i (by omega)) _) ?_
    rintro r H' ⟨rfl, rfl⟩
    generalize hpv : p subs[i] = pv
    cases pv
    · have ef : subs.all p = false := by rw [List.all_eq_false]; exact ⟨_, List.getElem_mem hlt, by simp [hpv]⟩
      (refine runO ?_; repeat' (first | with_reducible exact trivial | ((with_reducible apply Fork.mk) <;> intro hb) | with_reducible apply Two.mk))
      exact finS (n0 := H.length) hR hC' hcl (.same _ rfl) ⟨rfl, by simp [ef, resSV]⟩
    · (refine runO ?_; repeat' (first | with_reducible exact trivial | ((with_reducible apply Fork.mk) <;> intro hb) | with_reducible apply Two.mk))
      refine hK _ _ (i + 1) (by omega) ⟨by omega, ?_⟩ ?_
      · rw [List.take_succ_eq_append_getElem hlt]
        intro x hx
        rcases List.mem_append.1 hx with hx | hx
        · exact hno x hx
        · rw [List.mem_singleton.1 hx]; exact hpv
      · exact wkS (n0 := H.length) [(H.length, 0)] hG hB hC' hcl
  obtain rfl : i = subs.length := by omega
  rw [List.take_length] at hno
  have e1 : subs.all p = true := List.all_eq_true.2 hno
  rw [e1, Bool.true_and] at hR
  clear hK hno
  (refine runO ?_; repeat' (first | with_reducible exact trivial | ((with_reducible apply Fork.mk) <;> intro hb) | with_reducible apply Two.mk))
  refine go_loop (fun i : Nat => [(1, fv), (2, .ptr H.length 0 0 0), (24, .list 9 (bdCells binds)), (25, .int .i64 binds.length), (26, .int .i64 i)])
    (fun i => H ++ [.cells 0 8 [.agg [.int .i64 kd, .str nm, .int .i64 nn, .int .i64 op, .list 1 (names.map .str), .list 8 (exCells subs), .list 9 (bdCells binds), .list 12 (alCells alts)]]]) (fun i => binds.length - i) (fun i => i ≤ binds.length ∧ ∀ x ∈ binds.take i, p x.e = true) 0 ⟨Nat.zero_le _, by simp⟩ ?_ ?_
  · exact wkS (n0 := H.length) [(H.length, 0)] hG hB hC' hcl
  rintro K i ⟨hi, hno⟩ hK
  rcases Nat.lt_or_ge i binds.length with hlt | hge
  · (refine runO ?_; repeat' (first | with_reducible exact trivial | ((with_reducible apply Fork.mk) <;> intro hb) | with_reducible apply Two.mk))
    refine callV (hy _ (p2 i (by omega)) _) ?_
    rintro r H' ⟨rfl, rfl⟩
    generalize hpv : p binds[i].e = pv
    cases pv
    · have ef : binds.all (p ∘ Bd.e) = false := by rw [List.all_eq_false]; exact ⟨_, List.getElem_mem hlt, by simp [hpv]⟩
      (refine runO ?_; repeat' (first | with_reducible exact trivial | ((with_reducible apply Fork.mk) <;> intro hb) | with_reducible apply Two.mk))
      exact finS (n0 := H.length) hR hC' hcl (.same _ rfl) ⟨rfl, by simp [ef, resSV]⟩
    · (refine runO ?_; repeat' (first | with_reducible exact trivial | ((with_reducible apply Fork.mk) <;> intro hb) | with_reducible apply Two.mk))
      refine hK _ _ (i + 1) (by omega) ⟨by omega, ?_⟩ ?_
      · rw [List.take_succ_eq_append_getElem hlt]
        intro x hx
        rcases List.mem_append.1 hx with hx | hx
        · exact hno x hx
        · rw [List.mem_singleton.1 hx]; exact hpv
      · exact wkS (n0 := H.length) [(H.length, 0)] hG hB hC' hcl
  obtain rfl : i = binds.length := by omega
  rw [List.take_length] at hno
  have e2 : binds.all (p ∘ Bd.e) = true := List.all_eq_true.2 hno
  rw [e2, Bool.true_and] at hR
  clear hK hno
  (refine runO ?_; repeat' (first | with_reducible exact trivial | ((with_reducible apply Fork.mk) <;> intro hb) | with_reducible apply Two.mk))
  refine go_loop (fun i : Nat => [(1, fv), (2, .ptr H.length 0 0 0), (37, .list 12 (alCells alts)), (38, .int .i64 alts.length), (39, .int .i64 i)])
    (fun i => H ++ [.cells 0 8 [.agg [.int .i64 kd, .str nm, .int .i64 nn, .int .i64 op, .list 1 (names.map .str), .list 8 (exCells subs), .list 9 (bdCells binds), .list 12 (alCells alts)]]]) (fun i => alts.length - i) (fun i => i ≤ alts.length ∧ ∀ x ∈ alts.take i, p x.body = true) 0 ⟨Nat.zero_le _, by simp⟩ ?_ ?_
  · exact wkS (n0 := H.length) [(H.length, 0)] hG hB hC' hcl
  rintro K i ⟨hi, hno⟩ hK
  rcases Nat.lt_or_ge i alts.length with hlt | hge
  · (refine runO ?_; repeat' (first | with_reducible exact trivial | ((with_reducible apply Fork.mk) <;> intro hb) | with_reducible apply Two.mk))
    refine callV (hy _ (p3 i (by omega)) _) ?_
    rintro r H' ⟨rfl, rfl⟩
    generalize hpv : p alts[i].body = pv
    cases pv
    · have ef : alts.all (p ∘ Al.body) = false := by rw [List.all_eq_false]; exact ⟨_, List.getElem_mem hlt, by simp [hpv]⟩
      (refine runO ?_; repeat' (first | with_reducible exact trivial | ((with_reducible apply Fork.mk) <;> intro hb) | with_reducible apply Two.mk))
      exact finS (n0 := H.length) hR hC' hcl (.same _ rfl) ⟨rfl, by simp [ef, resSV]⟩
    · (refine runO ?_; repeat' (first | with_reducible exact trivial | ((with_reducible apply Fork.mk) <;> intro hb) | with_reducible apply Two.mk))
      refine hK _ _ (i + 1) (by omega) ⟨by omega, ?_⟩ ?_
      · rw [List.take_succ_eq_append_getElem hlt]
        intro x hx
        rcases List.mem_append.1 hx with hx | hx
        · exact hno x hx
        · rw [List.mem_singleton.1 hx]; exact hpv
      · exact wkS (n0 := H.length) [(H.length, 0)] hG hB hC' hcl
  obtain rfl : i = alts.length := by omega
  rw [List.take_length] at hno
  have e3 : alts.all (p ∘ Al.body) = true := List.all_eq_true.2 hno
  rw [e3] at hR
  clear hK hno
  (refine runO ?_; repeat' (first | with_reducible exact trivial | ((with_reducible apply Fork.mk) <;> intro hb) | with_reducible apply Two.mk))
  exact finS (n0 := H.length) hR hC' hcl (.same _ rfl) ⟨rfl, rfl⟩
def AnsV (G : Gl) (fid : FuncId) (fi ca : List SV) (p : Ex → Bool) (H : List Blk) (m : Nat) : Prop := ∀ x : Ex, x.wt ≤ m → ∀ X, ACallV Tryz.prog G (.fn (.func fid) fi ca) [x.sv] (H ++ X) (fun r H' => H' = H ++ X ∧ r = .bool (p x))
theorem AnsV.app {G : Gl} {fid : FuncId} {fi ca : List SV} {p : Ex → Bool} {H : List Blk} {m : Nat} (h : AnsV G fid fi ca p H m) (L : List Blk) : AnsV G fid fi ca p (H ++ L) m := fun x hx X => by rw [List.append_assoc]; exact h x hx _
def AllP (G : Gl) (fid : FuncId) (fi ca : List SV) (p : Ex → Bool) (m : Nat) : Prop := ∀ (e : Ex) (H : List Blk), e.wt ≤ m → (SV.fn (.func fid) fi ca).under H.length = true → AnsV G fid fi ca p H m →
  ACall Tryz.prog G 48 [e.sv, .fn (.func fid) fi ca] H (fun r H' => H' = H ∧ r = .bool (allS p e))
theorem allP1_ok (G : Gl) (hG : GClosed G) (fid : FuncId) (fi ca : List SV) (p : Ex → Bool) (m : Nat) (hrec : AllP G fid fi ca p m) (e : Ex) (H : List Blk) (ib : Nat) (he : e.wt ≤ m) (hib : H[ib]? = some (.cells 0 1 [.fn (.func fid) fi ca])) (hfu : (SV.fn (.func fid) fi ca).under H.length = true) (hy : AnsV G fid fi ca p H m) :
    ACall Tryz.prog G 103 [e.sv, .ptr ib 0 0 0] H (fun r H' => H' = H ∧ r = .bool (allS p e)) := by
  have hlt2 : ib < H.length := (List.getElem?_eq_some_iff.1 hib).1
  refine ACall.of_go TB [] tabOK _ Tryz.func103 rfl (by decide) Tryz.ntmps103 (by simp) rfl (by simp only [initEnv, Nat.reduceAdd]; rfl) fun C R' hR hC hcl hB => ?_; have X := noX; have hC' := congrArg List.length hC
  have X := hib
  (refine run ?_; repeat' (first | with_reducible exact trivial | ((with_reducible apply Fork.mk) <;> intro hb) | with_reducible apply Two.mk))
  refine callS (hrec e _ he ((SV.below_mono_both (by simp)).1 _ hfu) (hy.app _)) ?_
  rintro r H' ⟨rfl, rfl⟩
  (refine run ?_; repeat' (first | with_reducible exact trivial | ((with_reducible apply Fork.mk) <;> intro hb) | with_reducible apply Two.mk))
  exact finS (n0 := H.length) hR hC' hcl (.same _ rfl) ⟨rfl, rfl⟩
theorem AnsV.mono {G : Gl} {fid : FuncId} {fi ca : List SV} {p : Ex → Bool} {H : List Blk} {m m' : Nat} (h : AnsV G fid fi ca p H m) (hm : m' ≤ m) : AnsV G fid fi ca p H m' := fun x hx X => h x (Nat.le_trans hx hm) X
theorem allP_ok (G : Gl) (hG : GClosed G) (fid : FuncId) (fi ca : List SV) (p : Ex → Bool) : ∀ m, m < 549755813888 → AllP G fid fi ca p m
  | 0, _, e, _, h, _, _ => absurd e.wt_pos (by omega)
  | m + 1, hm2, e, H, hm, hfu, hy => by
    have hrec := allP_ok G hG fid fi ca p m (by omega)
    have hae := allS_eq p e
    rw [hae]
    refine ACall.of_go TB [] tabOK _ Tryz.func48 rfl (by decide) Tryz.ntmps48 (by simp) rfl (by simp only [initEnv, Nat.reduceAdd]; rfl) fun C R' hR hC hcl hB => ?_; have X := noX; have hC' := congrArg List.length hC
    (refine run ?_; repeat' (first | with_reducible exact trivial | ((with_reducible apply Fork.mk) <;> intro hb) | with_reducible apply Two.mk))
    refine callV (hy e hm _) ?_
    rintro r H' ⟨rfl, rfl⟩
    generalize hpv : p e = pv
    cases pv
    · (refine run ?_; repeat' (first | with_reducible exact trivial | ((with_reducible apply Fork.mk) <;> intro hb) | with_reducible apply Two.mk))
      exact finS (n0 := H.length) hR hC' hcl (.same _ rfl) ⟨rfl, by simp [hpv, resSV]⟩
    · (refine run ?_; repeat' (first | with_reducible exact trivial | ((with_reducible apply Fork.mk) <;> intro hb) | with_reducible apply Two.mk))
      refine callS (eachP_ok G hG e (by omega) (.fn (.func 103) [] [.ptr (H.length + 1) 0 0 0]) (allS p) _ (by simp [SV.under, SV.underL]) (fun x hx X => by
        have hpw := Ex.wt_parts hx
        refine ACallV.of (first := []) (args := [x.sv]) (cap := [.ptr (H.length + 1) 0 0 0]) (allP1_ok G hG fid fi ca p m hrec x _ (H.length + 1) (by omega) (by rw [List.append_assoc]; simp) ((SV.below_mono_both (by simp)).1 _ hfu) ((hy.mono (by omega)).app _ |>.app _)))) ?_
      rintro r H' ⟨rfl, rfl⟩
      (refine run ?_; repeat' (first | with_reducible exact trivial | ((with_reducible apply Fork.mk) <;> intro hb) | with_reducible apply Two.mk))
      exact finS (n0 := H.length) hR hC' hcl (.same _ rfl) ⟨rfl, by simp [hpv, resSV]⟩
end Go.Proofs.YtehfihnfeakmaaaGreatDoor
end

section
namespace Go.Proofs.YtehfihnfeakmaaaGreatDoor
open Go
set_option maxRecDepth 10000
set_option maxHeartbeats 4000000
theorem calm_ok (G : Gl) (op : Int) (H : List Blk) : ACall Tryz.prog G 142 [.int .i64 op] H (fun r H' => H' = H ∧ r = .bool (calmB op)) := by
  refine ACall.of_go TB [] tabOK _ Tryz.func142 rfl (by decide) Tryz.ntmps142 (by simp) rfl (by simp only [initEnv, Nat.reduceAdd]; rfl) fun C R' hR hC hcl hB => ?_; have X := noX; have hC' := congrArg List.length hC
  (refine run ?_; repeat' (first | with_reducible exact trivial | ((with_reducible apply Fork.mk) <;> intro hb) | with_reducible apply Two.mk))
  all_goals (refine Fin.out hR ⟨rfl, ?_⟩; simp only [resSV, calmB]; try simp only [decide_not])
def simS (e : Ex) : Bool := simF e.wt e
def SimC (G : Gl) (m : Nat) : Prop := ∀ (e : Ex) (H : List Blk), e.wt ≤ m → ACall Tryz.prog G 114 [e.sv] H (fun r H' => H' = H ∧ r = .bool (simF m e))
theorem simple1_ok (G : Gl) (hG : GClosed G) (m : Nat) (hrec : SimC G m) (e : Ex) (he : e.wt ≤ m) (H : List Blk) : ACall Tryz.prog G 144 [e.sv] H (fun r H' => H' = H ∧ r = .bool (!simF m e)) := by
  have c1 := fun L => hrec e (H ++ L) he
  refine ACall.of_go TB [] tabOK _ Tryz.func144 rfl (by decide) Tryz.ntmps144 (by simp) rfl (by simp only [initEnv, Nat.reduceAdd]; rfl) fun C R' hR hC hcl hB => ?_; have X := noX; have hC' := congrArg List.length hC
  (refine run ?_; repeat' (first | with_reducible exact trivial | ((with_reducible apply Fork.mk) <;> intro hb) | with_reducible apply Two.mk))
  exact finS (n0 := H.length) hR hC' hcl (.same _ rfl) ⟨rfl, rfl⟩
theorem simple_ok (G : Gl) (hG : GClosed G) : ∀ m, m < 4294967296 → SimC G m
  | 0, _, e, _, h => absurd e.wt_pos (by omega)
  | m + 1, hm2, .mk kd nm nn op names subs binds alts, H, hm => by
    have hrec := simple_ok G hG m (by omega)
    have hle := Ex.wt_lens kd nm nn op names subs binds alts
    have c1 := fun H => calm_ok G op H
    have c2 := anyEx_ok G hG (.fn (.func 144) [] []) (fun s => !simF m s) subs (H ++ [.cells 0 8 [.agg [.int .i64 kd, .str nm, .int .i64 nn, .int .i64 op, .list 1 (names.map .str), .list 8 (exCells subs), .list 9 (bdCells binds), .list 12 (alCells alts)]]]) (by omega) (by simp [SV.under, SV.underL])
      (fun x hx => ACallV.of (first := []) (args := [x.sv]) (cap := []) (simple1_ok G hG m hrec x (by have := Ex.wt_parts (e := .mk kd nm nn op names subs binds alts) (p := x) (by rw [Ex.parts_mk]; exact List.mem_append_left _ hx); omega) _))
    have es : simF (m + 1) (.mk kd nm nn op names subs binds alts) = if kd = 2 ∨ kd = 1 then true else if kd = 8 then calmB op && !(subs.any fun s => !simF m s) else false := rfl
    rw [es]
    generalize (subs.any fun s => !simF m s) = an at *
    generalize calmB op = cb at *
    refine ACall.of_go TB [] tabOK _ Tryz.func114 rfl (by decide) Tryz.ntmps114 (by simp) rfl (by simp only [initEnv, Nat.reduceAdd]; rfl) fun C R' hR hC hcl hB => ?_; have X := noX; have hC' := congrArg List.length hC
    (refine run ?_; repeat' (first | with_reducible exact trivial | ((with_reducible apply Fork.mk) <;> intro hb) | with_reducible apply Two.mk))
    all_goals (refine finS (n0 := H.length) hR hC' hcl (.same _ rfl) ⟨rfl, ?_⟩; simp_all [resSV])
theorem simpleS_ok (G : Gl) (hG : GClosed G) (e : Ex) (hw : e.wt < 4294967296) (H : List Blk) : ACall Tryz.prog G 114 [e.sv] H (fun r H' => H' = H ∧ r = .bool (simS e)) := simple_ok G hG e.wt hw e H (Nat.le_refl _)
def esD (l : List Od) : List (SV × SV) := l.map fun o => (.str o.name, o.sv)
theorem findSV_esD : ∀ (l : List Od) (s : Str), findSV (esD l) (.str s) = (findOd l s).map Od.sv
  | [], s => rfl
  | c :: r, s => by
    simp only [esD, List.map_cons, findSV, SV.keyEq, findOd]
    by_cases h : s = c.name
    · simp [h]
    · simp only [beq_eq_false_iff_ne.2 h, h, if_false, Bool.false_eq_true]
      exact findSV_esD r s
theorem od_zero (l : List Od) (s : Str) : (findSV (esD l) (.str s)).getD (.agg [.str [], .int .i64 0, .list 1 []]) = .agg [.str (getOd l s).name, .int .i64 (getOd l s).arity, .list 1 (intL (getOd l s).nums)] := by
  rw [findSV_esD, getOd]
  cases findOd l s <;> rfl
theorem esD_has (l : List Od) (s : Str) : (findSV (esD l) (.str s)).isSome = (findOd l s).isSome := by
  rw [findSV_esD]; cases findOd l s <;> rfl
theorem setSV_esD : ∀ (l : List Od) (c : Od), findOd l c.name = none → setSV (esD l) (.str c.name) (.agg [.str c.name, .int .i64 c.arity, .list 1 (intL c.nums)]) = esD (l ++ [c])
  | [], c, _ => rfl
  | d :: r, c, h => by
    simp only [esD, List.map_cons, setSV, SV.keyEq, findOd, List.cons_append] at h ⊢
    by_cases h2 : c.name = d.name
    · rw [if_pos h2] at h; cases h
    · rw [if_neg h2] at h
      simp only [beq_eq_false_iff_ne.2 h2, if_false, Bool.false_eq_true]
      rw [show setSV (List.map _ r) (.str c.name) _ = _ from setSV_esD r c h]
      rfl
theorem esD_under (n : Nat) : ∀ l : List Od, belowE n (esD l) = true
  | [] => rfl
  | p :: l => by simp only [esD, List.map_cons, belowE, SV.under, Od.sv, Od.under, Bool.and_self, Bool.true_and]; exact esD_under n l
theorem odCells_get (l : List Od) (i : Nat) : (odCells l)[i]? = l[i]?.map fun o => .agg [.str o.name, .int .i64 o.arity, .list 1 (intL o.nums)] := by simp [odCells, Od.sv, Od.cells]; rfl
attribute [go_sem] odCells_len odCells_get intL_len
theorem knoF_cut (l : List Od) : ∀ (r k : List Od), knoF k (r ++ l) = knoF (knoF k r) l
  | [], k => rfl
  | o :: r, k => by
    rw [List.cons_append, knoF, knoF]
    split
    · exact knoF_cut l r k
    · exact knoF_cut l r _
theorem knoF_snoc (l : List Od) (o : Od) : knoF [] (l ++ [o]) = if (findOd (knoF [] l) o.name).isSome then knoF [] l else knoF [] l ++ [o] := by
  rw [knoF_cut, knoF, knoF, knoF]
theorem knowing_ok (G : Gl) (hG : GClosed G) (l : List Od) (hl : l.length < 1099511627776) (H : List Blk) :
    ACall Tryz.prog G 26 [.list 3 (odCells l)] H (fun r H' => H' = H ++ [.map none (esD (knoF [] l))] ∧ r = .map H.length) := by
  have esB_under := esD_under
  have under_ints := odCells_under
  refine ACall.of_go TB [] tabOK _ Tryz.func26 rfl (by decide) Tryz.ntmps26 (by simp) rfl (by simp only [initEnv, Nat.reduceAdd]; rfl) fun C R' hR hC hcl hB => ?_; have X := noX; have hC' := congrArg List.length hC
  (refine run ?_; repeat' (first | with_reducible exact trivial | ((with_reducible apply Fork.mk) <;> intro hb) | with_reducible apply Two.mk))
  refine go_loop (fun i : Nat => [(3, .map H.length), (9, .list 3 (odCells l)), (10, .int .i64 l.length), (11, .int .i64 i)]) (fun i => H ++ [.map none (esD (knoF [] (l.take i)))]) (fun i => l.length - i) (fun i => i ≤ l.length) 0 (Nat.zero_le _) ?_ ?_
  · exact wkS (n0 := H.length) [(H.length, 0)] hG hB hC' hcl
  rintro K i hi hK
  rcases Nat.lt_or_ge i l.length with hlt | hge
  · have ht := List.take_succ_eq_append_getElem hlt
    have hk := knoF_snoc (l.take i) l[i]
    rw [← ht] at hk
    have hset := setSV_esD (knoF [] (l.take i)) l[i]
    have hz := od_zero (knoF [] (l.take i)) l[i].name
    have hh := esD_has (knoF [] (l.take i)) l[i].name
    cases hf : findOd (knoF [] (l.take i)) l[i].name with
    | none =>
      have hs2 := hset hf
      rw [hf] at hk hh
      have hk : knoF [] (l.take (i + 1)) = knoF [] (l.take i) ++ [l[i]] := hk
      have hh : (findSV (esD (knoF [] (l.take i))) (.str l[i].name)).isSome = false := hh
      rw [← hk] at hs2
      have X := And.intro noX (And.intro hz (And.intro hh hs2))
      (refine run ?_; repeat' (first | with_reducible exact trivial | ((with_reducible apply Fork.mk) <;> intro hb) | with_reducible apply Two.mk))
      exact hK _ _ (i + 1) (by omega) (by omega) (wkS (n0 := H.length) [(H.length, 0)] hG hB hC' hcl)
    | some o =>
      rw [hf] at hk hh
      have hk : knoF [] (l.take (i + 1)) = knoF [] (l.take i) := hk
      have hh : (findSV (esD (knoF [] (l.take i))) (.str l[i].name)).isSome = true := hh
      have X := And.intro noX (And.intro hz hh)
      (refine run ?_; repeat' (first | with_reducible exact trivial | ((with_reducible apply Fork.mk) <;> intro hb) | with_reducible apply Two.mk))
      refine hK _ _ (i + 1) (by omega) (by omega) ?_
      rw [hk]
      exact wkS (n0 := H.length) [(H.length, 0)] hG hB hC' hcl
  obtain rfl : i = l.length := by omega
  clear hK
  simp only [List.take_length]
  have X := And.intro noX (Int.lt_irrefl (l.length : Int))
  (refine run ?_; repeat' (first | with_reducible exact trivial | ((with_reducible apply Fork.mk) <;> intro hb) | with_reducible apply Two.mk))
  exact finK [(H.length, 0)] (.map H.length) [.map none (esD (knoF [] l))] hR hC' hcl ⟨rfl, rfl⟩
theorem call_ok (G : Gl) (hG : GClosed G) (k : List Od) (kb : Nat) (H : List Blk) (hkb : H[kb]? = some (.map none (esD k))) (e : Ex) (hw : e.wt < 4294967296) :
    ACall Tryz.prog G 65 [.map kb, e.sv] H (fun r H' => H' = H ∧ r = .tuple [.agg (callO k e).1.cells, .bool (callO k e).2]) := by
  have lk := (List.getElem?_eq_some_iff.1 hkb).1
  obtain ⟨kd, nm, nn, op, names, subs, binds, alts⟩ := e
  have hle := Ex.wt_lens kd nm nn op names subs binds alts
  have hkx := fun L => (show (H ++ L)[kb]? = some (.map none (esD k)) by rw [get_old lk]; exact hkb)
  cases hs : subs with
  | nil =>
    have hc : callO k (.mk kd nm nn op names [] binds alts) = (noOd, false) := rfl
    rw [hc]
    refine ACall.of_go TB [] tabOK _ Tryz.func65 rfl (by decide) Tryz.ntmps65 (by simp) rfl (by simp only [initEnv, Nat.reduceAdd]; rfl) fun C R' hR hC hcl hB => ?_; have X := noX; have hC' := congrArg List.length hC
    (refine run ?_; repeat' (first | with_reducible exact trivial | ((with_reducible apply Fork.mk) <;> intro hb) | with_reducible apply Two.mk))
    exact finS (n0 := H.length) hR hC' hcl (.same _ rfl) ⟨rfl, rfl⟩
  | cons s r =>
    obtain ⟨k2, n2, nn2, op2, ns2, ss2, bs2, as2⟩ := s
    have hc : callO k (.mk kd nm nn op names (.mk k2 n2 nn2 op2 ns2 ss2 bs2 as2 :: r) binds alts) = if k2 ≠ 1 then (noOd, false) else (getOd k n2, (findOd k n2).isSome && decide ((getOd k n2).arity < ((Ex.mk k2 n2 nn2 op2 ns2 ss2 bs2 as2 :: r).length : Int))) := rfl
    rw [hc]
    rw [hs] at hle
    have hs0 : (Ex.mk k2 n2 nn2 op2 ns2 ss2 bs2 as2 :: r)[0]? = some (.mk k2 n2 nn2 op2 ns2 ss2 bs2 as2) := rfl
    have hlr : (Ex.mk k2 n2 nn2 op2 ns2 ss2 bs2 as2 :: r).length = r.length + 1 := rfl
    generalize hS : Ex.mk k2 n2 nn2 op2 ns2 ss2 bs2 as2 :: r = S at *
    have hlr0 : ¬ (S.length : Int) = 0 := by omega
    have hz := od_zero k n2
    have hh := esD_has k n2
    refine ACall.of_go TB [] tabOK _ Tryz.func65 rfl (by decide) Tryz.ntmps65 (by simp) rfl (by simp only [initEnv, Nat.reduceAdd]; rfl) fun C R' hR hC hcl hB => ?_; have X := noX; have hC' := congrArg List.length hC
    have X := And.intro X (And.intro hkx (And.intro hz (And.intro hh (And.intro hs0 hlr0))))
    (refine run ?_; repeat' (first | with_reducible exact trivial | ((with_reducible apply Fork.mk) <;> intro hb) | with_reducible apply Two.mk))
    · exact finS (n0 := H.length) hR hC' hcl (.same _ rfl) ⟨rfl, by rw [if_pos hb]; rfl⟩
    · exact finS (n0 := H.length) hR hC' hcl (.same _ (by simp only [resSV, SV.under, SV.underL, intL_under, Bool.and_self])) ⟨rfl, by rw [if_neg hb]; rfl⟩
end Go.Proofs.YtehfihnfeakmaaaGreatDoor
end

section
namespace Go.Proofs.YtehfihnfeakmaaaGreatDoor
open Go
set_option maxRecDepth 10000
set_option maxHeartbeats 4000000
theorem cargs_ok (G : Gl) (op : Int) (H : List Blk) : ACall Tryz.prog G 108 [.int .i64 op] H (fun r H' => H' = H ∧ r = .int .i64 (argS op)) := by
  refine ACall.of_go TB [] tabOK _ Tryz.func108 rfl (by decide) Tryz.ntmps108 (by simp) rfl (by simp only [initEnv, Nat.reduceAdd]; rfl) fun C R' hR hC hcl hB => ?_; have X := noX; have hC' := congrArg List.length hC
  (refine run ?_; repeat' (first | with_reducible exact trivial | ((with_reducible apply Fork.mk) <;> intro hb) | with_reducible apply Two.mk))
  all_goals (simp only [Bool.and_eq_true, Bool.or_eq_true, Bool.and_eq_false_iff, Bool.or_eq_false_iff, decide_eq_true_eq, decide_eq_false_iff_not] at *)
  all_goals refine Fin.out hR ⟨rfl, congrArg (SV.int .i64) ?_⟩
  all_goals unfold argS
  all_goals first | rw [if_pos (by omega)] | rw [if_neg (by omega), if_pos (by omega)] | rw [if_neg (by omega), if_neg (by omega), if_pos (by omega)] | rw [if_neg (by omega), if_neg (by omega), if_neg (by omega)]
theorem badAl_ok (G : Gl) (hG : GClosed G) (a : Al) (H : List Blk) : ACall Tryz.prog G 110 [a.sv] H (fun r H' => H' = H ∧ r = .bool (badAl a)) := by
  obtain ⟨kd, nm, nn, names, body⟩ := a
  have hbl := body.cells_len
  obtain ⟨k2, s2, n2, o2, l2, ss2, bs2, as2⟩ := body
  rw [show (Al.mk kd nm nn names (.mk k2 s2 n2 o2 l2 ss2 bs2 as2)).sv = .agg [.int .i64 kd, .str nm, .int .i64 nn, .list 1 (names.map .str), .int .i64 k2, .str s2, .int .i64 n2, .int .i64 o2, .list 1 (l2.map .str), .list 8 (exCells ss2), .list 9 (bdCells bs2), .list 12 (alCells as2)] from rfl]
  refine ACall.of_go TB [] tabOK _ Tryz.func110 rfl (by decide) Tryz.ntmps110 (by simp) rfl (by simp only [initEnv, Nat.reduceAdd]; rfl) fun C R' hR hC hcl hB => ?_; have X := noX; have hC' := congrArg List.length hC
  (refine run ?_; repeat' (first | with_reducible exact trivial | ((with_reducible apply Fork.mk) <;> intro hb) | with_reducible apply Two.mk))
  all_goals (refine finS (n0 := H.length) hR hC' hcl (.same _ rfl) ⟨rfl, ?_⟩; simp_all [resSV, badAl, Al.kind, Al.n, Al.name, Al.names] <;> congr)
theorem shaped_ok (G : Gl) (hG : GClosed G) (e : Ex) (hw : e.wt < 549755813888) (H : List Blk) : ACall Tryz.prog G 54 [e.sv] H (fun r H' => H' = H ∧ r = .bool (shpC e)) := by
  obtain ⟨kd, nm, nn, op, names, subs, binds, alts⟩ := e
  have hle := Ex.wt_lens kd nm nn op names subs binds alts
  have c1 := fun H => cargs_ok G op H
  have c2 := anyAl_ok G hG (.fn (.func 110) [] []) badAl alts (H ++ [.cells 0 8 [.agg [.int .i64 kd, .str nm, .int .i64 nn, .int .i64 op, .list 1 (names.map .str), .list 8 (exCells subs), .list 9 (bdCells binds), .list 12 (alCells alts)]]]) (by omega) (by simp [SV.under, SV.underL])
    (fun a ha => ACallV.of (first := []) (args := [a.sv]) (cap := []) (badAl_ok G hG a _))
  refine ACall.of_go TB [] tabOK _ Tryz.func54 rfl (by decide) Tryz.ntmps54 (by simp) rfl (by simp only [initEnv, Nat.reduceAdd]; rfl) fun C R' hR hC hcl hB => ?_; have X := noX; have hC' := congrArg List.length hC
  (refine run ?_; repeat' (first | with_reducible exact trivial | ((with_reducible apply Fork.mk) <;> intro hb) | with_reducible apply Two.mk))
  all_goals refine finS (n0 := H.length) hR hC' hcl (.same _ rfl) ⟨rfl, ?_⟩
  all_goals refine congrArg SV.bool ?_
  all_goals clear c1 c2 hw hle hR hC' hC hcl hB X
  all_goals simp_all [shpC, oddS, Ex.kind, Ex.alts]
  all_goals (intros; first | omega | (exfalso; omega) | (simp_all; done) | (exfalso; simp_all; omega))
end Go.Proofs.YtehfihnfeakmaaaGreatDoor
end

section
namespace Go.Proofs.YtehfihnfeakmaaaGreatDoor
open Go
set_option maxRecDepth 10000
set_option maxHeartbeats 4000000
theorem cn_zero (l : List Cn) (s : Str) : (findSV (esC l) (.str s)).getD (.agg [.str [], .int .i64 0, .int .i64 0, .int .i64 0]) = .agg [.str (getCn l s).name, .int .i64 (getCn l s).arity, .int .i64 (getCn l s).tag, .int .i64 (getCn l s).family] := findSV_esC0 l s
structure LintAt (H : List Blk) (lb mb : Nat) (cs : List Cn) : Prop where
  l : H[lb]? = some (.cells 0 1 [.agg [.map mb]])
  m : H[mb]? = some (.map none (esC cs))
theorem LintAt.app {H : List Blk} {lb mb : Nat} {cs : List Cn} (h : LintAt H lb mb cs) (L : List Blk) : LintAt (H ++ L) lb mb cs :=
  ⟨by rw [get_old (List.getElem?_eq_some_iff.1 h.l).1]; exact h.l, by rw [get_old (List.getElem?_eq_some_iff.1 h.m).1]; exact h.m⟩
theorem LintAt.X {H : List Blk} {lb mb : Nat} {cs : List Cn} (h : LintAt H lb mb cs) : (∀ L, (H ++ L)[lb]? = some (.cells 0 1 [.agg [.map mb]])) ∧ (∀ L, (H ++ L)[mb]? = some (.map none (esC cs))) ∧ H[lb]? = some (.cells 0 1 [.agg [.map mb]]) ∧ H[mb]? = some (.map none (esC cs)) :=
  ⟨fun L => (h.app L).l, fun L => (h.app L).m, h.l, h.m⟩
theorem has_ok (G : Gl) (hG : GClosed G) (H : List Blk) (lb mb : Nat) (cs : List Cn) (hl : LintAt H lb mb cs) (s : Str) (k : Int) : ACall Tryz.prog G 111 [.ptr lb 0 0 0, .str s, .int .i64 k] H (fun r H' => H' = H ∧ r = .bool (hasCn cs s k)) := by
  refine ACall.of_go TB [] tabOK _ Tryz.func111 rfl (by decide) Tryz.ntmps111 (by simp) rfl (by simp only [initEnv, Nat.reduceAdd]; rfl) fun C R' hR hC hcl hB => ?_; have X := noX; have hC' := congrArg List.length hC
  have X := And.intro X (And.intro hl.X (And.intro (cn_zero cs s) (esC_has cs s)))
  (refine run ?_; repeat' (first | with_reducible exact trivial | ((with_reducible apply Fork.mk) <;> intro hb) | with_reducible apply Two.mk))
  exact finS (n0 := H.length) hR hC' hcl (.same _ rfl) ⟨rfl, by simp only [resSV, hasCn]⟩
theorem linX {H : List Blk} {lb mb : Nat} {es : List (SV × SV)} (h1 : H[lb]? = some (.cells 0 1 [.agg [.map mb]])) (h2 : H[mb]? = some (.map none es)) :
    (∀ l L, (H.set mb (.map none (esC l)) ++ L)[lb]? = some (.cells 0 1 [.agg [.map mb]])) ∧ (∀ l L, (H.set mb (.map none (esC l)) ++ L)[mb]? = some (.map none (esC l))) ∧
    (∀ l l2 L, (H.set mb (.map none (esC l)) ++ L).set mb (.map none (esC l2)) = H.set mb (.map none (esC l2)) ++ L) := by
  have hne : lb ≠ mb := fun e => by rw [e, h2] at h1; cases h1
  have l1 := (List.getElem?_eq_some_iff.1 h1).1
  have l2 := (List.getElem?_eq_some_iff.1 h2).1
  refine ⟨fun l L => ?_, fun l L => ?_, fun l l2' L => ?_⟩
  · rw [List.getElem?_append_left (by simpa using l1), List.getElem?_set_ne (fun e => hne e.symm)]; exact h1
  · rw [List.getElem?_append_left (by simpa using l2), List.getElem?_set_self l2]
  · rw [set_old (by simpa using l2), List.set_set]
theorem linQ {H : List Blk} {lb mb : Nat} (h1 : H[lb]? = some (.cells 0 1 [.agg [.map mb]])) (h2 : H[mb]? = some (.map none [])) :
    ∃ Q : List Cn → List Blk, Q [] = H ∧ (∀ l, Q l = H.set mb (.map none (esC l))) ∧ (∀ l, (Q l).length = H.length) ∧ ((∀ l L, (Q l ++ L)[lb]? = some (.cells 0 1 [.agg [.map mb]])) ∧ (∀ l L, (Q l ++ L)[mb]? = some (.map none (esC l))) ∧
    (∀ l l2 L, (Q l ++ L).set mb (.map none (esC l2)) = Q l2 ++ L)) ∧ (closed H → ∀ l, closed (Q l)) :=
  ⟨fun l => H.set mb (.map none (esC l)), set_same h2, fun l => rfl, fun l => by simp, linX h1 h2, fun hc l => hc.set (esC_under _ _)⟩
theorem okCn_new {l : List Cn} {c : Cn} (h : okCn l c = true) : findCn l c.name = none := by
  unfold okCn at h
  cases hf : findCn l c.name with
  | none => rfl
  | some d => rw [hf] at h; simp at h
theorem made_ok (G : Gl) (hG : GClosed G) (H : List Blk) (lb mb : Nat) (cons : List Cn) (h1 : H[lb]? = some (.cells 0 1 [.agg [.map mb]])) (h2 : H[mb]? = some (.map none [])) (hn : cons.length < 1099511627776) :
    ACall Tryz.prog G 55 [.ptr lb 0 0 0, .list 4 (cnCells cons)] H (fun r H' => ∃ l, (H' = H.set mb (.map none (esC l)) ∧ r = .bool (okCns [] cons)) ∧ (okCns [] cons = true → l = cons)) := by
  obtain ⟨Q, q0, qd, hlen, qx, qc⟩ := linQ h1 h2
  have hlm := cnCells_len cons
  have l1 := (List.getElem?_eq_some_iff.1 h1).1
  have l2 := (List.getElem?_eq_some_iff.1 h2).1
  simp only [← qd]
  rw [← q0]
  refine ACall.of_go TB [] tabOK _ Tryz.func55 rfl (by decide) Tryz.ntmps55 (by simp) rfl (by simp only [initEnv, Nat.reduceAdd]; rfl) fun C R' hR hC hcl hB => ?_; have X := noX; have hC' := congrArg List.length hC
  have hC' := hC'.trans (hlen [])
  have hcls : ∀ l, closed (Q l) := fun l => qc (q0 ▸ hcl) l
  generalize H.length = n0 at *
  have hx2 := hsX Q n0 hlen
  have X := And.intro X (And.intro qx (And.intro hx2 hlm))
  (refine run ?_; repeat' (first | with_reducible exact trivial | ((with_reducible apply Fork.mk) <;> intro hb) | with_reducible apply Two.mk))
  refine go_loop (fun i : Nat => [(0, .ptr lb 0 0 0), (9, .list 4 (cnCells cons)), (10, .int .i64 cons.length), (11, .int .i64 i)]) (fun i => Q (cons.take i) ++ []) (fun i => cons.length - i)
    (fun i => i ≤ cons.length ∧ okCns (cons.take i) (cons.drop i) = okCns [] cons) 0 ⟨Nat.zero_le _, rfl⟩ ?_ ?_
  · simp only [List.take_zero, List.append_nil]
    exact Wk.sub (by simp [subEnv, look])
  rintro K i ⟨hi, hok⟩ hK
  rcases Nat.lt_or_ge i cons.length with hlt | hge
  · have e1 : (cnCells cons)[i]? = some (.agg [.str cons[i].name, .int .i64 cons[i].arity, .int .i64 cons[i].tag, .int .i64 cons[i].family]) := cnCells_get cons hlt
    rw [List.drop_eq_getElem_cons hlt, okCns, ← List.take_succ_eq_append_getElem hlt] at hok
    have ht := List.take_succ_eq_append_getElem hlt
    have hset := setSV_esC (cons.take i) cons[i]
    have hcell : cons[i].cells = [.str cons[i].name, .int .i64 cons[i].arity, .int .i64 cons[i].tag, .int .i64 cons[i].family] := rfl
    rw [hcell] at hset
    have hoc : okCn (cons.take i) cons[i] = okCn (cons.take i) cons[i] := rfl
    conv at hoc => rhs; unfold okCn
    simp only [eqS] at hoc
    have hnw := okCn_new (l := cons.take i) (c := cons[i])
    have hcz := cn_zero (cons.take i) cons[i].name
    have hch := esC_has (cons.take i) cons[i].name
    generalize hok1 : okCn (cons.take i) cons[i] = o1 at *
    cases o1
    · have X := And.intro X (And.intro e1 (And.intro hcz hch))
      (refine run ?_; repeat' (first | with_reducible exact trivial | ((with_reducible apply Fork.mk) <;> intro hb) | with_reducible apply Two.mk))
      · rw [Bool.false_and] at hok
        refine finS (n0 := n0) hR hC' (hcls (cons.take i)) (.same _ rfl) ⟨_, ⟨rfl, ?_⟩, ?_⟩
        · rw [← hok]; rfl
        · rw [← hok]; intro h; cases h
      · rw [hb] at hoc; cases hoc
    · have X := And.intro X (And.intro e1 (And.intro hcz (And.intro hch (hset (hnw rfl)))))
      (refine run ?_; repeat' (first | with_reducible exact trivial | ((with_reducible apply Fork.mk) <;> intro hb) | with_reducible apply Two.mk))
      · rw [hb] at hoc; cases hoc
      · rw [← ht]
        refine hK _ _ (i + 1) (by omega) ⟨by omega, by rw [← hok, Bool.true_and]⟩ ?_
        exact wkS (n0 := n0) [] hG hB hC' (hcls _)
  obtain rfl : i = cons.length := by omega
  rw [List.drop_length, List.take_length] at hok
  rw [List.take_length]
  clear hK
  have X := And.intro X (Int.lt_irrefl (cons.length : Int))
  (refine run ?_; repeat' (first | with_reducible exact trivial | ((with_reducible apply Fork.mk) <;> intro hb) | with_reducible apply Two.mk))
  exact finS (n0 := n0) hR hC' (hcls cons) (.same _ rfl) ⟨_, ⟨rfl, by rw [← hok]; rfl⟩, fun _ => rfl⟩
end Go.Proofs.YtehfihnfeakmaaaGreatDoor
end

section
namespace Go.Proofs.YtehfihnfeakmaaaGreatDoor
open Go
set_option maxRecDepth 10000
set_option maxHeartbeats 4000000
theorem full1_ok (G : Gl) (hG : GClosed G) (H : List Blk) (lb mb pb : Nat) (cs : List Cn) (hl : LintAt H lb mb cs) (hp : H[pb]? = some (.cells 0 1 [.ptr lb 0 0 0])) (a : Al) :
    ACall Tryz.prog G 112 [a.sv, .ptr pb 0 0 0] H (fun r H' => H' = H ∧ r = .bool (decide (a.kind = 1) && !hasCn cs a.name a.names.length)) := by
  obtain ⟨kd, nm, nn, names, body⟩ := a
  obtain ⟨k2, s2, n2, o2, l2, ss2, bs2, as2⟩ := body
  rw [show (Al.mk kd nm nn names (.mk k2 s2 n2 o2 l2 ss2 bs2 as2)).sv = .agg [.int .i64 kd, .str nm, .int .i64 nn, .list 1 (names.map .str), .int .i64 k2, .str s2, .int .i64 n2, .int .i64 o2, .list 1 (l2.map .str), .list 8 (exCells ss2), .list 9 (bdCells bs2), .list 12 (alCells as2)] from rfl]
  have c1 := fun L => has_ok G hG (H ++ L) lb mb cs (hl.app L) nm names.length
  have hpx := fun L => (show (H ++ L)[pb]? = some (.cells 0 1 [.ptr lb 0 0 0]) by rw [get_old (List.getElem?_eq_some_iff.1 hp).1]; exact hp)
  refine ACall.of_go TB [] tabOK _ Tryz.func112 rfl (by decide) Tryz.ntmps112 (by simp) rfl (by simp only [initEnv, Nat.reduceAdd]; rfl) fun C R' hR hC hcl hB => ?_; have X := noX; have hC' := congrArg List.length hC
  have X := And.intro X hpx
  (refine run ?_; repeat' (first | with_reducible exact trivial | ((with_reducible apply Fork.mk) <;> intro hb) | with_reducible apply Two.mk))
  all_goals (refine finS (n0 := H.length) hR hC' hcl (.same _ rfl) ⟨rfl, ?_⟩; simp_all [resSV, Al.kind, Al.n, Al.name, Al.names])
theorem full_ok (G : Gl) (hG : GClosed G) (H : List Blk) (lb mb : Nat) (cs : List Cn) (hl : LintAt H lb mb cs) (e : Ex) (hw : e.wt < 549755813888) :
    ACall Tryz.prog G 59 [.ptr lb 0 0 0, e.sv] H (fun r H' => H' = H ∧ r = .bool (fulS cs e)) := by
  obtain ⟨kd, nm, nn, op, names, subs, binds, alts⟩ := e
  have hle := Ex.wt_lens kd nm nn op names subs binds alts
  have c1 := fun L => has_ok G hG (H ++ L) lb mb cs (hl.app L) nm subs.length
  have c2 := fun H => cargs_ok G op H
  have c3 := anyAl_ok G hG (.fn (.func 112) [] [.ptr H.length 0 0 0]) (fun a => decide (a.kind = 1) && !hasCn cs a.name a.names.length) alts (H ++ [.cells 0 1 [.ptr lb 0 0 0], .cells 0 8 [.agg [.int .i64 kd, .str nm, .int .i64 nn, .int .i64 op, .list 1 (names.map .str), .list 8 (exCells subs), .list 9 (bdCells binds), .list 12 (alCells alts)]]]) (by omega) (by simp [SV.under, SV.underL])
    (fun a ha => ACallV.of (first := []) (args := [a.sv]) (cap := [.ptr H.length 0 0 0]) (full1_ok G hG _ lb mb H.length cs (hl.app _) (by simp) a))
  refine ACall.of_go TB [] tabOK _ Tryz.func59 rfl (by decide) Tryz.ntmps59 (by simp) rfl (by simp only [initEnv, Nat.reduceAdd]; rfl) fun C R' hR hC hcl hB => ?_; have X := noX; have hC' := congrArg List.length hC
  (refine run ?_; repeat' (first | with_reducible exact trivial | ((with_reducible apply Fork.mk) <;> intro hb) | with_reducible apply Two.mk))
  all_goals (refine finS (n0 := H.length) hR hC' hcl (.same _ rfl) ⟨rfl, ?_⟩; simp_all [resSV, fulS, Ex.kind, Ex.names, Ex.subs, Ex.binds, Ex.name, Ex.op, Ex.alts] <;> exact decide_eq_decide.2 (by omega))
end Go.Proofs.YtehfihnfeakmaaaGreatDoor
end

section
namespace Go.Proofs.YtehfihnfeakmaaaGreatDoor
open Go
set_option maxRecDepth 10000
set_option maxHeartbeats 4000000
theorem mem_putO {l : List Str} {s t : Str} : s ∈ putO l t ↔ s ∈ l ∨ s = t := by
  unfold putO
  split
  · rename_i h
    constructor
    · exact .inl
    · rintro (h2 | rfl)
      · exact h2
      · exact h
  · simp
theorem mem_puts {s : Str} : ∀ {l : List Str} {a : List Str}, s ∈ l.foldl putO a ↔ s ∈ a ∨ s ∈ l
  | [], a => by simp
  | t :: r, a => by
    rw [List.foldl_cons, mem_puts (l := r), mem_putO, List.mem_cons]
    constructor
    · rintro ((h | h) | h)
      · exact .inl h
      · exact .inr (.inl h)
      · exact .inr (.inr h)
    · rintro (h | h | h)
      · exact .inl (.inl h)
      · exact .inl (.inr h)
      · exact .inr h
theorem findSV_esO : ∀ (l : List Str) (s : Str), (findSV (esO l) (.str s)).getD (.bool false) = .bool (decide (s ∈ l))
  | [], s => by simp [esO, findSV]
  | x :: r, s => by
    have ih := findSV_esO r s
    have e : findSV (esO (x :: r)) (.str s) = if SV.keyEq (.str s) (.str x) = true then some (.bool true) else findSV (esO r) (.str s) := rfl
    rw [e]
    by_cases h : s = x
    · subst h
      simp [SV.keyEq]
    · rw [if_neg (by simpa [SV.keyEq] using h), ih]
      simp [h]
def seenL (l : List Al) : List Str := (l.map Al.name).foldl putO []
theorem find_seen (l : List Al) (s : Str) : (findSV (esO (seenL l)) (.str s)).getD (.bool false) = .bool (decide (s ∈ l.map Al.name)) := by
  rw [findSV_esO]
  congr 1
  rw [decide_eq_decide, seenL, mem_puts]
  simp
theorem seen_snoc (l : List Al) (a : Al) : setSV (esO (seenL l)) (.str a.name) (.bool true) = esO (seenL (l ++ [a])) := by
  rw [setSV_esO, seenL, seenL, List.map_append, List.foldl_append]; rfl
def putN (l : List Int) (n : Int) : List Int := if n ∈ l then l else l ++ [n]
def esN (l : List Int) : List (SV × SV) := l.map fun n => (.int .i64 n, .bool true)
theorem setSV_esN : ∀ (l : List Int) (n : Int), setSV (esN l) (.int .i64 n) (.bool true) = esN (putN l n)
  | [], n => rfl
  | k :: r, n => by
    simp only [esN, List.map_cons, setSV, SV.keyEq, putN]
    by_cases h : n = k
    · simp [h]
    · simp only [beq_eq_false_iff_ne.2 h, if_false, Bool.false_eq_true]
      rw [show setSV (List.map _ r) (.int .i64 n) (.bool true) = _ from setSV_esN r n]
      simp only [esN, putN, List.mem_cons, h, false_or]
      split <;> rfl
theorem mem_putN {l : List Int} {s t : Int} : s ∈ putN l t ↔ s ∈ l ∨ s = t := by
  unfold putN
  split
  · rename_i h
    constructor
    · exact .inl
    · rintro (h2 | rfl)
      · exact h2
      · exact h
  · simp
theorem mem_putsN {s : Int} : ∀ {l : List Int} {a : List Int}, s ∈ l.foldl putN a ↔ s ∈ a ∨ s ∈ l
  | [], a => by simp
  | t :: r, a => by
    rw [List.foldl_cons, mem_putsN (l := r), mem_putN, List.mem_cons]
    constructor
    · rintro ((h | h) | h)
      · exact .inl h
      · exact .inr (.inl h)
      · exact .inr (.inr h)
    · rintro (h | h | h)
      · exact .inl (.inl h)
      · exact .inl (.inr h)
      · exact .inr h
theorem findSV_esN : ∀ (l : List Int) (n : Int), (findSV (esN l) (.int .i64 n)).getD (.bool false) = .bool (decide (n ∈ l))
  | [], s => by simp [esN, findSV]
  | x :: r, s => by
    have ih := findSV_esN r s
    have e : findSV (esN (x :: r)) (.int .i64 s) = if SV.keyEq (.int .i64 s) (.int .i64 x) = true then some (.bool true) else findSV (esN r) (.int .i64 s) := rfl
    rw [e]
    by_cases h : s = x
    · subst h
      simp [SV.keyEq]
    · rw [if_neg (by simpa [SV.keyEq] using h), ih]
      simp [h]
def numsL (l : List Al) : List Int := (l.map Al.n).foldl putN []
theorem find_nums (l : List Al) (s : Int) : (findSV (esN (numsL l)) (.int .i64 s)).getD (.bool false) = .bool (decide (s ∈ l.map Al.n)) := by
  rw [findSV_esN]
  congr 1
  rw [decide_eq_decide, numsL, mem_putsN]
  simp
theorem nums_snoc (l : List Al) (a : Al) : setSV (esN (numsL l)) (.int .i64 a.n) (.bool true) = esN (numsL (l ++ [a])) := by
  rw [setSV_esN, numsL, numsL, List.map_append, List.foldl_append]; rfl
theorem esN_under (n : Nat) : ∀ l : List Int, belowE n (esN l) = true
  | [] => rfl
  | p :: l => by simp only [esN, List.map_cons, belowE, SV.under, Bool.and_self, Bool.true_and]; exact esN_under n l
theorem alCells_take (l : List Al) (n : Nat) : (alCells l).take n = alCells (l.take n) := by simp [alCells_map, List.map_take]
theorem oddAls_cut (cs : List Cn) (k0 : Int) (s0 : Str) (R : List Al) {i : Nat} (h : i < R.length) : oddAls cs k0 s0 (R.take i) (R.drop i) = (oddAl cs (R.take i) k0 s0 R[i] || oddAls cs k0 s0 (R.take (i + 1)) (R.drop (i + 1))) := by
  rw [List.drop_eq_getElem_cons h, oddAls, ← List.take_succ_eq_append_getElem h]
theorem chosen_ok (G : Gl) (hG : GClosed G) (H : List Blk) (lb mb : Nat) (cs : List Cn) (hl : LintAt H lb mb cs) (e : Ex) (hw : e.wt < 549755813888) :
    ACall Tryz.prog G 60 [.ptr lb 0 0 0, e.sv] H (fun r H' => H' = H ∧ r = .bool (chsS cs e)) := by
  obtain ⟨kd, nm, nn, op, names, subs, binds, alts⟩ := e
  have hle := Ex.wt_lens kd nm nn op names subs binds alts
  by_cases hk : kd = 6
  rotate_left
  · have es : chsS cs (.mk kd nm nn op names subs binds alts) = true := if_pos hk
    refine ACall.of_go TB [] tabOK _ Tryz.func60 rfl (by decide) Tryz.ntmps60 (by simp) rfl (by simp only [initEnv, Nat.reduceAdd]; rfl) fun C R' hR hC hcl hB => ?_; have X := noX; have hC' := congrArg List.length hC
    (refine runC ?_; repeat' (first | with_reducible exact trivial | ((with_reducible apply Fork.mk) <;> intro hb) | with_reducible apply Two.mk))
    refine go_condDT rfl hk ?_
    (refine run ?_; repeat' (first | with_reducible exact trivial | ((with_reducible apply Fork.mk) <;> intro hb) | with_reducible apply Two.mk))
    exact finS (n0 := H.length) hR hC' hcl (.same _ rfl) ⟨rfl, by rw [es]; rfl⟩
  have es : chsS cs (.mk kd nm nn op names subs binds alts) = (!oddAls cs (hdK (restS alts)) (hdN (restS alts)) [] (restS alts) && decide (0 < alts.length)) := if_neg (fun h => h hk)
  rw [es]
  have l1 := (List.getElem?_eq_some_iff.1 hl.l).1
  have l2 := (List.getElem?_eq_some_iff.1 hl.m).1
  rcases Nat.eq_zero_or_pos alts.length with h0 | hpos
  · obtain rfl := List.length_eq_zero_iff.1 h0
    refine ACall.of_go TB [] tabOK _ Tryz.func60 rfl (by decide) Tryz.ntmps60 (by simp) rfl (by simp only [initEnv, Nat.reduceAdd]; rfl) fun C R' hR hC hcl hB => ?_; have X := noX; have hC' := congrArg List.length hC
    (refine runC ?_; repeat' (first | with_reducible exact trivial | ((with_reducible apply Fork.mk) <;> intro hb) | with_reducible apply Two.mk))
    refine go_condDF rfl (fun h => h hk) ?_
    have X := And.intro noX (Int.lt_irrefl 0)
    (refine run ?_; repeat' (first | with_reducible exact trivial | ((with_reducible apply Fork.mk) <;> intro hb) | with_reducible apply Two.mk))
    refine go_loop (fun _ : Unit => [(3, .ptr H.length 0 0 0), (36, .int .i64 0), (37, .int .i64 0)]) (fun _ => H ++ [.cells 0 8 [.agg [.int .i64 kd, .str nm, .int .i64 nn, .int .i64 op, .list 1 (names.map .str), .list 8 (exCells subs), .list 9 (bdCells binds), .list 12 (alCells [])]]]) (fun _ => 0) (fun _ => True) () trivial ?_ ?_
    · exact wkS (n0 := H.length) [(H.length, 0)] hG hB hC' hcl
    rintro K _ _ hK
    (refine run ?_; repeat' (first | with_reducible exact trivial | ((with_reducible apply Fork.mk) <;> intro hb) | with_reducible apply Two.mk))
    exact finS (n0 := H.length) hR hC' hcl (.same _ rfl) ⟨rfl, rfl⟩
  have hnn : ((alts.length : Int) - 1).toNat = alts.length - 1 := by omega
  have hlt1 : alts.length - 1 < alts.length := by omega
  have hr : restS alts = if alts[alts.length - 1].kind = 3 then alts.take (alts.length - 1) else alts := by
    rw [restS, if_neg (by omega)]
    have : alts.getLast? = some alts[alts.length - 1] := by rw [List.getLast?_eq_getElem?, List.getElem?_eq_getElem hlt1]
    rw [this]
    rfl
  have hal : alts[alts.length - 1]? = some alts[alts.length - 1] := List.getElem?_eq_getElem hlt1
  have hpos2 : (0 : Int) < (alts.length : Int) := by omega
  refine ACall.of_go TB [] tabOK _ Tryz.func60 rfl (by decide) Tryz.ntmps60 (by simp) rfl (by simp only [initEnv, Nat.reduceAdd]; rfl) fun C R' hR hC hcl hB => ?_; have X := noX; have hC' := congrArg List.length hC
  (refine runC ?_; repeat' (first | with_reducible exact trivial | ((with_reducible apply Fork.mk) <;> intro hb) | with_reducible apply Two.mk))
  refine go_condDF rfl (fun h => h hk) ?_
  have X := And.intro noX (And.intro hnn (And.intro hal (And.intro (show alts.length - 1 - 0 = alts.length - 1 from rfl) (alCells_take alts (alts.length - 1)))))
  (refine runC ?_; repeat' (first | with_reducible exact trivial | ((with_reducible apply Fork.mk) <;> intro hb) | with_reducible apply Two.mk))
  refine go_cut (fun _ : Unit => [(0, .ptr lb 0 0 0), (3, .ptr H.length 0 0 0), (5, .list 12 (alCells (restS alts)))]) (fun _ => H ++ [.cells 0 8 [.agg [.int .i64 kd, .str nm, .int .i64 nn, .int .i64 op, .list 1 (names.map .str), .list 8 (exCells subs), .list 9 (bdCells binds), .list 12 (alCells alts)]]]) (fun _ => True) (fun K hK => ?_) (fun _ _ => ?_)
  · (refine run ?_; repeat' (first | with_reducible exact trivial | ((with_reducible apply Fork.mk) <;> intro hb) | with_reducible apply Two.mk))
    · refine hK _ _ () trivial ?_
      rw [hr, if_pos (by first | exact hb | simp_all)]
      exact wkS (n0 := H.length) [(H.length, 0)] hG hB hC' hcl
    · refine hK _ _ () trivial ?_
      rw [hr, if_neg (by first | exact hb | simp_all)]
      exact wkS (n0 := H.length) [(H.length, 0)] hG hB hC' hcl
  have esB_under := esN_under
  have hrl : (restS alts).length ≤ alts.length := by
    unfold restS
    split
    · exact Nat.le_refl _
    · split
      · rw [List.length_take]; omega
      · exact Nat.le_refl _
  generalize hRR : restS alts = R at *
  have X := And.intro noX hl.X
  (refine run ?_; repeat' (first | with_reducible exact trivial | ((with_reducible apply Fork.mk) <;> intro hb) | with_reducible apply Two.mk))
  refine go_loop (fun i : Nat => [(0, .ptr lb 0 0 0), (3, .ptr H.length 0 0 0), (5, .list 12 (alCells R)), (7, .map (H.length + 1)), (8, .map (H.length + 2)), (35, .list 12 (alCells R)), (36, .int .i64 R.length), (37, .int .i64 i)])
    (fun i => H ++ [.cells 0 8 [.agg [.int .i64 kd, .str nm, .int .i64 nn, .int .i64 op, .list 1 (names.map .str), .list 8 (exCells subs), .list 9 (bdCells binds), .list 12 (alCells alts)]], .map none (esO (seenL (R.take i))), .map (some .i64) (esN (numsL (R.take i)))]) (fun i => R.length - i) (fun i => i ≤ R.length ∧ oddAls cs (hdK R) (hdN R) (R.take i) (R.drop i) = oddAls cs (hdK R) (hdN R) [] R) 0 ⟨Nat.zero_le _, rfl⟩ ?_ ?_
  · exact wkS (n0 := H.length) [(H.length, 0), (H.length + 1, 0), (H.length + 2, 0)] hG hB hC' hcl
  rintro K i ⟨hi, ho⟩ hK
  rcases Nat.lt_or_ge i R.length with hlt | hge
  · rw [oddAls_cut cs _ _ R hlt] at ho
    have hs1 := find_seen (R.take i) R[i].name
    have hs2 := find_nums (R.take i) R[i].n
    have hs3 := seen_snoc (R.take i) R[i]
    have hs4 := nums_snoc (R.take i) R[i]
    have hz1 := cn_zero cs R[i].name
    have hz2 := cn_zero cs R[0].name
    have hR0 : R[0]? = some R[0] := List.getElem?_eq_getElem (by omega)
    have hRi : R[i]? = some R[i] := List.getElem?_eq_getElem hlt
    have hk0 : hdK R = R[0].kind := by rw [hdK, List.head?_eq_getElem?, hR0]; rfl
    have hn0 : hdN R = R[0].name := by rw [hdN, List.head?_eq_getElem?, hR0]; rfl
    have ht := List.take_succ_eq_append_getElem hlt
    rw [← ht] at hs3 hs4
    have hoc : oddAl cs (R.take i) (hdK R) (hdN R) R[i] = oddAl cs (R.take i) (hdK R) (hdN R) R[i] := rfl
    conv at hoc => rhs; unfold oddAl
    rw [hk0, hn0] at hoc ho
    generalize hoo : oddAl cs (R.take i) R[0].kind R[0].name R[i] = oo at *
    generalize R[0] = a0 at *
    generalize R[i] = ai at *
    have X := And.intro noX (And.intro hl.X (And.intro hs1 (And.intro hs2 (And.intro hs3 (And.intro hs4 (And.intro hz1 (And.intro hz2 (And.intro hR0 hRi))))))))
    (refine run ?_; repeat' (first | with_reducible exact trivial | ((with_reducible apply Fork.mk) <;> intro hb) | with_reducible apply Two.mk))
    · simp only [decide_not] at hb
      have e : oo = true := hoc.trans hb
      subst e
      rw [Bool.true_or, ← hk0, ← hn0] at ho
      rw [← ho] at hR
      exact finS (n0 := H.length) hR hC' hcl (.same _ rfl) ⟨rfl, rfl⟩
    · simp only [decide_not] at hb
      have e : oo = false := hoc.trans hb
      subst e
      rw [Bool.false_or] at ho
      rw [← hk0, ← hn0] at ho
      refine hK _ _ (i + 1) (by omega) ⟨by omega, ho⟩ ?_
      exact wkS (n0 := H.length) [(H.length, 0), (H.length + 1, 0), (H.length + 2, 0)] hG hB hC' hcl
  obtain rfl : i = R.length := by omega
  rw [List.drop_length, List.take_length] at ho
  rw [← ho] at hR
  clear hK
  have X := And.intro noX (Int.lt_irrefl (R.length : Int))
  (refine run ?_; repeat' (first | with_reducible exact trivial | ((with_reducible apply Fork.mk) <;> intro hb) | with_reducible apply Two.mk))
  exact finS (n0 := H.length) hR hC' hcl (.same _ rfl) ⟨rfl, by simp [resSV, oddAls]⟩
end Go.Proofs.YtehfihnfeakmaaaGreatDoor
end
