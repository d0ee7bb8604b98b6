/- A part of the proof: SwI, SwJ, U1, U2, U3, U4, U5, U6, U7, U8, U9. -/
import Derived.Test.YtgnmngflfillkaaMd
import Derived.Sort.Grow
import Derived.Laws.IdiomRangeMap

section
/- A sort by a contract of the shelf, told of abstract heaps. -/
namespace Go.Proofs.Ytgnmngflfillkaa
open Go
set_option linter.unusedVariables false
set_option linter.unusedSimpArgs false

theorem RepL.all {c : Cx} {α : Type} {sv : α → SV} {enc : α → Value} {ok : α → Prop} (hrep : ∀ (c : Cx) x v, Rep c (sv x) v ↔ (v = enc x ∧ ok x)) : ∀ {zs : List α} {vs : List Value}, RepL c (zs.map sv) vs ↔ (vs = zs.map enc ∧ ∀ x ∈ zs, ok x)
  | [], vs => by simp [RepL]
  | x :: zs, vs => by
    rw [List.map_cons, RepL.cons_iff]
    constructor
    · rintro ⟨u, us, h1, h2, rfl⟩
      obtain ⟨rfl, h3⟩ := (hrep c x u).1 h1
      obtain ⟨rfl, h4⟩ := (RepL.all hrep).1 h2
      exact ⟨rfl, fun y hy => by rcases List.mem_cons.1 hy with rfl | hy; exact h3; exact h4 y hy⟩
    · rintro ⟨rfl, h⟩
      exact ⟨_, _, (hrep c x _).2 ⟨rfl, h x (List.mem_cons_self ..)⟩, (RepL.all hrep).2 ⟨rfl, fun y hy => h y (List.mem_cons_of_mem _ hy)⟩, rfl⟩

theorem cellsOf_ones : ∀ {vs : List Value}, (∀ v ∈ vs, v.oneCell' = true) → cellsOf vs = vs
  | [], _ => rfl
  | v :: vs, h => by rw [cellsOf_cons, cells_one (h v (List.mem_cons_self ..)), cellsOf_ones (fun u hu => h u (List.mem_cons_of_mem _ hu))]; rfl

section
variable {P : Program} {G : Gl} {α : Type} [Inhabited α]
open Go.Sort

theorem ACall.of_sort (enc : α → Value) (sv : α → SV) (ok : α → Prop) (hrep : ∀ (c : Cx) x v, Rep c (sv x) v ↔ (v = enc x ∧ ok x)) (hone : ∀ x, (enc x).oneCell' = true) (le : α → α → Bool) {f : FuncId}
    (hf : ∃ fn, P.funcs[f]? = some fn ∧ (fn.name == "runtime.NumGoroutine") = false ∧ fn.body.isNone = false)
    (hc : ∀ (blk off cap : Nat) (zs : List α) (w : World), Holds enc w blk off zs.toArray → blk < w.heap.size → zs.length < 4611686018427387904 → Calls P f #[.slice (some ⟨blk, off, none⟩) zs.length cap] w fun e w' =>
      e = .returned (.tuple #[]) ∧ ∃ n os, w' = grow (putRow enc (Sort.ahead w n) blk off (zs.mergeSort le).toArray) os)
    (h0 : ∀ (p : Option Addr) (cap : Nat) (w : World), Calls P f #[.slice p 0 cap] w fun e w' => e = .returned (.tuple #[]) ∧ w' = w)
    (id g : Nat) (zs : List α) (H : List Blk) (hH : H[id]? = some (.cells g 1 (zs.map sv))) (hl : zs.length < 4611686018427387904) :
    ACall P G f [.sl id g 0 zs.length] H (fun r H' => H' = H.set id (.cells g 1 ((zs.mergeSort le).map sv)) ∧ r = .tuple []) := by
  refine ⟨hf, fun c vs e1 hh hG hv => ?_⟩
  obtain ⟨v, us, hv1, hv2, rfl⟩ := RepL.cons_iff.1 hv
  rw [RepL.nil_iff.1 hv2]
  have hB : c.H[id]? = some (.cells g 1 (zs.map sv)) := by rw [e1]; exact hH
  simp only [Rep, hB] at hv1
  have hperm := List.mergeSort_perm zs le
  have hlen : (zs.mergeSort le).length = zs.length := hperm.length_eq
  refine (callsIn_wide (n := 0)).2 ?_
  rcases hv1.2 with h | ⟨_, h1, a, cap, rfl, h2, h3, h4⟩
  · omega
  by_cases hz : zs = []
  · subst hz
    refine (h0 a cap c.w).mono ?_
    rintro e w' ⟨rfl, rfl⟩
    refine ⟨_, .tuple [], c, rfl, rfl, ⟨?_, rfl⟩, hh, by simp only [Rep]; exact ⟨[], RepL.mk_nil, rfl⟩, Grow.refl c⟩
    rw [e1]
    obtain ⟨hlt, he⟩ := List.getElem?_eq_some_iff.1 hH
    have : (List.mergeSort ([] : List α) le).map sv = [] := by simp
    rw [this]
    conv => lhs; rw [← List.set_getElem_self hlt]
    rw [he]; rfl
  have hpos : 0 < zs.length := List.length_pos_iff.2 hz
  rcases h4 with h4 | ⟨b, o, cs, Ty, fr, h4, h5, h6, h7⟩
  · omega
  rcases hh.blk id _ hB with ⟨h8, _⟩ | ⟨b', o', cs', Ty', fr', vs', h8, h9, h10, h11, h12, h13⟩
  · rw [h4] at h8; cases h8
  rw [h4] at h8; cases h8
  rw [h6] at h9; cases h9
  obtain ⟨rfl, hok⟩ := (RepL.all hrep).1 h11
  have hall1 : ∀ l : List α, ∀ v ∈ l.map enc, v.oneCell' = true := fun l v hv => by obtain ⟨x, _, rfl⟩ := List.mem_map.1 hv; exact hone x
  rw [cellsOf_ones (hall1 zs)] at h13
  have hblk : b < c.w.heap.size := (Array.getElem?_eq_some_iff.1 h6).1
  have hsz : o + zs.length ≤ cs.size := by
    have := rangeAt_size h6 h13 (by simpa using hpos)
    simpa using this
  have hthere : c.w.there b o zs.length := rangeAt_there h6 h10 hsz
  have hholds : Holds enc c.w b o zs.toArray := fun j hj => by
    have hj' : j < zs.length := by simpa using hj
    refine ⟨?_, (hthere j hj').2⟩
    have := h13 j (enc zs[j]) (by simp [hj'])
    rw [this]
    simp [hj']
  rw [show a = some ⟨b, o, none⟩ by rw [h5]; simp]
  refine (hc b o cap zs c.w hholds hblk hl).mono ?_
  rintro e w' ⟨rfl, n, os, rfl⟩
  have hother : ∀ k, k < c.w.heap.size → k ≠ b → (grow (putRow enc (Sort.ahead c.w n) b o (zs.mergeSort le).toArray) os).heap[k]? = c.w.heap[k]? := fun k hk hne => by
    rw [heap_grow_old _ _ (by simpa using hk)]
    show (Array.modify c.w.heap b _)[k]? = _
    rw [Array.getElem?_modify, if_neg (fun e => hne e.symm)]
  have hat : (grow (putRow enc (Sort.ahead c.w n) b o (zs.mergeSort le).toArray) os).heap[b]? = some (.cells (putCells enc o (zs.mergeSort le).toArray cs) Ty fr) := by
    rw [heap_grow_old _ _ (by simpa using hblk)]
    show (Array.modify c.w.heap b _)[b]? = _
    rw [Array.getElem?_modify, if_pos rfl, h6]
    rfl
  have hcsz : (putCells enc o (zs.mergeSort le).toArray cs).size = cs.size := by simp [putCells]
  obtain ⟨t1, t2⟩ := Cx.turn hh (w' := grow (putRow enc (Sort.ahead c.w n) b o (zs.mergeSort le).toArray) os) hB rfl (B' := .cells g 1 ((zs.mergeSort le).map sv)) (c.θ id)
    ⟨g, _, rfl, Nat.le_refl _, fun _ => ⟨rfl, by simp [hlen]⟩, fun b' o' h' => .inr ⟨o', h'⟩⟩
    (fun k hk hno => hother k hk fun e => hno o (by rw [h4, e])) (by simp) rfl rfl rfl
    (fun b' cs0 T0 fr0 hb' => by
      by_cases e : b' = b
      · subst e
        rw [h6] at hb'; cases hb'
        exact ⟨_, fr, hat, hcsz⟩
      · exact ⟨cs0, fr0, by rw [hother b' (Array.getElem?_eq_some_iff.1 hb').1 e]; exact hb', rfl⟩)
    (fun hg => .inr ⟨b, o, _, Ty, fr, (zs.mergeSort le).map enc, by simp [h4], hat, by unfold noFreeze; rw [hcsz]; exact h10,
      (RepL.all hrep).2 ⟨rfl, fun x hx => hok x (hperm.mem_iff.1 hx)⟩, fun u hu => by
        have := hall1 _ u hu
        exact ⟨by rw [cells_one this]; rfl, okCells_one this⟩, by
        rw [cellsOf_ones (hall1 _)]
        intro j v hj
        rw [cell_at hat]
        obtain ⟨hj', hje⟩ := List.getElem?_eq_some_iff.1 hj
        simp only [List.length_map] at hj'
        simp only [List.getElem_map] at hje
        simp only [putCells, Array.getElem?_mapIdx]
        rw [Array.getElem?_eq_getElem (by omega)]
        simp only [Option.map_some]
        rw [if_pos (by constructor; omega; simp; omega)]
        rw [← hje]
        simp only [Nat.add_sub_cancel_left, List.getElem!_toArray, List.getElem!_eq_getElem?_getD]
        rw [List.getElem?_eq_getElem hj']; rfl⟩)
  refine ⟨_, .tuple [], _, rfl, rfl, ⟨?_, rfl⟩, t2, by simp only [Rep]; exact ⟨[], RepL.mk_nil, rfl⟩, t1⟩
  rw [← e1]
end

theorem rep_int_iff (k : IntKind) (c : Cx) (n : Int) (v : Value) : Rep c (.int k n) v ↔ (v = .int k n ∧ (k.min ≤ n ∧ n ≤ k.max)) := by simp only [Rep]
theorem rep_str_iff (c : Cx) (s : List UInt8) (v : Value) : Rep c (.str s) v ↔ (v = .string ⟨⟨s⟩⟩ ∧ s.length ≤ maxLen) := by simp only [Rep]
end Go.Proofs.Ytgnmngflfillkaa
end

section
/- Ranging over a map that nobody writes any more. -/
namespace Go.Proofs.Ytgnmngflfillkaa
open Go
set_option linter.unusedVariables false
set_option linter.unusedSimpArgs false

section
variable {P : Program}

/-- 'next' at a map iterator, wherever it lies; the map is as it was when the range began. -/
theorem run_next_at (w : World) (ty r bm clk : Nat) (seen : Array Nat) (es : Array MapEntry) (hr : w.heap[r]? = some (.mapIter (some bm) clk seen clk)) (hb : w.heap[bm]? = some (.map es clk)) (hold : ∀ x ∈ es.toList, x.born < clk) :
    ((∀ e ∈ es.toList, seen.contains e.born = true) ∧ (Instr.next (.pointer (some ⟨r, 0, none⟩)) false ty).run P w = .ok (.tuple #[.bool false]) w) ∨
    ∃ e ∈ es.toList, seen.contains e.born = false ∧ ∃ w1 : World, (w1 = w ∨ w1 = w.drew) ∧ (Instr.next (.pointer (some ⟨r, 0, none⟩)) false ty).run P w = .ok (.tuple #[.bool true, e.key, e.val]) (w1.putObj r (.mapIter (some bm) clk (seen.push e.born) clk)) := by
  simp only [Instr.next, getObj, Sem.run_bind, Sem.run, hr, hb, Result.andThen, next_test_false seen es clk clk hold (Nat.le_refl _), Bool.false_eq_true, if_false]
  generalize hL : Array.filter (fun e => !seen.contains e.born) es = L
  have mem : ∀ e, e ∈ L.toList ↔ e ∈ es.toList ∧ seen.contains e.born = false := fun e => by rw [← hL]; simp
  have old : L.filter (fun x => decide (x.born < clk)) = L := Array.filter_eq_self.2 (fun x hx => by simpa using hold x ((mem x).1 (by simpa using hx)).1)
  have new : L.filter (fun x => decide (x.born ≥ clk)) = #[] := by
    rw [Array.filter_eq_empty_iff]
    intro x hx
    have := hold x ((mem x).1 (by simpa using hx)).1
    simp; omega
  simp only [old, new, Array.append_empty]
  by_cases h0 : L.size = 0
  · left
    have hLe : L = #[] := Array.eq_empty_of_size_eq_zero h0
    refine ⟨fun e he => ?_, by subst hLe; simp [choose, Sem.run, Question.forced]⟩
    cases hs : seen.contains e.born with
    | true => rfl
    | false => have := (mem e).2 ⟨he, hs⟩; rw [hLe] at this; cases this
  · right
    have hne : L.isEmpty = false := by simp [Array.isEmpty, h0]
    simp only [hne, Bool.false_eq_true, if_false, Array.empty_append, Array.size_map]
    obtain ⟨j, w1, hj, hw, hrun⟩ : ∃ (j : Nat) (w1 : World), j < L.size ∧ (w1 = w ∨ w1 = w.drew) ∧ (choose (Question.mapNext L.size)).run P w = .ok j w1 := by
      by_cases hf : L.size ≤ 1
      · exact ⟨0, w, by omega, .inl rfl, by simp [choose, Sem.run, Question.forced, hf]⟩
      · exact ⟨_, w.drew, Nat.mod_lt _ (by omega), .inr rfl, by
          simp only [choose, Sem.run, Question.forced, decide_eq_true_eq, hf, if_false, Question.cut]
          rfl⟩
    have hheap : w1.heap = w.heap := by rcases hw with rfl | rfl <;> rfl
    obtain ⟨m1, m2⟩ := (mem L[j]).1 (by simp)
    refine ⟨L[j], m1, m2, w1, hw, ?_⟩
    have hset : ∀ o' : Obj, (setObj r o').run P w1 = .ok () (w1.putObj r o') := fun o' => by
      have : w1.heap[r]? = some (.mapIter (some bm) clk seen clk) := by rw [hheap]; exact hr
      simp only [setObj, Sem.run, this]
      rfl
    simp only [hrun, Array.getElem?_map, Array.getElem?_eq_getElem hj, Option.map_some, Sem.run_bind, hset, Result.andThen]
    rfl

theorem run_entry_at (w : World) (r bm clk : Nat) (seen : Array Nat) (es : Array MapEntry) (e : MapEntry) (hr : w.heap[r]? = some (.mapIter (some bm) clk (seen.push e.born) clk)) (hb : w.heap[bm]? = some (.map es clk)) (he : e ∈ es.toList) (hn : (es.toList.map (·.born)).Nodup) :
    (Instr.entry (.pointer (some ⟨r, 0, none⟩))).run P w = .ok (.tuple #[e.key, e.val]) w := by
  have hf : es.find? (·.born == e.born) = some e := by rw [← Array.find?_toList]; exact find_born e es.toList hn he
  simp only [Instr.entry, getObj, Sem.run_bind, Sem.run, hr, hb, Result.andThen, Array.back?_push, bne_self_eq_false, Bool.false_eq_true, if_false, hf]
  rfl
theorem run_range_at (w : World) (t k e : TypeId) (bm clk : Nat) (es : Array MapEntry) (ht : P.underlying t = some (.map k e)) (hb : w.heap[bm]? = some (.map es clk)) :
    (Instr.range t (.map (some bm))).run P w = .ok (.pointer (some ⟨w.heap.size, 0, none⟩)) (w.alloc (.mapIter (some bm) clk #[] clk)) := run_range_map w t k e bm es clk ht hb
end

section
variable {P : Program} {G : Gl} {T : Tab} {own : List Nat} {nt B : Nat} {ρ : Option Nat} {C : Cx} {rs : List ResultVar} {R : SV → List Blk → Prop} {env env2 : Env} {H H' : List Blk} {k : List It}
variable {all r : List Oper} {ty d j dj : Nat} {op : Op} {pos : String} {after : Array Edge} {v : SV}

/-- a block of one's own is let go: from here on its memory is as any other -/
theorem Rep.kill_both {θ : Nat → Option (Nat × Nat)} {H : List Blk} {w : World} {io : Nat} {kd : Option IntKind} {es : List (SV × SV)} (hm : H[io]? = some (.map kd es)) :
    (∀ x v, Rep ⟨θ, H, w⟩ x v → Rep ⟨θ, H.set io .dead, w⟩ x v) ∧ (∀ xs vs, RepL ⟨θ, H, w⟩ xs vs → RepL ⟨θ, H.set io .dead, w⟩ xs vs) := by
  have hlt := (List.getElem?_eq_some_iff.1 hm).1
  have himm : ∀ b, Cx.imm ⟨θ, H, w⟩ b → Cx.imm ⟨θ, H.set io .dead, w⟩ b := fun b ⟨h1, h2⟩ => ⟨h1, fun ⟨id, o, ⟨B, hB, hl⟩, ht⟩ => h2 ⟨id, o, ⟨B, by
    have hB' : (H.set io .dead)[id]? = some B := hB
    rw [List.getElem?_set] at hB'
    split at hB'
    · cases hB'; cases hl
    · exact hB', hl⟩, ht⟩⟩
  have hget : ∀ id : Nat, (H.set io .dead)[id]? = if io = id then some .dead else H[id]? := fun id => by
    rw [List.getElem?_set]
    by_cases e : io = id
    · rw [if_pos e, if_pos e, if_pos (e ▸ hlt)]
    · rw [if_neg e, if_neg e]
  apply SV.both
  · intro x h1 h2 h3 h4 h5 h6 v h
    cases x with
    | agg fs => exact absurd rfl (h1 fs)
    | list n xs => exact absurd rfl (h2 n xs)
    | pto y => exact absurd rfl (h3 y)
    | fn f a b => exact absurd rfl (h4 f a b)
    | tuple xs => exact absurd rfl (h5 xs)
    | imap b clk born kd ks vs => exact absurd rfl (h6 b clk born kd ks vs)
    | ptr id g i off =>
      simp only [Rep, hget] at h ⊢
      by_cases e : io = id
      · simp only [if_pos e]; exact ⟨h.1, trivial⟩
      · simp only [if_neg e]; exact h
    | sl id g off len =>
      simp only [Rep, hget] at h ⊢
      by_cases e : io = id
      · simp only [if_pos e]; exact ⟨h.1, trivial⟩
      · simp only [if_neg e]; exact h
    | map id =>
      simp only [Rep, hget] at h ⊢
      by_cases e : io = id
      · simp only [if_pos e]; exact ⟨h.1, trivial⟩
      · simp only [if_neg e]; exact h
    | it id =>
      simp only [Rep, hget] at h ⊢
      by_cases e : io = id
      · simp only [if_pos e]; exact ⟨h.1, trivial⟩
      · simp only [if_neg e]; exact h
    | _ => exact h
  · intro fs ih v h
    simp only [Rep] at h ⊢
    obtain ⟨vs, h1, h2⟩ := h
    exact ⟨vs, ih vs h1, h2⟩
  · intro sz xs ih v h
    simp only [Rep] at h ⊢
    obtain ⟨a, cap, h0, h1, h2, h3⟩ := h
    refine ⟨a, cap, h0, h1, h2, ?_⟩
    rcases h3 with h3 | ⟨b, o, vs, h3, h4, h5, h6, h7⟩
    · exact .inl h3
    · exact .inr ⟨b, o, vs, h3, ih vs h4, h5, h6, himm b h7⟩
  · intro x ih v h
    simp only [Rep] at h ⊢
    obtain ⟨b, o, u, h0, h1, h2, h3, h4⟩ := h
    exact ⟨b, o, u, h0, ih u h1, h2, h3, himm b h4⟩
  · intro f xs ys ih1 ih2 v h
    simp only [Rep] at h ⊢
    obtain ⟨us, vs, h0, h1, h2⟩ := h
    exact ⟨us, vs, ih1 us h0, ih2 vs h1, h2⟩
  · intro xs ih v h
    simp only [Rep] at h ⊢
    obtain ⟨vs, h0, h1⟩ := h
    exact ⟨vs, ih vs h0, h1⟩
  · intro b clk born kd ks vs ih1 ih2 v h
    simp only [Rep] at h ⊢
    obtain ⟨h0, h1, ents, h2, h3, h4, h5, h6, h7⟩ := h
    exact ⟨h0, himm b h1, ents, h2, h3, h4, ih1 _ h5, ih2 _ h6, h7⟩
  · intro vs h; simpa [RepL] using h
  · intro x xs ih1 ih2 vs h
    obtain ⟨u, us, h1, h2, h3⟩ := RepL.cons_iff.1 h
    exact RepL.cons_iff.2 ⟨u, us, ih1 u h1, ih2 us h2, h3⟩

theorem RepE.lists {c : Cx} : ∀ {es : List (SV × SV)} {l : List MapEntry}, RepE c es l → RepL c (es.map Prod.fst) (l.map (·.key)) ∧ RepL c (es.map Prod.snd) (l.map (·.val))
  | [], l, h => by simp only [RepE] at h; subst h; exact ⟨RepL.mk_nil, RepL.mk_nil⟩
  | (q, x) :: es, l, h => by
    simp only [RepE] at h
    obtain ⟨e, es', h1, h2, h3, rfl⟩ := h
    obtain ⟨a, b⟩ := RepE.lists h3
    exact ⟨RepL.mk_cons h1 a, RepL.mk_cons h2 b⟩
theorem RepE.mono {c c' : Cx} (hr : ∀ x v, Rep c x v → Rep c' x v) : ∀ {es : List (SV × SV)} {l : List MapEntry}, RepE c es l → RepE c' es l
  | [], l, h => by simpa [RepE] using h
  | (q, x) :: es, l, h => by
    simp only [RepE] at h ⊢
    obtain ⟨e, es', h1, h2, h3, h4⟩ := h
    exact ⟨e, es', hr _ _ h1, hr _ _ h2, RepE.mono hr h3, h4⟩

theorem Cx.kill {θ : Nat → Option (Nat × Nat)} {H : List Blk} {w : World} {io : Nat} {kd : Option IntKind} {es : List (SV × SV)} (hm : H[io]? = some (.map kd es)) (hc : HeapOK ⟨θ, H, w⟩) (hC : C.H.length ≤ io) :
    HeapOK ⟨θ, H.set io .dead, w⟩ ∧ (∀ C0 : Cx, C0.H.length ≤ io → Grow C0 ⟨θ, H, w⟩ → Grow C0 ⟨θ, H.set io .dead, w⟩) ∧
    ∃ b clk born, θ io = some (b, 0) ∧ born.length = es.length ∧ born.Nodup ∧ Rep ⟨θ, H.set io .dead, w⟩ (.imap b clk born kd (es.map Prod.fst) (es.map Prod.snd)) (.map (some b)) := by
  have hlt := (List.getElem?_eq_some_iff.1 hm).1
  have hget : ∀ (id : Nat) (B : Blk), (H.set io .dead)[id]? = some B → B = .dead ∨ (id ≠ io ∧ H[id]? = some B) := fun id B hB => by
    rw [List.getElem?_set] at hB
    split at hB
    · cases hB; exact .inl rfl
    · rename_i h; exact .inr ⟨fun e => h e.symm, hB⟩
  obtain ⟨rk, rkl⟩ := Rep.kill_both (θ := θ) (w := w) hm
  refine ⟨⟨fun id B hB => ?_, fun i j b o o' ⟨Bi, h1, h2⟩ ⟨Bj, h3, h4⟩ h5 h6 => ?_⟩, fun C0 h0 hg => ?_, ?_⟩
  · rcases hget id B hB with rfl | ⟨_, hB⟩
    · trivial
    · have hb := hc.blk id B hB
      cases B with
      | dead => trivial
      | obj o => exact hb
      | cells g sz vals =>
        rcases hb with hb | ⟨b, o, cs, T, fr, vs, h1, h2, h3, h4, h5, h6⟩
        · exact .inl hb
        · exact .inr ⟨b, o, cs, T, fr, vs, h1, h2, h3, rkl _ _ h4, h5, h6⟩
      | map kd es =>
        obtain ⟨b, ents, clk, h1, h2, h3, h4⟩ := hb
        exact ⟨b, ents, clk, h1, h2, RepE.mono rk h3, h4⟩
  · rcases hget i Bi h1 with rfl | ⟨_, h1⟩
    · cases h2
    · rcases hget j Bj h3 with rfl | ⟨_, h3⟩
      · cases h4
      · exact hc.inj i j b o o' ⟨Bi, h1, h2⟩ ⟨Bj, h3, h4⟩ h5 h6
  · refine ⟨hg.os, hg.tape, hg.output, hg.size, hg.old, hg.shape, fun id B hB => ?_, fun id b o hn hl ht => ?_⟩
    · obtain ⟨B', h1, h2⟩ := hg.ids id B hB
      have hid : id < C0.H.length := (List.getElem?_eq_some_iff.1 hB).1
      exact ⟨B', by show (H.set io .dead)[id]? = _; rw [List.getElem?_set_ne (by omega)]; exact h1, h2⟩
    · obtain ⟨B, h1, h2⟩ := hl
      rcases hget id B h1 with rfl | ⟨_, h1⟩
      · cases h2
      · exact hg.new id b o hn ⟨B, h1, h2⟩ ht
  · obtain ⟨b, ents, clk, h1, h2, h3, h4, h5⟩ := hc.blk io _ hm
    obtain ⟨l1, l2⟩ := (RepE.mono rk h3).lists
    refine ⟨b, clk, ents.toList.map (·.born), h1, ?_, h5.2, ?_⟩
    · have := l1.length; simp only [List.length_map] at this ⊢; exact this.symm ▸ rfl
    · simp only [Rep]
      refine ⟨trivial, ⟨(Array.getElem?_eq_some_iff.1 h2).1, fun ⟨id, o, ⟨B, hB, hl⟩, ht⟩ => ?_⟩, ents, h2, h5, rfl, l1, l2, fun x hx => ?_⟩
      · rcases hget id B hB with rfl | ⟨hne, hB⟩
        · cases hl
        · exact hne (hc.inj id io b o 0 ⟨B, hB, hl⟩ ⟨_, hm, rfl⟩ ht h1)
      · obtain ⟨p, hp, rfl⟩ := List.mem_map.1 hx
        exact h4 p hp

/-- A MAP OF ONE'S OWN IS WRITTEN NO MORE. -/
theorem go_pin {c0 : Code} {t io : Nat} {kd : Option IntKind} {es : List (SV × SV)} (hm : H[io]? = some (.map kd es)) (hC : C.H.length ≤ io) (hB : Based G C.H.length) (ht : look env t = some (.map io))
    (h : ∀ b clk born, born.length = es.length → born.Nodup → (Out P G T own nt ρ C rs R) (.code c0 :: k) .normal ((t, .imap b clk born kd (es.map Prod.fst) (es.map Prod.snd)) :: env) (H.set io .dead)) : (Out P G T own nt ρ C rs R) (.code c0 :: k) .normal env H := by
  rintro ⟨θ, Hc, w⟩ a hc hi hg
  simp only at hc
  subst hc
  obtain ⟨k1, k2, b, clk, born, k3, k4, k5, k6⟩ := Cx.kill (C := C) hm hi.heap hC
  refine h b clk born k4 k5 ⟨θ, Hc.set io .dead, w⟩ a rfl ⟨k1, ⟨fun p hp => (Rep.kill_both hm).1 _ _ (hi.glob.1 p hp), fun C0 h0 => k2 C0 (Nat.le_trans (hB C0 h0) hC) (hi.glob.2 C0 h0)⟩, hi.size, fun t' x hx => ?_, ?_⟩ (k2 C hC hg)
  · simp only [look] at hx
    split at hx
    · rename_i e
      cases hx
      subst e
      have hv := hi.env t' _ ht
      simp only [Rep, hm] at hv
      obtain ⟨_, b', e1, e2⟩ := hv
      rw [k3] at e1
      cases e1
      rw [e2]; exact k6
    · exact (Rep.kill_both hm).1 _ _ (hi.env t' x hx)
  · refine ⟨fun d hd => ?_, hi.defs.2⟩
    obtain ⟨r, q1, q2, q3, q4⟩ := hi.defs.1 d hd
    refine ⟨r, q1, q2, ⟨q3.1, fun ⟨id, o, ⟨B, hB', hl⟩, ht'⟩ => q3.2 ⟨id, o, ⟨B, ?_, hl⟩, ht'⟩⟩, q4⟩
    have hB2 : (Hc.set io .dead)[id]? = some B := hB'
    rw [List.getElem?_set] at hB2
    split at hB2
    · split at hB2
      · cases hB2; cases hl
      · cases hB2
    · exact hB2

/-- A NIL SLICE IS TAKEN FOR ONE OF ONE'S OWN, of no elements. -/
theorem go_ownNil (t sz : Nat) {c0 : Code} (ht : look env t = some .nil) (h : (Out P G T own nt ρ C rs R) (.code c0 :: k) .normal ((t, .sl H.length 0 0 0) :: env) (H ++ [.cells 0 sz []])) : (Out P G T own nt ρ C rs R) (.code c0 :: k) .normal env H := by
  intro c a hc hi hg
  obtain ⟨g1, g2⟩ := Cx.fresh hi.heap (w' := c.w) c.w.heap.size (Nat.le_refl _) 0 none (.inl rfl) (.cells 0 sz []) (fun _ _ => rfl) (Nat.le_refl _) rfl rfl rfl (fun _ => .inl ⟨by simp, rfl⟩)
  generalize hc2 : (⟨fun i => if i = c.H.length then none else c.θ i, c.H ++ [.cells 0 sz []], c.w⟩ : Cx) = c2 at g1 g2
  have hH : c2.H = H ++ [.cells 0 sz []] := by rw [← hc2]; show c.H ++ _ = _; rw [hc]
  have hw : c2.w = c.w := by rw [← hc2]
  rw [← hw]
  refine h c2 a hH ⟨g2, hi.glob.grow g1, hi.size, fun t' x hx => ?_, hi.defs.grow g1⟩ (hg.trans g1)
  simp only [look] at hx
  split at hx
  · rename_i e
    cases hx
    subst e
    have hv := hi.env t' _ ht
    simp only [Rep] at hv
    rw [hv]
    simp only [Rep, hH]
    refine ⟨rfl, ?_⟩
    simp only [List.getElem?_append_right (Nat.le_refl _), Nat.sub_self, List.getElem?_cons_zero]
    exact .inr ⟨trivial, Nat.le_refl _, none, 0, rfl, Nat.le_refl _, Nat.zero_le _, .inl rfl⟩
  · exact (hi.env t' x hx).grow g1

theorem go_range {x : Operand} {t bm clk : Nat} {born : List Nat} {kd : Option IntKind} {ks vs : List SV} {ti : TI} (h1 : ev G env x = some (.imap bm clk born kd ks vs)) (h2 : mapTypes T t = some (kd, ti)) (hd : Nat.blt d nt = true)
    (hk : (Out P G T own nt ρ C rs R) (.ops all r :: k) .normal ((d, .it H.length) :: env) (H ++ [.obj (.mapIter (some bm) clk #[] clk)])) : (Out P G T own nt ρ C rs R) (.ops all (⟨some d, .range t x, ty, pos, after, none⟩ :: r) :: k) .normal env H := by
  refine OW.law (R0 := fun y H' => y = .it H.length ∧ H' = H ++ [.obj (.mapIter (some bm) clk #[] clk)]) rfl rfl hd (fun hT c a o' hs hc hi hg next Q hn => ?_) (fun y H' hy => by obtain ⟨rfl, rfl⟩ := hy; exact hk)
  have hv := ev_ok hi h1
  simp only [Rep] at hv
  obtain ⟨e1, e2, ents, e3, _⟩ := hv
  have hu : ∃ kk e, P.underlying t = some (.map kk e) := by
    unfold mapTypes at h2
    split at h2
    · rename_i q; exact ⟨_, _, (hT _ _ q).1⟩
    · cases h2
  obtain ⟨kk, e, hu⟩ := hu
  obtain ⟨g1, g2⟩ := Cx.fresh hi.heap (w' := c.w.alloc (.mapIter (some bm) clk #[] clk)) c.w.heap.size (Nat.le_refl _) 0 (some (c.w.heap.size, 0)) (.inr rfl) (.obj (.mapIter (some bm) clk #[] clk)) (fun b hb => Go.RowKit.Below.heap_alloc _ _ b hb) (by simp) rfl rfl rfl
    (fun _ => ⟨c.w.heap.size, by simp, World.alloc_heap_new _ _, fun ds e => by cases e⟩)
  obtain ⟨s1, s2, s3⟩ := hs
  refine wp_val (u := .pointer (some ⟨c.w.heap.size, 0, none⟩)) (w' := c.w.alloc (.mapIter (some bm) clk #[] clk)) (by rw [s2]; intro _ e; cases e) ?_ ?_
  · simp [execOp, s2, e1, run_range_at c.w t kk e bm clk ents hu e3]
  · rw [s1]
    have := hn (.it c.H.length) _ (.pointer (some ⟨c.w.heap.size, 0, none⟩)) (by rw [hc]; exact ⟨rfl, rfl⟩) g2 (by
      simp only [Rep]
      refine ⟨rfl, ?_⟩
      simp only [List.getElem?_append_right (Nat.le_refl _), Nat.sub_self, List.getElem?_cons_zero]
      exact ⟨c.w.heap.size, by simp, rfl⟩) g1
    exact this

theorem RepL.at {c : Cx} {α : Type} {f : α → Value} : ∀ {xs : List SV} {l : List α}, RepL c xs (l.map f) → ∀ {i : Nat} {e : α}, l[i]? = some e → ∃ x, xs[i]? = some x ∧ Rep c x (f e)
  | [], l, h, i, e, he => by
    have := RepL.nil_iff.1 h
    rw [List.map_eq_nil_iff] at this
    subst this; cases he
  | x :: xs, l, h, i, e, he => by
    cases l with
    | nil => cases he
    | cons y l =>
      obtain ⟨u, us, h1, h2, h3⟩ := RepL.cons_iff.1 h
      rw [List.map_cons, List.cons.injEq] at h3
      obtain ⟨rfl, rfl⟩ := h3
      cases i with
      | zero => cases he; exact ⟨x, rfl, h1⟩
      | succ i => exact RepL.at h2 (i := i) he

theorem go_next {x : Operand} {tm iid bm clk : Nat} {seen : Array Nat} {born : List Nat} {kd : Option IntKind} {ks vs : List SV} (h1 : ev G env x = some (.it iid)) (h2 : look env tm = some (.imap bm clk born kd ks vs)) (h3 : H[iid]? = some (.obj (.mapIter (some bm) clk seen clk))) (hd : Nat.blt d nt = true)
    (hk0 : (∀ b ∈ born, seen.contains b = true) → (Out P G T own nt ρ C rs R) (.ops all r :: k) .normal ((d, .tuple [.bool false]) :: env) H)
    (hk1 : ∀ (i b : Nat) (q y : SV), born[i]? = some b → seen.contains b = false → ks[i]? = some q → vs[i]? = some y → (Out P G T own nt ρ C rs R) (.ops all r :: k) .normal ((d, .tuple [.bool true, q, y]) :: env) (H.set iid (.obj (.mapIter (some bm) clk (seen.push b) clk)))) :
    (Out P G T own nt ρ C rs R) (.ops all (⟨some d, .next x false, ty, pos, after, none⟩ :: r) :: k) .normal env H := by
  refine OW.law (R0 := fun z H' => ((∀ b ∈ born, seen.contains b = true) ∧ z = .tuple [.bool false] ∧ H' = H) ∨ ∃ (i b : Nat) (q y : SV), born[i]? = some b ∧ seen.contains b = false ∧ ks[i]? = some q ∧ vs[i]? = some y ∧ z = .tuple [.bool true, q, y] ∧ H' = H.set iid (.obj (.mapIter (some bm) clk (seen.push b) clk)))
    rfl rfl hd (fun hT c a o' hs hc hi hg next Q hn => ?_) (fun z H' hz => by
      rcases hz with ⟨q1, rfl, rfl⟩ | ⟨i, b, q, y, q1, q2, q3, q4, rfl, rfl⟩
      · exact hk0 q1
      · exact hk1 i b q y q1 q2 q3 q4)
  have hv := ev_ok hi h1
  have hm := hi.env tm _ h2
  rw [← hc] at h3
  simp only [Rep, h3] at hv
  obtain ⟨_, rb, r1, r2⟩ := hv
  simp only [Rep] at hm
  obtain ⟨_, m1, ents, m2, m3, m4, m5, m6, m7⟩ := hm
  obtain ⟨b', q1, q2⟩ := obj_at hi.heap h3
  rw [r1] at q1; cases q1
  obtain ⟨s1, s2, s3⟩ := hs
  have r2' : a.eval x = .pointer (some ⟨rb, 0, none⟩) := r2
  rcases run_next_at (P := P) c.w o'.type rb bm clk seen ents q2 m2 m3.1 with ⟨n1, n2⟩ | ⟨e, n1, n2, w1, n3, n4⟩
  · refine wp_val (u := .tuple #[.bool false]) (w' := c.w) (by rw [s2]; intro _ e; cases e) ?_ ?_
    · simp [execOp, s2, r2', n2]
    · rw [s1]
      exact hn (.tuple [.bool false]) c _ (.inl ⟨fun b hb => by
        rw [← m4] at hb
        obtain ⟨e, he, rfl⟩ := List.mem_map.1 hb
        exact n1 e he, rfl, hc⟩) hi.heap (by simp only [Rep]; exact ⟨[.bool false], RepL.mk_cons (rep_bool c false) RepL.mk_nil, rfl⟩) (Grow.refl c)
  · obtain ⟨i, hi'⟩ := List.getElem?_of_mem n1
    obtain ⟨y1, y2, y3⟩ := RepL.at m5 hi'
    obtain ⟨z1, z2, z3⟩ := RepL.at m6 hi'
    have hb : born[i]? = some e.born := by rw [← m4, List.getElem?_map, hi']; rfl
    obtain ⟨c1, hc1, hg1, hh1⟩ : ∃ c1 : Cx, c1 = { c with w := w1 } ∧ Grow c c1 ∧ HeapOK c1 := by
      have := Cx.world hi.heap (w' := w1) (fun b _ => by rcases n3 with rfl | rfl <;> rfl) (by rcases n3 with rfl | rfl <;> exact Nat.le_refl _) (by rcases n3 with rfl | rfl <;> rfl) (by rcases n3 with rfl | rfl <;> rfl) (by rcases n3 with rfl | rfl <;> rfl)
      exact ⟨_, rfl, this.1, this.2⟩
    obtain ⟨c2, g1, g2, g3, g4⟩ := obj_turn (o := .mapIter (some bm) clk seen clk) (o' := .mapIter (some bm) clk (seen.push e.born) clk) hh1 (id := iid) (b := rb) (by rw [hc1]; exact h3) (by rw [hc1]; exact r1) rfl (fun _ _ _ e => by cases e) (fun _ e => by cases e)
    refine wp_val (u := .tuple #[.bool true, e.key, e.val]) (w' := w1.putObj rb (.mapIter (some bm) clk (seen.push e.born) clk)) (by rw [s2]; intro _ e; cases e) ?_ ?_
    · simp [execOp, s2, r2', n4]
    · rw [s1]
      have := hn (.tuple [.bool true, y1, z1]) c2 (.tuple #[.bool true, e.key, e.val]) (.inr ⟨i, e.born, y1, z1, hb, n2, y2, z2, rfl, by rw [g1, hc1]; show c.H.set _ _ = _; rw [hc]⟩) g4 (by
        simp only [Rep]
        exact ⟨[.bool true, e.key, e.val], RepL.mk_cons (rep_bool c2 true) (RepL.mk_cons (y3.grow (hg1.trans g3)) (RepL.mk_cons (z3.grow (hg1.trans g3)) RepL.mk_nil)), rfl⟩) (hg1.trans g3)
      rw [g2, hc1] at this
      exact this

theorem go_entry {x : Operand} {tm iid bm clk i b : Nat} {seen : Array Nat} {born : List Nat} {kd : Option IntKind} {ks vs : List SV} {q y : SV} (h1 : ev G env x = some (.it iid)) (h2 : look env tm = some (.imap bm clk born kd ks vs)) (h3 : H[iid]? = some (.obj (.mapIter (some bm) clk (seen.push b) clk)))
    (hb : born[i]? = some b) (hq : ks[i]? = some q) (hy : vs[i]? = some y) (hd : Nat.blt d nt = true)
    (hk : (Out P G T own nt ρ C rs R) (.ops all r :: k) .normal ((d, .tuple [q, y]) :: env) H) :
    (Out P G T own nt ρ C rs R) (.ops all (⟨some d, .entry x, ty, pos, after, none⟩ :: r) :: k) .normal env H := by
  refine OW.law (R0 := fun z H' => z = .tuple [q, y] ∧ H' = H) rfl rfl hd (fun hT c a o' hs hc hi hg next Q hn => ?_) (fun z H' hz => by obtain ⟨rfl, rfl⟩ := hz; exact hk)
  have hv := ev_ok hi h1
  have hm := hi.env tm _ h2
  rw [← hc] at h3
  simp only [Rep, h3] at hv
  obtain ⟨_, rb, r1, r2⟩ := hv
  simp only [Rep] at hm
  obtain ⟨_, m1, ents, m2, m3, m4, m5, m6, m7⟩ := hm
  obtain ⟨b', q1, q2⟩ := obj_at hi.heap h3
  rw [r1] at q1; cases q1
  obtain ⟨s1, s2, s3⟩ := hs
  have r2' : a.eval x = .pointer (some ⟨rb, 0, none⟩) := r2
  rw [← m4, List.getElem?_map] at hb
  obtain ⟨e, he, rfl⟩ := Option.map_eq_some_iff.1 hb
  obtain ⟨y1, y2, y3⟩ := RepL.at m5 he
  obtain ⟨z1, z2, z3⟩ := RepL.at m6 he
  rw [hq] at y2; cases y2
  rw [hy] at z2; cases z2
  refine wp_val (u := .tuple #[e.key, e.val]) (w' := c.w) (by rw [s2]; intro _ e; cases e) ?_ ?_
  · simp [execOp, s2, r2', run_entry_at (P := P) c.w rb bm clk seen ents e q2 m2 (List.mem_of_getElem? he) m3.2]
  · rw [s1]
    exact hn (.tuple [q, y]) c _ ⟨rfl, hc⟩ hi.heap (by simp only [Rep]; exact ⟨[e.key, e.val], RepL.mk_cons y3 (RepL.mk_cons z3 RepL.mk_nil), rfl⟩) (Grow.refl c)
end
end Go.Proofs.Ytgnmngflfillkaa
end

section
namespace Go.Proofs.Ytgnmngflfillkaa
open Go
set_option linter.unusedSimpArgs false
set_option linter.unusedVariables false
set_option maxRecDepth 10000

def idxFrom : Nat → List (List UInt8) → List UInt8 → Int
  | _, [], _ => -1
  | i, x :: r, v => if v = x then i else idxFrom (i + 1) r v

theorem index_list (G : Gl) (l : List (List UInt8)) (v : List UInt8) (H : List Blk) (hl : l.length < 4611686018427387904) :
    ACall Try.prog G 49 [.list 1 (l.map .str), .str v] H (fun r H' => H' = H ∧ r = .int .i64 (idxFrom 0 l v)) := by
  refine ACall.of_go TB [] tabOK _ Try.func49 rfl (by decide) Try.ntmps49 (by simp) rfl (by simp only [initEnv, Nat.reduceAdd]; rfl) fun C R' hR hC hcl hB => ?_; have X := noX; have hC' := congrArg List.length hC
  (refine runO ?_; repeat' (first | with_reducible exact trivial | ((with_reducible apply Fork.mk) <;> intro hb) | with_reducible apply Two.mk))
  · refine go_loop (fun i : Nat => [(0, .list 1 (l.map .str)), (1, .str v), (4, .int .i64 0), (7, .int .i64 l.length), (8, .int .i64 i)]) (fun _ => H) (fun i => l.length - i) (fun i => i ≤ l.length ∧ idxFrom i (l.drop i) v = idxFrom 0 l v) 0 (by simp) (Wk.sub ?_) ?_
    · simp (decide := true) [subEnv, look]
    intro K i hi hK
    (refine runO ?_; repeat' (first | with_reducible exact trivial | ((with_reducible apply Fork.mk) <;> intro hb) | with_reducible apply Two.mk))
    · have hi' : i < l.length := by omega
      rw [List.drop_eq_getElem_cons hi', idxFrom, if_pos hb] at hi
      exact Fin.out hR ⟨rfl, by rw [← hi.2]; rfl⟩
    · have hi' : i < l.length := by omega
      rw [List.drop_eq_getElem_cons hi', idxFrom, if_neg hb] at hi
      exact hK _ _ (i + 1) (by omega) ⟨hi', hi.2⟩ (Wk.sub (by simp [subEnv, look]))
    · rw [List.drop_of_length_le (by omega), idxFrom] at hi
      exact Fin.out hR ⟨rfl, by rw [← hi.2]; rfl⟩
end Go.Proofs.Ytgnmngflfillkaa
end

section
namespace Go.Proofs.Ytgnmngflfillkaa
open Go
set_option linter.unusedSimpArgs false
set_option linter.unusedVariables false
set_option maxRecDepth 10000

theorem idxFrom_ge : ∀ (l : List Str) (v : Str) (i : Nat), (idxFrom i l v = -1 ∧ v ∉ l) ∨ ((i : Int) ≤ idxFrom i l v ∧ v ∈ l)
  | [], v, i => .inl ⟨rfl, by simp⟩
  | x :: r, v, i => by
    rw [idxFrom]
    split
    · rename_i h; exact .inr ⟨Int.le_refl _, by simp [h]⟩
    · rename_i h
      rcases idxFrom_ge r v (i + 1) with h1 | h1
      · exact .inl ⟨h1.1, by simp [h, h1.2]⟩
      · exact .inr ⟨by omega, by simp [h1.2]⟩

theorem contains_list (G : Gl) (l : List Str) (v : Str) (H : List Blk) (hl : l.length < 4611686018427387904) :
    ACall Try.prog G 31 [.list 1 (l.map .str), .str v] H (fun r H' => H' = H ∧ r = .bool (decide (v ∈ l))) := by
  refine ACall.of_go TB [] tabOK _ Try.func31 rfl (by decide) Try.ntmps31 (by simp) rfl (by simp only [initEnv, Nat.reduceAdd]; rfl) fun C R' hR hC hcl hB => ?_; have X := noX; have hC' := congrArg List.length hC
  (refine runO ?_; repeat' (first | with_reducible exact trivial | ((with_reducible apply Fork.mk) <;> intro hb) | with_reducible apply Two.mk))
  refine go_call (xs := [.list 1 (l.map .str), .str v]) (by exact evS) rfl (index_list G l v H hl) ?_
  rintro r H' ⟨rfl, rfl⟩
  (refine runO ?_; repeat' (first | with_reducible exact trivial | ((with_reducible apply Fork.mk) <;> intro hb) | with_reducible apply Two.mk))
  refine Fin.out hR ⟨rfl, ?_⟩
  rcases idxFrom_ge l v 0 with h | h
  · simp [h.1, h.2, resSV]
  · simp only [h.2, decide_true, SV.bool.injEq, decide_eq_true_eq, resSV]; omega

theorem has_list (G : Gl) (l : List Str) (v : Str) (H : List Blk) (hl : l.length < 4611686018427387904) :
    ACall Try.prog G 23 [.list 1 (l.map .str), .str v] H (fun r H' => H' = H ∧ r = .bool (decide (v ∈ l))) := by
  refine ACall.of_go TB [] tabOK _ Try.func23 rfl (by decide) Try.ntmps23 (by simp) rfl (by simp only [initEnv, Nat.reduceAdd]; rfl) fun C R' hR hC hcl hB => ?_; have X := noX; have hC' := congrArg List.length hC
  (refine runO ?_; repeat' (first | with_reducible exact trivial | ((with_reducible apply Fork.mk) <;> intro hb) | with_reducible apply Two.mk))
  refine go_loop (fun i : Nat => [(0, .list 1 (l.map .str)), (1, .str v), (5, .int .i64 i)]) (fun _ => H) (fun i => l.length - i) (fun i => i ≤ l.length ∧ v ∉ l.take i) 0 (by simp) (Wk.sub (by simp [subEnv, look])) ?_
  intro K i hi hK
  (refine runO ?_; repeat' (first | with_reducible exact trivial | ((with_reducible apply Fork.mk) <;> intro hb) | with_reducible apply Two.mk))
  · have hi' : i < l.length := by omega
    exact Fin.out hR ⟨rfl, by rw [decide_eq_true (by rw [← hb]; exact List.getElem_mem hi')]; rfl⟩
  · have hi' : i < l.length := by omega
    exact hK _ _ (i + 1) (by omega) ⟨hi', by rw [List.take_succ_eq_append_getElem hi', List.mem_append]; simp only [hi.2, List.mem_singleton, false_or]; exact fun h => hb h.symm⟩ (Wk.sub (by simp [subEnv, look]))
  · have : l.take i = l := List.take_of_length_le (by omega)
    exact Fin.out hR ⟨rfl, by rw [decide_eq_false (by rw [← this]; exact hi.2)]; rfl⟩
end Go.Proofs.Ytgnmngflfillkaa
end

section
namespace Go.Proofs.Ytgnmngflfillkaa
open Go
set_option linter.unusedSimpArgs false
set_option linter.unusedVariables false
set_option maxRecDepth 10000
set_option maxHeartbeats 4000000

theorem bounded_ok (G : Gl) (hG : GClosed G) : ∀ (f : Nat) (e : Ex) (H : List Blk), e.wt < 1099511627776 → f ≤ 2001 →
    ACall Try.prog G 19 [e.sv, .int .i64 (2001 - f)] H (fun r H' => H' = H ∧ r = .tuple [.int .i64 (bnd f e).1, .bool (bnd f e).2])
  | 0, e, H, hw, hf => by
    refine ACall.of_go TB [] tabOK _ Try.func19 rfl (by decide) Try.ntmps19 (by simp) rfl (by simp only [initEnv, Nat.reduceAdd]; rfl) fun C R' hR hC hcl hB => ?_; have X := noX; have hC' := congrArg List.length hC
    have hC' : C.H.length = H.length := by rw [hC]
    (refine runO ?_; repeat' (first | with_reducible exact trivial | ((with_reducible apply Fork.mk) <;> intro hb) | with_reducible apply Two.mk))
    exact Fin.tellN (n0 := H.length) hR (by simp) hC' hcl (.same _ rfl) ⟨rfl, rfl⟩
  | f + 1, e, H, hw, hf => by
    obtain ⟨k, s, n, o, l, subs, binds, alts⟩ := e
    have hlen := Ex.wt_lens k s n o l subs binds alts
    have hfb : ((f + 1 : Nat) : Int) = f + 1 := by omega
    have hP : (Ex.mk k s n o l subs binds alts).parts = subs ++ (binds.map Bd.e ++ alts.map Al.body) := Ex.parts_mk ..
    generalize hpp : (Ex.mk k s n o l subs binds alts).parts = pp at hP
    have hlp : pp.length = subs.length + binds.length + alts.length := by rw [hP]; simp; omega
    have hbn : bnd (f + 1) (Ex.mk k s n o l subs binds alts) = bndL (bnd f) 1 pp := by rw [bnd, hpp]
    refine ACall.of_go TB [] tabOK _ Try.func19 rfl (by decide) Try.ntmps19 (by simp) rfl (by simp only [initEnv, Nat.reduceAdd]; rfl) fun C R' hR hC hcl hB => ?_; have X := noX; have hC' := congrArg List.length hC
    have hC' : C.H.length = H.length := by rw [hC]
    rw [hbn] at hR
    (refine runO ?_; repeat' (first | with_reducible exact trivial | ((with_reducible apply Fork.mk) <;> intro hb) | with_reducible apply Two.mk))
    refine go_loop (fun a : Nat × Int × Bool => [(1, .int .i64 (2001 - ((f + 1 : Nat) : Int))), (2, .ptr H.length 0 0 0), (6, .int .i64 a.2.1), (7, .bool a.2.2), (8, .int .i64 a.1)]) (fun _ => H ++ [.cells 0 8 [.agg [.int .i64 k, .str s, .int .i64 n, .int .i64 o, .list 1 (l.map .str), .list 8 (exCells subs), .list 9 (bdCells binds), .list 12 (alCells alts)]]])
        (fun a => pp.length - a.1) (fun a => a.1 ≤ pp.length ∧ 1 ≤ a.2.1 ∧ a.2.1 ≤ 30000 * ((f : Int) + 2) ∧ (if a.2.2 then bndL (bnd f) a.2.1 (pp.drop a.1) else (a.2.1, false)) = bndL (bnd f) 1 pp) (0, 1, true) ⟨Nat.zero_le _, Int.le_refl _, by show (1 : Int) ≤ _; omega, rfl⟩ ?_ ?_
    · exact wkS (n0 := H.length) [(H.length, 0)] hG hB (by rw [hC]) hcl
    · rintro K ⟨i, m, ok⟩ ⟨hi1, hi2, hi3, hi4⟩ hK
      simp only at hi1 hi2 hi3 hi4
      have go : ∀ (p : Ex), pp[i]? = some p → ok = true → m < 30000 → (bnd f p).1 ≤ 30000 * ((f : Int) + 1) ∧ 1 ≤ (bnd f p).1 ∧ (if (bnd f p).2 then bndL (bnd f) (m + (bnd f p).1) (pp.drop (i + 1)) else (m + (bnd f p).1, false)) = bndL (bnd f) 1 pp := by
        intro p hp hok hm
        have hlt : i < pp.length := (List.getElem?_eq_some_iff.1 hp).1
        have hpe : pp[i] = p := (List.getElem?_eq_some_iff.1 hp).2
        have hb := bnd_le f p
        rw [hok, if_pos rfl, List.drop_eq_getElem_cons hlt, hpe, bndL, if_pos hm] at hi4
        exact ⟨by omega, hb.1, hi4⟩
      have call : ∀ (p : Ex) (H2 : List Blk), pp[i]? = some p → ACall Try.prog G 19 [p.sv, .int .i64 (2001 - ((f + 1 : Nat) : Int) + 1)] H2 (fun r H' => H' = H2 ∧ r = .tuple [.int .i64 (bnd f p).1, .bool (bnd f p).2]) := fun p H2 hp => by
        rw [show 2001 - ((f + 1 : Nat) : Int) + 1 = 2001 - (f : Int) by omega]
        exact bounded_ok G hG f p H2 (Nat.lt_trans (Ex.wt_parts (hpp ▸ List.mem_of_getElem? hp)) hw) (by omega)
      (refine runO ?_; repeat' (first | with_reducible exact trivial | ((with_reducible apply Fork.mk) <;> intro hb) | with_reducible apply Two.mk))
      · have hlt : i < subs.length := by omega
        have hp : pp[i]? = some subs[i] := by
          have : pp[i]? = subs[i]? := by rw [hP]; exact List.getElem?_append_left hlt
          rw [this]; exact List.getElem?_eq_getElem hlt
        obtain ⟨g1, g2, g3⟩ := go _ hp ‹_› ‹_›
        refine go_call ?_ rfl (call _ _ hp) ?_
        · exact evS
        rintro r H' ⟨rfl, rfl⟩
        (refine runO ?_; repeat' (first | with_reducible exact trivial | ((with_reducible apply Fork.mk) <;> intro hb) | with_reducible apply Two.mk))
        refine hK _ _ (i + 1, m + (bnd f subs[i]).1, (bnd f subs[i]).2) (by simp only; omega) ⟨by simp only; omega, by simp only; omega, by simp only; omega, g3⟩ ?_
        exact wkS (n0 := H.length) [(H.length, 0)] hG hB (by rw [hC]) hcl
      · have hlt : (((i : Int) - subs.length).toNat) < binds.length := by omega
        have hp : pp[i]? = some binds[((i : Int) - subs.length).toNat].e := by
          rw [hP, List.getElem?_append_right (by omega), List.getElem?_append_left (by simp; omega), List.getElem?_map, show i - subs.length = ((i : Int) - subs.length).toNat by omega, List.getElem?_eq_getElem hlt]; rfl
        obtain ⟨g1, g2, g3⟩ := go _ hp ‹_› ‹_›
        refine go_call ?_ rfl (call _ _ hp) ?_
        · exact evS
        rintro r H' ⟨rfl, rfl⟩
        (refine runO ?_; repeat' (first | with_reducible exact trivial | ((with_reducible apply Fork.mk) <;> intro hb) | with_reducible apply Two.mk))
        refine hK _ _ (i + 1, m + (bnd f binds[((i : Int) - subs.length).toNat].e).1, (bnd f binds[((i : Int) - subs.length).toNat].e).2) (by simp only; omega) ⟨by simp only; omega, by simp only; omega, by simp only; omega, g3⟩ ?_
        exact wkS (n0 := H.length) [(H.length, 0)] hG hB (by rw [hC]) hcl
      · have hlt : (((i : Int) - subs.length - binds.length).toNat) < alts.length := by omega
        have hp : pp[i]? = some alts[((i : Int) - subs.length - binds.length).toNat].body := by
          rw [hP, List.getElem?_append_right (by omega), List.getElem?_append_right (by simp; omega), List.getElem?_map, List.length_map, show i - subs.length - binds.length = ((i : Int) - subs.length - binds.length).toNat by omega, List.getElem?_eq_getElem hlt]; rfl
        obtain ⟨g1, g2, g3⟩ := go _ hp ‹_› ‹_›
        refine go_call ?_ rfl (call _ _ hp) ?_
        · exact evS
        rintro r H' ⟨rfl, rfl⟩
        (refine runO ?_; repeat' (first | with_reducible exact trivial | ((with_reducible apply Fork.mk) <;> intro hb) | with_reducible apply Two.mk))
        refine hK _ _ (i + 1, m + (bnd f alts[((i : Int) - subs.length - binds.length).toNat].body).1, (bnd f alts[((i : Int) - subs.length - binds.length).toNat].body).2) (by simp only; omega) ⟨by simp only; omega, by simp only; omega, by simp only; omega, g3⟩ ?_
        exact wkS (n0 := H.length) [(H.length, 0)] hG hB (by rw [hC]) hcl
      · have hm := hb
        have ho : ok = true := ‹_›
        subst ho
        rw [if_pos rfl, List.drop_eq_getElem_cons (by omega), bndL, if_neg hm] at hi4
        exact Fin.tellN (n0 := H.length) hR (by simp) hC' hcl (.same _ rfl) ⟨rfl, by rw [← hi4]; rfl⟩
      · subst hb
        rw [if_neg (by simp)] at hi4
        exact Fin.tellN (n0 := H.length) hR (by simp) hC' hcl (.same _ rfl) ⟨rfl, by rw [← hi4]; rfl⟩
      · rw [List.drop_of_length_le (by omega), bndL] at hi4
        refine Fin.tellN (n0 := H.length) hR (by simp) hC' hcl (.same _ rfl) ⟨rfl, ?_⟩
        cases ok
        · rw [if_neg (by simp)] at hi4; rw [← hi4]; rfl
        · rw [if_pos rfl] at hi4; rw [← hi4]; rfl
end Go.Proofs.Ytgnmngflfillkaa
end

section
namespace Go.Proofs.Ytgnmngflfillkaa
open Go
set_option linter.unusedSimpArgs false
set_option linter.unusedVariables false
set_option maxRecDepth 10000
set_option maxHeartbeats 4000000

/-- tally of one name -/
def tl (s : Str) (n : Int) (b : Bool) : SV := .agg [.str s, .int .i64 n, .bool b]

/-- the names that an expression binds in all its parts -/
def ownOf (k : Int) (l : List Str) (binds : List Bd) : List Str := if k = 3 then l else if k = 5 then binds.map Bd.name else []

mutual
/-- how often a name stands free -/
def occ (s : Str) : Ex → Nat
  | .mk k nm _ _ l subs binds alts => if k = 1 then (if nm = s then 1 else 0) else if s ∈ ownOf k l binds then 0 else occL s subs + occB s binds + occA s (k = 6 ∧ nm = s) alts
def occL (s : Str) : List Ex → Nat
  | [] => 0
  | e :: r => occ s e + occL s r
def occBd (s : Str) : Bd → Nat
  | .mk _ e => occ s e
def occB (s : Str) : List Bd → Nat
  | [] => 0
  | b :: r => occBd s b + occB s r
def occAl (s : Str) (c : Prop) [Decidable c] : Al → Nat
  | .mk _ _ _ l e => if s ∈ l ∨ c then 0 else occ s e
def occA (s : Str) (c : Prop) [Decidable c] : List Al → Nat
  | [] => 0
  | a :: r => occAl s c a + occA s c r
end
mutual
/-- does it stand somewhere within a Lam? -/
def insd (s : Str) (b : Bool) : Ex → Bool
  | .mk k nm _ _ l subs binds alts => if k = 1 then (b && decide (nm = s)) else if s ∈ ownOf k l binds then false else insdL s (b || decide (k = 3)) subs || insdB s (b || decide (k = 3)) binds || insdA s (b || decide (k = 3)) (k = 6 ∧ nm = s) alts
def insdL (s : Str) (b : Bool) : List Ex → Bool
  | [] => false
  | e :: r => insd s b e || insdL s b r
def insdBd (s : Str) (b : Bool) : Bd → Bool
  | .mk _ e => insd s b e
def insdB (s : Str) (b : Bool) : List Bd → Bool
  | [] => false
  | x :: r => insdBd s b x || insdB s b r
def insdAl (s : Str) (b : Bool) (c : Prop) [Decidable c] : Al → Bool
  | .mk _ _ _ l e => if s ∈ l ∨ c then false else insd s b e
def insdA (s : Str) (b : Bool) (c : Prop) [Decidable c] : List Al → Bool
  | [] => false
  | a :: r => insdAl s b c a || insdA s b c r
end

theorem Bd.mk_eta (b : Bd) : Bd.mk b.name b.e = b := by cases b; rfl
theorem Al.mk_eta (a : Al) : Al.mk a.kind a.name a.n a.names a.body = a := by cases a; rfl
theorem occBd_eq (s : Str) (b : Bd) : occBd s b = occ s b.e := by cases b; rw [occBd]; rfl
theorem occAl_eq (s : Str) (c : Prop) [Decidable c] (a : Al) : occAl s c a = if s ∈ a.names ∨ c then 0 else occ s a.body := by cases a; rw [occAl]; rfl
theorem insdBd_eq (s : Str) (q : Bool) (b : Bd) : insdBd s q b = insd s q b.e := by cases b; rw [insdBd]; rfl
theorem insdAl_eq (s : Str) (q : Bool) (c : Prop) [Decidable c] (a : Al) : insdAl s q c a = if s ∈ a.names ∨ c then false else insd s q a.body := by cases a; rw [insdAl]; rfl

mutual
theorem occ_le (s : Str) : ∀ e : Ex, occ s e ≤ e.wt
  | .mk k nm n o l subs binds alts => by
    have h1 := occL_le s subs
    have h2 := occB_le s binds
    have h3 := occA_le s (k = 6 ∧ nm = s) alts
    simp only [occ, Ex.wt]
    split
    · split <;> omega
    · split <;> omega
theorem occL_le (s : Str) : ∀ l : List Ex, occL s l ≤ exsWt l
  | [] => Nat.le_refl _
  | e :: r => by have h1 := occ_le s e; have h2 := occL_le s r; simp only [occL, exsWt]; omega
theorem occBd_le (s : Str) : ∀ b : Bd, occBd s b ≤ b.wt
  | .mk n e => by have h1 := occ_le s e; simp only [occBd, Bd.wt]; omega
theorem occB_le (s : Str) : ∀ l : List Bd, occB s l ≤ bdsWt l
  | [] => Nat.le_refl _
  | e :: r => by have h1 := occBd_le s e; have h2 := occB_le s r; simp only [occB, bdsWt]; omega
theorem occAl_le (s : Str) (c : Prop) [Decidable c] : ∀ b : Al, occAl s c b ≤ b.wt
  | .mk k nm n l e => by have h1 := occ_le s e; simp only [occAl, Al.wt]; split <;> omega
theorem occA_le (s : Str) (c : Prop) [Decidable c] : ∀ l : List Al, occA s c l ≤ alsWt l
  | [] => Nat.le_refl _
  | e :: r => by have h1 := occAl_le s c e; have h2 := occA_le s c r; simp only [occA, alsWt]; omega
end

theorem Al.wt_names (a : Al) : a.names.length ≤ a.wt := by cases a; simp only [Al.wt, Al.names]; have := strsWt_len ‹_›; omega

theorem set_same {H : List Blk} {id : Nat} {x : Blk} (h : H[id]? = some x) : H.set id x = H := by
  obtain ⟨h1, rfl⟩ := List.getElem?_eq_some_iff.1 h
  exact List.set_getElem_self h1

theorem look_ok (G : Gl) (hG : GClosed G) : ∀ (m : Nat) (e : Ex) (H : List Blk) (id g : Nat) (s : Str) (n lams : Int) (b : Bool), e.wt ≤ m → H[id]? = some (.cells g 3 [tl s n b]) → 0 ≤ n → n + e.wt < 1099511627776 → 0 ≤ lams → lams + e.wt < 1099511627776 →
    ACall Try.prog G 22 [.ptr id g 0 0, e.sv, .int .i64 lams] H (fun r H' => H' = H.set id (.cells g 3 [tl s (n + occ s e) (b || insd s (decide (0 < lams)) e)]))
  | 0, e, H, id, g, s, n, lams, b, hw, _, _, _, _, _ => by have := e.wt_pos; omega
  | m + 1, e, H, id, g, s, n, lams, b, hw, hid, hn0, hn1, hl0, hl1 => by
    obtain ⟨kd, nm, nn, op, names, subs, binds, alts⟩ := e
    have hlen := Ex.wt_lens kd nm nn op names subs binds alts
    have hwt : (Ex.mk kd nm nn op names subs binds alts).wt = 1 + nm.length + strsWt names + exsWt subs + bdsWt binds + alsWt alts := rfl
    have hlt : id < H.length := (List.getElem?_eq_some_iff.1 hid).1
    have hlm : 0 ≤ (lams + if kd = 3 then 1 else 0) ∧ (lams + if kd = 3 then 1 else 0) ≤ lams + 1 := by split <;> omega
    refine ACall.of_go TB [6] tabOK _ Try.func22 rfl (by decide) Try.ntmps22 (by simp) rfl (by simp only [initEnv, Nat.reduceAdd]; rfl) fun C R' hR hC hcl hB => ?_; have X := noX; have hC' := congrArg List.length hC
    have hC' : C.H.length = H.length := by rw [hC]
    (have X := And.intro X (And.intro hid @tl.eq_1); refine runB ?_; repeat' (first | with_reducible exact trivial | ((with_reducible apply Fork.mk) <;> intro hb) | with_reducible apply Two.mk))
    refine go_cut (fun _ : Unit => [(0, .ptr id g 0 0), (2, .int .i64 (lams + if kd = 3 then 1 else 0)), (4, .ptr H.length 0 0 0), (6, .list 1 ((ownOf kd names binds).map .str))])
      (fun _ => H ++ [.cells 0 8 [.agg [.int .i64 kd, .str nm, .int .i64 nn, .int .i64 op, .list 1 (names.map .str), .list 8 (exCells subs), .list 9 (bdCells binds), .list 12 (alCells alts)]]]) (fun _ => kd ≠ 1) (fun K hK => ?_) (fun _ hkd => ?_)
    · (have X := And.intro X (And.intro hid @tl.eq_1); refine runO ?_; repeat' (first | with_reducible exact trivial | ((with_reducible apply Fork.mk) <;> intro hb) | with_reducible apply Two.mk))
      · rename_i h1 h2
        refine Fin.tellN (n0 := H.length) hR (by simp) hC' (hcl.set rfl) (.same _ rfl) ?_
        simp [occ, insd, tl, h1, h2, hb]
      · rename_i h1 h2
        refine Fin.tellN (n0 := H.length) hR (by simp) hC' (hcl.set rfl) (.same _ rfl) ?_
        simp [occ, insd, tl, h1, h2, hb]
      · rename_i h1
        refine Fin.tellN (n0 := H.length) hR (by simp) hC' hcl (.same _ rfl) ?_
        simp [occ, insd, h1, hb, set_same hid]
      · refine hK _ _ () (by omega) ?_
        simp only [hb, if_true, ownOf]
        exact wkS (n0 := H.length) [(H.length, 0)] hG hB (by rw [hC]) hcl
      · refine go_loop (fun i : Nat => [(0, .ptr id g 0 0), (2, .int .i64 lams), (4, .ptr H.length 0 0 0), (53, .list 9 (bdCells binds)), (54, .int .i64 binds.length), (55, .int .i64 i), (6, .sl (H.length + 1) 0 0 i)])
          (fun i => H ++ [.cells 0 8 [.agg [.int .i64 kd, .str nm, .int .i64 nn, .int .i64 op, .list 1 (names.map .str), .list 8 (exCells subs), .list 9 (bdCells binds), .list 12 (alCells alts)]], .cells 0 1 ((binds.take i).map fun b => .str b.name)])
          (fun i => binds.length - i) (fun i => i ≤ binds.length) 0 (Nat.zero_le _) ?_ ?_
        · exact wkS (n0 := H.length) [(H.length, 0), (H.length + 1, 0)] hG hB (by rw [hC]) hcl
        · intro K2 i hi hK2
          (have X := And.intro X (And.intro hid @tl.eq_1); refine runO ?_; repeat' (first | with_reducible exact trivial | ((with_reducible apply Fork.mk) <;> intro hb) | with_reducible apply Two.mk))
          · refine hK2 _ _ (i + 1) (by omega) (by omega) ?_
            simp only [List.take_succ_eq_append_getElem (show i < binds.length by omega), List.map_append, List.map_cons, List.map_nil]
            exact wkS (n0 := H.length) [(H.length, 0), (H.length + 1, 0)] hG hB (by rw [hC]) hcl
          · refine hK _ _ () (by omega) ?_
            have hi' : i = binds.length := by omega
            subst hi'
            rename_i h1 h2 h3
            have e1 : ownOf kd names binds = binds.map Bd.name := by simp [ownOf, h3]
            have e2 : ((lams + if kd = 3 then 1 else 0) : Int) = lams := by simp [h2]
            simp only [e1, e2, List.take_length, List.map_map]
            exact wkS (n0 := H.length) [(H.length, 0)] hG hB (by rw [hC]) hcl
      · refine hK _ _ () (by omega) ?_
        rename_i h1 h2
        simp only [h2, hb, if_false, ownOf, Int.add_zero]
        exact wkS (n0 := H.length) [(H.length, 0)] hG hB (by rw [hC]) hcl
    · have hol : (ownOf kd names binds).length < 4611686018427387904 := by unfold ownOf; split; omega; split; simp; omega; simp
      (have X := And.intro X (And.intro hid @tl.eq_1); refine runB ?_; repeat' (first | with_reducible exact trivial | ((with_reducible apply Fork.mk) <;> intro hb) | with_reducible apply Two.mk))
      refine go_call ?_ rfl (contains_list G (ownOf kd names binds) s _ hol) ?_
      · exact evS
      rintro r H' ⟨rfl, rfl⟩
      (have X := And.intro X (And.intro hid @tl.eq_1); refine runB ?_; repeat' (first | with_reducible exact trivial | ((with_reducible apply Fork.mk) <;> intro hb) | with_reducible apply Two.mk))
      · refine Fin.tellN (n0 := H.length) hR (by simp) hC' hcl (.same _ rfl) ?_
        simp [occ, insd, hkd, hb, set_same hid]
      have hno := hb
      -- the parts
      refine go_cut (fun a : Int × Bool => [(0, .ptr id g 0 0), (2, .int .i64 (lams + if kd = 3 then 1 else 0)), (4, .ptr H.length 0 0 0)])
        (fun a => H.set id (.cells g 3 [.agg [.str s, .int .i64 a.1, .bool a.2]]) ++ [.cells 0 8 [.agg [.int .i64 kd, .str nm, .int .i64 nn, .int .i64 op, .list 1 (names.map .str), .list 8 (exCells subs), .list 9 (bdCells binds), .list 12 (alCells alts)]]]) (fun a => a = (n + occL s subs, b || insdL s (decide (0 < lams) || decide (kd = 3)) subs)) (fun K hK => ?_) ?_
      · (refine runO ?_; repeat' (first | with_reducible exact trivial | ((with_reducible apply Fork.mk) <;> intro hb) | with_reducible apply Two.mk))
        refine go_loop (fun a : Nat × Int × Bool => [(0, .ptr id g 0 0), (2, .int .i64 (lams + if kd = 3 then 1 else 0)), (4, .ptr H.length 0 0 0), (72, .list 8 (exCells subs)), (73, .int .i64 subs.length), (74, .int .i64 a.1)])
          (fun a => H.set id (.cells g 3 [.agg [.str s, .int .i64 a.2.1, .bool a.2.2]]) ++ [.cells 0 8 [.agg [.int .i64 kd, .str nm, .int .i64 nn, .int .i64 op, .list 1 (names.map .str), .list 8 (exCells subs), .list 9 (bdCells binds), .list 12 (alCells alts)]]]) (fun a => subs.length - a.1)
          (fun a => a.1 ≤ subs.length ∧ 0 ≤ a.2.1 ∧ a.2.1 + exsWt (subs.drop a.1) ≤ n + exsWt subs ∧ a.2.1 + occL s (subs.drop a.1) = n + occL s subs ∧ (a.2.2 || insdL s (decide (0 < lams) || decide (kd = 3)) (subs.drop a.1)) = (b || insdL s (decide (0 < lams) || decide (kd = 3)) subs))
          (0, n, b) ⟨Nat.zero_le _, hn0, Int.le_refl _, rfl, rfl⟩ ?_ ?_
        · rw [show H.set id (.cells g 3 [.agg [.str s, .int .i64 n, .bool b]]) = H from set_same hid]
          exact wkS (n0 := H.length) [(H.length, 0)] hG hB (by rw [hC]) hcl
        · rintro K2 ⟨i, n', b'⟩ ⟨hi, h1, h2, h3, h4⟩ hK2
          simp only at hi h1 h2 h3 h4
          (refine runO ?_; repeat' (first | with_reducible exact trivial | ((with_reducible apply Fork.mk) <;> intro hb) | with_reducible apply Two.mk))
          · have hi' : i < subs.length := by omega
            rw [List.drop_eq_getElem_cons hi'] at h2 h3 h4
            simp only [exsWt, occL, insdL] at h2 h3 h4
            have hm := exsWt_mem (List.getElem_mem hi')
            have ho := occ_le s subs[i]
            refine go_call ?_ rfl (look_ok G hG m subs[i] _ id g s n' (lams + if kd = 3 then 1 else 0) b' (by omega) (get_oldS hlt) h1 (by omega) hlm.1 (by omega)) ?_
            · exact evS
            intro r H' hH
            rw [set_oldS hlt] at hH
            subst hH
            (refine runO ?_; repeat' (first | with_reducible exact trivial | ((with_reducible apply Fork.mk) <;> intro hb) | with_reducible apply Two.mk))
            refine hK2 _ _ (i + 1, n' + occ s subs[i], b' || insd s (decide (0 < lams) || decide (kd = 3)) subs[i]) (by simp only; omega) ⟨by simp only; omega, by simp only; omega, by simp only; omega, by simp only; omega, ?_⟩ ?_
            · simp only; rw [← h4, Bool.or_assoc]
            · have e : decide (0 < (lams + if kd = 3 then 1 else 0)) = (decide (0 < lams) || decide (kd = 3)) := by
                by_cases h : kd = 3 <;> simp [h] <;> omega
              rw [e]
              exact wkS (n0 := H.length) [(H.length, 0)] hG hB (by rw [hC]) (hcl.set rfl)
          · have hi' : i = subs.length := by omega
            subst hi'
            rw [List.drop_length] at h3 h4
            simp only [occL, insdL, Bool.or_false] at h3 h4
            refine hK _ _ (n', b') (by rw [← h4, ← h3]; simp) ?_
            exact wkS (n0 := H.length) [(H.length, 0)] hG hB (by rw [hC]) (hcl.set rfl)
      rintro _ rfl
      generalize hn1' : n + (occL s subs : Int) = n1
      generalize hb1' : (b || insdL s (decide (0 < lams) || decide (kd = 3)) subs) = b1
      have ho1 := occL_le s subs
      (refine runB ?_; repeat' (first | with_reducible exact trivial | ((with_reducible apply Fork.mk) <;> intro hb) | with_reducible apply Two.mk))
      refine go_cut (fun a : Int × Bool => [(0, .ptr id g 0 0), (2, .int .i64 (lams + if kd = 3 then 1 else 0)), (4, .ptr H.length 0 0 0)])
        (fun a => H.set id (.cells g 3 [.agg [.str s, .int .i64 a.1, .bool a.2]]) ++ [.cells 0 8 [.agg [.int .i64 kd, .str nm, .int .i64 nn, .int .i64 op, .list 1 (names.map .str), .list 8 (exCells subs), .list 9 (bdCells binds), .list 12 (alCells alts)]]]) (fun a => a = (n1 + occB s binds, b1 || insdB s (decide (0 < lams) || decide (kd = 3)) binds)) (fun K hK => ?_) ?_
      · (refine runO ?_; repeat' (first | with_reducible exact trivial | ((with_reducible apply Fork.mk) <;> intro hb) | with_reducible apply Two.mk))
        refine go_loop (fun a : Nat × Int × Bool => [(0, .ptr id g 0 0), (2, .int .i64 (lams + if kd = 3 then 1 else 0)), (4, .ptr H.length 0 0 0), (84, .list 9 (bdCells binds)), (85, .int .i64 binds.length), (86, .int .i64 a.1)])
          (fun a => H.set id (.cells g 3 [.agg [.str s, .int .i64 a.2.1, .bool a.2.2]]) ++ [.cells 0 8 [.agg [.int .i64 kd, .str nm, .int .i64 nn, .int .i64 op, .list 1 (names.map .str), .list 8 (exCells subs), .list 9 (bdCells binds), .list 12 (alCells alts)]]]) (fun a => binds.length - a.1)
          (fun a => a.1 ≤ binds.length ∧ 0 ≤ a.2.1 ∧ a.2.1 + bdsWt (binds.drop a.1) ≤ n1 + bdsWt binds ∧ a.2.1 + occB s (binds.drop a.1) = n1 + occB s binds ∧ (a.2.2 || insdB s (decide (0 < lams) || decide (kd = 3)) (binds.drop a.1)) = (b1 || insdB s (decide (0 < lams) || decide (kd = 3)) binds))
          (0, n1, b1) ⟨Nat.zero_le _, by simp only; omega, Int.le_refl _, rfl, rfl⟩ ?_ ?_
        · exact wkS (n0 := H.length) [(H.length, 0)] hG hB (by rw [hC]) (hcl.set rfl)
        · rintro K2 ⟨i, n', b'⟩ ⟨hi, h1, h2, h3, h4⟩ hK2
          simp only at hi h1 h2 h3 h4
          (refine runO ?_; repeat' (first | with_reducible exact trivial | ((with_reducible apply Fork.mk) <;> intro hb) | with_reducible apply Two.mk))
          · have hi' : i < binds.length := by omega
            rw [List.drop_eq_getElem_cons hi'] at h2 h3 h4
            simp only [bdsWt, occB, insdB, occBd_eq, insdBd_eq] at h2 h3 h4
            have hm := bdsWt_mem (List.getElem_mem hi')
            have hm2 := binds[i].wt_gt
            have ho := occ_le s binds[i].e
            refine go_call ?_ rfl (look_ok G hG m binds[i].e _ id g s n' (lams + if kd = 3 then 1 else 0) b' (by omega) (get_oldS hlt) h1 (by omega) hlm.1 (by omega)) ?_
            · exact evS
            intro r H' hH
            rw [set_oldS hlt] at hH
            subst hH
            (refine runO ?_; repeat' (first | with_reducible exact trivial | ((with_reducible apply Fork.mk) <;> intro hb) | with_reducible apply Two.mk))
            refine hK2 _ _ (i + 1, n' + occ s binds[i].e, b' || insd s (decide (0 < lams) || decide (kd = 3)) binds[i].e) (by simp only; omega) ⟨by simp only; omega, by simp only; omega, by simp only; omega, by simp only; omega, ?_⟩ ?_
            · simp only; rw [← h4, Bool.or_assoc]
            · have e : decide (0 < (lams + if kd = 3 then 1 else 0)) = (decide (0 < lams) || decide (kd = 3)) := by
                by_cases h : kd = 3 <;> simp [h] <;> omega
              rw [e]
              exact wkS (n0 := H.length) [(H.length, 0)] hG hB (by rw [hC]) (hcl.set rfl)
          · have hi' : i = binds.length := by omega
            subst hi'
            rw [List.drop_length] at h3 h4
            simp only [occB, insdB, Bool.or_false] at h3 h4
            refine hK _ _ (n', b') (by rw [← h4, ← h3]; simp) ?_
            exact wkS (n0 := H.length) [(H.length, 0)] hG hB (by rw [hC]) (hcl.set rfl)
      rintro _ rfl
      generalize hn2' : n1 + (occB s binds : Int) = n2
      generalize hb2' : (b1 || insdB s (decide (0 < lams) || decide (kd = 3)) binds) = b2
      have ho2 := occB_le s binds
      (refine runB ?_; repeat' (first | with_reducible exact trivial | ((with_reducible apply Fork.mk) <;> intro hb) | with_reducible apply Two.mk))
      refine go_cut (fun a : Int × Bool => [(0, .ptr id g 0 0), (2, .int .i64 (lams + if kd = 3 then 1 else 0)), (4, .ptr H.length 0 0 0)])
        (fun a => H.set id (.cells g 3 [.agg [.str s, .int .i64 a.1, .bool a.2]]) ++ [.cells 0 8 [.agg [.int .i64 kd, .str nm, .int .i64 nn, .int .i64 op, .list 1 (names.map .str), .list 8 (exCells subs), .list 9 (bdCells binds), .list 12 (alCells alts)]]]) (fun a => a = (n2 + occA s (kd = 6 ∧ nm = s) alts, b2 || insdA s (decide (0 < lams) || decide (kd = 3)) (kd = 6 ∧ nm = s) alts)) (fun K hK => ?_) ?_
      · (refine runO ?_; repeat' (first | with_reducible exact trivial | ((with_reducible apply Fork.mk) <;> intro hb) | with_reducible apply Two.mk))
        refine go_loop (fun a : Nat × Int × Bool => [(0, .ptr id g 0 0), (2, .int .i64 (lams + if kd = 3 then 1 else 0)), (4, .ptr H.length 0 0 0), (97, .list 12 (alCells alts)), (98, .int .i64 alts.length), (99, .int .i64 a.1)])
          (fun a => H.set id (.cells g 3 [.agg [.str s, .int .i64 a.2.1, .bool a.2.2]]) ++ [.cells 0 8 [.agg [.int .i64 kd, .str nm, .int .i64 nn, .int .i64 op, .list 1 (names.map .str), .list 8 (exCells subs), .list 9 (bdCells binds), .list 12 (alCells alts)]]]) (fun a => alts.length - a.1)
          (fun a => a.1 ≤ alts.length ∧ 0 ≤ a.2.1 ∧ a.2.1 + alsWt (alts.drop a.1) ≤ n2 + alsWt alts ∧ a.2.1 + occA s (kd = 6 ∧ nm = s) (alts.drop a.1) = n2 + occA s (kd = 6 ∧ nm = s) alts ∧ (a.2.2 || insdA s (decide (0 < lams) || decide (kd = 3)) (kd = 6 ∧ nm = s) (alts.drop a.1)) = (b2 || insdA s (decide (0 < lams) || decide (kd = 3)) (kd = 6 ∧ nm = s) alts))
          (0, n2, b2) ⟨Nat.zero_le _, by simp only; omega, Int.le_refl _, rfl, rfl⟩ ?_ ?_
        · exact wkS (n0 := H.length) [(H.length, 0)] hG hB (by rw [hC]) (hcl.set rfl)
        · rintro K2 ⟨i, n', b'⟩ ⟨hi, h1, h2, h3, h4⟩ hK2
          simp only at hi h1 h2 h3 h4
          (refine runO ?_; repeat' (first | with_reducible exact trivial | ((with_reducible apply Fork.mk) <;> intro hb) | with_reducible apply Two.mk))
          · have hi' : i < alts.length := by omega
            rw [List.drop_eq_getElem_cons hi'] at h2 h3 h4
            simp only [alsWt, occA, insdA, occAl_eq, insdAl_eq] at h2 h3 h4
            have hm := alsWt_mem (List.getElem_mem hi')
            have hm2 := alts[i].wt_gt
            have hm3 := alts[i].wt_names
            have ho := occ_le s alts[i].body
            refine xg_call ?_ (contains_list G alts[i].names s _ (by omega)) ?_
            · exact evS
            rintro r H' ⟨rfl, rfl⟩
            have hc6 : ∀ (h : ¬ s ∈ alts[i].names) (h2 : ¬ (kd = 6 ∧ nm = s)), (s ∈ alts[i].names ∨ kd = 6 ∧ nm = s) = False := fun h h2 => by simp only [h, h2, or_self]
            have go : ∀ (hf : (s ∈ alts[i].names ∨ kd = 6 ∧ nm = s) = False) , n' + occ s alts[i].body + alsWt (alts.drop (i + 1)) ≤ n2 + alsWt alts ∧ n' + occ s alts[i].body + occA s (kd = 6 ∧ nm = s) (alts.drop (i + 1)) = n2 + occA s (kd = 6 ∧ nm = s) alts ∧ (b' || insd s (decide (0 < lams) || decide (kd = 3)) alts[i].body || insdA s (decide (0 < lams) || decide (kd = 3)) (kd = 6 ∧ nm = s) (alts.drop (i + 1))) = (b2 || insdA s (decide (0 < lams) || decide (kd = 3)) (kd = 6 ∧ nm = s) alts) := fun hf => by
              simp only [hf, if_false] at h3 h4
              refine ⟨by omega, by omega, ?_⟩
              rw [← h4, Bool.or_assoc]
            have stay : ∀ (hf : (s ∈ alts[i].names ∨ kd = 6 ∧ nm = s) = True) , n' + alsWt (alts.drop (i + 1)) ≤ n2 + alsWt alts ∧ n' + occA s (kd = 6 ∧ nm = s) (alts.drop (i + 1)) = n2 + occA s (kd = 6 ∧ nm = s) alts ∧ (b' || insdA s (decide (0 < lams) || decide (kd = 3)) (kd = 6 ∧ nm = s) (alts.drop (i + 1))) = (b2 || insdA s (decide (0 < lams) || decide (kd = 3)) (kd = 6 ∧ nm = s) alts) := fun hf => by
              simp only [hf, if_true] at h3 h4
              refine ⟨by omega, by omega, ?_⟩
              rw [← h4]; simp
            have e : decide (0 < (lams + if kd = 3 then 1 else 0)) = (decide (0 < lams) || decide (kd = 3)) := by
              by_cases h : kd = 3 <;> simp [h] <;> omega
            (refine runO ?_; repeat' (first | with_reducible exact trivial | ((with_reducible apply Fork.mk) <;> intro hb) | with_reducible apply Two.mk))
            · obtain ⟨g1, g2, g3⟩ := go (hc6 ‹_› fun h => hb h.1)
              refine go_call ?_ rfl (look_ok G hG m alts[i].body _ id g s n' (lams + if kd = 3 then 1 else 0) b' (by omega) (get_oldS hlt) h1 (by omega) hlm.1 (by omega)) ?_
              · exact evS
              intro r H' hH
              rw [set_oldS hlt, e] at hH
              subst hH
              (refine runO ?_; repeat' (first | with_reducible exact trivial | ((with_reducible apply Fork.mk) <;> intro hb) | with_reducible apply Two.mk))
              refine hK2 _ _ (i + 1, n' + occ s alts[i].body, b' || insd s (decide (0 < lams) || decide (kd = 3)) alts[i].body) (by simp only; omega) ⟨by simp only; omega, by simp only; omega, g1, g2, g3⟩ ?_
              exact wkS (n0 := H.length) [(H.length, 0)] hG hB (by rw [hC]) (hcl.set rfl)
            · obtain ⟨g1, g2, g3⟩ := go (hc6 ‹_› fun h => hb h.2)
              refine go_call ?_ rfl (look_ok G hG m alts[i].body _ id g s n' (lams + if kd = 3 then 1 else 0) b' (by omega) (get_oldS hlt) h1 (by omega) hlm.1 (by omega)) ?_
              · exact evS
              intro r H' hH
              rw [set_oldS hlt, e] at hH
              subst hH
              (refine runO ?_; repeat' (first | with_reducible exact trivial | ((with_reducible apply Fork.mk) <;> intro hb) | with_reducible apply Two.mk))
              refine hK2 _ _ (i + 1, n' + occ s alts[i].body, b' || insd s (decide (0 < lams) || decide (kd = 3)) alts[i].body) (by simp only; omega) ⟨by simp only; omega, by simp only; omega, g1, g2, g3⟩ ?_
              exact wkS (n0 := H.length) [(H.length, 0)] hG hB (by rw [hC]) (hcl.set rfl)
            · rename_i q1 q2
              obtain ⟨g1, g2, g3⟩ := stay (eq_true (.inr ⟨Decidable.of_not_not q2, Decidable.of_not_not hb⟩))
              refine hK2 _ _ (i + 1, n', b') (by simp only; omega) ⟨by simp only; omega, h1, g1, g2, g3⟩ ?_
              exact wkS (n0 := H.length) [(H.length, 0)] hG hB (by rw [hC]) (hcl.set rfl)
            · obtain ⟨g1, g2, g3⟩ := stay (eq_true (.inl (Decidable.of_not_not hb)))
              refine hK2 _ _ (i + 1, n', b') (by simp only; omega) ⟨by simp only; omega, h1, g1, g2, g3⟩ ?_
              exact wkS (n0 := H.length) [(H.length, 0)] hG hB (by rw [hC]) (hcl.set rfl)
          · have hi' : i = alts.length := by omega
            subst hi'
            rw [List.drop_length] at h3 h4
            simp only [occA, insdA, Bool.or_false] at h3 h4
            refine hK _ _ (n', b') (by rw [← h4, ← h3]; simp) ?_
            exact wkS (n0 := H.length) [(H.length, 0)] hG hB (by rw [hC]) (hcl.set rfl)
      rintro _ rfl
      (refine runO ?_; repeat' (first | with_reducible exact trivial | ((with_reducible apply Fork.mk) <;> intro hb) | with_reducible apply Two.mk))
      refine Fin.tellN (n0 := H.length) hR (by simp) hC' (hcl.set rfl) (.same _ rfl) ?_
      simp only [occ, insd, if_neg hkd, if_neg hno, tl]
      rw [← hn2', ← hn1', ← hb2', ← hb1']
      simp only [Int.natCast_add, Int.add_assoc, Bool.or_assoc]
end Go.Proofs.Ytgnmngflfillkaa
end

section
namespace Go.Proofs.Ytgnmngflfillkaa
open Go
set_option linter.unusedSimpArgs false
set_option linter.unusedVariables false
set_option maxRecDepth 10000
set_option maxHeartbeats 4000000

theorem backward_ok (G : Gl) (hG : GClosed G) (binds : List Bd) (H : List Blk) : ACall Try.prog G 24 [.list 9 (bdCells binds)] H (fun r H' => H' = H ∧ r = .fn (.func 40) [] [.pto (.list 9 (bdCells binds))]) := by
  refine ACall.of_go TB [] tabOK _ Try.func24 rfl (by decide) Try.ntmps24 (by simp) rfl (by simp only [initEnv, Nat.reduceAdd]; rfl) fun C R' hR hC hcl hB => ?_; have X := noX; have hC' := congrArg List.length hC
  (refine runO ?_; repeat' (first | with_reducible exact trivial | ((with_reducible apply Fork.mk) <;> intro hb) | with_reducible apply Two.mk))
  refine Fin.tellN (n0 := H.length) hR (by simp) (by rw [hC]) hcl (.fn _ _ _ _ _ .nil (.cons _ _ _ _ ?_ .nil)) ⟨rfl, rfl⟩
  refine .ptr _ _ _ _ _ _ _ (by exact hbS) (Nat.le_refl _) (by simp) rfl (.same _ ?_)
  exact undS

theorem backward1_ok (G : Gl) (binds : List Bd) (hl : binds.length < 1099511627776) (n1 : Nat) (Hs : Nat → List Blk)
    (hy : ∀ i (h : i < binds.length) X, ACallV Try.prog G (.it n1) [.int .i64 i, .agg (.str binds[i].name :: binds[i].e.cells)] (Hs (i + 1) ++ X) (fun r H' => H' = Hs i ++ X ∧ r = .bool true)) :
    ACall Try.prog G 40 [.it n1, .pto (.list 9 (bdCells binds))] (Hs binds.length) (fun r H' => H' = Hs 0) := by
  refine ACall.of_go TB [] tabOK _ Try.func40 rfl (by decide) Try.ntmps40 (by simp) rfl (by simp only [initEnv, Nat.reduceAdd]; rfl) fun C R' hR hC hcl hB => ?_; have X := noX; have hC' := congrArg List.length hC
  (refine runO ?_; repeat' (first | with_reducible exact trivial | ((with_reducible apply Fork.mk) <;> intro hb) | with_reducible apply Two.mk))
  refine go_loop (fun a : Nat => [(0, .it n1), (1, .pto (.list 9 (bdCells binds))), (3, .int .i64 ((a : Int) - 1))]) (fun a => Hs a) (fun a => a) (fun a => a ≤ binds.length) binds.length (Nat.le_refl _) (Wk.sub (by simp [subEnv, look])) ?_
  intro K a ha hK
  (refine runO ?_; repeat' (first | with_reducible exact trivial | ((with_reducible apply Fork.mk) <;> intro hb) | with_reducible apply Two.mk))
  · have hlt : ((a : Int) - 1).toNat < binds.length := by omega
    have e : ((a : Int) - 1) = (((a : Int) - 1).toNat : Nat) := by omega
    have e2 : a = ((a : Int) - 1).toNat + 1 := by omega
    have hcall := hy ((a : Int) - 1).toNat hlt []
    rw [← e, ← e2, List.append_nil, List.append_nil] at hcall
    refine go_callV rfl ?_ rfl hcall ?_
    · exact evS
    rintro r H' ⟨rfl, rfl⟩
    (refine runO ?_; repeat' (first | with_reducible exact trivial | ((with_reducible apply Fork.mk) <;> intro hb) | with_reducible apply Two.mk))
    refine hK _ _ ((a : Int) - 1).toNat (by omega) (by omega) (Wk.sub ?_)
    rw [← e]
    exact ⟨rfl, rfl, rfl, trivial⟩
  · have : a = 0 := by omega
    subst this
    exact Fin.out hR rfl
end Go.Proofs.Ytgnmngflfillkaa
end

section
namespace Go.Proofs.Ytgnmngflfillkaa
open Go
set_option linter.unusedSimpArgs false
set_option linter.unusedVariables false
set_option maxRecDepth 10000
set_option maxHeartbeats 4000000

def argsOf (op : Int) : Int := if 1 ≤ op ∧ op ≤ 8 then 2 else if op = 10 then 1 else if op = 9 ∨ op = 11 then 0 else -1

theorem args_ok (G : Gl) (hG : GClosed G) (op : Int) (H : List Blk) : ACall Try.prog G 52 [.int .i64 op] H (fun r H' => H' = H ∧ r = .int .i64 (argsOf op)) := by
  refine ACall.of_go TB [] tabOK _ Try.func52 rfl (by decide) Try.ntmps52 (by simp) rfl (by simp only [initEnv, Nat.reduceAdd]; rfl) fun C R' hR hC hcl hB => ?_; have X := noX; have hC' := congrArg List.length hC
  (refine runO ?_; repeat' (first | with_reducible exact trivial | ((with_reducible apply Fork.mk) <;> intro hb) | with_reducible apply Two.mk))
  all_goals
    refine Fin.out hR ⟨rfl, ?_⟩
    simp only [resSV, argsOf]
    repeat' (first | rfl | split | (exfalso; omega))

theorem parts_ok (G : Gl) (hG : GClosed G) (e : Ex) (H : List Blk) (hw : e.wt < 4294967296) : ACall Try.prog G 53 [e.sv] H (fun r H' => H' = H ∧ r = .list 8 (exCells e.parts)) := by
  obtain ⟨kd, nm, nn, op, names, subs, binds, alts⟩ := e
  have hlen := Ex.wt_lens kd nm nn op names subs binds alts
  refine ACall.of_go TB [3] tabOK _ Try.func53 rfl (by decide) Try.ntmps53 (by simp) rfl (by simp only [initEnv, Nat.reduceAdd]; rfl) fun C R' hR hC hcl hB => ?_; have X := noX; have hC' := congrArg List.length hC
  have hC' : C.H.length = H.length := by rw [hC]
  (refine runO ?_; repeat' (first | with_reducible exact trivial | ((with_reducible apply Fork.mk) <;> intro hb) | with_reducible apply Two.mk))
  refine go_loop (fun i : Nat => [(1, .ptr H.length 0 0 0), (3, .sl (H.length + 1) 0 0 (subs.length + i)), (4, .int .i64 i)]) (fun i => H ++ [.cells 0 8 [.agg [.int .i64 kd, .str nm, .int .i64 nn, .int .i64 op, .list 1 (names.map .str), .list 8 (exCells subs), .list 9 (bdCells binds), .list 12 (alCells alts)]], .cells 0 8 (exCells subs ++ (binds.take i).map fun b => .agg b.e.cells)])
    (fun i => binds.length - i) (fun i => i ≤ binds.length) 0 (Nat.zero_le _) ?_ ?_
  · simp only [List.take_zero, List.map_nil, List.append_nil, Nat.add_zero]
    exact wkS (n0 := H.length) [(H.length, 0), (H.length + 1, 0)] hG hB (by rw [hC]) hcl
  · intro K i hi hK
    (refine runO ?_; repeat' (first | with_reducible exact trivial | ((with_reducible apply Fork.mk) <;> intro hb) | with_reducible apply Two.mk))
    · refine hK _ _ (i + 1) (by omega) (by omega) ?_
      simp only [List.take_succ_eq_append_getElem (show i < binds.length by omega), List.map_append, List.map_cons, List.map_nil]
      exact wkS (n0 := H.length) [(H.length, 0), (H.length + 1, 0)] hG hB (by rw [hC]) hcl
    · have hi' : i = binds.length := by omega
      subst hi'
      simp only [List.take_length]
      refine go_loop (fun i : Nat => [(1, .ptr H.length 0 0 0), (3, .sl (H.length + 1) 0 0 (subs.length + binds.length + i)), (5, .int .i64 i)]) (fun i => H ++ [.cells 0 8 [.agg [.int .i64 kd, .str nm, .int .i64 nn, .int .i64 op, .list 1 (names.map .str), .list 8 (exCells subs), .list 9 (bdCells binds), .list 12 (alCells alts)]], .cells 0 8 (exCells subs ++ ((binds.map fun b => .agg b.e.cells) ++ (alts.take i).map fun a => .agg a.body.cells))])
        (fun i => alts.length - i) (fun i => i ≤ alts.length) 0 (Nat.zero_le _) ?_ ?_
      · simp only [List.take_zero, List.map_nil, List.append_nil, Nat.add_zero]
        exact wkS (n0 := H.length) [(H.length, 0), (H.length + 1, 0)] hG hB (by rw [hC]) hcl
      · intro K2 i hi hK2
        (refine runO ?_; repeat' (first | with_reducible exact trivial | ((with_reducible apply Fork.mk) <;> intro hb) | with_reducible apply Two.mk))
        · refine hK2 _ _ (i + 1) (by omega) (by omega) ?_
          simp only [List.take_succ_eq_append_getElem (show i < alts.length by omega), List.map_append, List.map_cons, List.map_nil]
          exact wkS (n0 := H.length) [(H.length, 0), (H.length + 1, 0)] hG hB (by rw [hC]) hcl
        · have hi' : i = alts.length := by omega
          subst hi'
          have hpe : exCells (Ex.mk kd nm nn op names subs binds alts).parts = exCells subs ++ ((binds.map fun b => .agg b.e.cells) ++ alts.map fun a => .agg a.body.cells) := by
            simp only [Ex.parts_mk, exCells_map, List.map_append, List.map_map]; rfl
          refine Fin.tellN (n0 := H.length) hR (by simp) hC' hcl (Frz.sf (by exact hbS) (by omega) (by simp) ?_ (exCells_under _ _)) ⟨rfl, rfl⟩
          rw [hpe, List.drop_zero, List.take_length]
          exact List.take_of_length_le (by simp [exCells_len])

end Go.Proofs.Ytgnmngflfillkaa
end

section
namespace Go.Proofs.Ytgnmngflfillkaa
open Go
set_option linter.unusedSimpArgs false
set_option linter.unusedVariables false
set_option maxRecDepth 10000
set_option maxHeartbeats 4000000

/-- a function that hands back some bool -/
def someB (H : List Blk) : SV → List Blk → Prop := fun r H' => H' = H ∧ ∃ b, r = .bool b

theorem whole_ok (G : Gl) (hG : GClosed G) : ∀ (m : Nat) (e : Ex) (H : List Blk), e.wt ≤ m → e.wt < 4294967296 → ACall Try.prog G 39 [e.sv] H (someB H)
  | 0, e, H, hw, _ => by have := e.wt_pos; omega
  | m + 1, e, H, hw, hb => by
    obtain ⟨kd, nm, nn, op, names, subs, binds, alts⟩ := e
    have hlen := Ex.wt_lens kd nm nn op names subs binds alts
    generalize hp : (Ex.mk kd nm nn op names subs binds alts).parts = pp
    have hpl : pp.length ≤ (Ex.mk kd nm nn op names subs binds alts).wt := by rw [← hp, Ex.parts_mk]; simp; omega
    refine ACall.of_go TB [] tabOK _ Try.func39 rfl (by decide) Try.ntmps39 (by simp) rfl (by simp only [initEnv, Nat.reduceAdd]; rfl) fun C R' hR hC hcl hB => ?_; have X := noX; have hC' := congrArg List.length hC
    have hC' : C.H.length = H.length := by rw [hC]
    (refine runD ?_; repeat' (first | with_reducible exact trivial | ((with_reducible apply Fork.mk) <;> intro hb) | with_reducible apply Two.mk))
    refine go_cut (fun b : Bool => [(1, .ptr H.length 0 0 0), (60, .bool b)]) (fun _ => H ++ [.cells 0 8 [.agg [.int .i64 kd, .str nm, .int .i64 nn, .int .i64 op, .list 1 (names.map .str), .list 8 (exCells subs), .list 9 (bdCells binds), .list 12 (alCells alts)]]]) (fun _ => True) (fun K hK => ?_) (fun b _ => ?_)
    · (refine run ?_; repeat' (first | with_reducible exact trivial | ((with_reducible apply Fork.mk) <;> intro hb) | with_reducible apply Two.mk))
      all_goals try (
        refine xg_call ?_ (args_ok G hG op _) ?_
        · exact evS
        rintro r H' ⟨rfl, rfl⟩
        (refine run ?_; repeat' (first | with_reducible exact trivial | ((with_reducible apply Fork.mk) <;> intro hb) | with_reducible apply Two.mk)))
      all_goals
        apply hK _ _ _ trivial
        exact wkS (n0 := H.length) [(H.length, 0)] hG hB (by rw [hC]) hcl
    (refine run ?_; repeat' (first | with_reducible exact trivial | ((with_reducible apply Fork.mk) <;> intro hb) | with_reducible apply Two.mk))
    · exact Fin.tellN (n0 := H.length) hR (by simp) hC' hcl (.same _ rfl) ⟨rfl, _, rfl⟩
    refine go_call ?_ rfl (parts_ok G hG (Ex.mk kd nm nn op names subs binds alts) _ ‹_›) ?_
    · exact evS
    rintro r H' ⟨rfl, rfl⟩
    rw [hp]
    (refine run ?_; repeat' (first | with_reducible exact trivial | ((with_reducible apply Fork.mk) <;> intro hb) | with_reducible apply Two.mk))
    refine go_loop (fun i : Nat => [(3, .list 8 (exCells pp)), (4, .int .i64 i)]) (fun i => H ++ [])
      (fun i => pp.length - i) (fun i => i ≤ pp.length) 0 (Nat.zero_le _) ?_ ?_
    · exact wkS (n0 := H.length) [] hG hB (by rw [hC]) hcl
    · intro K2 i hi hK2
      (refine run ?_; repeat' (first | with_reducible exact trivial | ((with_reducible apply Fork.mk) <;> intro hb) | with_reducible apply Two.mk))
      · have hpi : (pp[i]'(by omega)).wt < (Ex.mk kd nm nn op names subs binds alts).wt := by
          subst hp
          exact Ex.wt_parts (List.getElem_mem _)
        refine go_call ?_ rfl (whole_ok G hG m (pp[i]'(by omega)) _ (by omega) (by omega)) ?_
        · exact evS
        rintro r H' ⟨rfl, bb, rfl⟩
        (refine run ?_; repeat' (first | with_reducible exact trivial | ((with_reducible apply Fork.mk) <;> intro hb) | with_reducible apply Two.mk))
        · exact Fin.tellN (n0 := H.length) hR (by simp) hC' hcl (.same _ rfl) ⟨rfl, _, rfl⟩
        · refine hK2 _ _ (i + 1) (by omega) (by omega) ?_
          exact wkS (n0 := H.length) [] hG hB (by rw [hC]) hcl
      · exact Fin.tellN (n0 := H.length) hR (by simp) hC' hcl (.same _ rfl) ⟨rfl, _, rfl⟩
end Go.Proofs.Ytgnmngflfillkaa
end

section
namespace Go.Proofs.Ytgnmngflfillkaa
open Go
set_option linter.unusedSimpArgs false
set_option linter.unusedVariables false
set_option maxRecDepth 10000
set_option maxHeartbeats 4000000

theorem shape_ok (G : Gl) (hG : GClosed G) : ∀ (m : Nat) (e : Ex) (H : List Blk), e.wt ≤ m → e.wt < 4294967296 → ACall Try.prog G 38 [e.sv] H (someB H)
  | 0, e, H, hw, _ => by have := e.wt_pos; omega
  | m + 1, e, H, hw, hb => by
    obtain ⟨kd, nm, nn, op, names, subs, binds, alts⟩ := e
    have hlen := Ex.wt_lens kd nm nn op names subs binds alts
    generalize hp : (Ex.mk kd nm nn op names subs binds alts).parts = pp
    have hpl : pp.length ≤ (Ex.mk kd nm nn op names subs binds alts).wt := by rw [← hp, Ex.parts_mk]; simp; omega
    refine ACall.of_go TB [] tabOK _ Try.func38 rfl (by decide) Try.ntmps38 (by simp) rfl (by simp only [initEnv, Nat.reduceAdd]; rfl) fun C R' hR hC hcl hB => ?_; have X := noX; have hC' := congrArg List.length hC
    have hC' : C.H.length = H.length := by rw [hC]
    (refine run ?_; repeat' (first | with_reducible exact trivial | ((with_reducible apply Fork.mk) <;> intro hb) | with_reducible apply Two.mk))
    all_goals first | exact Fin.tellN (n0 := H.length) hR (by simp) hC' hcl (.same _ rfl) ⟨rfl, _, rfl⟩ | skip
    refine go_call ?_ rfl (args_ok G hG op _) ?_
    · exact evS
    rintro r H' ⟨rfl, rfl⟩
    (refine run ?_; repeat' (first | with_reducible exact trivial | ((with_reducible apply Fork.mk) <;> intro hb) | with_reducible apply Two.mk))
    all_goals first | exact Fin.tellN (n0 := H.length) hR (by simp) hC' hcl (.same _ rfl) ⟨rfl, _, rfl⟩ | skip
    all_goals
      refine go_loop (fun i : Nat => [(1, .ptr H.length 0 0 0), (6, .int .i64 i)]) (fun i => H ++ [.cells 0 8 [.agg [.int .i64 kd, .str nm, .int .i64 nn, .int .i64 op, .list 1 (names.map .str), .list 8 (exCells subs), .list 9 (bdCells binds), .list 12 (alCells alts)]]])
        (fun i => alts.length - i) (fun i => i ≤ alts.length) 0 (Nat.zero_le _) ?_ ?_
      · exact wkS (n0 := H.length) [(H.length, 0)] hG hB (by rw [hC]) hcl
      intro K i hi hK
      (refine run ?_; repeat' (first | with_reducible exact trivial | ((with_reducible apply Fork.mk) <;> intro hb) | with_reducible apply Two.mk))
      · exact Fin.tellN (n0 := H.length) hR (by simp) hC' hcl (.same _ rfl) ⟨rfl, _, rfl⟩
      · refine hK _ _ (i + 1) (by omega) (by omega) ?_
        exact wkS (n0 := H.length) [(H.length, 0)] hG hB (by rw [hC]) hcl
      refine go_call ?_ rfl (parts_ok G hG (Ex.mk kd nm nn op names subs binds alts) _ ‹_›) ?_
      · exact evS
      rintro r H' ⟨rfl, rfl⟩
      rw [hp]
      (refine run ?_; repeat' (first | with_reducible exact trivial | ((with_reducible apply Fork.mk) <;> intro hb) | with_reducible apply Two.mk))
      refine go_loop (fun i : Nat => [(8, .list 8 (exCells pp)), (9, .int .i64 i)]) (fun i => H ++ [])
        (fun i => pp.length - i) (fun i => i ≤ pp.length) 0 (Nat.zero_le _) ?_ ?_
      · exact wkS (n0 := H.length) [] hG hB (by rw [hC]) hcl
      · intro K2 i hi hK2
        (refine run ?_; repeat' (first | with_reducible exact trivial | ((with_reducible apply Fork.mk) <;> intro hb) | with_reducible apply Two.mk))
        · have hpi : (pp[i]'(by omega)).wt < (Ex.mk kd nm nn op names subs binds alts).wt := by
            subst hp
            exact Ex.wt_parts (List.getElem_mem _)
          refine go_call ?_ rfl (shape_ok G hG m (pp[i]'(by omega)) _ (by omega) (by omega)) ?_
          · exact evS
          rintro r H' ⟨rfl, bb, rfl⟩
          (refine run ?_; repeat' (first | with_reducible exact trivial | ((with_reducible apply Fork.mk) <;> intro hb) | with_reducible apply Two.mk))
          · exact Fin.tellN (n0 := H.length) hR (by simp) hC' hcl (.same _ rfl) ⟨rfl, _, rfl⟩
          · refine hK2 _ _ (i + 1) (by omega) (by omega) ?_
            exact wkS (n0 := H.length) [] hG hB (by rw [hC]) hcl
        · exact Fin.tellN (n0 := H.length) hR (by simp) hC' hcl (.same _ rfl) ⟨rfl, _, rfl⟩

end Go.Proofs.Ytgnmngflfillkaa
end

section
namespace Go.Proofs.Ytgnmngflfillkaa
open Go
set_option linter.unusedSimpArgs false
set_option linter.unusedVariables false
set_option maxRecDepth 10000
set_option maxHeartbeats 4000000

theorem right_ok (G : Gl) (hG : GClosed G) (e : Ex) (H : List Blk) (hw0 : e.wt < 4294967296) : ACall Try.prog G 20 [e.sv] H (someB H) := by
  refine ACall.of_go TB [] tabOK _ Try.func20 rfl (by decide) Try.ntmps20 (by simp) rfl (by simp only [initEnv, Nat.reduceAdd]; rfl) fun C R' hR hC hcl hB => ?_; have X := noX; have hC' := congrArg List.length hC
  have hC' : C.H.length = H.length := by rw [hC]
  (refine run ?_; repeat' (first | with_reducible exact trivial | ((with_reducible apply Fork.mk) <;> intro hb) | with_reducible apply Two.mk))
  refine go_call ?_ rfl (shape_ok G hG _ e _ (Nat.le_refl _) hw0) ?_
  · exact evS
  rintro r H' ⟨rfl, bb, rfl⟩
  (refine run ?_; repeat' (first | with_reducible exact trivial | ((with_reducible apply Fork.mk) <;> intro hb) | with_reducible apply Two.mk))
  · exact Fin.tellN (n0 := H.length) hR (by simp) hC' hcl (.same _ rfl) ⟨rfl, _, rfl⟩
  refine go_call ?_ rfl (whole_ok G hG _ e _ (Nat.le_refl _) hw0) ?_
  · exact evS
  rintro r H' ⟨rfl, b2, rfl⟩
  (refine run ?_; repeat' (first | with_reducible exact trivial | ((with_reducible apply Fork.mk) <;> intro hb) | with_reducible apply Two.mk))
  exact Fin.tellN (n0 := H.length) hR (by simp) hC' hcl (.same _ rfl) ⟨rfl, _, rfl⟩

theorem few_ok (G : Gl) (hG : GClosed G) (e : Ex) (H : List Blk) (hw0 : e.wt < 4294967296) : ACall Try.prog G 7 [e.sv] H (someB H) := by
  refine ACall.of_go TB [] tabOK _ Try.func7 rfl (by decide) Try.ntmps7 (by simp) rfl (by simp only [initEnv, Nat.reduceAdd]; rfl) fun C R' hR hC hcl hB => ?_; have X := noX; have hC' := congrArg List.length hC
  have hC' : C.H.length = H.length := by rw [hC]
  have hbd := bounded_ok G hG 2001 e (H ++ [.cells 0 8 [.agg e.cells]]) (by omega) (Nat.le_refl _)
  rw [show ((2001 : Int) - ((2001 : Nat) : Int)) = 0 from rfl] at hbd
  (refine run ?_; repeat' (first | with_reducible exact trivial | ((with_reducible apply Fork.mk) <;> intro hb) | with_reducible apply Two.mk))
  refine go_call ?_ rfl hbd ?_
  · exact evS
  rintro r H' ⟨rfl, rfl⟩
  (refine run ?_; repeat' (first | with_reducible exact trivial | ((with_reducible apply Fork.mk) <;> intro hb) | with_reducible apply Two.mk))
  refine go_call ?_ rfl (right_ok G hG e _ hw0) ?_
  · exact evS
  rintro r H' ⟨rfl, b2, rfl⟩
  (refine run ?_; repeat' (first | with_reducible exact trivial | ((with_reducible apply Fork.mk) <;> intro hb) | with_reducible apply Two.mk))
  all_goals exact Fin.tellN (n0 := H.length) hR (by simp) hC' hcl (.same _ rfl) ⟨rfl, _, rfl⟩

theorem v_ok (G : Gl) (hG : GClosed G) (s : Str) (H : List Blk) : ACall Try.prog G 21 [.str s] H (fun r H' => H' = H ∧ r = (Ex.mk 1 s 0 0 [] [] [] []).sv) := by
  refine ACall.of_go TB [] tabOK _ Try.func21 rfl (by decide) Try.ntmps21 (by simp) rfl (by simp only [initEnv, Nat.reduceAdd]; rfl) fun C R' hR hC hcl hB => ?_; have X := noX; have hC' := congrArg List.length hC
  have hC' : C.H.length = H.length := by rw [hC]
  (refine run ?_; repeat' (first | with_reducible exact trivial | ((with_reducible apply Fork.mk) <;> intro hb) | with_reducible apply Two.mk))
  exact Fin.tellN (n0 := H.length) hR (by simp) hC' hcl (.same _ rfl) ⟨rfl, rfl⟩

theorem uses_ok (G : Gl) (hG : GClosed G) (e : Ex) (s : Str) (H : List Blk) (hw0 : e.wt < 4294967296) : ACall Try.prog G 9 [e.sv, .str s] H (fun r H' => H' = H ∧ r = .tuple [.int .i64 (occ s e), .bool (insd s false e)]) := by
  refine ACall.of_go TB [] tabOK _ Try.func9 rfl (by decide) Try.ntmps9 (by simp) rfl (by simp only [initEnv, Nat.reduceAdd]; rfl) fun C R' hR hC hcl hB => ?_; have X := noX; have hC' := congrArg List.length hC
  have hC' : C.H.length = H.length := by rw [hC]
  (refine run ?_; repeat' (first | with_reducible exact trivial | ((with_reducible apply Fork.mk) <;> intro hb) | with_reducible apply Two.mk))
  refine go_call ?_ rfl (look_ok G hG _ e _ (H.length + 1) 0 s 0 0 false (Nat.le_refl _) (by simp [tl]) (by omega) (by omega) (by omega) (by omega)) ?_
  · exact evS
  rintro r H' rfl
  simp only [set_appS, set_app0S, set_app, set_app0, List.set_cons_succ, List.set_cons_zero, tl, Int.zero_add, Bool.false_or, show decide ((0 : Int) < 0) = false from rfl]
  (refine run ?_; repeat' (first | with_reducible exact trivial | ((with_reducible apply Fork.mk) <;> intro hb) | with_reducible apply Two.mk))
  exact Fin.tellN (n0 := H.length) hR (by simp) hC' hcl (.same _ rfl) ⟨rfl, rfl⟩

theorem once_ok (G : Gl) (hG : GClosed G) (e : Ex) (s : Str) (H : List Blk) (hw0 : e.wt < 4294967296) : ACall Try.prog G 11 [e.sv, .str s] H (fun r H' => H' = H ∧ r = .bool (decide (occ s e = 1) && !insd s false e)) := by
  refine ACall.of_go TB [] tabOK _ Try.func11 rfl (by decide) Try.ntmps11 (by simp) rfl (by simp only [initEnv, Nat.reduceAdd]; rfl) fun C R' hR hC hcl hB => ?_; have X := noX; have hC' := congrArg List.length hC
  have hC' : C.H.length = H.length := by rw [hC]
  (refine run ?_; repeat' (first | with_reducible exact trivial | ((with_reducible apply Fork.mk) <;> intro hb) | with_reducible apply Two.mk))
  refine go_call ?_ rfl (uses_ok G hG e s _ hw0) ?_
  · exact evS
  rintro r H' ⟨rfl, rfl⟩
  (refine run ?_; repeat' (first | with_reducible exact trivial | ((with_reducible apply Fork.mk) <;> intro hb) | with_reducible apply Two.mk))
  refine Fin.tellN (n0 := H.length) hR (by simp) hC' hcl (.same _ rfl) ⟨rfl, ?_⟩
  simp only [resSV]
  rw [show decide ((occ s e : Int) = 1) = decide (occ s e = 1) from decide_eq_decide.2 (by omega)]
end Go.Proofs.Ytgnmngflfillkaa
end
