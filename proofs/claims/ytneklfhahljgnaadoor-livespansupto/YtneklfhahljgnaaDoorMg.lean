/- A part of the proof: B1, B2, B3, B4, C1, C2, E2, E3, C3. -/
import Derived.Test.YtneklfhahljgnaaDoorMf

section
namespace Go.Proofs.YtneklfhahljgnaaDoor
open Go
set_option linter.unusedSimpArgs false
set_option linter.unusedVariables false
set_option maxRecDepth 10000
set_option maxHeartbeats 4000000

/-! ### functions -/
structure Fun where
  name : Str
  thunk : Bool
  upd : Bool
  free : Int
  params : Int
  frame : Int
  code : List Ins
def insL (l : List Ins) : List SV := l.map fun i => .agg i.cells
theorem insL_len (l : List Ins) : (insL l).length = l.length := by simp [insL]
theorem insL_get (l : List Ins) (i : Nat) : (insL l)[i]? = l[i]?.map fun i => .agg i.cells := by simp [insL]
theorem Ins.cells_len (i : Ins) : i.cells.length = 6 := rfl
theorem Ins.cells_under (n : Nat) (i : Ins) : SV.underL n i.cells = true := by
  simp only [Ins.cells, SV.underL, SV.under, ints_under, Bool.and_self]
theorem insL_under (n : Nat) (l : List Ins) : SV.underL n (insL l) = true := SV.underL_map fun i _ => Ins.cells_under n i
attribute [go_sem] insL_len insL_get Ins.cells_len
def Fun.cells (f : Fun) : List SV := [.str f.name, .bool f.thunk, .bool f.upd, .int .i64 f.free, .int .i64 f.params, .int .i64 f.frame, .list 6 (insL f.code)]
theorem Fun.cells_under (n : Nat) (f : Fun) : SV.underL n f.cells = true := by
  simp only [Fun.cells, SV.underL, SV.under, insL_under, Bool.and_self]

theorem compT_mem : ∀ (r : List Int) (p x : Int), x ∈ p :: compT p r ↔ x ∈ p :: r
  | [], p, x => Iff.rfl
  | y :: r, p, x => by
    have ih := compT_mem r y x
    simp only [compT]
    by_cases h : y = p
    · subst h
      rw [if_pos rfl, ih]
      simp
    · rw [if_neg h, List.mem_cons, ih]
      simp
theorem compS_mem (l : List Int) (x : Int) : x ∈ compS l ↔ x ∈ l := by
  cases l with
  | nil => exact Iff.rfl
  | cons p r => exact compT_mem r p x
theorem compT_lt : ∀ (r : List Int) (p : Int), (p :: r).Pairwise (fun a b => a ≤ b) → (p :: compT p r).Pairwise (fun a b => a < b)
  | [], p, _ => by simp [compT]
  | y :: r, p, h => by
    rw [List.pairwise_cons] at h
    have ih := compT_lt r y h.2
    simp only [compT]
    by_cases e : y = p
    · subst e; rw [if_pos rfl]; exact ih
    · rw [if_neg e, List.pairwise_cons]
      refine ⟨fun z hz => ?_, ih⟩
      have h1 := h.1 y (List.mem_cons_self ..)
      have h2 : y ≤ z := by
        rcases List.mem_cons.1 hz with rfl | hz'
        · exact Int.le_refl _
        · exact Int.le_of_lt ((List.pairwise_cons.1 ih).1 z hz')
      omega
theorem compS_lt {l : List Int} (h : l.Pairwise (fun a b => a ≤ b)) : (compS l).Pairwise (fun a b => a < b) := by
  cases l with
  | nil => exact List.Pairwise.nil
  | cons p r => exact compT_lt r p h
theorem nxS_lt (i : Ins) (at_ : Int) : (nxS i at_).Pairwise (fun a b => a < b) := compS_lt (sortI_pair _)
theorem nxS_mem (i : Ins) (at_ x : Int) : x ∈ nxS i at_ ↔ x ∈ nxL i at_ := by rw [nxS, compS_mem]; exact (sortI_perm _).mem_iff
theorem lt_nodup {l : List Int} (h : l.Pairwise (fun a b => a < b)) : l.Nodup := by
  rw [List.nodup_iff_pairwise_ne]
  exact h.imp_of_mem fun {a b} _ _ hab => by omega
theorem putO_mem (l : List Int) (s x : Int) : x ∈ putO l s ↔ x ∈ l ∨ x = s := by
  unfold putO
  split
  · rename_i h
    constructor
    · exact .inl
    · rintro (h' | rfl)
      · exact h'
      · exact h
  · simp
theorem putO_nodup {l : List Int} (h : l.Nodup) (s : Int) : (putO l s).Nodup := by
  unfold putO
  split
  · exact h
  · rename_i hs
    exact List.nodup_append.2 ⟨h, by simp, by simp; exact fun a ha e => hs (e ▸ ha)⟩
theorem putO_len (l : List Int) (s : Int) : l.length ≤ (putO l s).length ∧ (putO l s).length ≤ l.length + 1 := by unfold putO; split <;> simp
theorem puts_mem : ∀ (r l : List Int) (x : Int), x ∈ r.foldl putO l ↔ x ∈ l ∨ x ∈ r
  | [], l, x => by simp
  | s :: r, l, x => by rw [List.foldl_cons, puts_mem r, putO_mem, List.mem_cons]; constructor <;> (rintro h; rcases h with h | h <;> first | (rcases h with h | h <;> simp [h]) | simp [h])
theorem puts_nodup : ∀ (r l : List Int), l.Nodup → (r.foldl putO l).Nodup
  | [], l, h => h
  | s :: r, l, h => by rw [List.foldl_cons]; exact puts_nodup r _ (putO_nodup h s)

/-- a slot is needed ahead of an instruction -/
inductive NeedP (code : List Ins) : Nat → Int → Prop
  | read (i : Nat) (s : Int) (h : i < code.length) (hs : s ∈ rdS code[i]) : NeedP code i s
  | step (i k : Nat) (s : Int) (h : i < code.length) (hk : k < code.length) (hn : (k : Int) ∈ nxS code[i] i) (hw : s ≠ wrS code[i] ∨ wrS code[i] < 0) (hs : NeedP code k s) : NeedP code i s
def Rows (code : List Ins) (rows : List (List Int)) : Prop := rows.length = code.length ∧ ∀ i (h : i < rows.length), rows[i].Pairwise (fun a b => a < b) ∧ ∀ s, s ∈ rows[i] ↔ NeedP code i s

theorem esO_len (l : List Int) : (esO l).length = l.length := by simp [esO]
theorem esO_get (l : List Int) (i : Nat) : (esO l)[i]? = l[i]?.map fun s => (.int .i64 s, .bool true) := by simp [esO]
attribute [go_sem] esO_len
theorem getX {Q : List Blk} {id : Nat} {x : Blk} (h : Q[id]? = some x) : (∀ L, (Q ++ L)[id]? = some x) ∧ Q[id]? = some x :=
  ⟨fun L => (List.getElem?_append_left (List.getElem?_eq_some_iff.1 h).1).trans h, h⟩
theorem get_set_ne {Q : List Blk} {id id2 : Nat} {x y : Blk} (h : Q[id]? = some x) (hne : id2 ≠ id) : (Q.set id2 y)[id]? = some x := by rw [List.getElem?_set_ne hne]; exact h
theorem get_app_left {Q L : List Blk} {id : Nat} {x : Blk} (h : Q[id]? = some x) : (Q ++ L)[id]? = some x := (getX h).1 L

/-- the maps that have been made -/
structure Maps (Q : List Blk) (b m : Nat) (N : List SV) (mid : Nat → Nat) (S : Nat → List Int) : Prop where
  at_ : ∀ j, j < m → b + 4 ≤ mid j ∧ N[j]? = some (.map (mid j)) ∧ Q[mid j]? = some (.map (some .i64) (esO (S j)))
  inj : ∀ i j, i < m → j < m → mid i = mid j → i = j
theorem Maps.app {Q : List Blk} {b m : Nat} {N : List SV} {mid : Nat → Nat} {S : Nat → List Int} (h : Maps Q b m N mid S) (L : List Blk) : Maps (Q ++ L) b m N mid S :=
  ⟨fun j hj => ⟨(h.at_ j hj).1, (h.at_ j hj).2.1, get_app_left (h.at_ j hj).2.2⟩, h.inj⟩
theorem Maps.low {Q : List Blk} {b m : Nat} {N : List SV} {mid : Nat → Nat} {S : Nat → List Int} (h : Maps Q b m N mid S) {id : Nat} (hid : id < b + 4) (x : Blk) : Maps (Q.set id x) b m N mid S :=
  ⟨fun j hj => ⟨(h.at_ j hj).1, (h.at_ j hj).2.1, get_set_ne (h.at_ j hj).2.2 (by have := (h.at_ j hj).1; omega)⟩, h.inj⟩
/-- a block of another kind is turned -/
theorem Maps.other {Q : List Blk} {b m : Nat} {N : List SV} {mid : Nat → Nat} {S : Nat → List Int} (h : Maps Q b m N mid S) {id : Nat} {g sz : Nat} {vals : List SV} (hid : Q[id]? = some (.cells g sz vals)) (x : Blk) : Maps (Q.set id x) b m N mid S :=
  ⟨fun j hj => ⟨(h.at_ j hj).1, (h.at_ j hj).2.1, get_set_ne (h.at_ j hj).2.2 (fun e => by rw [e, (h.at_ j hj).2.2] at hid; cases hid)⟩, h.inj⟩
theorem Maps.otherO {Q : List Blk} {b m : Nat} {N : List SV} {mid : Nat → Nat} {S : Nat → List Int} (h : Maps Q b m N mid S) {id : Nat} {o : Obj} (hid : Q[id]? = some (.obj o)) (x : Blk) : Maps (Q.set id x) b m N mid S :=
  ⟨fun j hj => ⟨(h.at_ j hj).1, (h.at_ j hj).2.1, get_set_ne (h.at_ j hj).2.2 (fun e => by rw [e, (h.at_ j hj).2.2] at hid; cases hid)⟩, h.inj⟩
theorem Maps.upd {Q : List Blk} {b m : Nat} {N : List SV} {mid : Nat → Nat} {S : Nat → List Int} (h : Maps Q b m N mid S) {i : Nat} (hi : i < m) (T : List Int) : Maps (Q.set (mid i) (.map (some .i64) (esO T))) b m N mid (fun j => if j = i then T else S j) := by
  refine ⟨fun j hj => ⟨(h.at_ j hj).1, (h.at_ j hj).2.1, ?_⟩, h.inj⟩
  by_cases e : j = i
  · subst e
    simp only [if_true]
    exact List.getElem?_set_self (List.getElem?_eq_some_iff.1 (h.at_ j hj).2.2).1
  · rw [if_neg e]
    exact get_set_ne (h.at_ j hj).2.2 (fun e2 => e (h.inj j i hj hi e2.symm))
/-- who may come to an instruction: rows of one's own -/
structure Aheads (Q : List Blk) (b n : Nat) (A : List SV) (aid : Nat → Nat) (pr : Nat → List Nat) : Prop where
  len : A.length = n
  at_ : ∀ k, k < n → (A[k]? = some .nil ∧ pr k = []) ∨ ∃ g, b + 4 ≤ aid k ∧ A[k]? = some (.sl (aid k) g 0 (pr k).length) ∧ Q[aid k]? = some (.cells g 1 ((pr k).map fun i => .int .i64 (i : Nat)))
  inj : ∀ i j, i < n → j < n → aid i = aid j → A[i]? ≠ some .nil → A[j]? ≠ some .nil → i = j
theorem Aheads.app {Q : List Blk} {b n : Nat} {A : List SV} {aid : Nat → Nat} {pr : Nat → List Nat} (h : Aheads Q b n A aid pr) (L : List Blk) : Aheads (Q ++ L) b n A aid pr :=
  ⟨h.len, fun k hk => (h.at_ k hk).elim .inl fun ⟨g, h1, h2, h3⟩ => .inr ⟨g, h1, h2, get_app_left h3⟩, h.inj⟩
theorem Aheads.low {Q : List Blk} {b n : Nat} {A : List SV} {aid : Nat → Nat} {pr : Nat → List Nat} (h : Aheads Q b n A aid pr) {id : Nat} (hid : id < b + 4) (x : Blk) : Aheads (Q.set id x) b n A aid pr :=
  ⟨h.len, fun k hk => (h.at_ k hk).elim .inl fun ⟨g, h1, h2, h3⟩ => .inr ⟨g, h1, h2, get_set_ne h3 (by omega)⟩, h.inj⟩
theorem Aheads.other {Q : List Blk} {b n : Nat} {A : List SV} {aid : Nat → Nat} {pr : Nat → List Nat} (h : Aheads Q b n A aid pr) {id : Nat} {kd : Option IntKind} {es : List (SV × SV)} (hid : Q[id]? = some (.map kd es)) (x : Blk) : Aheads (Q.set id x) b n A aid pr :=
  ⟨h.len, fun k hk => (h.at_ k hk).elim .inl fun ⟨g, h1, h2, h3⟩ => .inr ⟨g, h1, h2, get_set_ne h3 (fun e => by rw [e, h3] at hid; cases hid)⟩, h.inj⟩
theorem Aheads.otherO {Q : List Blk} {b n : Nat} {A : List SV} {aid : Nat → Nat} {pr : Nat → List Nat} (h : Aheads Q b n A aid pr) {id : Nat} {o : Obj} (hid : Q[id]? = some (.obj o)) (x : Blk) : Aheads (Q.set id x) b n A aid pr :=
  ⟨h.len, fun k hk => (h.at_ k hk).elim .inl fun ⟨g, h1, h2, h3⟩ => .inr ⟨g, h1, h2, get_set_ne h3 (fun e => by rw [e, h3] at hid; cases hid)⟩, h.inj⟩
/-- a first one -/
theorem Aheads.first {Q : List Blk} {b n : Nat} {A : List SV} {aid : Nat → Nat} {pr : Nat → List Nat} (h : Aheads Q b n A aid pr) (hQ : b + 4 ≤ Q.length) {k : Nat} (hk : k < n) (h0 : A[k]? = some .nil) (i : Nat) :
    Aheads (Q ++ [.cells 0 1 [.int .i64 (i : Nat)]]) b n (A.set k (.sl Q.length 0 0 1)) (fun j => if j = k then Q.length else aid j) (fun j => if j = k then pr j ++ [i] else pr j) := by
  have hl := h.len
  have hpk : pr k = [] := by
    rcases h.at_ k hk with ⟨_, h2⟩ | ⟨g, _, h2, _⟩
    · exact h2
    · rw [h0] at h2; cases h2
  refine ⟨by simpa using h.len, fun j hj => ?_, fun i' j' hi' hj' he h1 h2 => ?_⟩
  · by_cases e : j = k
    · subst e
      right
      refine ⟨0, by simpa using hQ, ?_, ?_⟩
      · simp only [if_true, hpk]; rw [List.getElem?_set_self (by omega)]; rfl
      · simp [hpk]
    · rcases h.at_ j hj with ⟨h1, h2⟩ | ⟨g, h1, h2, h3⟩
      · left; rw [List.getElem?_set_ne (fun e2 => e e2.symm), if_neg e]; exact ⟨h1, h2⟩
      · right; rw [if_neg e, if_neg e, List.getElem?_set_ne (fun e2 => e e2.symm)]; exact ⟨g, h1, h2, get_app_left h3⟩
  · have hlt : ∀ j, j < n → A[j]? ≠ some .nil → aid j < Q.length := fun j hj hne => by
      rcases h.at_ j hj with ⟨h1, _⟩ | ⟨g, _, _, h3⟩
      · exact absurd h1 hne
      · exact (List.getElem?_eq_some_iff.1 h3).1
    by_cases e1 : i' = k <;> by_cases e2 : j' = k
    · rw [e1, e2]
    · exfalso
      simp only [e1, if_true, if_neg e2] at he
      rw [List.getElem?_set_ne (fun e => e2 e.symm)] at h2
      have := hlt j' hj' h2
      omega
    · exfalso
      simp only [e2, if_true, if_neg e1] at he
      rw [List.getElem?_set_ne (fun e => e1 e.symm)] at h1
      have := hlt i' hi' h1
      omega
    · simp only [if_neg e1, if_neg e2] at he
      rw [List.getElem?_set_ne (fun e => e1 e.symm)] at h1
      rw [List.getElem?_set_ne (fun e => e2 e.symm)] at h2
      exact h.inj i' j' hi' hj' he h1 h2
/-- one more -/
theorem Aheads.more {Q : List Blk} {b n : Nat} {A : List SV} {aid : Nat → Nat} {pr : Nat → List Nat} (h : Aheads Q b n A aid pr) {k g : Nat} (hk : k < n) (h0 : A[k]? = some (.sl (aid k) g 0 (pr k).length)) (hb : b + 4 ≤ aid k) (hq : aid k < Q.length) (i : Nat) :
    Aheads (Q.set (aid k) (.cells (g + 1) 1 ((pr k).map (fun i : Nat => SV.int .i64 (i : Nat)) ++ [.int .i64 (i : Nat)]))) b n (A.set k (.sl (aid k) (g + 1) 0 ((pr k).length + 1))) aid (fun j => if j = k then pr j ++ [i] else pr j) := by
  have hl := h.len
  refine ⟨by simpa using h.len, fun j hj => ?_, fun i' j' hi' hj' he h1 h2 => ?_⟩
  · by_cases e : j = k
    · subst e
      right
      refine ⟨g + 1, hb, ?_, ?_⟩
      · simp only [if_true]; rw [List.getElem?_set_self (by omega)]; simp
      · simp only [if_true]; rw [List.getElem?_set_self hq]; simp
    · rcases h.at_ j hj with ⟨h1, h2⟩ | ⟨g', h1, h2, h3⟩
      · left; rw [List.getElem?_set_ne (fun e2 => e e2.symm), if_neg e]; exact ⟨h1, h2⟩
      · right; rw [if_neg e, List.getElem?_set_ne (fun e2 => e e2.symm)]
        refine ⟨g', h1, h2, get_set_ne h3 fun e2 => ?_⟩
        exact e (h.inj j k hj hk e2.symm (by rw [h2]; simp) (by rw [h0]; simp))
  · have back : ∀ j, j < n → (A.set k (.sl (aid k) (g + 1) 0 ((pr k).length + 1)))[j]? ≠ some .nil → A[j]? ≠ some .nil := fun j hj hne => by
      by_cases e : j = k
      · subst e; rw [h0]; simp
      · rwa [List.getElem?_set_ne (fun e2 => e e2.symm)] at hne
    exact h.inj i' j' hi' hj' he (back i' hi' h1) (back j' hj' h2)
theorem Aheads.congr {Q : List Blk} {b n : Nat} {A : List SV} {aid : Nat → Nat} {pr pr' : Nat → List Nat} (h : Aheads Q b n A aid pr) (he : ∀ k, k < n → pr k = pr' k) : Aheads Q b n A aid pr' :=
  ⟨h.len, fun k hk => by have := h.at_ k hk; rw [he k hk] at this; exact this, h.inj⟩
theorem Maps.congr {Q : List Blk} {b m : Nat} {N : List SV} {mid mid' : Nat → Nat} {S S' : Nat → List Int} (h : Maps Q b m N mid S) (he : ∀ k, k < m → mid k = mid' k ∧ S k = S' k) : Maps Q b m N mid' S' :=
  ⟨fun j hj => by have := h.at_ j hj; rw [(he j hj).1, (he j hj).2] at this; exact this, fun i j hi hj e => h.inj i j hi hj (by rw [(he i hi).1, (he j hj).1]; exact e)⟩
end Go.Proofs.YtneklfhahljgnaaDoor
end

section
namespace Go.Proofs.YtneklfhahljgnaaDoor
open Go
set_option linter.unusedSimpArgs false
set_option linter.unusedVariables false
set_option maxRecDepth 10000
set_option maxHeartbeats 4000000

/-- the fixed blocks -/
structure Fixed (H Q : List Blk) (fc : List SV) (N A : List SV) (gt : Nat) (V : List Nat) : Prop where
  fb : Q[H.length]? = some (.cells 0 7 [.agg fc])
  nb : Q[H.length + 1]? = some (.cells 0 1 N)
  ab : Q[H.length + 2]? = some (.cells 0 1 A)
  tb : Q[H.length + 3]? = some (.cells gt 1 (V.map fun i => .int .i64 (i : Nat)))
  pre : ∃ X, Q = H ++ X
theorem Fixed.len {H Q : List Blk} {fc N A : List SV} {gt : Nat} {V : List Nat} (h : Fixed H Q fc N A gt V) : H.length + 4 ≤ Q.length := by
  have := (List.getElem?_eq_some_iff.1 h.tb).1; omega
theorem Fixed.app {H Q : List Blk} {fc N A : List SV} {gt : Nat} {V : List Nat} (h : Fixed H Q fc N A gt V) (L : List Blk) : Fixed H (Q ++ L) fc N A gt V :=
  ⟨get_app_left h.fb, get_app_left h.nb, get_app_left h.ab, get_app_left h.tb, by obtain ⟨X, rfl⟩ := h.pre; exact ⟨X ++ L, by rw [List.append_assoc]⟩⟩
theorem pre_set {H Q : List Blk} (h : ∃ X, Q = H ++ X) {id : Nat} (hid : H.length ≤ id) (x : Blk) : ∃ X, Q.set id x = H ++ X := by
  obtain ⟨X, rfl⟩ := h
  exact ⟨X.set (id - H.length) x, by rw [List.set_append_right _ _ hid]⟩
theorem Fixed.high {H Q : List Blk} {fc N A : List SV} {gt : Nat} {V : List Nat} (h : Fixed H Q fc N A gt V) {id : Nat} (hid : H.length + 4 ≤ id) (x : Blk) : Fixed H (Q.set id x) fc N A gt V :=
  ⟨get_set_ne h.fb (by omega), get_set_ne h.nb (by omega), get_set_ne h.ab (by omega), get_set_ne h.tb (by omega), pre_set h.pre (by omega) x⟩
theorem Fixed.setN {H Q : List Blk} {fc N A : List SV} {gt : Nat} {V : List Nat} (h : Fixed H Q fc N A gt V) (N' : List SV) : Fixed H (Q.set (H.length + 1) (.cells 0 1 N')) fc N' A gt V :=
  ⟨get_set_ne h.fb (by omega), List.getElem?_set_self (by have := h.len; omega), get_set_ne h.ab (by omega), get_set_ne h.tb (by omega), pre_set h.pre (by omega) _⟩
theorem Fixed.setA {H Q : List Blk} {fc N A : List SV} {gt : Nat} {V : List Nat} (h : Fixed H Q fc N A gt V) (A' : List SV) : Fixed H (Q.set (H.length + 2) (.cells 0 1 A')) fc N A' gt V :=
  ⟨get_set_ne h.fb (by omega), get_set_ne h.nb (by omega), List.getElem?_set_self (by have := h.len; omega), get_set_ne h.tb (by omega), pre_set h.pre (by omega) _⟩
theorem Fixed.setT {H Q : List Blk} {fc N A : List SV} {gt : Nat} {V : List Nat} (h : Fixed H Q fc N A gt V) (g' : Nat) (V' : List Nat) : Fixed H (Q.set (H.length + 3) (.cells g' 1 (V'.map fun i => .int .i64 (i : Nat)))) fc N A g' V' :=
  ⟨get_set_ne h.fb (by omega), get_set_ne h.nb (by omega), get_set_ne h.ab (by omega), List.getElem?_set_self (by have := h.len; omega), pre_set h.pre (by omega) _⟩
/-- the same, for the reckoning -/
theorem Fixed.X {H Q : List Blk} {fc N A : List SV} {gt : Nat} {V : List Nat} (h : Fixed H Q fc N A gt V) :
    ((∀ L, (Q ++ L)[H.length]? = some (.cells 0 7 [.agg fc])) ∧ Q[H.length]? = some (.cells 0 7 [.agg fc])) ∧ ((∀ L, (Q ++ L)[H.length + 1]? = some (.cells 0 1 N)) ∧ Q[H.length + 1]? = some (.cells 0 1 N)) ∧
    ((∀ L, (Q ++ L)[H.length + 2]? = some (.cells 0 1 A)) ∧ Q[H.length + 2]? = some (.cells 0 1 A)) ∧ ((∀ L, (Q ++ L)[H.length + 3]? = some (.cells gt 1 (V.map fun i => .int .i64 (i : Nat)))) ∧ Q[H.length + 3]? = some (.cells gt 1 (V.map fun i => .int .i64 (i : Nat)))) :=
  ⟨getX h.fb, getX h.nb, getX h.ab, getX h.tb⟩

/-- which have been met that lead to one -/
def predsTo (code : List Ins) (m k : Nat) : List Nat := (List.range m).filter fun i => match code[i]? with
  | some x => decide ((k : Int) ∈ nxS x i)
  | none => false

theorem predsTo_zero (code : List Ins) (k : Nat) : predsTo code 0 k = [] := rfl
theorem predsTo_succ (code : List Ins) (m k : Nat) (h : m < code.length) : predsTo code (m + 1) k = predsTo code m k ++ (if (k : Int) ∈ nxS code[m] m then [m] else []) := by
  unfold predsTo
  rw [List.range_succ, List.filter_append]
  congr 1
  simp only [List.filter_cons, List.filter_nil, List.getElem?_eq_getElem h, decide_eq_true_eq]
/-- which slots an instruction reads, once each -/
def rdO (code : List Ins) (j : Nat) : List Int := match code[j]? with
  | some x => (rdS x).foldl putO []
  | none => []

end Go.Proofs.YtneklfhahljgnaaDoor
end

section
namespace Go.Proofs.YtneklfhahljgnaaDoor
open Go
set_option linter.unusedSimpArgs false
set_option linter.unusedVariables false
set_option maxRecDepth 10000
set_option maxHeartbeats 4000000

theorem predsTo_mem (code : List Ins) (m k i : Nat) : i ∈ predsTo code m k ↔ i < m ∧ ∃ h : i < code.length, (k : Int) ∈ nxS code[i] i := by
  unfold predsTo
  rw [List.mem_filter, List.mem_range]
  constructor
  · rintro ⟨h1, h2⟩
    by_cases h : i < code.length
    · rw [List.getElem?_eq_getElem h] at h2
      exact ⟨h1, h, by simpa using h2⟩
    · rw [List.getElem?_eq_none (by omega)] at h2; cases h2
  · rintro ⟨h1, h, h2⟩
    refine ⟨h1, ?_⟩
    rw [List.getElem?_eq_getElem h]
    simpa using h2
theorem predsTo_len (code : List Ins) (m k : Nat) : (predsTo code m k).length ≤ m := by
  unfold predsTo
  refine Nat.le_trans (List.length_filter_le _ _) ?_
  rw [List.length_range]; exact Nat.le_refl _
def wrN (code : List Ins) (i : Nat) : Int := match code[i]? with
  | some x => wrS x
  | none => 0
theorem wrN_eq {code : List Ins} {i : Nat} (h : i < code.length) : wrN code i = wrS code[i] := by simp only [wrN, List.getElem?_eq_getElem h]

/-! ### what is known of the sets of needed slots -/
structure Dat (code : List Ins) (S : Nat → List Int) : Prop where
  nd : ∀ j, j < code.length → (S j).Nodup
  sound : ∀ j, j < code.length → ∀ s ∈ S j, NeedP code j s
  rd : ∀ j (h : j < code.length), ∀ s ∈ rdS code[j], s ∈ S j
def Cl (code : List Ins) (S : Nat → List Int) (k : Nat) : Prop := ∀ i ∈ predsTo code code.length k, ∀ s ∈ S k, (s ≠ wrN code i ∨ wrN code i < 0) → s ∈ S i
def updS (S : Nat → List Int) (i : Nat) (T : List Int) : Nat → List Int := fun j => if j = i then T else S j
theorem updS_self (S : Nat → List Int) (i : Nat) : updS S i (S i) = S := by funext j; unfold updS; split <;> simp_all
theorem Dat.upd {code : List Ins} {S : Nat → List Int} (h : Dat code S) {i k : Nat} (hk : k < code.length) (hik : i ∈ predsTo code code.length k) {T : List Int} (hT : T.Nodup) (hsub : ∀ s ∈ S i, s ∈ T) (hin : ∀ s ∈ T, s ∈ S i ∨ (s ∈ S k ∧ (s ≠ wrN code i ∨ wrN code i < 0))) : Dat code (updS S i T) := by
  refine ⟨fun j hj => ?_, fun j hj s hs => ?_, fun j hj s hs => ?_⟩
  · unfold updS; split
    · exact hT
    · exact h.nd j hj
  · unfold updS at hs
    split at hs
    · rename_i e
      subst e
      rcases hin s hs with h1 | ⟨h1, h2⟩
      · exact h.sound j hj s h1
      · obtain ⟨_, hj', hn⟩ := (predsTo_mem code _ k j).1 hik
        rw [wrN_eq hj] at h2
        exact .step j k s hj hk hn h2 (h.sound k hk s h1)
    · exact h.sound j hj s hs
  · unfold updS; split
    · rename_i e; subst e; exact hsub s (h.rd j hj s hs)
    · exact h.rd j hj s hs
theorem Dat.done {code : List Ins} {S : Nat → List Int} (h : Dat code S) (hc : ∀ k, k < code.length → Cl code S k) (i : Nat) (s : Int) (hi : i < code.length) : s ∈ S i ↔ NeedP code i s := by
  refine ⟨h.sound i hi s, fun hn => ?_⟩
  clear hi
  induction hn with
  | read i s h1 h2 => exact h.rd i h1 s h2
  | step i k s h1 h2 h3 h4 _ ih =>
    refine hc k h2 i ((predsTo_mem _ _ _ _).2 ⟨h1, h1, h3⟩) s ih ?_
    rw [wrN_eq h1]; exact h4
theorem need_all {code : List Ins} {i : Nat} {s : Int} (h : NeedP code i s) : s ∈ code.flatMap rdS := by
  induction h with
  | read i s h1 h2 => exact List.mem_flatMap.2 ⟨_, List.getElem_mem h1, h2⟩
  | step _ _ _ _ _ _ _ _ ih => exact ih
theorem Dat.len {code : List Ins} {S : Nat → List Int} (h : Dat code S) {j : Nat} (hj : j < code.length) : (S j).length ≤ (code.flatMap rdS).length := nodup_le (h.nd j hj) fun s hs => need_all (h.sound j hj s hs)

def sumS (n : Nat) (S : Nat → List Int) : Nat := ((List.range n).map fun j => (S j).length).sum
theorem sumS_succ (n : Nat) (S : Nat → List Int) : sumS (n + 1) S = sumS n S + (S n).length := by
  unfold sumS; rw [List.range_succ, List.map_append, List.sum_append]; simp
theorem sumS_le {n r : Nat} {S : Nat → List Int} (h : ∀ j, j < n → (S j).length ≤ r) : sumS n S ≤ n * r := by
  induction n with
  | zero => simp [sumS]
  | succ n ih => rw [sumS_succ, Nat.succ_mul]; exact Nat.add_le_add (ih fun j hj => h j (by omega)) (h n (by omega))
theorem sumS_out (S : Nat → List Int) (i : Nat) (T : List Int) : ∀ n, n ≤ i → sumS n (updS S i T) = sumS n S
  | 0, _ => rfl
  | n + 1, h => by rw [sumS_succ, sumS_succ, sumS_out S i T n (by omega)]; unfold updS; rw [if_neg (by omega)]
theorem sumS_upd (S : Nat → List Int) (i : Nat) (T : List Int) : ∀ n, i < n → sumS n (updS S i T) + (S i).length = sumS n S + T.length
  | 0, h => by omega
  | n + 1, h => by
    rw [sumS_succ, sumS_succ]
    by_cases e : i = n
    · subst e; rw [sumS_out S i T i (Nat.le_refl _)]; unfold updS; rw [if_pos rfl]; omega
    · have := sumS_upd S i T n (by omega)
      have e2 : updS S i T n = S n := by unfold updS; rw [if_neg (fun e2 => e e2.symm)]
      rw [e2]; omega
theorem rdO_dat (code : List Ins) : Dat code (rdO code) := by
  have hm : ∀ j (h : j < code.length), rdO code j = (rdS code[j]).foldl putO [] := fun j h => by simp only [rdO, List.getElem?_eq_getElem h]
  refine ⟨fun j hj => ?_, fun j hj s hs => ?_, fun j hj s hs => ?_⟩
  · rw [hm j hj]; exact puts_nodup _ _ List.nodup_nil
  · rw [hm j hj, puts_mem] at hs
    exact .read j s hj (hs.resolve_left (by simp))
  · rw [hm j hj, puts_mem]; exact .inr hs

theorem go_lI {P : Program} {G : Gl} {T : Tab} {own : List Nat} {nt : Nat} {ρ : Option Nat} {C : Cx} {rs : List ResultVar} {R : SV → List Blk → Prop} {env : Env} {H H' : List Blk} {k : List It} {all r : List Oper} {ty d : Nat} {op : Op} {pos : String} {after : Array Edge} {v : SV}
    (h : lvI G T env H op = some (v, H')) (hd : Nat.blt d nt = true) (hk : (Out P G T own nt ρ C rs R) (.ops all r :: k) .normal ((d, v) :: env) H') : (Out P G T own nt ρ C rs R) (.ops all (⟨some d, op, ty, pos, after, none⟩ :: r) :: k) .normal env H :=
  OW.cons (own := own) rfl (lvI_ok (own := own) (k := fun x H' => putK nt (some d) x env fun env' => OW P G T nt ρ C all r (fun e s => Out P G T own nt ρ C rs R k e s.env s.H) env' H') h ⟨by have := Nat.blt_eq ▸ hd; exact this, hk⟩)
/-- a map of one's own is written no more (between operations) -/
theorem go_pinO {P : Program} {G : Gl} {T : Tab} {own : List Nat} {nt : Nat} {ρ : Option Nat} {C : Cx} {rs : List ResultVar} {R : SV → List Blk → Prop} {env : Env} {H : List Blk} {k : List It} {all l : List Oper} {t io : Nat} {kd : Option IntKind} {es : List (SV × SV)} (hm : H[io]? = some (.map kd es)) (hC : C.H.length ≤ io) (hB : Based G C.H.length) (ht : look env t = some (.map io))
    (h : ∀ b clk born, born.length = es.length → born.Nodup → (Out P G T own nt ρ C rs R) (.ops all l :: k) .normal ((t, .imap b clk born kd (es.map Prod.fst) (es.map Prod.snd)) :: env) (H.set io .dead)) : (Out P G T own nt ρ C rs R) (.ops all l :: k) .normal env H := by
  rintro hT i ⟨θ, Hc, w⟩ a hf hc hi hg
  simp only at hc
  subst hc
  obtain ⟨k1, k2, b, clk, born, k3, k4, k5, k6⟩ := Cx.kill (C := C) hm hi.heap hC
  refine h b clk born k4 k5 hT i ⟨θ, Hc.set io .dead, w⟩ a hf rfl ⟨k1, ⟨fun p hp => (Rep.kill_both hm).1 _ _ (hi.glob.1 p hp), fun C0 h0 => k2 C0 (Nat.le_trans (hB C0 h0) hC) (hi.glob.2 C0 h0)⟩, hi.size, fun t' x hx => ?_, ?_⟩ (k2 C hC hg)
  · simp only [look] at hx
    split at hx
    · rename_i e
      cases hx
      subst e
      have hv := hi.env t' _ ht
      simp only [Rep, hm] at hv
      obtain ⟨_, b', e1, e2⟩ := hv
      rw [k3] at e1
      cases e1
      rw [e2]; exact k6
    · exact (Rep.kill_both hm).1 _ _ (hi.env t' x hx)
  · refine ⟨fun d hd => ?_, hi.defs.2⟩
    obtain ⟨r, q1, q2, q3, q4⟩ := hi.defs.1 d hd
    refine ⟨r, q1, q2, ⟨q3.1, fun ⟨id, o, ⟨B, hB', hl⟩, ht'⟩ => q3.2 ⟨id, o, ⟨B, ?_, hl⟩, ht'⟩⟩, q4⟩
    have hB2 : (Hc.set io .dead)[id]? = some B := hB'
    rw [List.getElem?_set] at hB2
    split at hB2
    · split at hB2
      · cases hB2; cases hl
      · cases hB2
    · exact hB2
theorem keepRows {Q : List Blk} {n0 : Nat} {kk : Keep} {f : Nat → Nat} {row : Nat → List Int} : ∀ (js : List Nat), (∀ j ∈ js, Q[f j]? = some (.cells 0 1 ((row j).map (.int .i64))) ∧ n0 ≤ f j) → KeepB Q n0 kk (js.map fun j => (f j, 0)) (js.map fun j => .cells 0 1 ((row j).map (.int .i64)))
  | [], _ => .nil
  | j :: js, h => by
    obtain ⟨h1, h2⟩ := h j (List.mem_cons_self ..)
    exact .c h1 h2 (Nat.zero_le _) (by rw [List.drop_zero]; exact FrzL.same (ints_under _ _)) (keepRows js fun j hj => h j (List.mem_cons_of_mem _ hj))
theorem sortI_lt {l : List Int} (h : l.Nodup) : (sortI l).Pairwise (fun a b => a < b) := by
  have h1 := sortI_pair l
  have h2 : (sortI l).Nodup := (sortI_perm l).nodup_iff.2 h
  rw [List.nodup_iff_pairwise_ne] at h2
  exact (h1.and h2).imp_of_mem fun {a b} _ _ hab => by have := hab.1; have := hab.2; omega
end Go.Proofs.YtneklfhahljgnaaDoor
end

section
namespace Go.Proofs.YtneklfhahljgnaaDoor
open Go
set_option linter.unusedSimpArgs false
set_option linter.unusedVariables false
set_option maxRecDepth 10000
set_option maxHeartbeats 4000000

theorem before_ok (G : Gl) (hG : GClosed G) (hF : GF G) (f : Fun) (hn : f.code.length < 1048576) (hl : ∀ i ∈ f.code, i.l.length ≤ 1048576) (hr : (f.code.flatMap rdS).length ≤ 4194304) (H : List Blk) :
    ACall Tryd.prog G 10 [.agg f.cells] H (fun r H' => ∃ rows, Rows f.code rows ∧ H' = H ++ (.cells 0 1 ((List.range rows.length).map fun j => .sl (H.length + 1 + j) 0 0 (rows.getD j []).length) :: rows.map fun r => .cells 0 1 (r.map (.int .i64))) ∧ r = .sl H.length 0 0 rows.length) := by
  obtain ⟨name, thunk, upd, free, params, frame, code⟩ := f
  simp only [Fun.cells]
  simp only at hn hl hr
  generalize hfc : [SV.str name, .bool thunk, .bool upd, .int .i64 free, .int .i64 params, .int .i64 frame, .list 6 (insL code)] = fc
  have hfcl : fc.length = 7 := by subst hfc; rfl
  have hfc6 : fc[6]? = some (.list 6 (insL code)) := by subst hfc; rfl
  generalize hcn : code.length = n at hn
  refine ACall.of_go TB [6, 19] tabOK _ Tryd.func10 rfl (by decide) Tryd.ntmps10 (by simp) rfl (by simp only [initEnv, Nat.reduceAdd]; rfl) fun C R' hR hC hcl hB => ?_; have X := noX; have hC' := congrArg List.length hC
  have X := And.intro X (And.intro hfcl (And.intro hfc6 hcn))
  (refine run ?_; repeat' (first | with_reducible exact trivial | ((with_reducible apply Fork.mk) <;> intro hb) | with_reducible apply Two.mk))
  refine go_loop (fun a : Nat × List Blk × Nat => [(1, .ptr H.length 0 0 0), (3, .int .i64 n), (4, .sl (H.length + 1) 0 0 n), (5, .sl (H.length + 2) 0 0 n), (6, .sl (H.length + 3) a.2.2 0 a.1), (30, .list 6 (insL code)), (31, .int .i64 n), (32, .int .i64 a.1)]) (fun a => a.2.1) (fun a => n - a.1)
    (fun a => a.1 ≤ n ∧ ∃ N A mid aid, Fixed H a.2.1 fc N A a.2.2 (List.range a.1) ∧ N.length = n ∧ (∀ j, a.1 ≤ j → j < n → N[j]? = some .nilmap) ∧ Maps a.2.1 H.length a.1 N mid (rdO code) ∧ Aheads a.2.1 H.length n A aid (predsTo code a.1))
    (0, H ++ [.cells 0 7 [.agg fc], .cells 0 1 (List.replicate n .nilmap), .cells 0 1 (List.replicate n .nil), .cells 0 1 []], 0)
    ⟨Nat.zero_le _, List.replicate n .nilmap, List.replicate n .nil, fun _ => 0, fun _ => 0, ⟨by simp, by simp, by simp, by simp, ⟨_, rfl⟩⟩, by simp, fun j _ hj => by simp [hj], ⟨fun j hj => absurd hj (Nat.not_lt_zero _), fun i j hi => absurd hi (Nat.not_lt_zero _)⟩,
      ⟨by simp, fun k hk => .inl ⟨by simp [hk], rfl⟩, fun i j hi hj _ h1 _ => absurd (by simp [hi]) h1⟩⟩ (Wk.sub (by simp [subEnv, look])) ?_
  rintro K ⟨i, Q, gt⟩ ⟨hi, N, A, mid, aid, hfx, hNl, hNn, hmaps, hah⟩ hK
  dsimp only at hi hfx hNl hNn hmaps hah ⊢
  have hQ := hfx.len
  rcases Nat.lt_or_ge i n with hlt | hge
  · have hlt' : i < code.length := by omega
    have e1 : code[i]? = some code[i] := List.getElem?_eq_getElem hlt'
    have hNi := hNn i (Nat.le_refl _) hlt
    have hli : code[i].l.length ≤ 1048576 := hl _ (List.getElem_mem hlt')
    have X := And.intro X (And.intro e1 (And.intro hNi (And.intro hNl hfx.X)))
    have c1 := fun H => next_ok G hG hF code[i] i (by omega) ⟨by omega, by omega⟩ H
    (refine run ?_; repeat' (first | with_reducible exact trivial | ((with_reducible apply Fork.mk) <;> intro hb) | with_reducible apply Two.mk))
    generalize hnx : nxS code[i] i = nx
    have hnxd : nx.Nodup := by rw [← hnx]; exact lt_nodup (nxS_lt _ _)
    have hnxl : nx.length ≤ 1048578 := by
      rw [← hnx]
      refine Nat.le_trans (compS_len _) ?_
      rw [sortI_len]
      unfold nxL
      rw [List.length_append, List.length_append]
      have := List.length_filter_le (fun n => decide ((0 : Int) ≤ n)) code[i].l
      split <;> split <;> split <;> simp <;> omega
    have hfx1 := (hfx.setN (N.set i (.map (Q.length + 1)))).app [.cells 0 6 [.agg code[i].cells], .map (some .i64) []]
    have hmaps1 : Maps (Q.set (H.length + 1) (.cells 0 1 (N.set i (.map (Q.length + 1)))) ++ [.cells 0 6 [.agg code[i].cells], .map (some .i64) []]) H.length (i + 1) (N.set i (.map (Q.length + 1))) (fun j => if j = i then Q.length + 1 else mid j) (fun j => if j = i then [] else rdO code j) := by
      have h0 := (hmaps.low (id := H.length + 1) (by omega) (.cells 0 1 (N.set i (.map (Q.length + 1))))).app [.cells 0 6 [.agg code[i].cells], .map (some .i64) []]
      refine ⟨fun j hj => ?_, fun p q hp hq e => ?_⟩
      · by_cases e : j = i
        · subst e
          simp only [if_true]
          refine ⟨by omega, List.getElem?_set_self (by omega), ?_⟩
          rw [List.getElem?_append_right (by simp), List.length_set, Nat.add_sub_cancel_left]; rfl
        · simp only [if_neg e]
          have h1 := h0.at_ j (by omega)
          exact ⟨h1.1, by rw [List.getElem?_set_ne (fun e2 => e e2.symm)]; exact h1.2.1, h1.2.2⟩
      · have hlt2 : ∀ j, j < i → mid j < Q.length := fun j hj => (List.getElem?_eq_some_iff.1 (hmaps.at_ j hj).2.2).1
        by_cases e1 : p = i <;> by_cases e2 : q = i
        · rw [e1, e2]
        · simp only [e1, if_true, if_neg e2] at e; have := hlt2 q (by omega); omega
        · simp only [e2, if_true, if_neg e1] at e; have := hlt2 p (by omega); omega
        · simp only [if_neg e1, if_neg e2] at e; exact hmaps.inj p q (by omega) (by omega) e
    have hah1 := (hah.low (id := H.length + 1) (by omega) (.cells 0 1 (N.set i (.map (Q.length + 1))))).app [.cells 0 6 [.agg code[i].cells], .map (some .i64) []]
    have hbx1 : (Q.set (H.length + 1) (.cells 0 1 (N.set i (.map (Q.length + 1)))) ++ [.cells 0 6 [.agg code[i].cells], .map (some .i64) []])[Q.length]? = some (.cells 0 6 [.agg code[i].cells]) := by
      rw [List.getElem?_append_right (by simp), List.length_set, Nat.sub_self]; rfl
    have haid1 : ∀ k, k < n → A[k]? ≠ some .nil → aid k ≠ Q.length := fun k hk hne e => by
      rcases hah.at_ k hk with ⟨h1, _⟩ | ⟨g, _, _, h3⟩
      · exact hne h1
      · have := (List.getElem?_eq_some_iff.1 h3).1; omega
    generalize hQ1 : Q.set (H.length + 1) (.cells 0 1 (N.set i (.map (Q.length + 1)))) ++ [.cells 0 6 [.agg code[i].cells], .map (some .i64) []] = Q1 at hfx1 hmaps1 hah1 hbx1 ⊢
    have hm1 : H.length + 4 ≤ Q.length + 1 := by omega
    generalize hN1 : N.set i (.map (Q.length + 1)) = N1 at hfx1 hmaps1
    have hN1l : N1.length = n := by rw [← hN1]; simpa using hNl
    have hN1n : ∀ j, i + 1 ≤ j → j < n → N1[j]? = some .nilmap := fun j h1 h2 => by
      rw [← hN1, List.getElem?_set_ne (by omega)]; exact hNn j (by omega) h2
    have hN1i : N1[i]? = some (.map (Q.length + 1)) := by rw [← hN1]; exact List.getElem?_set_self (by omega)
    generalize hbx : Q.length = bx at hmaps1 hbx1 haid1 hm1 hN1i ⊢
    clear hQ1 hN1 c1 X hNn hNi hmaps hah hfx hQ
    have X := And.intro noX (And.intro hfcl (And.intro hfc6 hcn))
    refine go_loop (fun a : Nat × List Blk => [(1, .ptr H.length 0 0 0), (3, .int .i64 n), (4, .sl (H.length + 1) 0 0 n), (5, .sl (H.length + 2) 0 0 n), (6, .sl (H.length + 3) gt 0 i), (30, .list 6 (insL code)), (31, .int .i64 n), (32, .int .i64 i), (7, .int .i64 i), (8, .ptr bx 0 0 0), (43, .list 1 (nx.map (.int .i64))), (44, .int .i64 nx.length), (45, .int .i64 a.1)]) (fun a => a.2) (fun a => nx.length - a.1)
      (fun a => a.1 ≤ nx.length ∧ ∃ A' aid', Fixed H a.2 fc N1 A' gt (List.range i) ∧ Maps a.2 H.length (i + 1) N1 (fun j => if j = i then bx + 1 else mid j) (fun j => if j = i then [] else rdO code j) ∧
        Aheads a.2 H.length n A' aid' (fun k => predsTo code i k ++ (if (k : Int) ∈ nx.take a.1 then [i] else [])) ∧ a.2[bx]? = some (.cells 0 6 [.agg code[i].cells]) ∧ ∀ k, k < n → A'[k]? ≠ some .nil → aid' k ≠ bx)
      (0, Q1) ⟨Nat.zero_le _, A, aid, hfx1, hmaps1, by simpa using hah1, hbx1, haid1⟩ (Wk.sub (by simp [subEnv, look])) ?_
    clear hfx1 hmaps1 hah1 hbx1 haid1
    clear A aid
    rintro K2 ⟨j, Q2⟩ ⟨hj, A, aid, hfx, hmaps, hah, hbxx, haid⟩ hK2
    dsimp only at hj hfx hmaps hah hbxx haid ⊢
    have hQ := hfx.len
    rcases Nat.lt_or_ge j nx.length with hlt2 | hge2
    · have e2 : nx[j]? = some nx[j] := List.getElem?_eq_getElem hlt2
      have ht := List.take_succ_eq_append_getElem hlt2
      have hnot : nx[j] ∉ nx.take j := by
        have := hnxd.sublist (List.take_sublist (j + 1) nx)
        rw [ht, List.nodup_append] at this
        exact fun hm => this.2.2 _ hm _ (by simp) rfl
      generalize nx[j] = v at e2 ht hnot
      have hAl := hah.len
      by_cases hin : 0 ≤ v ∧ v < n
      · obtain ⟨k, rfl⟩ := Int.eq_ofNat_of_zero_le hin.1
        have hkn : k < n := by omega
        have hpr : ∀ k', predsTo code i k' ++ (if (k' : Int) ∈ nx.take (j + 1) then [i] else []) = if k' = k then (predsTo code i k' ++ (if (k' : Int) ∈ nx.take j then [i] else [])) ++ [i] else predsTo code i k' ++ (if (k' : Int) ∈ nx.take j then [i] else []) := by
          intro k'
          rw [ht]
          by_cases e : k' = k
          · subst e
            simp [hnot]
          · have : ((k' : Int) ∈ nx.take j ++ [(k : Int)]) ↔ (k' : Int) ∈ nx.take j := by
              simp; intro h; exact absurd (by omega) e
            simp only [this, if_neg e]
        have hcond : (decide ((0 : Int) ≤ k) && decide ((k : Int) < n)) = true := by simp; omega
        have hstep : Aheads Q2 H.length n A aid (fun k' => predsTo code i k' ++ (if (k' : Int) ∈ nx.take j then [i] else [])) := hah
        rcases hah.at_ k hkn with ⟨h0, hp0⟩ | ⟨g, hb4, h0, hq0⟩
        · have X := And.intro X (And.intro e2 (And.intro hcond (And.intro h0 (And.intro hAl hfx.X))))
          (refine run ?_; repeat' (first | with_reducible exact trivial | ((with_reducible apply Fork.mk) <;> intro hb) | with_reducible apply Two.mk))
          refine hK2 _ _ (j + 1, Q2.set (H.length + 2) (.cells 0 1 (A.set k (.sl Q2.length 0 0 1))) ++ [.cells 0 1 [.int .i64 (i : Nat)]]) (by simp only; omega)
            ⟨by simp only; omega, A.set k (.sl Q2.length 0 0 1), fun k' => if k' = k then Q2.length else aid k', (hfx.setA _).app _, (hmaps.low (by omega) _).app _, ?_, ?_, ?_⟩ (Wk.sub (by simp [subEnv, look]))
          · have h1 := (hah.low (id := H.length + 2) (by omega) (.cells 0 1 (A.set k (.sl Q2.length 0 0 1)))).first (by rw [List.length_set]; exact hQ) hkn h0 i
            rw [List.length_set] at h1
            have : (fun k' => predsTo code i k' ++ (if (k' : Int) ∈ nx.take (j + 1) then [i] else [])) = (fun k' => if k' = k then (predsTo code i k' ++ (if (k' : Int) ∈ nx.take j then [i] else [])) ++ [i] else predsTo code i k' ++ (if (k' : Int) ∈ nx.take j then [i] else [])) := funext hpr
            simp only [this]
            exact h1
          · exact get_app_left (get_set_ne hbxx (by omega))
          · intro k' hk' hne
            by_cases e : k' = k
            · simp only [if_pos e]
              have := (List.getElem?_eq_some_iff.1 hbxx).1
              omega
            · simp only [if_neg e]
              rw [List.getElem?_set_ne (fun e2 => e e2.symm)] at hne
              exact haid k' hk' hne
        · have hql := (List.getElem?_eq_some_iff.1 hq0).1
          have hfirst := (hah.more hkn h0 hb4 hql i).low (id := H.length + 2) (by omega) (.cells 0 1 (A.set k (.sl (aid k) (g + 1) 0 ((predsTo code i k ++ (if (k : Int) ∈ nx.take j then [i] else [])).length + 1))))
          have hnebx := haid k hkn (by rw [h0]; simp)
          have hWl : (predsTo code i k ++ (if (k : Int) ∈ nx.take j then [i] else [])).length ≤ 1048578 := by
            rw [List.length_append]
            have := predsTo_len code i k
            split <;> simp <;> omega
          have : (fun k' => predsTo code i k' ++ (if (k' : Int) ∈ nx.take (j + 1) then [i] else [])) = (fun k' => if k' = k then (predsTo code i k' ++ (if (k' : Int) ∈ nx.take j then [i] else [])) ++ [i] else predsTo code i k' ++ (if (k' : Int) ∈ nx.take j then [i] else [])) := funext hpr
          generalize hW : predsTo code i k ++ (if (k : Int) ∈ nx.take j then [i] else []) = W at h0 hq0 hfirst hWl
          have X := And.intro X (And.intro e2 (And.intro hcond (And.intro h0 (And.intro hAl (And.intro (getX hq0) (And.intro hfx.X (fun x => get_set_ne (id2 := aid k) (y := x) hfx.ab (by omega))))))))
          have hne2 : H.length + 2 ≠ aid k := by omega
          (refine run ?_; repeat' (first | with_reducible exact trivial | ((with_reducible apply Fork.mk) <;> intro hb) | with_reducible apply Two.mk))
          refine hK2 _ _ (j + 1, (Q2.set (aid k) (.cells (g + 1) 1 (W.map (fun i : Nat => SV.int .i64 (i : Nat)) ++ [.int .i64 (i : Nat)]))).set (H.length + 2) (.cells 0 1 (A.set k (.sl (aid k) (g + 1) 0 (W.length + 1))))) (by simp only; omega)
            ⟨by simp only; omega, A.set k (.sl (aid k) (g + 1) 0 (W.length + 1)), aid, (hfx.high hb4 _).setA _, (hmaps.other hq0 _).low (by omega) _, ?_, ?_, ?_⟩ (Wk.sub (by simp [subEnv, look]))
          · simp only [this]
            exact hfirst
          · exact get_set_ne (get_set_ne hbxx hnebx) (by have := (List.getElem?_eq_some_iff.1 hbxx).1; omega)
          · intro k' hk' hne
            by_cases e : k' = k
            · rw [e]; exact hnebx
            · rw [List.getElem?_set_ne (fun e2 => e e2.symm)] at hne
              exact haid k' hk' hne
      · have hcond : (decide ((0 : Int) ≤ v) && decide (v < n)) = false := by
          rw [Bool.and_eq_false_iff, decide_eq_false_iff_not, decide_eq_false_iff_not]; omega
        have X := And.intro X (And.intro e2 hcond)
        (refine run ?_; repeat' (first | with_reducible exact trivial | ((with_reducible apply Fork.mk) <;> intro hb) | with_reducible apply Two.mk))
        refine hK2 _ _ (j + 1, Q2) (by simp only; omega) ⟨by simp only; omega, A, aid, hfx, hmaps, hah.congr (fun k' hk' => ?_), hbxx, haid⟩ (Wk.sub (by simp [subEnv, look]))
        simp only
        rw [ht]
        have : ((k' : Int) ∈ nx.take j ++ [v]) ↔ (k' : Int) ∈ nx.take j := by
          simp only [List.mem_append, List.mem_singleton]
          constructor
          · rintro (h | h)
            · exact h
            · exact absurd ⟨by omega, by omega⟩ hin
          · exact .inl
        simp only [this]
    · have : j = nx.length := by omega
      subst this
      rw [List.take_length] at hah
      clear hK2
      have c2 := fun H => reads_ok G hG hF code[i] (by omega) H
      have X := And.intro X (getX hbxx)
      (refine run ?_; repeat' (first | with_reducible exact trivial | ((with_reducible apply Fork.mk) <;> intro hb) | with_reducible apply Two.mk))
      have hrdl : (rdS code[i]).length ≤ 1048580 := by
        unfold rdS
        simp only [List.length_append]
        split <;> split <;> split <;> split <;> simp <;> omega
      generalize hrd : rdS code[i] = rd at hrdl
      clear c2 hbxx haid
      refine go_loop (fun a : Nat × List Blk => [(1, .ptr H.length 0 0 0), (3, .int .i64 n), (4, .sl (H.length + 1) 0 0 n), (5, .sl (H.length + 2) 0 0 n), (6, .sl (H.length + 3) gt 0 i), (30, .list 6 (insL code)), (31, .int .i64 n), (32, .int .i64 i), (7, .int .i64 i), (68, .list 1 (rd.map (.int .i64))), (69, .int .i64 rd.length), (70, .int .i64 a.1)]) (fun a => a.2) (fun a => rd.length - a.1)
        (fun a => a.1 ≤ rd.length ∧ Fixed H a.2 fc N1 A gt (List.range i) ∧ Maps a.2 H.length (i + 1) N1 (fun j => if j = i then bx + 1 else mid j) (fun j => if j = i then (rd.take a.1).foldl putO [] else rdO code j) ∧
          Aheads a.2 H.length n A aid (fun k => predsTo code i k ++ (if (k : Int) ∈ nx then [i] else [])))
        (0, Q2) ⟨Nat.zero_le _, hfx, by simpa using hmaps, hah⟩ (Wk.sub (by simp [subEnv, look])) ?_
      clear hfx hmaps hah hQ X
      have X := And.intro noX (And.intro hfcl (And.intro hfc6 hcn))
      rintro K2 ⟨j, Q3⟩ ⟨hj, hfx, hmaps, hah⟩ hK2
      dsimp only at hj hfx hmaps hah ⊢
      have hQ := hfx.len
      have hmi := (hmaps.at_ i (by omega)).2.2
      simp only [if_true] at hmi
      have hmil := (List.getElem?_eq_some_iff.1 hmi).1
      rcases Nat.lt_or_ge j rd.length with hlt2 | hge2
      · have e2 : rd[j]? = some rd[j] := List.getElem?_eq_getElem hlt2
        have ht := List.take_succ_eq_append_getElem hlt2
        have X := And.intro X (And.intro e2 (And.intro hN1i (And.intro hN1l (And.intro (getX hmi) hfx.X))))
        (refine run ?_; repeat' (first | with_reducible exact trivial | ((with_reducible apply Fork.mk) <;> intro hb) | with_reducible apply Two.mk))
        refine hK2 _ _ (j + 1, Q3.set (bx + 1) (.map (some .i64) (esO (putO ((rd.take j).foldl putO []) rd[j])))) (by simp only; omega) ⟨by simp only; omega, hfx.high (by omega) _, ?_, hah.other hmi _⟩ (Wk.sub (by simp [subEnv, look]))
        have h1 := hmaps.upd (i := i) (by omega) (putO ((rd.take j).foldl putO []) rd[j])
        simp only [if_true] at h1
        refine h1.congr fun k hk => ⟨rfl, ?_⟩
        simp only
        by_cases e : k = i
        · rw [if_pos e, if_pos e, ht, List.foldl_append]; rfl
        · rw [if_neg e, if_neg e, if_neg e]
      · have : j = rd.length := by omega
        subst this
        rw [List.take_length] at hmaps
        clear hK2
        have X := And.intro X hfx.X
        have hrl : ((List.range i).map fun i => SV.int .i64 (i : Nat)).length = i := by simp
        have X := And.intro X hrl
        (refine run ?_; repeat' (first | with_reducible exact trivial | ((with_reducible apply Fork.mk) <;> intro hb) | with_reducible apply Two.mk))
        refine hK _ _ (i + 1, Q3.set (H.length + 3) (.cells (gt + 1) 1 ((List.range (i + 1)).map fun i => .int .i64 (i : Nat))), gt + 1) (by simp only; omega) ⟨by simp only; omega, N1, A, (fun j => if j = i then bx + 1 else mid j), aid, hfx.setT _ _, hN1l, hN1n, ?_, ?_⟩ ?_
        · refine (hmaps.low (by omega) _).congr fun k hk => ⟨rfl, ?_⟩
          by_cases e : k = i
          · subst e
            simp only [if_true, rdO, e1, hrd]
          · simp only [if_neg e]
        · refine (hah.low (by omega) _).congr fun k hk => ?_
          simp only
          rw [predsTo_succ code i k hlt', hnx]
        · simp only [List.range_succ, List.map_append, List.map_cons, List.map_nil]
          exact Wk.sub (by simp [subEnv, look])
  have : n = i := by omega
  subst this
  clear hK
  have hD0 := rdO_dat code
  generalize hBd : n * (code.flatMap rdS).length = Bd
  have hBd0 : Bd ≤ 4398046511104 := by
    rw [← hBd]
    exact Nat.le_trans (Nat.mul_le_mul (Nat.le_of_lt hn) hr) (by omega)
  have hsum : ∀ S, Dat code S → sumS n S ≤ Bd := fun S hS => by rw [← hBd]; exact sumS_le fun j hj => hS.len (by omega)
  (refine runB ?_; repeat' (first | with_reducible exact trivial | ((with_reducible apply Fork.mk) <;> intro hb) | with_reducible apply Two.mk))
  refine go_cut (fun a : List Blk => [(1, .ptr H.length 0 0 0), (3, .int .i64 n), (4, .sl (H.length + 1) 0 0 n), (5, .sl (H.length + 2) 0 0 n)]) (fun Q => Q) (fun Q => ∃ S gt V, Fixed H Q fc N A gt V ∧ Maps Q H.length n N mid S ∧ Dat code S ∧ ∀ k, k < code.length → Cl code S k) (fun K hK => ?_) ?_
  · refine go_base (fun C' hC1 hC2 hC3 => ?_)
    have hG' : GClosed ⟨G.l, some C'⟩ := hG
    have hF' : GF ⟨G.l, some C'⟩ := hF
    have hMH : ∀ j, j < n → ∃ bm, MapHere ⟨G.l, some C'⟩ (mid j) bm (some .i64) := fun j hj => MapHere.of hC2 (by rw [hC1]; exact (hmaps.at_ j hj).2.2)
    generalize hG1 : (⟨G.l, some C'⟩ : Gl) = G1 at hG' hF' hMH ⊢
    have hAl := hah.len
    (refine run ?_; repeat' (first | with_reducible exact trivial | ((with_reducible apply Fork.mk) <;> intro hb) | with_reducible apply Two.mk))
    refine go_loop (fun a : List Blk × Nat × Nat × Nat => [(1, .ptr H.length 0 0 0), (3, .int .i64 n), (4, .sl (H.length + 1) 0 0 n), (5, .sl (H.length + 2) 0 0 n), (6, .sl (H.length + 3) a.2.1 0 a.2.2.1)]) (fun a => a.1) (fun a => a.2.2.1 + 2 * a.2.2.2)
      (fun a => ∃ S V, Fixed H a.1 fc N A a.2.1 V ∧ Maps a.1 H.length n N mid S ∧ Aheads a.1 H.length n A aid (predsTo code n) ∧ Dat code S ∧ (∀ x ∈ V.take a.2.2.1, x < n) ∧ a.2.2.1 ≤ V.length ∧ V.length + a.2.2.2 ≤ n + Bd ∧ a.2.2.2 = Bd - sumS n S ∧ ∀ k, k < n → k ∉ V.take a.2.2.1 → Cl code S k)
      (Q, gt, n, Bd - sumS n (rdO code)) ⟨rdO code, List.range n, hfx, hmaps, hah, hD0, fun x hx => by simpa using List.mem_of_mem_take hx, by simp, by simp only [List.length_range]; omega, rfl, fun k hk hno => absurd (by rw [List.take_of_length_le (by simp)]; simpa using hk) hno⟩ (Wk.sub (by simp [subEnv, look])) ?_
    clear hfx hmaps hah hD0 hQ
    rintro K2 ⟨Q, gt, td, w0⟩ ⟨S, V, hfx, hmaps, hah, hD, hVn, htd, hVl, hw0, hcl2⟩ hK2
    dsimp only at hfx hmaps hah hD hVn htd hVl hw0 hcl2 ⊢
    have hQ := hfx.len
    rcases Nat.eq_zero_or_pos td with rfl | hpos
    · have hz : ¬ ((0 : Int) < ((0 : Nat) : Int)) := by simp
      have X := And.intro X hfx.X
      (refine run ?_; repeat' (first | with_reducible exact trivial | ((with_reducible apply Fork.mk) <;> intro hb) | with_reducible apply Two.mk))
      refine hK _ _ Q ⟨S, gt, V, hfx, hmaps, hD, fun k hk => hcl2 k (by omega) (by simp)⟩ (Wk.sub (by simp [subEnv, look]))
    · have hvt : V[td - 1]? = some V[td - 1] := List.getElem?_eq_getElem (by omega)
      have hkn : V[td - 1] < n := hVn _ (by rw [List.mem_take_iff_getElem]; exact ⟨td - 1, by omega, rfl⟩)
      have htk : V.take td = V.take (td - 1) ++ [V[td - 1]] := by
        have := List.take_succ_eq_append_getElem (l := V) (i := td - 1) (by omega)
        rwa [Nat.sub_add_cancel hpos] at this
      generalize V[td - 1] = k at hvt hkn htk
      have z1 : ((td : Int) - 1).toNat = td - 1 := by omega
      have z2 : ((td : Int) - 1) = ((td - 1 : Nat) : Int) := by omega
      rcases hah.at_ k hkn with ⟨h0, hp0⟩ | ⟨g, hb4, h0, hq0⟩
      · have X := And.intro X (And.intro hvt (And.intro z1 (And.intro h0 (And.intro hAl (And.intro hfx.X Nat.sub_zero)))))
        (refine run ?_; repeat' (first | with_reducible exact trivial | ((with_reducible apply Fork.mk) <;> intro hb) | with_reducible apply Two.mk))
        refine go_loop (fun _ : Unit => [(1, .ptr H.length 0 0 0), (3, .int .i64 n), (4, .sl (H.length + 1) 0 0 n), (5, .sl (H.length + 2) 0 0 n), (6, .sl (H.length + 3) gt 0 (td - 1)), (103, .int .i64 0), (104, .int .i64 0)]) (fun _ => Q) (fun _ => 0) (fun _ => True) () trivial (Wk.sub (by simp [subEnv, look])) ?_
        rintro K3 _ _ hK3
        (refine run ?_; repeat' (first | with_reducible exact trivial | ((with_reducible apply Fork.mk) <;> intro hb) | with_reducible apply Two.mk))
        refine hK2 _ _ (Q, gt, td - 1, w0) (by simp only; omega) ⟨S, V, hfx, hmaps, hah, hD, fun x hx => hVn x (by rw [htk]; exact List.mem_append_left _ hx), by simp only; omega, hVl, hw0, fun k' hk' hno => ?_⟩ (Wk.sub (by simp [subEnv, look]))
        by_cases e : k' = k
        · subst e
          intro i hi
          rw [hcn, hp0] at hi; cases hi
        · exact hcl2 k' hk' (by rw [htk]; simp only [List.mem_append, List.mem_singleton]; rintro (h | h); exact hno h; exact e h)
      · have hPl := predsTo_len code n k
        have hPm := predsTo_mem code n k
        have hX0 := And.intro noX (And.intro hfcl (And.intro hfc6 hcn))
        have X := And.intro X (And.intro hvt (And.intro z1 (And.intro h0 (And.intro hAl (And.intro hfx.X (And.intro (getX hq0) Nat.sub_zero))))))
        (refine run ?_; repeat' (first | with_reducible exact trivial | ((with_reducible apply Fork.mk) <;> intro hb) | with_reducible apply Two.mk))
        generalize hP : predsTo code n k = P at h0 hq0 hPl hPm ⊢
        refine go_loop (fun a : Nat × List Blk × Nat × Nat × Nat => [(1, .ptr H.length 0 0 0), (3, .int .i64 n), (4, .sl (H.length + 1) 0 0 n), (5, .sl (H.length + 2) 0 0 n), (6, .sl (H.length + 3) a.2.2.1 0 a.2.2.2.1), (13, .int .i64 k), (102, .sl (aid k) g 0 P.length), (103, .int .i64 P.length), (104, .int .i64 a.1)]) (fun a => a.2.1) (fun a => P.length - a.1)
          (fun a => a.1 ≤ P.length ∧ ∃ S' V', Fixed H a.2.1 fc N A a.2.2.1 V' ∧ Maps a.2.1 H.length n N mid S' ∧ Aheads a.2.1 H.length n A aid (predsTo code n) ∧ Dat code S' ∧ S' k = S k ∧ (∀ x ∈ V'.take a.2.2.2.1, x < n) ∧ a.2.2.2.1 ≤ V'.length ∧ V'.length + a.2.2.2.2 ≤ n + Bd ∧ a.2.2.2.2 = Bd - sumS n S' ∧
            a.2.2.2.1 + 2 * a.2.2.2.2 ≤ td - 1 + 2 * w0 ∧ (∀ k', k' < n → k' ≠ k → k' ∉ V'.take a.2.2.2.1 → Cl code S' k') ∧ ∀ j (hj : j < P.length), j < a.1 → ∀ s ∈ S k, (s ≠ wrN code P[j] ∨ wrN code P[j] < 0) → s ∈ S' P[j])
          (0, Q, gt, td - 1, w0) ⟨Nat.zero_le _, S, V, hfx, hmaps, hah, hD, rfl, fun x hx => hVn x (by rw [htk]; exact List.mem_append_left _ hx), by simp only; omega, hVl, hw0, Nat.le_refl _, fun k' hk' hne hno => hcl2 k' hk' (by rw [htk]; simp only [List.mem_append, List.mem_singleton]; rintro (h | h); exact hno h; exact hne h), fun j _ hj => absurd hj (Nat.not_lt_zero _)⟩ (Wk.sub (by simp [subEnv, look])) ?_
        clear hfx hmaps hah hD hVn htd hVl hcl2 hQ htk hvt hq0 X
        have X := hX0
        generalize hSk : S k = Sk
        clear hSk
        rintro K3 ⟨j, Q, gt, td2, w⟩ ⟨hj, S, V, hfx, hmaps, hah, hD, hSk, hVn, htd, hVl, hw, hmu, hcl2, hdone⟩ hK3
        dsimp only at hj hfx hmaps hah hD hVn htd hVl hw hmu hcl2 hdone ⊢
        have hQ := hfx.len
        have hq0 : Q[aid k]? = some (.cells g 1 (P.map fun i => .int .i64 (i : Nat))) := by
          rcases hah.at_ k hkn with ⟨h1, _⟩ | ⟨g2, _, h1, h2⟩
          · rw [h0] at h1; cases h1
          · rw [h0] at h1
            simp only [Option.some.injEq, SV.sl.injEq, true_and, and_true] at h1
            rw [hP, ← h1.1] at h2; exact h2
        rcases Nat.lt_or_ge j P.length with hlt2 | hge2
        · have hpj : P[j]? = some P[j] := List.getElem?_eq_getElem hlt2
          have hiP : P[j] ∈ P := List.getElem_mem hlt2
          obtain ⟨hin, hil, _⟩ := (hPm P[j]).1 hiP
          generalize hPi : P[j] = i at hpj hiP hin hil
          have e1 : code[i]? = some code[i] := List.getElem?_eq_getElem hil
          have hmi := hmaps.at_ i hin
          have hmk := hmaps.at_ k hkn
          have hSil := hD.len hil
          obtain ⟨bm, hMHk⟩ := hMH k hkn
          have c1 := fun H => writes_ok G1 hG' hF' code[i] H
          have hNl2 : N.length = n := hNl
          have X := And.intro X (And.intro hpj (And.intro e1 (And.intro hmi.2.1 (And.intro hmk.2.1 (And.intro (getX hmi.2.2) (And.intro (getX hmk.2.2) (And.intro (getX hq0) (And.intro hNl hfx.X))))))))
          (refine run ?_; repeat' (first | with_reducible exact trivial | ((with_reducible apply Fork.mk) <;> intro hb) | with_reducible apply Two.mk))
          refine go_rangeO hMHk rfl (ti := t4) rfl hmk.2.2 rfl ?_
          (refine run ?_; repeat' (first | with_reducible exact trivial | ((with_reducible apply Fork.mk) <;> intro hb) | with_reducible apply Two.mk))
          have hwi : wrN code i = wrS code[i] := wrN_eq hil
          refine go_loop (fun a : List Nat × List Blk × List Int => [(1, .ptr H.length 0 0 0), (3, .int .i64 n), (4, .sl (H.length + 1) 0 0 n), (5, .sl (H.length + 2) 0 0 n), (6, .sl (H.length + 3) gt 0 td2), (13, .int .i64 k), (15, .int .i64 i), (16, .int .i64 (S i).length), (17, .int .i64 (wrS code[i])), (102, .sl (aid k) g 0 P.length), (103, .int .i64 P.length), (104, .int .i64 j), (123, .it Q.length)]) (fun a => a.2.1) (fun a => Sk.length - a.1.length)
            (fun a => (a.1.Nodup ∧ ∀ x ∈ a.1, x < Sk.length) ∧ Fixed H a.2.1 fc N A gt V ∧ Maps a.2.1 H.length n N mid (updS S i a.2.2) ∧ Aheads a.2.1 H.length n A aid (predsTo code n) ∧ a.2.1[Q.length]? = some (.obj (.mapIter (some bm) (esO Sk).length a.1.toArray (esO Sk).length)) ∧
              a.2.2.Nodup ∧ (∃ E, a.2.2 = S i ++ E) ∧ (∀ s ∈ a.2.2, s ∈ S i ∨ (s ∈ Sk ∧ (s ≠ wrN code i ∨ wrN code i < 0))) ∧ (∀ x ∈ a.1, ∀ s, Sk[x]? = some s → (s ≠ wrN code i ∨ wrN code i < 0) → s ∈ a.2.2) ∧ (k = i → a.2.2 = Sk))
            ([], Q ++ [.obj (.mapIter (some bm) (esO (S k)).length #[] (esO (S k)).length)], S i)
            ⟨⟨List.nodup_nil, by simp⟩, hfx.app _, by rw [updS_self]; exact hmaps.app _, hah.app _, by rw [List.getElem?_append_right (Nat.le_refl _), Nat.sub_self, hSk]; rfl, hD.nd i hil, ⟨[], by simp⟩, fun s hs => .inl hs, by simp, fun e => by rw [← e]; exact hSk⟩ (Wk.sub (by simp [subEnv, look])) ?_
          rintro K4 ⟨idx, Q4, T⟩ ⟨⟨hi1, hi2⟩, hfx4, hmaps4, hah4, hit, hTn, hTE, hTin, hTall, hTk⟩ hK4
          dsimp only at hi1 hi2 hfx4 hmaps4 hah4 hit hTn hTE hTin hTall hTk ⊢
          have hQ4 := hfx4.len
          have hSk4 : updS S i T k = Sk := by
            unfold updS
            split
            · rename_i e; exact hTk e
            · exact hSk
          have hmk4 := (hmaps4.at_ k hkn).2.2
          rw [hSk4] at hmk4
          (refine run ?_; repeat' (first | with_reducible exact trivial | ((with_reducible apply Fork.mk) <;> intro hb) | with_reducible apply Two.mk))
          refine go_nextO hMHk rfl hit hmk4 rfl (fun hall => ?_) (fun x p hp hns => ?_)
          · have hTall2 : ∀ s ∈ Sk, (s ≠ wrN code i ∨ wrN code i < 0) → s ∈ T := fun s hs hc => by
              obtain ⟨x, hx⟩ := List.getElem?_of_mem hs
              have := hall x (by rw [esO_len]; exact (List.getElem?_eq_some_iff.1 hx).1)
              exact hTall x (by simpa using this) s hx hc
            clear hK4 hall
            obtain ⟨E, hE⟩ := hTE
            have hD4 : Dat code (updS S i T) := hD.upd (k := k) (by omega) (by rw [hcn, hP]; exact hiP) hTn (fun s hs => by rw [hE]; exact List.mem_append_left _ hs) (fun s hs => by rw [hSk]; exact hTin s hs)
            have hmi4 := hmaps4.at_ i hin
            have hTi : updS S i T i = T := by simp [updS]
            rw [hTi] at hmi4
            have hTl := hD4.len hil
            rw [hTi] at hTl
            have hsu := sumS_upd S i T n hin
            have hs1 := hsum S hD
            have hs2 := hsum _ hD4
            have hlen4 : T.length = (S i).length + E.length := by rw [hE, List.length_append]
            have hkeep : ∀ j' (hj' : j' < P.length), j' < j + 1 → ∀ s ∈ Sk, (s ≠ wrN code P[j'] ∨ wrN code P[j'] < 0) → s ∈ updS S i T P[j'] := fun j' hj' hlt s hs hc => by
              unfold updS
              rcases Nat.lt_or_ge j' j with h | h
              · have h1 := hdone j' hj' h s hs hc
                split
                · rename_i e; rw [e] at h1; rw [hE]; exact List.mem_append_left _ h1
                · exact h1
              · have : j' = j := by omega
                subst this
                rw [hPi, if_pos rfl]
                exact hTall2 s hs (by rw [hPi] at hc; exact hc)
            have hSk5 : updS S i T k = Sk := hSk4
            have hVpush : ∀ x ∈ V.take td2 ++ [i], x < n := fun x hx => by
              rcases List.mem_append.1 hx with hx | hx
              · exact hVn x hx
              · rw [List.mem_singleton.1 hx]; exact hin
            have hclpush : ∀ k', k' < n → k' ≠ k → k' ∉ V.take td2 ++ [i] → Cl code (updS S i T) k' := fun k' h1 h2 h3 i2 hi2 s hs hc => by
              simp only [List.mem_append, List.mem_singleton, not_or] at h3
              have hs' : s ∈ S k' := by unfold updS at hs; rwa [if_neg h3.2] at hs
              have := hcl2 k' h1 h2 h3.1 i2 hi2 s hs' hc
              unfold updS
              split
              · rename_i e; rw [e] at this; rw [hE]; exact List.mem_append_left _ this
              · exact this
            by_cases hgrow : (S i).length < T.length
            · have hgb : decide (((S i).length : Int) < T.length) = true := by simp; omega
              by_cases hfull : td2 = V.length
              · have X := And.intro hX0 (And.intro hmi4.2.1 (And.intro (getX hmi4.2.2) (And.intro hNl (And.intro hgb hfx4.X))))
                have hVl2 : (V.map fun i => SV.int .i64 (i : Nat)).length = V.length := by simp
                (refine run ?_; repeat' (first | with_reducible exact trivial | ((with_reducible apply Fork.mk) <;> intro hb) | with_reducible apply Two.mk))
                rw [show (V.map (fun i : Nat => SV.int .i64 (i : Nat)) ++ [SV.int .i64 (i : Nat)]) = (V ++ [i]).map (fun i : Nat => SV.int .i64 (i : Nat)) from by simp]
                have htk2 : (V ++ [i]).take (td2 + 1) = V.take td2 ++ [i] := by
                  rw [hfull, List.take_of_length_le (by simp), List.take_length]
                refine hK3 _ _ (j + 1, Q4.set (H.length + 3) (.cells (gt + 1) 1 ((V ++ [i]).map (fun i : Nat => SV.int .i64 (i : Nat)))), gt + 1, td2 + 1, Bd - sumS n (updS S i T)) (by simp only; omega)
                  ⟨by simp only; omega, updS S i T, V ++ [i], hfx4.setT _ _, hmaps4.low (by omega) _, hah4.low (by omega) _, hD4, hSk5, ?_, by simp; omega, by simp; omega, rfl, by simp only; omega, ?_, hkeep⟩ (Wk.sub (by simp [subEnv, look]))
                · simp only; rw [htk2]; exact hVpush
                · simp only; rw [htk2]; exact hclpush
              · have X := And.intro hX0 (And.intro hmi4.2.1 (And.intro (getX hmi4.2.2) (And.intro hNl (And.intro hgb hfx4.X))))
                (refine run ?_; repeat' (first | with_reducible exact trivial | ((with_reducible apply Fork.mk) <;> intro hb) | with_reducible apply Two.mk))
                refine go_lI (v := .sl (H.length + 3) gt 0 (td2 + 1)) (H' := Q4.set (H.length + 3) (.cells gt 1 ((V.take td2 ++ [i] ++ V.drop (td2 + 1)).map (fun i : Nat => SV.int .i64 (i : Nat))))) ?_ rfl ?_
                · have hVl2 : (V.map fun i => SV.int .i64 (i : Nat)).length = V.length := by simp
                  simp only [lvI, appI]
                  simp -implicitDefEqProofs (disch := first | assumption | omega) only [go_sem, X, Int.reduceToNat, Nat.reduceAdd, Nat.reduceSub, Nat.reduceMul, Nat.reduceLT, Nat.reduceLeDiff, Nat.reduceEqDiff, Nat.reduceBEq, Nat.reduceBNe, ↓reduceIte, reduceCtorEq]
                  rw [chk_true trivial, chk_true trivial]
                  simp [List.map_take, List.map_drop]
                have htk2 : (V.take td2 ++ [i] ++ V.drop (td2 + 1)).take (td2 + 1) = V.take td2 ++ [i] := by
                  rw [List.take_append_of_le_length (by simp; omega), List.take_of_length_le (by simp; omega)]
                have hl2 : (V.take td2 ++ [i] ++ V.drop (td2 + 1)).length = V.length := by simp; omega
                generalize V.take td2 ++ [i] ++ V.drop (td2 + 1) = V2 at htk2 hl2 ⊢
                (refine run ?_; repeat' (first | with_reducible exact trivial | ((with_reducible apply Fork.mk) <;> intro hb) | with_reducible apply Two.mk))
                refine hK3 _ _ (j + 1, Q4.set (H.length + 3) (.cells gt 1 (V2.map (fun i : Nat => SV.int .i64 (i : Nat)))), gt, td2 + 1, Bd - sumS n (updS S i T)) (by simp only; omega)
                  ⟨by simp only; omega, updS S i T, V2, hfx4.setT _ _, hmaps4.low (by omega) _, hah4.low (by omega) _, hD4, hSk5, ?_, by simp only; omega, by simp only; omega, rfl, by simp only; omega, ?_, hkeep⟩ (Wk.sub (by simp [subEnv, look]))
                · simp only; rw [htk2]; exact hVpush
                · simp only; rw [htk2]; exact hclpush
            · have hgb : decide (((S i).length : Int) < T.length) = false := by simp; omega
              have X := And.intro hX0 (And.intro hmi4.2.1 (And.intro (getX hmi4.2.2) (And.intro hNl (And.intro hgb hfx4.X))))
              (refine run ?_; repeat' (first | with_reducible exact trivial | ((with_reducible apply Fork.mk) <;> intro hb) | with_reducible apply Two.mk))
              have hE0 : E = [] := List.eq_nil_of_length_eq_zero (by omega)
              have hTS : T = S i := by rw [hE, hE0, List.append_nil]
              rw [hTS, updS_self] at hmaps4 hkeep
              exact hK3 _ _ (j + 1, Q4, gt, td2, w) (by simp only; omega) ⟨by simp only; omega, S, V, hfx4, hmaps4, hah4, hD, hSk, hVn, htd, hVl, hw, hmu, hcl2, hkeep⟩ (Wk.sub (by simp [subEnv, look]))
          · have hle := met_le hi1 hi2
            have hp2 := hp
            rw [esO_get] at hp2
            obtain ⟨s, hs, rfl⟩ := Option.map_eq_some_iff.1 hp2
            have hxl : x < Sk.length := (List.getElem?_eq_some_iff.1 hs).1
            have hxn : x ∉ idx := fun hm => by
              have : idx.toArray.contains x = true := by simpa using hm
              rw [this] at hns; cases hns
            have hlt4 : idx.length < Sk.length := by
              have := met_le (n := Sk.length) (idx := idx ++ [x]) (List.nodup_append.2 ⟨hi1, by simp, by simp; exact fun a ha e => hxn (e ▸ ha)⟩) (by simp only [List.mem_append, List.mem_singleton]; exact fun a ha => ha.elim (hi2 a) (fun e => e ▸ hxl))
              simp at this; omega
            have hitl := (List.getElem?_eq_some_iff.1 hit).1
            have hfx5 := hfx4.high (id := Q.length) (by omega) (.obj (.mapIter (some bm) (esO Sk).length (idx.toArray.push x) (esO Sk).length))
            have hmaps5 := hmaps4.otherO hit (.obj (.mapIter (some bm) (esO Sk).length (idx.toArray.push x) (esO Sk).length))
            have hah5 := hah4.otherO hit (.obj (.mapIter (some bm) (esO Sk).length (idx.toArray.push x) (esO Sk).length))
            have hit5 : (Q4.set Q.length (.obj (.mapIter (some bm) (esO Sk).length (idx.toArray.push x) (esO Sk).length)))[Q.length]? = some (.obj (.mapIter (some bm) (esO Sk).length (idx.toArray.push x) (esO Sk).length)) := List.getElem?_set_self hitl
            generalize Q4.set Q.length (.obj (.mapIter (some bm) (esO Sk).length (idx.toArray.push x) (esO Sk).length)) = Q5 at hfx5 hmaps5 hah5 hit5 ⊢
            have hmk5 := (hmaps5.at_ k hkn).2.2
            rw [hSk4] at hmk5
            have hmi5 := hmaps5.at_ i hin
            have hTi : updS S i T i = T := by simp [updS]
            rw [hTi] at hmi5
            (refine run ?_; repeat' (first | with_reducible exact trivial | ((with_reducible apply Fork.mk) <;> intro hb) | with_reducible apply Two.mk))
            refine go_entryO (n := 0) hMHk rfl hit5 hmk5 hp rfl ?_
            have X := And.intro hX0 (And.intro hmi5.2.1 (And.intro (getX hmi5.2.2) (And.intro hNl hfx5.X)))
            have hpush : (idx ++ [x]).toArray = idx.toArray.push x := by simp
            have hall2 : ∀ T' : List Int, (∀ s ∈ T, s ∈ T') → ((s ≠ wrN code i ∨ wrN code i < 0) → s ∈ T') → ∀ y ∈ idx ++ [x], ∀ s', Sk[y]? = some s' → (s' ≠ wrN code i ∨ wrN code i < 0) → s' ∈ T' := fun T' hT1 hT2 y hy s' hs' hc => by
              rcases List.mem_append.1 hy with hy | hy
              · exact hT1 _ (hTall y hy s' hs' hc)
              · rw [List.mem_singleton] at hy; subst hy
                rw [hs] at hs'; cases hs'; exact hT2 hc
            have hidx : (idx ++ [x]).Nodup ∧ ∀ y ∈ idx ++ [x], y < Sk.length := ⟨List.nodup_append.2 ⟨hi1, by simp, by simp; exact fun a ha e => hxn (e ▸ ha)⟩, by simp only [List.mem_append, List.mem_singleton]; exact fun a ha => ha.elim (hi2 a) (fun e => e ▸ hxl)⟩
            have hsSk : s ∈ Sk := List.mem_of_getElem? hs
            (refine run ?_; repeat' (first | with_reducible exact trivial | ((with_reducible apply Fork.mk) <;> intro hb) | with_reducible apply Two.mk))
            · have hc : s ≠ wrN code i ∨ wrN code i < 0 := by rw [hwi]; simpa using hb
              refine hK4 _ _ (idx ++ [x], Q5.set (mid i) (.map (some .i64) (esO (putO T s))), putO T s) (by simp; omega) ⟨hidx, hfx5.high hmi5.1 _, ?_, hah5.other hmi5.2.2 _, ?_, putO_nodup hTn s, ?_, fun q hq => ?_, hall2 _ (fun q hq => (putO_mem _ _ _).2 (.inl hq)) (fun _ => (putO_mem _ _ _).2 (.inr rfl)), fun e => ?_⟩ (Wk.sub (by simp [subEnv, look]))
              · refine (hmaps5.upd hin (putO T s)).congr fun q hq => ⟨rfl, ?_⟩
                unfold updS
                by_cases e : q = i
                · simp only [if_pos e]
                · simp only [if_neg e]
              · rw [hpush]
                exact get_set_ne hit5 (fun e => by rw [← e] at hit5; rw [hmi5.2.2] at hit5; cases hit5)
              · obtain ⟨E, rfl⟩ := hTE
                unfold putO
                split
                · exact ⟨E, rfl⟩
                · exact ⟨E ++ [s], by rw [List.append_assoc]⟩
              · rcases (putO_mem _ _ _).1 hq with hq | rfl
                · exact hTin q hq
                · exact .inr ⟨hsSk, hc⟩
              · have := hTk e
                simp only
                rw [this]
                exact if_pos hsSk
            · refine hK4 _ _ (idx ++ [x], Q5, T) (by simp; omega) ⟨hidx, hfx5, hmaps5, hah5, by rw [hpush]; exact hit5, hTn, hTE, hTin, hall2 _ (fun q hq => hq) (fun hc => absurd hc (by rw [hwi]; simp only [Bool.or_eq_false_iff, decide_eq_false_iff_not] at hb; omega)), hTk⟩ (Wk.sub (by simp [subEnv, look]))
        · have : j = P.length := by omega
          subst this
          clear hK3
          (refine run ?_; repeat' (first | with_reducible exact trivial | ((with_reducible apply Fork.mk) <;> intro hb) | with_reducible apply Two.mk))
          refine hK2 _ _ (Q, gt, td2, w) (by simp only; omega) ⟨S, V, hfx, hmaps, hah, hD, hVn, htd, hVl, hw, fun k' hk' hno => ?_⟩ (Wk.sub (by simp [subEnv, look]))
          by_cases e : k' = k
          · subst e
            intro i hi s hs hc
            rw [hcn, hP] at hi
            obtain ⟨j, hj, rfl⟩ := List.getElem_of_mem hi
            rw [hSk] at hs
            exact hdone j hj hj s hs hc
          · exact hcl2 k' hk' e hno
  · clear hmaps hfx hah hQ X
    clear Q
    rintro Q ⟨S, gt, V, hfx, hmaps, hD, hcl3⟩
    have hQ := hfx.len
    have X := And.intro noX (And.intro hfcl (And.intro hfc6 (And.intro hcn (And.intro hNl hfx.X))))
    (refine run ?_; repeat' (first | with_reducible exact trivial | ((with_reducible apply Fork.mk) <;> intro hb) | with_reducible apply Two.mk))
    have X := And.intro noX (And.intro hfcl (And.intro hfc6 hcn))
    refine go_loop (fun a : Nat × List Blk => [(19, .sl Q.length a.1 0 a.1), (152, .sl (H.length + 1) 0 0 n), (153, .int .i64 n), (154, .int .i64 a.1)]) (fun a => a.2) (fun a => n - a.1)
      (fun a => a.1 ≤ n ∧ a.2.length = Q.length + 1 + 2 * a.1 ∧ (∃ X, a.2 = H ++ X) ∧ a.2[H.length + 1]? = some (.cells 0 1 N) ∧ (∀ j, a.1 ≤ j → j < n → a.2[mid j]? = some (.map (some .i64) (esO (S j)))) ∧
        a.2[Q.length]? = some (.cells a.1 1 ((List.range a.1).map fun j => .sl (Q.length + 2 + 2 * j) 0 0 (sortI (S j)).length)) ∧ ∀ j, j < a.1 → a.2[Q.length + 2 + 2 * j]? = some (.cells 0 1 ((sortI (S j)).map (.int .i64))))
      (0, Q ++ [.cells 0 1 []]) ⟨Nat.zero_le _, by simp, (hfx.app _).pre, get_app_left hfx.nb, fun j _ hj => get_app_left (hmaps.at_ j hj).2.2, by simp, fun j hj => absurd hj (Nat.not_lt_zero _)⟩ (Wk.sub (by simp [subEnv, look])) ?_
    rintro K ⟨j, Q1⟩ ⟨hj, hQl, hpre, hnb, hmp, hob, hrows⟩ hK
    dsimp only at hj hQl hpre hnb hmp hob hrows ⊢
    rcases Nat.lt_or_ge j n with hlt | hge
    · have hmj := hmp j (Nat.le_refl _) hlt
      have hmi := hmaps.at_ j hlt
      have hmQ := (List.getElem?_eq_some_iff.1 hmi.2.2).1
      have hSl := hD.len (j := j) (by omega)
      have X := And.intro X (And.intro hmi.2.1 (And.intro hNl (getX hnb)))
      (refine run ?_; repeat' (first | with_reducible exact trivial | ((with_reducible apply Fork.mk) <;> intro hb) | with_reducible apply Two.mk))
      refine go_pinO (t := 159) hmj (by omega) hB rfl (fun bm clk born hbl hbn => ?_)
      have ef : (esO (S j)).map Prod.fst = (S j).map (.int .i64) := by simp [esO]
      have es : (esO (S j)).map Prod.snd = (S j).map fun _ => .bool true := by simp [esO]
      rw [ef, es]
      rw [esO_len] at hbl
      have hQd : (Q1.set (mid j) .dead).length = Q1.length := List.length_set
      have hpre2 := pre_set hpre (id := mid j) (by omega) .dead
      have hob2 := get_set_ne (id2 := mid j) (y := .dead) hob (by omega)
      have hnb2 := get_set_ne (id2 := mid j) (y := .dead) hnb (by omega)
      have hmp2 : ∀ j', j + 1 ≤ j' → j' < n → (Q1.set (mid j) .dead)[mid j']? = some (.map (some .i64) (esO (S j'))) := fun j' h1 h2 => get_set_ne (hmp j' (by omega) h2) (fun e => by have := hmaps.inj j j' hlt h2 e; omega)
      have hrows2 : ∀ j', j' < j → (Q1.set (mid j) .dead)[Q.length + 2 + 2 * j']? = some (.cells 0 1 ((sortI (S j')).map (.int .i64))) := fun j' h1 => get_set_ne (hrows j' h1) (by omega)
      generalize Q1.set (mid j) .dead = Q2 at hQd hpre2 hob2 hnb2 hmp2 hrows2 ⊢
      refine callS (keys_ok G hG bm clk born (S j) _ (fun n => SV.underL_map fun _ _ => rfl) _) ?_
      rintro r H' ⟨rfl, rfl⟩
      (refine run ?_; repeat' (first | with_reducible exact trivial | ((with_reducible apply Fork.mk) <;> intro hb) | with_reducible apply Two.mk))
      refine callS (sorted_ok G hG Q2.length bm clk born (S j) ((S j).map fun _ => .bool true) hbl (by simp) hbn (by omega) _ (by rw [List.getElem?_append_right (Nat.le_refl _), Nat.sub_self]; rfl) (fun n => SV.underL_map fun _ _ => rfl)) ?_
      rintro r H' ⟨rfl, rfl⟩
      simp only [List.append_assoc, List.cons_append, List.nil_append, List.length_append, List.length_cons, List.length_nil, Nat.zero_add]
      have hrl : (List.range j).length = j := List.length_range
      have hsl := sortI_len (S j)
      have X := And.intro X (And.intro hrl (getX hob2))
      have hlt3 : Q.length < Q2.length := by omega
      (refine run ?_; repeat' (first | with_reducible exact trivial | ((with_reducible apply Fork.mk) <;> intro hb) | with_reducible apply Two.mk))
      have hq2 : Q2.length = Q.length + 1 + 2 * j := by rw [hQd, hQl]
      have hbl2 : (List.range j).map (fun j => SV.sl (Q.length + (2 + 2 * j)) 0 0 (sortI (S j)).length) ++ [SV.sl (Q2.length + 1) 0 0 (S j).length] = (List.range (j + 1)).map fun j => SV.sl (Q.length + 2 + 2 * j) 0 0 (sortI (S j)).length := by
        rw [List.range_succ, List.map_append, List.map_cons, List.map_nil, hsl, hq2]
        congr 1
        · exact List.map_congr_left fun a _ => by rw [Nat.add_assoc]
        · congr 2; omega
      rw [hbl2]
      generalize hCI : Blk.cells 0 1 [SV.imap bm clk born (some .i64) (List.map (SV.int .i64) (S j)) (List.map (fun x => SV.bool true) (S j))] = CI
      refine hK _ _ (j + 1, Q2.set Q.length (.cells (j + 1) 1 ((List.range (j + 1)).map fun j => SV.sl (Q.length + 2 + 2 * j) 0 0 (sortI (S j)).length)) ++ [CI, .cells 0 1 ((sortI (S j)).map (.int .i64))]) (by simp only; omega) ⟨by simp only; omega, by simp; omega, ?_, ?_, ?_, ?_, ?_⟩ (Wk.sub (by simp [subEnv, look]))
      · obtain ⟨X1, hX1⟩ := pre_set hpre2 (id := Q.length) (by omega) (.cells (j + 1) 1 ((List.range (j + 1)).map fun j => SV.sl (Q.length + 2 + 2 * j) 0 0 (sortI (S j)).length))
        exact ⟨X1 ++ _, by rw [hX1, List.append_assoc]⟩
      · exact get_app_left (get_set_ne hnb2 (by omega))
      · intro j' h1 h2
        exact get_app_left (get_set_ne (hmp2 j' h1 h2) (fun e => by have := hmp2 j' h1 h2; rw [← e, hob2] at this; cases this))
      · exact get_app_left (List.getElem?_set_self hlt3)
      · intro j' h1
        rcases Nat.lt_or_ge j' j with h | h
        · exact get_app_left (get_set_ne (hrows2 j' h) (by omega))
        · have : j' = j := by omega
          subst this
          rw [List.getElem?_append_right (by rw [List.length_set]; omega), List.length_set, hq2, show Q.length + 2 + 2 * j' - (Q.length + 1 + 2 * j') = 1 by omega]; rfl
    · have : j = n := by omega
      subst this
      clear hK
      have X := And.intro X (And.intro hNl (getX hnb))
      (refine run ?_; repeat' (first | with_reducible exact trivial | ((with_reducible apply Fork.mk) <;> intro hb) | with_reducible apply Two.mk))
      obtain ⟨XX, rfl⟩ := hpre
      refine finK ((Q.length, 0) :: (List.range j).map fun i => (Q.length + 2 + 2 * i, 0)) (.sl H.length 0 0 j) (.cells 0 1 ((List.range j).map fun i => .sl (H.length + 1 + i) 0 0 (sortI (S i)).length) :: (List.range j).map fun i => .cells 0 1 ((sortI (S i)).map (.int .i64))) hR hC' hcl ?_ ?_ ?_ ?_
      · refine ⟨(List.range j).map fun i => sortI (S i), ⟨by simp; omega, fun i hi => ?_⟩, ?_, by simp⟩
        · simp only [List.length_map, List.length_range] at hi
          simp only [List.getElem_map, List.getElem_range]
          exact ⟨sortI_lt (hD.nd i (by omega)), fun s => by rw [(sortI_perm _).mem_iff]; exact hD.done hcl3 i s (by omega)⟩
        · simp only [List.length_map, List.length_range, List.map_map]
          congr 2
          congr 1
          refine List.map_congr_left fun i hi => ?_
          rw [List.mem_range] at hi
          simp [hi]
      · refine .c hob (by omega) (Nat.zero_le _) ?_ ?_
        · rw [List.drop_zero]
          refine FrzL.map fun i hi => ?_
          rw [List.mem_range] at hi
          have := Frz.keepSl (H := H ++ XX) (n := H.length) (ks := (Q.length, 0) :: (List.range j).map fun i => (Q.length + 2 + 2 * i, 0)) (i + 1) (Q.length + 2 + 2 * i) 0 0 0 (sortI (S i)).length 1 ((sortI (S i)).map (.int .i64)) (by simp [hi]) (hrows i hi) (Nat.le_refl _)
          rw [show H.length + 1 + i = H.length + (i + 1) by omega]
          exact this
        · exact keepRows (f := fun i => Q.length + 2 + 2 * i) (row := fun i => sortI (S i)) (List.range j) fun i hi => ⟨hrows i (List.mem_range.1 hi), by show H.length ≤ Q.length + 2 + 2 * i; omega⟩
      · simp only [List.map_cons, List.map_map]
        rw [List.nodup_cons]
        refine ⟨?_, ?_⟩
        · simp only [List.mem_map, List.mem_range, Function.comp]
          rintro ⟨a, _, h⟩; omega
        · rw [List.nodup_iff_pairwise_ne, List.pairwise_map]
          refine (List.nodup_iff_pairwise_ne.1 List.nodup_range).imp_of_mem fun {a b} _ _ hab => ?_
          simp only [Function.comp]
          omega
      · have := Frz.keepSl (H := H ++ XX) (n := H.length) (ks := (Q.length, 0) :: (List.range j).map fun i => (Q.length + 2 + 2 * i, 0)) 0 Q.length 0 j 0 j 1 _ rfl hob (Nat.le_refl _)
        exact this
end Go.Proofs.YtneklfhahljgnaaDoor
end

section
namespace Go.Proofs.YtneklfhahljgnaaDoor
open Go
set_option linter.unusedSimpArgs false
set_option linter.unusedVariables false
set_option maxRecDepth 10000
set_option maxHeartbeats 4000000

theorem ACall.of_pure {P : Program} {G : Gl} {f : FuncId} {args : List SV} {H : List Blk} {x : SV} (hf : ∃ fn, P.funcs[f]? = some fn ∧ (fn.name == "runtime.NumGoroutine") = false ∧ fn.body.isNone = false)
    (h : ∀ (c : Cx) vs, RepL c args vs → ∃ v, Rep c x v ∧ Calls P f vs.toArray c.w fun e w' => e = .returned v ∧ w' = c.w) : ACall P G f args H (fun r H' => H' = H ∧ r = x) := by
  refine ⟨hf, fun c vs e1 hh hG hv => ?_⟩
  obtain ⟨v, h1, h2⟩ := h c vs hv
  refine (callsIn_wide (n := 0)).2 (h2.mono ?_)
  rintro e w' ⟨rfl, rfl⟩
  exact ⟨v, x, c, rfl, rfl, ⟨e1, rfl⟩, hh, h1, Grow.refl c⟩
theorem mul1_ok (G : Gl) (n : Nat) (hn : n < 1099511627776) (H : List Blk) : ACall Tryd.prog G 52 [.int .u64 1, .int .u64 (n : Nat)] H (fun r H' => H' = H ∧ r = .tuple [.int .u64 0, .int .u64 (n : Nat)]) := by
  refine ACall.of_pure ⟨_, Tryd.func52, by decide, rfl⟩ fun c vs hv => ?_
  obtain ⟨u, us, h1, h2, rfl⟩ := RepL.cons_iff.1 hv
  obtain ⟨u2, us2, h3, h4, rfl⟩ := RepL.cons_iff.1 h2
  rw [RepL.nil_iff.1 h4]
  simp only [Rep] at h1 h3
  rw [h1.1, h3.1]
  refine ⟨.tuple #[.int .u64 0, .int .u64 (n : Nat)], ?_, ?_⟩
  · simp only [Rep]
    exact ⟨[.int .u64 0, .int .u64 (n : Nat)], RepL.mk_cons (by simp only [Rep]; exact ⟨trivial, by decide, by decide⟩) (RepL.mk_cons (by simp only [Rep]; exact ⟨trivial, h3.2⟩) RepL.mk_nil), rfl⟩
  · have := Tryd.bits_Mul 1 n (by omega) (by omega) c.w
    rw [show (1 * n / 18446744073709551616 : Nat) = 0 by omega, show (1 * n % 18446744073709551616 : Nat) = n by omega] at this
    exact this

theorem u64wrap (n : Nat) (h : n < 1099511627776) : IntKind.u64.wrap (n : Int) = n := by
  simp only [IntKind.wrap, IntKind.signed, IntKind.bits]
  simp
  omega
theorem repeat_ok (G : Gl) (hG : GClosed G) (p : Sh) (n : Nat) (h0 : 0 < n) (hn : n < 1048576) (H : List Blk) :
    ACall Tryd.prog G 29 [.list 2 [.agg [.int .i64 p.1, .int .i64 p.2]], .int .i64 (n : Nat)] H (fun r H' => H' = H ++ [.cells 0 2 (shL (List.replicate n p))] ∧ r = .sl H.length 0 0 n) := by
  refine ACall.of_go TB [] tabOK _ Tryd.func29 rfl (by decide) Tryd.ntmps29 (by simp) rfl (by simp only [initEnv, Nat.reduceAdd]; rfl) fun C R' hR hC hcl hB => ?_; have X := noX; have hC' := congrArg List.length hC
  have X := And.intro X (And.intro (u64wrap n (by omega)) (u64wrap 1 (by omega)))
  have c1 := fun H => mul1_ok G n (by omega) H
  have hneg : ¬ ((n : Int) < 0) := by omega
  (refine run ?_; repeat' (first | with_reducible exact trivial | ((with_reducible apply Fork.mk) <;> intro hb) | with_reducible apply Two.mk))
  refine go_loop (fun m : Nat => [(7, .sl H.length 0 0 n), (8, .int .i64 m)]) (fun m => H ++ [.cells 0 2 (shL (List.replicate m p ++ List.replicate (n - m) (0, 0)))]) (fun m => n - m) (fun m => 1 ≤ m ∧ m ≤ n) 1 ⟨Nat.le_refl _, h0⟩ ?_ ?_
  · rw [show min 1 n = 1 by omega]
    have e : List.take 1 [SV.agg [SV.int .i64 p.1, SV.int .i64 p.2]] ++ List.drop 1 (List.replicate n (SV.agg [SV.int .i64 0, SV.int .i64 0])) = shL (List.replicate 1 p ++ List.replicate (n - 1) (0, 0)) := by
      rw [List.drop_replicate]; simp [shL]
    rw [e]
    exact wkS (n0 := H.length) [(H.length, 0)] hG hB hC' hcl
  rintro K m ⟨hm1, hm2⟩ hK
  rcases Nat.lt_or_ge m n with hlt | hge
  · have hl2 : (List.replicate m p ++ List.replicate (n - m) ((0, 0) : Sh)).length = n := by simp; omega
    generalize hV : List.replicate m p ++ List.replicate (n - m) ((0, 0) : Sh) = V at hl2 ⊢
    have hnx : (shL V).take m ++ (((shL V).take m).take (min m (n - m)) ++ (shL V).drop (m + min m (n - m))) = shL (List.replicate (m + min m (n - m)) p ++ List.replicate (n - (m + min m (n - m))) (0, 0)) := by
      rw [← shL_take, ← shL_take, ← shL_drop, ← shL_append, ← shL_append, ← hV]
      congr 1
      rw [List.take_append_of_le_length (by simp), List.take_replicate, List.take_replicate, Nat.min_self, List.drop_append, List.length_replicate, List.drop_of_length_le (by simp), List.nil_append, List.drop_replicate, ← List.append_assoc, List.replicate_append_replicate]
      congr 2 <;> omega
    have hmm : min (min m n) (n - m) = min m (n - m) := by omega
    have X := And.intro X (And.intro hl2 Nat.sub_zero)
    have X := And.intro X (show (m : Int) + ((min m (n - m) : Nat) : Int) = ((m + min m (n - m) : Nat) : Int) by omega)
    (refine run ?_; repeat' (first | with_reducible exact trivial | ((with_reducible apply Fork.mk) <;> intro hb) | with_reducible apply Two.mk))
    rw [hmm, hnx, show (m : Int) + ((min m (n - m) : Nat) : Int) = ((m + min m (n - m) : Nat) : Int) by omega]
    refine hK _ _ (m + min m (n - m)) (by omega) ⟨by omega, by omega⟩ ?_
    exact wkS (n0 := H.length) [(H.length, 0)] hG hB hC' hcl
  · have : m = n := by omega
    subst this
    clear hK
    (refine run ?_; repeat' (first | with_reducible exact trivial | ((with_reducible apply Fork.mk) <;> intro hb) | with_reducible apply Two.mk))
    rw [Nat.sub_self, List.replicate_zero, List.append_nil]
    exact finK [(H.length, 0)] (.sl H.length 0 0 m) [.cells 0 2 (shL (List.replicate m p))] hR hC' hcl ⟨rfl, rfl⟩
end Go.Proofs.YtneklfhahljgnaaDoor
end

section
namespace Go.Proofs.YtneklfhahljgnaaDoor
open Go
set_option linter.unusedSimpArgs false
set_option linter.unusedVariables false
set_option maxRecDepth 10000
set_option maxHeartbeats 4000000

/-- a slot is met -/
def meetS (out : List Sh) (s : Int) (i : Nat) : List Sh := if s < 0 ∨ (out.length : Int) ≤ s then out else out.set s.toNat (if (out.getD s.toNat (0, 0)).1 < 0 then ((i : Int), (i : Int)) else ((out.getD s.toNat (0, 0)).1, (i : Int)))
theorem meetS_len (out : List Sh) (s : Int) (i : Nat) : (meetS out s i).length = out.length := by unfold meetS; split <;> simp
def meets (out : List Sh) (l : List Int) (i : Nat) : List Sh := l.foldl (fun o s => meetS o s i) out
theorem meets_len : ∀ (l : List Int) (out : List Sh) (i : Nat), (meets out l i).length = out.length
  | [], out, i => rfl
  | s :: l, out, i => by rw [meets, List.foldl_cons]; exact (meets_len l _ i).trans (meetS_len _ _ _)
def spansN (code : List Ins) (rows : List (List Int)) (frame : Nat) (m : Nat) : List Sh := (List.range m).foldl (fun o i => meets o (rows.getD i [] ++ [wrN code i]) i) (List.replicate frame (-1, -1))
theorem spansN_succ (code : List Ins) (rows : List (List Int)) (frame m : Nat) : spansN code rows frame (m + 1) = meets (spansN code rows frame m) (rows.getD m [] ++ [wrN code m]) m := by
  unfold spansN; rw [List.range_succ, List.foldl_append]; rfl
theorem spansN_len (code : List Ins) (rows : List (List Int)) (frame : Nat) : ∀ m, (spansN code rows frame m).length = frame
  | 0 => by simp [spansN]
  | m + 1 => by rw [spansN_succ, meets_len, spansN_len code rows frame m]

theorem rows_len {code : List Ins} {rows : List (List Int)} (h : Rows code rows) {i : Nat} (hi : i < rows.length) : rows[i].length ≤ (code.flatMap rdS).length :=
  nodup_le (lt_nodup (h.2 i hi).1) fun s hs => need_all (((h.2 i hi).2 s).1 hs)

structure SpI (H : List Blk) (fc : List SV) (rows : List (List Int)) (refs : List SV) (i : Nat) (Q : List Blk) (V : List Sh) : Prop where
  pre : ∃ X, Q = H ++ X
  box : Q[H.length]? = some (.cells 0 7 [.agg fc])
  out : Q[H.length + 1]? = some (.cells 0 2 (shL V))
  ref : Q[H.length + 2]? = some (.cells 0 1 refs)
  row : ∀ i' (h : i ≤ i') (hi : i' < rows.length), Q[H.length + 3 + i']? = some (.cells 0 1 (rows[i'].map (.int .i64)))

theorem SpI.out_ {H : List Blk} {fc : List SV} {rows : List (List Int)} {refs : List SV} {i : Nat} {Q : List Blk} {V : List Sh} (h : SpI H fc rows refs i Q V) (V' : List Sh) : SpI H fc rows refs i (Q.set (H.length + 1) (.cells 0 2 (shL V'))) V' :=
  ⟨pre_set h.pre (by omega) _, get_set_ne h.box (by omega), List.getElem?_set_self (List.getElem?_eq_some_iff.1 h.out).1, get_set_ne h.ref (by omega), fun i' h1 h2 => get_set_ne (h.row i' h1 h2) (by omega)⟩
theorem spans_ok (G : Gl) (hG : GClosed G) (hF : GF G) (f : Fun) (hn : f.code.length < 1048576) (hl : ∀ i ∈ f.code, i.l.length ≤ 1048576) (hr : (f.code.flatMap rdS).length ≤ 4194304) (H : List Blk) :
    ACall Tryd.prog G 12 [.agg f.cells] H (fun r H' => H' = H ∧ (((f.frame < 1 ∨ 65536 < f.frame) ∧ r = .list 2 []) ∨ (¬ (f.frame < 1 ∨ 65536 < f.frame) ∧ ∃ rows, Rows f.code rows ∧ r = .list 2 (shL (spansN f.code rows f.frame.toNat f.code.length))))) := by
  have hb0 := fun H => before_ok G hG hF f hn hl hr H
  obtain ⟨name, thunk, upd, free, params, frame, code⟩ := f
  simp only [Fun.cells] at hb0 ⊢
  simp only at hn hl hr hb0
  generalize hfc : [SV.str name, .bool thunk, .bool upd, .int .i64 free, .int .i64 params, .int .i64 frame, .list 6 (insL code)] = fc at hb0
  have hfcl : fc.length = 7 := by subst hfc; rfl
  have hfc5 : fc[5]? = some (.int .i64 frame) := by subst hfc; rfl
  have hfc6 : fc[6]? = some (.list 6 (insL code)) := by subst hfc; rfl
  have hfu : ∀ n, SV.underL n fc = true := fun n => by subst hfc; exact Fun.cells_under n ⟨name, thunk, upd, free, params, frame, code⟩
  generalize hcn : code.length = n at hn
  refine ACall.of_go TB [] tabOK _ Tryd.func12 rfl (by decide) Tryd.ntmps12 (by simp) rfl (by simp only [initEnv, Nat.reduceAdd]; rfl) fun C R' hR hC hcl hB => ?_; have X := noX; have hC' := congrArg List.length hC
  have X := And.intro X (And.intro hfcl (And.intro hfc5 (And.intro hfc6 hcn)))
  (refine run ?_; repeat' (first | with_reducible exact trivial | ((with_reducible apply Fork.mk) <;> intro hb) | with_reducible apply Two.mk))
  · refine finS hR hC' hcl (y := .list 2 []) (.nil 2) ⟨rfl, .inl ⟨by simpa using hb, rfl⟩⟩
  have hfr : ¬ (frame < 1 ∨ 65536 < frame) := by simpa using hb
  obtain ⟨fr, rfl⟩ := Int.eq_ofNat_of_zero_le (a := frame) (by omega)
  refine callS (repeat_ok G hG (-1, -1) fr (by omega) (by omega) _) ?_
  rintro r H' ⟨rfl, rfl⟩
  simp only [List.append_assoc, List.cons_append, List.nil_append, List.length_append, List.length_cons, List.length_nil, List.length_set, X, Nat.reduceAdd]
  (refine run ?_; repeat' (first | with_reducible exact trivial | ((with_reducible apply Fork.mk) <;> intro hb) | with_reducible apply Two.mk))
  refine callS (hb0 _) ?_
  rintro r H' ⟨rows, hrows, rfl, rfl⟩
  have hrl : rows.length = n := by rw [hrows.1, hcn]
  rw [hrl]
  generalize hQ0 : H ++ [Blk.cells 0 7 [.agg fc], .cells 0 2 (shL (List.replicate fr (-1, -1)))] ++ (.cells 0 1 ((List.range n).map fun j => SV.sl ((H ++ [Blk.cells 0 7 [.agg fc], .cells 0 2 (shL (List.replicate fr (-1, -1)))]).length + 1 + j) 0 0 (rows.getD j []).length) :: rows.map fun r => .cells 0 1 (r.map (.int .i64))) = Q
  have hlen2 : (H ++ [Blk.cells 0 7 [.agg fc], .cells 0 2 (shL (List.replicate fr (-1, -1)))]).length = H.length + 2 := by simp
  rw [hlen2] at hQ0
  have q0 : Q[H.length]? = some (.cells 0 7 [.agg fc]) := by rw [← hQ0]; simp
  have q1 : Q[H.length + 1]? = some (.cells 0 2 (shL (List.replicate fr (-1, -1)))) := by rw [← hQ0]; simp
  have q2 : Q[H.length + 2]? = some (.cells 0 1 ((List.range n).map fun j => SV.sl (H.length + 3 + j) 0 0 (rows.getD j []).length)) := by
    rw [← hQ0, List.getElem?_append_right (by simp), hlen2, Nat.sub_self]
    simp
  have q3 : ∀ i (hi : i < rows.length), Q[H.length + 3 + i]? = some (.cells 0 1 (rows[i].map (.int .i64))) := fun i hi => by
    rw [← hQ0, List.getElem?_append_right (by simp; omega), hlen2, show H.length + 3 + i - (H.length + 2) = i + 1 by omega]
    simp [hi]
  have q4 : ∃ X, Q = H ++ X := ⟨_, by rw [← hQ0, List.append_assoc]⟩
  clear hQ0
  have href : ∀ i (h : i < rows.length), ((List.range n).map fun j => SV.sl (H.length + 3 + j) 0 0 (rows.getD j []).length)[i]? = some (.sl (H.length + 3 + i) 0 0 rows[i].length) := fun i h => by
    rw [List.getElem?_map, List.getElem?_range (by omega)]; simp [h]
  have hrl2 : ((List.range n).map fun j => SV.sl (H.length + 3 + j) 0 0 (rows.getD j []).length).length = n := by simp
  generalize ((List.range n).map fun j => SV.sl (H.length + 3 + j) 0 0 (rows.getD j []).length) = refs at q2 href hrl2
  have X := And.intro X (And.intro hrl2 (getX q2))
  (refine run ?_; repeat' (first | with_reducible exact trivial | ((with_reducible apply Fork.mk) <;> intro hb) | with_reducible apply Two.mk))
  rw [hlen2]
  have hsl : (shL (List.replicate fr ((-1, -1) : Sh))) = shL (spansN code rows fr 0) := rfl
  rw [hsl] at q1
  clear X hlen2 hsl hb
  have X := And.intro noX (And.intro hfcl (And.intro hfc5 (And.intro hfc6 hcn)))
  refine go_loop (fun a : Nat × List Blk => [(1, .ptr H.length 0 0 0), (3, .sl (H.length + 1) 0 0 fr), (22, .sl (H.length + 2) 0 0 n), (23, .int .i64 n), (24, .int .i64 a.1)]) (fun a => a.2) (fun a => n - a.1)
    (fun a => a.1 ≤ n ∧ SpI H fc rows refs a.1 a.2 (spansN code rows fr a.1)) (0, Q) ⟨Nat.zero_le _, q4, q0, q1, q2, fun i hi hi2 => q3 i (by omega)⟩ (Wk.sub (by simp [subEnv, look])) ?_
  clear q0 q1 q2 q3 q4
  clear Q
  rintro K ⟨i, Q⟩ ⟨hi, hsp⟩ hK
  dsimp only at hi hsp ⊢
  rcases Nat.lt_or_ge i n with hlt | hge
  · have hlt' : i < code.length := by omega
    have e1 : code[i]? = some code[i] := List.getElem?_eq_getElem hlt'
    have er : rows.getD i [] = rows[i]'(by omega) := by simp [show i < rows.length by omega]
    have hrw := hsp.row i (Nat.le_refl _) (by omega)
    have hrwl : (rows[i]'(by omega)).length ≤ 4194304 := Nat.le_trans (rows_len hrows (by omega)) hr
    have c1 := fun H => writes_ok (H := H) G hG hF code[i]
    have eref := href i (by omega)
    generalize hrb : H.length + 3 + i = rb at eref hrw
    generalize hrow : rows[i]'(by omega) = row at eref hrw hrwl er
    have hrbC : H.length ≤ rb := by omega
    have X := And.intro X (And.intro e1 (And.intro eref (And.intro hrl2 (And.intro (getX hsp.box) (And.intro (getX hsp.ref) (getX hrw))))))
    (refine run ?_; repeat' (first | with_reducible exact trivial | ((with_reducible apply Fork.mk) <;> intro hb) | with_reducible apply Two.mk))
    have hW : row.map (SV.int .i64) ++ [SV.int .i64 (wrS code[i])] = (row ++ [wrN code i]).map (.int .i64) := by rw [List.map_append, wrN_eq hlt']; rfl
    have hWl : row.length + 1 = (row ++ [wrN code i]).length := by simp
    rw [hW, hWl]
    have hsx := spansN_succ code rows fr i
    rw [er] at hsx
    have hsl := spansN_len code rows fr i
    have hQl : rb < Q.length := (List.getElem?_eq_some_iff.1 hrw).1
    have hWlt : (row ++ [wrN code i]).length ≤ 4194305 := by simp; omega
    generalize row ++ [wrN code i] = W at hsx hWlt ⊢
    have hsp2 : SpI H fc rows refs (i + 1) (Q.set rb (.cells 1 1 (W.map (.int .i64)))) (spansN code rows fr i) := ⟨pre_set hsp.pre hrbC _, get_set_ne hsp.box (by omega), get_set_ne hsp.out (by omega), get_set_ne hsp.ref (by omega), fun i' h h2 => get_set_ne (hsp.row i' (by omega) h2) (by omega)⟩
    have hrw2 : (Q.set rb (.cells 1 1 (W.map (.int .i64))))[rb]? = some (.cells 1 1 (W.map (.int .i64))) := List.getElem?_set_self hQl
    generalize Q.set rb (.cells 1 1 (W.map (.int .i64))) = Q2 at hsp2 hrw2 ⊢
    generalize spansN code rows fr i = V0 at hsp2 hsx hsl
    clear hsp hrw c1 X hQl hW hWl
    have X := And.intro noX (And.intro hfcl (And.intro hfc5 (And.intro hfc6 (And.intro hcn (And.intro (show (W.map (SV.int .i64)).length = W.length by simp) (getX hrw2))))))
    (refine run ?_; repeat' (first | with_reducible exact trivial | ((with_reducible apply Fork.mk) <;> intro hb) | with_reducible apply Two.mk))
    refine go_loop (fun a : Nat × List Blk => [(1, .ptr H.length 0 0 0), (3, .sl (H.length + 1) 0 0 fr), (22, .sl (H.length + 2) 0 0 n), (23, .int .i64 n), (24, .int .i64 i), (4, .int .i64 i), (37, .sl rb 1 0 W.length), (38, .int .i64 W.length), (39, .int .i64 a.1)]) (fun a => a.2) (fun a => W.length - a.1)
      (fun a => a.1 ≤ W.length ∧ SpI H fc rows refs (i + 1) a.2 (meets V0 (W.take a.1) i) ∧ a.2[rb]? = some (.cells 1 1 (W.map (.int .i64)))) (0, Q2) ⟨Nat.zero_le _, by simpa [meets] using hsp2, hrw2⟩ (Wk.sub (by simp [subEnv, look])) ?_
    clear hsp2 hrw2 X
    clear Q2
    have X := And.intro noX (And.intro hfcl (And.intro hfc5 (And.intro hfc6 hcn)))
    rintro K2 ⟨j, Q3⟩ ⟨hj, hsp, hrw⟩ hK2
    dsimp only at hj hsp hrw ⊢
    have hV1 := meets_len (W.take j) V0 i
    rw [hsl] at hV1
    rcases Nat.lt_or_ge j W.length with hlt2 | hge2
    · have ht := List.take_succ_eq_append_getElem hlt2
      have hms : meets V0 (W.take (j + 1)) i = meetS (meets V0 (W.take j) i) W[j] i := by unfold meets; rw [ht, List.foldl_append]; rfl
      have e2 : (W.map (SV.int .i64))[j]? = some (.int .i64 W[j]) := by rw [List.getElem?_map, List.getElem?_eq_getElem hlt2]; rfl
      have hWml : (W.map (SV.int .i64)).length = W.length := by simp
      generalize W[j] = s at e2 hms
      generalize meets V0 (W.take j) i = V at hsp hms hV1
      have hVl : (shL V).length = fr := by simpa [shL] using hV1
      have hX0 := And.intro X (And.intro e2 (And.intro hWml (And.intro (getX hrw) (And.intro hVl (And.intro (getX hsp.out) (getX hsp.box))))))
      by_cases hin : 0 ≤ s ∧ s < fr
      · obtain ⟨t, rfl⟩ := Int.eq_ofNat_of_zero_le hin.1
        have htf : t < fr := by omega
        have hsp1 : (shL V)[t]? = some (.agg [.int .i64 (V.getD t (0, 0)).1, .int .i64 (V.getD t (0, 0)).2]) := by
          simp only [shL, List.getElem?_map, List.getElem?_eq_getElem (show t < V.length by omega), Option.map_some]
          rw [List.getD_eq_getElem?_getD, List.getElem?_eq_getElem (show t < V.length by omega), Option.getD_some]
        have X := And.intro hX0 (And.intro hsp1 (show decide ((t : Int) < 0) = false by simp))
        have hout : H.length + 1 < Q3.length := (List.getElem?_eq_some_iff.1 hsp.out).1
        have hVt : t < V.length := by omega
        (refine run ?_; repeat' (first | with_reducible exact trivial | ((with_reducible apply Fork.mk) <;> intro hb) | with_reducible apply Two.mk))
        · have hset : ((shL V).set t (.agg [.int .i64 (i : Nat), .int .i64 (i : Nat)])) = shL (meetS V t i) := by
            rw [shL_set V t ((i : Int), (i : Int))]
            unfold meetS
            rw [if_neg (by omega), Int.toNat_natCast, if_pos hb]
          rw [hset]
          exact hK2 _ _ (j + 1, Q3.set (H.length + 1) (.cells 0 2 (shL (meetS V t i)))) (by simp only; omega) ⟨by simp only; omega, by simp only; rw [hms]; exact hsp.out_ _, get_set_ne hrw (by omega)⟩ (Wk.sub (by simp [subEnv, look]))
        · have hset : ((shL V).set t (.agg [.int .i64 (V.getD t (0, 0)).1, .int .i64 (i : Nat)])) = shL (meetS V t i) := by
            rw [shL_set V t ((V.getD t (0, 0)).1, (i : Int))]
            unfold meetS
            rw [if_neg (by omega), Int.toNat_natCast, if_neg hb]
          rw [hset]
          exact hK2 _ _ (j + 1, Q3.set (H.length + 1) (.cells 0 2 (shL (meetS V t i)))) (by simp only; omega) ⟨by simp only; omega, by simp only; rw [hms]; exact hsp.out_ _, get_set_ne hrw (by omega)⟩ (Wk.sub (by simp [subEnv, look]))
      · have hX : (decide (s < 0) || decide ((fr : Int) ≤ s)) = true := by simp; omega
        have hmo : meetS V s i = V := by unfold meetS; rw [if_pos (by omega)]
        rw [hmo] at hms
        have X := And.intro hX0 hX
        (refine run ?_; repeat' (first | with_reducible exact trivial | ((with_reducible apply Fork.mk) <;> intro hb) | with_reducible apply Two.mk))
        · exact hK2 _ _ (j + 1, Q3) (by simp only; omega) ⟨by simp only; omega, by simp only; rw [hms]; exact hsp, hrw⟩ (Wk.sub (by simp [subEnv, look]))
        · simp at hb
    · have : j = W.length := by omega
      subst this
      clear hK2
      rw [List.take_length, ← hsx] at hsp
      (refine run ?_; repeat' (first | with_reducible exact trivial | ((with_reducible apply Fork.mk) <;> intro hb) | with_reducible apply Two.mk))
      exact hK _ _ (i + 1, Q3) (by simp only; omega) ⟨by simp only; omega, hsp⟩ (Wk.sub (by simp [subEnv, look]))
  · have : i = n := by omega
    subst this
    clear hK
    have X := And.intro X (And.intro hrl2 (And.intro (getX hsp.out) (getX hsp.ref)))
    (refine run ?_; repeat' (first | with_reducible exact trivial | ((with_reducible apply Fork.mk) <;> intro hb) | with_reducible apply Two.mk))
    obtain ⟨XX, rfl⟩ := hsp.pre
    exact finS hR hC' hcl (y := .list 2 (shL (spansN code rows fr i))) (Frz.sf (H := H ++ XX) (n := H.length) hsp.out (by omega) (by simp) (by rw [List.drop_zero, List.take_of_length_le (by rw [shL_len, spansN_len]; exact Nat.le_refl _)]) (shL_under _ _)) ⟨rfl, .inr ⟨hfr, rows, hrows, rfl⟩⟩
end Go.Proofs.YtneklfhahljgnaaDoor
end

section
namespace Go.Proofs.YtneklfhahljgnaaDoor
open Go
set_option linter.unusedSimpArgs false
set_option linter.unusedVariables false
set_option maxRecDepth 10000
set_option maxHeartbeats 4000000

section
variable {P : Program} {G : Gl} {T : Tab} {own : List Nat} {nt : Nat} {ρ : Option Nat} {C : Cx} {rs : List ResultVar} {R : SV → List Blk → Prop} {env env2 : Env} {H H2 : List Blk} {k : List It}
theorem go_wkO {all l : List Oper} (env2 : Env) (H2 : List Blk) (hw : Wk G nt C ⟨env, H⟩ ⟨env2, H2⟩) (h : (Out P G T own nt ρ C rs R) (.ops all l :: k) .normal env2 H2) : (Out P G T own nt ρ C rs R) (.ops all l :: k) .normal env H := by
  intro hT i c a hf hc hi hg
  obtain ⟨c', e1, e2, e3, e4⟩ := hw c a hc hi hg
  have := h hT i c' a hf e1 e3 e4
  rw [e2] at this
  exact this
end
/-- a number in its place among others, once -/
def layI : List Int → Int → List Int
  | [], n => [n]
  | x :: r, n => if x < n then x :: layI r n else if x = n then x :: r else n :: x :: r
theorem layI_split {n : Int} : ∀ {l : List Int} {at_ : Nat}, at_ ≤ l.length → (∀ x ∈ l.take at_, x < n) → layI l n = l.take at_ ++ layI (l.drop at_) n
  | l, 0, _, _ => by simp
  | [], a + 1, h, _ => by simp at h
  | x :: l, a + 1, h, hx => by
    rw [List.take_succ_cons, List.drop_succ_cons, layI, if_pos (hx x (by simp)), layI_split (by simpa using h) fun y hy => hx y (by simp [hy])]
    rfl
theorem layI_mem (l : List Int) (n x : Int) : x ∈ layI l n ↔ x ∈ l ∨ x = n := by
  induction l with
  | nil => simp [layI]
  | cons y r ih =>
    unfold layI
    split
    · rw [List.mem_cons, ih, List.mem_cons, or_assoc]
    · split
      · rename_i h; subst h; simp; intro h; exact .inl h
      · simp only [List.mem_cons]
        constructor
        · rintro (h | h | h)
          · exact .inr h
          · exact .inl (.inl h)
          · exact .inl (.inr h)
        · rintro ((h | h) | h)
          · exact .inr (.inl h)
          · exact .inr (.inr h)
          · exact .inl h
theorem layI_lt {l : List Int} {n : Int} (h : l.Pairwise (fun x y => x < y)) : (layI l n).Pairwise (fun x y => x < y) := by
  induction l with
  | nil => simp [layI]
  | cons y r ih =>
    rw [List.pairwise_cons] at h
    unfold layI
    split
    · rw [List.pairwise_cons]
      refine ⟨fun x hx => ?_, ih h.2⟩
      rcases (layI_mem _ _ _).1 hx with hx | hx
      · exact h.1 x hx
      · rw [hx]; assumption
    · split
      · rw [List.pairwise_cons]; exact h
      · rw [List.pairwise_cons, List.pairwise_cons]
        refine ⟨fun x hx => ?_, h⟩
        rcases List.mem_cons.1 hx with hx | hx
        · omega
        · have := h.1 x hx; omega
theorem layI_len (l : List Int) (n : Int) : (layI l n).length ≤ l.length + 1 := by
  induction l with
  | nil => simp [layI]
  | cons y r ih => unfold layI; split <;> (try split) <;> simp <;> omega

theorem lay17_ok (G : Gl) (hG : GClosed G) (l : List Int) (n : Int) (hl : l.length ≤ 1099511627776) (H : List Blk) : ACall Tryd.prog G 50 [.list 1 (l.map (.int .i64)), .int .i64 n] H (fun r H' => H' = H ∧ r = .list 1 ((layI l n).map (.int .i64))) := by
  have hll : (l.map (SV.int .i64)).length = l.length := by simp
  refine ACall.of_go TB [6] tabOK _ Tryd.func50 rfl (by decide) Tryd.ntmps50 (by simp) rfl (by simp only [initEnv, Nat.reduceAdd]; rfl) fun C R' hR hC hcl hB => ?_; have X := noX; have hC' := congrArg List.length hC
  have X := And.intro X hll
  (refine run ?_; repeat' (first | with_reducible exact trivial | ((with_reducible apply Fork.mk) <;> intro hb) | with_reducible apply Two.mk))
  refine go_loop (fun a : Nat => [(0, .list 1 (l.map (.int .i64))), (1, .int .i64 n), (5, .int .i64 a)]) (fun _ => H ++ []) (fun a => l.length - a) (fun a => a ≤ l.length ∧ ∀ x ∈ l.take a, x < n) 0 ⟨Nat.zero_le _, by simp⟩ ?_ ?_
  · rw [List.append_nil]; exact Wk.sub (by simp [subEnv, look])
  rintro K a ⟨ha, hx⟩ hK
  rw [List.append_nil] at hK ⊢
  have hs := layI_split ha hx
  have htl : (l.take a).length = a := by simp; omega
  rcases Nat.lt_or_ge a l.length with hlt | hge
  · have e1 : (l.map (SV.int .i64))[a]? = some (.int .i64 l[a]) := by simp [hlt]
    have ht := List.take_succ_eq_append_getElem hlt
    have hd := List.drop_eq_getElem_cons hlt
    have hmt : (l.map (SV.int .i64)).take a = (l.take a).map (.int .i64) := List.map_take.symm
    have hmd : (l.map (SV.int .i64)).drop a = (l.drop a).map (.int .i64) := List.map_drop.symm
    have X := And.intro X e1
    have hlt3 : ((a : Int) < l.length) := by omega
    have hgo : n ≤ l[a] → l[a] ≠ n → layI l n = l.take a ++ n :: l.drop a := fun h1 h2 => by
      rw [hs, hd]
      unfold layI
      rw [if_neg (by omega), if_neg h2]
    (refine run ?_; repeat' (first | with_reducible exact trivial | ((with_reducible apply Fork.mk) <;> intro hb) | with_reducible apply Two.mk))
    · simp only [Bool.and_eq_true, decide_eq_true_eq] at hb
      refine hK _ _ (a + 1) (by omega) ⟨by omega, fun x hx' => ?_⟩ (Wk.sub (by simp [subEnv, look]))
      rw [ht] at hx'
      rcases List.mem_append.1 hx' with h | h
      · exact hx x h
      · rw [List.mem_singleton.1 h]; exact hb.2
    · simp only [Bool.and_eq_true, decide_eq_true_eq] at hb
      rw [← List.append_nil H]
      refine finS hR hC' hcl (y := .list 1 (l.map (.int .i64))) (.same _ (ints_under _ _)) ⟨rfl, ?_⟩
      rw [hs, hd, layI, if_neg (by omega), if_pos hb.2, ← hd, List.take_append_drop]
    · rename_i hb1
      simp only [Bool.and_eq_false_iff, decide_eq_false_iff_not] at hb hb1
      refine finS hR hC' hcl (y := .list 1 ((layI l n).map (.int .i64))) (.sf (by exact hbS) (by simp) (by simp) ?_ (ints_under _ _)) ⟨rfl, rfl⟩
      rw [hgo (by omega) (fun e => by omega), List.map_append, List.map_cons, ← hmt, ← hmd, Nat.sub_zero, List.drop_zero, List.take_of_length_le (l := (l.map (SV.int .i64)).drop a) (by simp), List.take_of_length_le (by simp; omega)]
  · have : a = l.length := by omega
    subst this
    clear hK
    rw [List.take_length, List.drop_length] at hs
    (refine run ?_; repeat' (first | with_reducible exact trivial | ((with_reducible apply Fork.mk) <;> intro hb) | with_reducible apply Two.mk))
    refine finS hR hC' hcl (y := .list 1 ((layI l n).map (.int .i64))) (.sf (by exact hbS) (by simp) (by simp) ?_ (ints_under _ _)) ⟨rfl, rfl⟩
    rw [hs, Nat.sub_zero, Nat.sub_self, List.take_zero, List.take_of_length_le (l := l.map (SV.int .i64)) (by simp), List.drop_zero, List.take_of_length_le (by simp)]
    simp [layI]
theorem lay22_ok (G : Gl) (hG : GClosed G) (l : List Int) (n : Int) (hl : l.length ≤ 1099511627776) (H : List Blk) : ACall Tryd.prog G 27 [.list 1 (l.map (.int .i64)), .int .i64 n] H (fun r H' => H' = H ∧ r = .list 1 ((layI l n).map (.int .i64))) := by
  have hll : (l.map (SV.int .i64)).length = l.length := by simp
  refine ACall.of_go TB [6] tabOK _ Tryd.func27 rfl (by decide) Tryd.ntmps27 (by simp) rfl (by simp only [initEnv, Nat.reduceAdd]; rfl) fun C R' hR hC hcl hB => ?_; have X := noX; have hC' := congrArg List.length hC
  have X := And.intro X hll
  (refine run ?_; repeat' (first | with_reducible exact trivial | ((with_reducible apply Fork.mk) <;> intro hb) | with_reducible apply Two.mk))
  refine go_loop (fun a : Nat => [(0, .list 1 (l.map (.int .i64))), (1, .int .i64 n), (5, .int .i64 a)]) (fun _ => H ++ []) (fun a => l.length - a) (fun a => a ≤ l.length ∧ ∀ x ∈ l.take a, x < n) 0 ⟨Nat.zero_le _, by simp⟩ ?_ ?_
  · rw [List.append_nil]; exact Wk.sub (by simp [subEnv, look])
  rintro K a ⟨ha, hx⟩ hK
  rw [List.append_nil] at hK ⊢
  have hs := layI_split ha hx
  have htl : (l.take a).length = a := by simp; omega
  rcases Nat.lt_or_ge a l.length with hlt | hge
  · have e1 : (l.map (SV.int .i64))[a]? = some (.int .i64 l[a]) := by simp [hlt]
    have ht := List.take_succ_eq_append_getElem hlt
    have hd := List.drop_eq_getElem_cons hlt
    have hmt : (l.map (SV.int .i64)).take a = (l.take a).map (.int .i64) := List.map_take.symm
    have hmd : (l.map (SV.int .i64)).drop a = (l.drop a).map (.int .i64) := List.map_drop.symm
    have X := And.intro X e1
    have hlt3 : ((a : Int) < l.length) := by omega
    have hgo : n ≤ l[a] → l[a] ≠ n → layI l n = l.take a ++ n :: l.drop a := fun h1 h2 => by
      rw [hs, hd]
      unfold layI
      rw [if_neg (by omega), if_neg h2]
    (refine run ?_; repeat' (first | with_reducible exact trivial | ((with_reducible apply Fork.mk) <;> intro hb) | with_reducible apply Two.mk))
    · simp only [Bool.and_eq_true, decide_eq_true_eq] at hb
      refine hK _ _ (a + 1) (by omega) ⟨by omega, fun x hx' => ?_⟩ (Wk.sub (by simp [subEnv, look]))
      rw [ht] at hx'
      rcases List.mem_append.1 hx' with h | h
      · exact hx x h
      · rw [List.mem_singleton.1 h]; exact hb.2
    · simp only [Bool.and_eq_true, decide_eq_true_eq] at hb
      rw [← List.append_nil H]
      refine finS hR hC' hcl (y := .list 1 (l.map (.int .i64))) (.same _ (ints_under _ _)) ⟨rfl, ?_⟩
      rw [hs, hd, layI, if_neg (by omega), if_pos hb.2, ← hd, List.take_append_drop]
    · rename_i hb1
      simp only [Bool.and_eq_false_iff, decide_eq_false_iff_not] at hb hb1
      refine finS hR hC' hcl (y := .list 1 ((layI l n).map (.int .i64))) (.sf (by exact hbS) (by simp) (by simp) ?_ (ints_under _ _)) ⟨rfl, rfl⟩
      rw [hgo (by omega) (fun e => by omega), List.map_append, List.map_cons, ← hmt, ← hmd, Nat.sub_zero, List.drop_zero, List.take_of_length_le (l := (l.map (SV.int .i64)).drop a) (by simp), List.take_of_length_le (by simp; omega)]
  · have : a = l.length := by omega
    subst this
    clear hK
    rw [List.take_length, List.drop_length] at hs
    (refine run ?_; repeat' (first | with_reducible exact trivial | ((with_reducible apply Fork.mk) <;> intro hb) | with_reducible apply Two.mk))
    refine finS hR hC' hcl (y := .list 1 ((layI l n).map (.int .i64))) (.sf (by exact hbS) (by simp) (by simp) ?_ (ints_under _ _)) ⟨rfl, rfl⟩
    rw [hs, Nat.sub_zero, Nat.sub_self, List.take_zero, List.take_of_length_le (l := l.map (SV.int .i64)) (by simp), List.drop_zero, List.take_of_length_le (by simp)]
    simp [layI]

end Go.Proofs.YtneklfhahljgnaaDoor
end

section
namespace Go.Proofs.YtneklfhahljgnaaDoor
open Go
set_option linter.unusedSimpArgs false
set_option linter.unusedVariables false
set_option maxRecDepth 10000
set_option maxHeartbeats 4000000

theorem lt_eq : ∀ {a b : List Int}, a.Pairwise (fun x y => x < y) → b.Pairwise (fun x y => x < y) → (∀ s, s ∈ a ↔ s ∈ b) → a = b
  | [], [], _, _, _ => rfl
  | [], y :: b, _, _, h => absurd ((h y).2 (List.mem_cons_self ..)) (by simp)
  | x :: a, [], _, _, h => absurd ((h x).1 (List.mem_cons_self ..)) (by simp)
  | x :: a, y :: b, ha, hb, h => by
    rw [List.pairwise_cons] at ha hb
    have h1 := (h x).1 (List.mem_cons_self ..)
    have h2 := (h y).2 (List.mem_cons_self ..)
    have e : x = y := by
      rcases List.mem_cons.1 h1 with e | m1
      · exact e
      rcases List.mem_cons.1 h2 with e | m2
      · exact e.symm
      have := hb.1 x m1; have := ha.1 y m2; omega
    subst e
    rw [lt_eq ha.2 hb.2 fun s => ⟨fun hs => ?_, fun hs => ?_⟩]
    · rcases List.mem_cons.1 ((h s).1 (List.mem_cons_of_mem _ hs)) with e | m
      · have := ha.1 s hs; omega
      · exact m
    · rcases List.mem_cons.1 ((h s).2 (List.mem_cons_of_mem _ hs)) with e | m
      · have := hb.1 s hs; omega
      · exact m

theorem folds_mem : ∀ (m l : List Int) (x : Int), x ∈ m.foldl layI l ↔ x ∈ l ∨ x ∈ m
  | [], l, x => by simp
  | y :: r, l, x => by
    rw [List.foldl_cons, folds_mem r, layI_mem, List.mem_cons]
    constructor
    · rintro ((h | h) | h)
      · exact .inl h
      · exact .inr (.inl h)
      · exact .inr (.inr h)
    · rintro (h | h | h)
      · exact .inl (.inl h)
      · exact .inl (.inr h)
      · exact .inr h
theorem folds_lt : ∀ (m l : List Int), l.Pairwise (fun x y => x < y) → (m.foldl layI l).Pairwise (fun x y => x < y)
  | [], l, h => h
  | y :: r, l, h => by rw [List.foldl_cons]; exact folds_lt r _ (layI_lt h)
theorem folds_len : ∀ (m l : List Int), (m.foldl layI l).length ≤ l.length + m.length
  | [], l => by simp
  | y :: r, l => by
    rw [List.foldl_cons]
    have h1 := folds_len r (layI l y)
    have h2 := layI_len l y
    simp only [List.length_cons]; omega
/-- the operations that end a way, and those with targets -/
theorem bit64 (op : Int) : bitOf 64 op = (decide (op = 17) || decide (op = 18) || decide (op = 19) || decide (op = 21) || decide (op = 23) || decide (op = 26)) := by
  by_cases h : op < 1 ∨ 27 ≤ op
  · have : ofS op = 0 := by unfold ofS; rw [if_pos h]
    simp only [bitOf, this]
    have e : ∀ k : Int, 1 ≤ k → k < 27 → decide (op = k) = false := fun k h1 h2 => by rw [decide_eq_false_iff_not]; omega
    simp only [e 17 (by decide) (by decide), e 18 (by decide) (by decide), e 19 (by decide) (by decide), e 21 (by decide) (by decide), e 23 (by decide) (by decide), e 26 (by decide) (by decide)]
    rfl
  · have hk : ∀ k : _root_.Fin 27, bitOf 64 (k.val : Int) = (decide ((k.val : Int) = 17) || decide ((k.val : Int) = 18) || decide ((k.val : Int) = 19) || decide ((k.val : Int) = 21) || decide ((k.val : Int) = 23) || decide ((k.val : Int) = 26)) := by decide
    have := hk ⟨op.toNat, by omega⟩
    rw [show ((⟨op.toNat, by omega⟩ : _root_.Fin 27).val : Int) = op by simp; omega] at this
    exact this
theorem bit32 (op : Int) : bitOf 32 op = (decide (op = 21) || decide (op = 22)) := by
  by_cases h : op < 1 ∨ 27 ≤ op
  · have : ofS op = 0 := by unfold ofS; rw [if_pos h]
    simp only [bitOf, this]
    have e : ∀ k : Int, 1 ≤ k → k < 27 → decide (op = k) = false := fun k h1 h2 => by rw [decide_eq_false_iff_not]; omega
    simp only [e 21 (by decide) (by decide), e 22 (by decide) (by decide)]
    rfl
  · have hk : ∀ k : _root_.Fin 27, bitOf 32 (k.val : Int) = (decide ((k.val : Int) = 21) || decide ((k.val : Int) = 22)) := by decide
    have := hk ⟨op.toNat, by omega⟩
    rw [show ((⟨op.toNat, by omega⟩ : _root_.Fin 27).val : Int) = op by simp; omega] at this
    exact this
theorem nx_eq {i : Ins} {at_ : Int} {l : List Int} (h1 : l.Pairwise (fun x y => x < y)) (h2 : ∀ s, s ∈ l ↔ s ∈ nxL i at_) : l = nxS i at_ :=
  lt_eq h1 (nxS_lt i at_) fun s => by rw [h2, nxS_mem]
theorem lay17n_ok (G : Gl) (hG : GClosed G) (n : Int) (H : List Blk) : ACall Tryd.prog G 50 [.nil, .int .i64 n] H (fun r H' => H' = H ∧ r = .list 1 [.int .i64 n]) := by
  refine ACall.of_go TB [6] tabOK _ Tryd.func50 rfl (by decide) Tryd.ntmps50 (by simp) rfl (by simp only [initEnv, Nat.reduceAdd]; rfl) fun C R' hR hC hcl hB => ?_; have X := noX; have hC' := congrArg List.length hC
  (refine run ?_; repeat' (first | with_reducible exact trivial | ((with_reducible apply Fork.mk) <;> intro hb) | with_reducible apply Two.mk))
  refine go_loop (fun a : Nat => [(0, .nil), (1, .int .i64 n), (5, .int .i64 0)]) (fun _ => H ++ []) (fun a => 0) (fun a => True) 0 trivial ?_ ?_
  · rw [List.append_nil]; exact Wk.sub (by simp [subEnv, look])
  rintro K a _ hK
  rw [List.append_nil]
  clear hK
  (refine run ?_; repeat' (first | with_reducible exact trivial | ((with_reducible apply Fork.mk) <;> intro hb) | with_reducible apply Two.mk))
  exact finS hR hC' hcl (y := .list 1 [.int .i64 n]) (.sf (by exact hbS) (by simp) (by simp) (by simp) rfl) ⟨rfl, rfl⟩

/-- the targets that are numbers of instructions -/
def tgL (i : Ins) : List Int := if i.op = 21 ∨ i.op = 22 then i.l.filter fun n => decide (0 ≤ n) else []
def nx0 (i : Ins) (at_ : Int) : Int := if i.op = 21 then i.n else at_ + 1
theorem rnext_ok (G : Gl) (hG : GClosed G) (i : Ins) (at_ : Int) (hl : i.l.length ≤ 1073741824) (ha : 0 ≤ at_ ∧ at_ < 1099511627776) (H : List Blk) : ACall Tryd.prog G 25 [.agg i.cells, .int .i64 at_] H (fun r H' => H' = H ∧ r = .list 1 ((nxS i at_).map (.int .i64))) := by
  have hlaw := fun l h1 h2 => nx_eq (i := i) (at_ := at_) (l := l) h1 h2
  simp only [nxL, bit64, bit32] at hlaw
  obtain ⟨op, a, b, c, n, l⟩ := i
  simp only [Ins.cells]
  simp only at hl hlaw
  generalize nxS ⟨op, a, b, c, n, l⟩ at_ = N at hlaw ⊢
  have hll : (l.map (SV.int .i64)).length = l.length := by simp
  by_cases h1 : op = 17 ∨ op = 18 ∨ op = 19 ∨ op = 26
  · obtain rfl := hlaw [] .nil (by rcases h1 with rfl | rfl | rfl | rfl <;> simp)
    rcases h1 with rfl | rfl | rfl | rfl <;>
    · refine ACall.of_go TB [] tabOK _ Tryd.func25 rfl (by decide) Tryd.ntmps25 (by simp) rfl (by simp only [initEnv, Nat.reduceAdd]; rfl) fun C R' hR hC hcl hB => ?_; have X := noX; have hC' := congrArg List.length hC
      (refine run ?_; repeat' (first | with_reducible exact trivial | ((with_reducible apply Fork.mk) <;> intro hb) | with_reducible apply Two.mk))
      exact finS hR hC' hcl (y := .list 1 []) (.nil 1) ⟨rfl, rfl⟩
  by_cases h2 : op = 23
  · subst h2
    obtain rfl := hlaw [n] (List.pairwise_singleton _ _) (by simp)
    refine ACall.of_go TB [] tabOK _ Tryd.func25 rfl (by decide) Tryd.ntmps25 (by simp) rfl (by simp only [initEnv, Nat.reduceAdd]; rfl) fun C R' hR hC hcl hB => ?_; have X := noX; have hC' := congrArg List.length hC
    (refine run ?_; repeat' (first | with_reducible exact trivial | ((with_reducible apply Fork.mk) <;> intro hb) | with_reducible apply Two.mk))
    exact finS hR hC' hcl (y := .list 1 [.int .i64 n]) (.same _ rfl) ⟨rfl, rfl⟩
  obtain ⟨d1, d2, d3, d4⟩ : ¬ op = 17 ∧ ¬ op = 18 ∧ ¬ op = 19 ∧ ¬ op = 26 := by
    simp only [not_or] at h1; exact h1
  have hN : ∀ z, (op = 21 → z = n) → (¬ op = 21 → z = at_ + 1) → (if op = 21 ∨ op = 22 then l.filter (fun n => decide (0 ≤ n)) else []).foldl layI [z] = N := fun z h1 h3 => hlaw _ (folds_lt _ _ (List.pairwise_singleton _ _)) fun s => by
    rw [folds_mem]
    by_cases e : op = 21
    · subst e; rw [h1 rfl]; simp
    · rw [h3 e]; simp [d1, d2, d3, d4, e, h2]
  clear hlaw
  generalize hfc : [SV.int .i64 op, .int .i64 a, .int .i64 b, .int .i64 c, .int .i64 n, .list 1 (l.map (SV.int .i64))] = fc
  have hfcl : fc.length = 6 := by subst hfc; rfl
  have f0 : fc[0]? = some (.int .i64 op) := by subst hfc; rfl
  have f4 : fc[4]? = some (.int .i64 n) := by subst hfc; rfl
  have f5 : fc[5]? = some (.list 1 (l.map (SV.int .i64))) := by subst hfc; rfl
  clear hfc
  refine ACall.of_go TB [] tabOK _ Tryd.func25 rfl (by decide) Tryd.ntmps25 (by simp) rfl (by simp only [initEnv, Nat.reduceAdd]; rfl) fun C R' hR hC hcl hB => ?_; have X := noX; have hC' := congrArg List.length hC
  have X0 := And.intro X (And.intro hll (And.intro hfcl (And.intro f0 (And.intro f4 f5))))
  clear X
  have X := And.intro X0 (And.intro d1 (And.intro d2 (And.intro d3 (And.intro d4 h2))))
  have c1 := fun n H => lay17n_ok G hG n H
  by_cases h3 : op = 21
  · have X := And.intro X h3
    (refine run ?_; repeat' (first | with_reducible exact trivial | ((with_reducible apply Fork.mk) <;> intro hb) | with_reducible apply Two.mk))
    clear X
    have hN := hN n (fun _ => rfl) (fun h => absurd h3 h)
    rw [if_pos (.inl h3)] at hN
    refine go_loop (fun a : Nat => [(2, .ptr H.length 0 0 0), (5, .list 1 ((((l.take a).filter fun n => decide (0 ≤ n)).foldl layI [n]).map (.int .i64))), (6, .int .i64 a)]) (fun _ => H ++ [.cells 0 6 [.agg fc]]) (fun a => l.length - a) (fun a => a ≤ l.length) 0 (Nat.zero_le _) (Wk.sub (by simp [subEnv, look])) ?_
    rintro K k hk hK
    rcases Nat.lt_or_ge k l.length with hlt | hge
    · have e1 : (l.map (SV.int .i64))[k]? = some (.int .i64 l[k]) := by simp [hlt]
      have ht := List.take_succ_eq_append_getElem hlt
      have hlk := folds_len ((l.take k).filter fun n => decide (0 ≤ n)) [n]
      have hlk2 := List.length_filter_le (fun n => decide (0 ≤ n)) (l.take k)
      have hlk3 : (l.take k).length = k := by simp; omega
      have hnew : ((l.take (k + 1)).filter fun n => decide (0 ≤ n)).foldl layI [n] = if 0 ≤ l[k] then layI (((l.take k).filter fun n => decide (0 ≤ n)).foldl layI [n]) l[k] else ((l.take k).filter fun n => decide (0 ≤ n)).foldl layI [n] := by
        rw [ht, List.filter_append, List.foldl_append]
        by_cases h : 0 ≤ l[k] <;> simp [h]
      generalize ((l.take k).filter fun n => decide (0 ≤ n)).foldl layI [n] = L at hlk hnew ⊢
      have hLl : L.length ≤ 1099511627776 := by simp only [List.length_singleton] at hlk; omega
      have c2 := fun m H => lay17_ok G hG L m hLl H
      have X := And.intro X0 (And.intro e1 h3)
      (refine run ?_; repeat' (first | with_reducible exact trivial | ((with_reducible apply Fork.mk) <;> intro hb) | with_reducible apply Two.mk))
      · refine hK _ _ (k + 1) (by omega) (by omega) ?_
        rw [hnew, if_pos hb]
        exact Wk.sub (by simp [subEnv, look])
      · refine hK _ _ (k + 1) (by omega) (by omega) ?_
        rw [hnew, if_neg hb]
        exact Wk.sub (by simp [subEnv, look])
      · simp at hb; omega
    · have : k = l.length := by omega
      subst this
      clear hK
      rw [List.take_length, hN]
      have X := And.intro X0 h3
      (refine run ?_; repeat' (first | with_reducible exact trivial | ((with_reducible apply Fork.mk) <;> intro hb) | with_reducible apply Two.mk))
      all_goals exact finS hR hC' hcl (y := .list 1 (N.map (.int .i64))) (.same _ (ints_under _ _)) ⟨rfl, rfl⟩
  by_cases h4 : op = 22
  · have X := And.intro X h4
    (refine run ?_; repeat' (first | with_reducible exact trivial | ((with_reducible apply Fork.mk) <;> intro hb) | with_reducible apply Two.mk))
    clear X
    have hN := hN (at_ + 1) (fun h => absurd h h3) (fun _ => rfl)
    rw [if_pos (.inr h4)] at hN
    refine go_loop (fun a : Nat => [(2, .ptr H.length 0 0 0), (5, .list 1 ((((l.take a).filter fun n => decide (0 ≤ n)).foldl layI [at_ + 1]).map (.int .i64))), (6, .int .i64 a)]) (fun _ => H ++ [.cells 0 6 [.agg fc]]) (fun a => l.length - a) (fun a => a ≤ l.length) 0 (Nat.zero_le _) (Wk.sub (by simp [subEnv, look])) ?_
    rintro K k hk hK
    rcases Nat.lt_or_ge k l.length with hlt | hge
    · have e1 : (l.map (SV.int .i64))[k]? = some (.int .i64 l[k]) := by simp [hlt]
      have ht := List.take_succ_eq_append_getElem hlt
      have hlk := folds_len ((l.take k).filter fun n => decide (0 ≤ n)) [at_ + 1]
      have hlk2 := List.length_filter_le (fun n => decide (0 ≤ n)) (l.take k)
      have hlk3 : (l.take k).length = k := by simp; omega
      have hnew : ((l.take (k + 1)).filter fun n => decide (0 ≤ n)).foldl layI [at_ + 1] = if 0 ≤ l[k] then layI (((l.take k).filter fun n => decide (0 ≤ n)).foldl layI [at_ + 1]) l[k] else ((l.take k).filter fun n => decide (0 ≤ n)).foldl layI [at_ + 1] := by
        rw [ht, List.filter_append, List.foldl_append]
        by_cases h : 0 ≤ l[k] <;> simp [h]
      generalize ((l.take k).filter fun n => decide (0 ≤ n)).foldl layI [at_ + 1] = L at hlk hnew ⊢
      have hLl : L.length ≤ 1099511627776 := by simp only [List.length_singleton] at hlk; omega
      have c2 := fun m H => lay17_ok G hG L m hLl H
      have X := And.intro X0 (And.intro e1 h4)
      (refine run ?_; repeat' (first | with_reducible exact trivial | ((with_reducible apply Fork.mk) <;> intro hb) | with_reducible apply Two.mk))
      · refine hK _ _ (k + 1) (by omega) (by omega) ?_
        rw [hnew, if_pos hb]
        exact Wk.sub (by simp [subEnv, look])
      · refine hK _ _ (k + 1) (by omega) (by omega) ?_
        rw [hnew, if_neg hb]
        exact Wk.sub (by simp [subEnv, look])
      · simp at hb; omega
    · have : k = l.length := by omega
      subst this
      clear hK
      rw [List.take_length, hN]
      have X := And.intro X0 h4
      (refine run ?_; repeat' (first | with_reducible exact trivial | ((with_reducible apply Fork.mk) <;> intro hb) | with_reducible apply Two.mk))
      all_goals exact finS hR hC' hcl (y := .list 1 (N.map (.int .i64))) (.same _ (ints_under _ _)) ⟨rfl, rfl⟩
  · have X := And.intro X (And.intro h3 h4)
    (refine run ?_; repeat' (first | with_reducible exact trivial | ((with_reducible apply Fork.mk) <;> intro hb) | with_reducible apply Two.mk))
    have hN := hN (at_ + 1) (fun h => absurd h h3) (fun _ => rfl)
    rw [if_neg (by simp [h3, h4])] at hN
    refine go_loop (fun a : Nat => [(2, .ptr H.length 0 0 0), (5, .list 1 [.int .i64 (at_ + 1)]), (6, .int .i64 0)]) (fun _ => H ++ [.cells 0 6 [.agg fc]]) (fun a => 0) (fun a => True) 0 trivial (Wk.sub (by simp [subEnv, look])) ?_
    rintro K k _ hK
    clear hK
    (refine run ?_; repeat' (first | with_reducible exact trivial | ((with_reducible apply Fork.mk) <;> intro hb) | with_reducible apply Two.mk))
    all_goals first
      | (exfalso; revert hb; simp; done)
      | (subst hN; exact finS hR hC' hcl (y := .list 1 (([at_ + 1] : List Int).map (.int .i64))) (.same (.list 1 (([at_ + 1] : List Int).map (.int .i64))) (ints_under _ _)) ⟨rfl, rfl⟩)
end Go.Proofs.YtneklfhahljgnaaDoor
end

section
namespace Go.Proofs.YtneklfhahljgnaaDoor
open Go
set_option linter.unusedSimpArgs false
set_option linter.unusedVariables false
set_option maxRecDepth 10000
set_option maxHeartbeats 4000000

def smallC : List Ins := [⟨15, 1, 0, 0, 0, []⟩, ⟨1, 2, 0, 0, 1, []⟩, ⟨3, 3, 1, 2, 0, []⟩, ⟨19, 0, 3, 0, 0, []⟩]
def smallF : Fun := ⟨[], false, false, 0, 1, 4, smallC⟩
def smallR : List (List Int) := [[0], [1], [1, 2], [3]]
theorem rows_uniq {code : List Ins} {a b : List (List Int)} (ha : Rows code a) (hb : Rows code b) : a = b := by
  apply List.ext_getElem (by rw [ha.1, hb.1])
  intro i h1 h2
  exact lt_eq (ha.2 i h1).1 (hb.2 i h2).1 fun s => by rw [(ha.2 i h1).2, (hb.2 i h2).2]
theorem small_need1 : ∀ i (h : i < smallC.length), ∀ s ∈ rdS smallC[i], s ∈ smallR.getD i [] := by decide
theorem small_need2 : ∀ i (h : i < smallC.length), ∀ n ∈ nxL smallC[i] i, n < 4 → ∀ s ∈ smallR.getD n.toNat [], (s ≠ wrS smallC[i] ∨ wrS smallC[i] < 0) → s ∈ smallR.getD i [] := by decide
theorem small_need {i : Nat} {s : Int} (h : NeedP smallC i s) : s ∈ smallR.getD i [] := by
  induction h with
  | read i s h hs => exact small_need1 i h s hs
  | step i k s h hk hn hw _ ih =>
    rw [nxS_mem] at hn
    exact small_need2 i h k hn (by have : smallC.length = 4 := rfl; omega) s ih hw
theorem small_need3 : NeedP smallC 0 0 ∧ NeedP smallC 1 1 ∧ NeedP smallC 2 1 ∧ NeedP smallC 2 2 ∧ NeedP smallC 3 3 := by
  have h1 : NeedP smallC 2 1 := .read 2 1 (by decide) (by decide)
  have h2 : NeedP smallC 2 2 := .read 2 2 (by decide) (by decide)
  refine ⟨.read 0 0 (by decide) (by decide), .step 1 2 1 (by decide) (by decide) ?_ (by decide) h1, h1, h2, .read 3 3 (by decide) (by decide)⟩
  rw [nxS_mem]; decide
theorem smallRows : Rows smallC smallR := by
  refine ⟨rfl, fun i h => ⟨?_, fun s => ⟨fun hs => ?_, fun hs => ?_⟩⟩⟩
  · have : ∀ i (h : i < smallR.length), smallR[i].Pairwise (fun a b => a < b) := by decide
    exact this i h
  · have h3 := small_need3
    have : ∀ i (h : i < smallR.length), ∀ s ∈ smallR[i], (i = 0 ∧ s = 0) ∨ (i = 1 ∧ s = 1) ∨ (i = 2 ∧ s = 1) ∨ (i = 2 ∧ s = 2) ∨ (i = 3 ∧ s = 3) := by decide
    rcases this i h s hs with ⟨rfl, rfl⟩ | ⟨rfl, rfl⟩ | ⟨rfl, rfl⟩ | ⟨rfl, rfl⟩ | ⟨rfl, rfl⟩
    · exact h3.1
    · exact h3.2.1
    · exact h3.2.2.1
    · exact h3.2.2.2.1
    · exact h3.2.2.2.2
  · have := small_need hs
    rwa [List.getD_eq_getElem?_getD, List.getElem?_eq_getElem h] at this
theorem smallSpans : spansN smallC smallR 4 4 = [(0, 0), (0, 2), (1, 2), (2, 3)] := by decide
theorem smallMoves : okS [(1, 0), (0, 1)] 9 = true ∧ shS [(1, 0), (0, 1)] 9 = [(9, 1), (1, 0), (0, 9)] := by decide

theorem small_ok (G : Gl) (hG : GClosed G) (H : List Blk) : ACall Tryd.prog G 22 [] H (fun r H' => H' = H ∧ r = .agg smallF.cells) := by
  refine ACall.of_go TB [] tabOK _ Tryd.func22 rfl (by decide) Tryd.ntmps22 (by simp) rfl (by simp only [initEnv, Nat.reduceAdd]; rfl) fun C R' hR hC hcl hB => ?_; have X := noX; have hC' := congrArg List.length hC
  (refine run ?_; repeat' (first | with_reducible exact trivial | ((with_reducible apply Fork.mk) <;> intro hb) | with_reducible apply Two.mk))
  exact finS hR hC' hcl (y := .agg smallF.cells) (.same (SV.agg smallF.cells) (show SV.underL _ smallF.cells = true from Fun.cells_under _ smallF)) ⟨rfl, rfl⟩

theorem awake_ok (G : Gl) (hG : GClosed G) (hF : GF G) (H : List Blk) : ACall Tryd.prog G 9 [] H (fun r H' => H' = H ∧ r = .bool true) := by
  refine ACall.of_go TB [] tabOK _ Tryd.func9 rfl (by decide) Tryd.ntmps9 (by simp) rfl (by simp only [initEnv, Nat.reduceAdd]; rfl) fun C R' hR hC hcl hB => ?_; have X := noX; have hC' := congrArg List.length hC
  have c1 := fun H => small_ok G hG H
  (refine run ?_; repeat' (first | with_reducible exact trivial | ((with_reducible apply Fork.mk) <;> intro hb) | with_reducible apply Two.mk))
  refine callS (before_ok G hG hF smallF (by decide) (by decide) (by decide) _) ?_
  rintro r H' ⟨rows, hrows, rfl, rfl⟩
  obtain rfl := rows_uniq hrows smallRows
  (refine run ?_; repeat' (first | with_reducible exact trivial | ((with_reducible apply Fork.mk) <;> intro hb) | with_reducible apply Two.mk))
  refine callS (spans_ok G hG hF smallF (by decide) (by decide) (by decide) _) ?_
  rintro r H' ⟨rfl, ⟨h, rfl⟩ | ⟨_, rows, hrows2, rfl⟩⟩
  · exact absurd h (by decide)
  obtain rfl := rows_uniq hrows2 smallRows
  rw [show spansN smallF.code smallR smallF.frame.toNat smallF.code.length = [(0, 0), (0, 2), (1, 2), (2, 3)] from smallSpans]
  (refine run ?_; repeat' (first | with_reducible exact trivial | ((with_reducible apply Fork.mk) <;> intro hb) | with_reducible apply Two.mk))
  refine callS (shifts_ok G hG [(1, 0), (0, 1)] 9 (by decide) _) ?_
  rintro r H' ⟨rfl, rfl⟩
  rw [smallMoves.1, smallMoves.2]
  (refine run ?_; repeat' (first | with_reducible exact trivial | ((with_reducible apply Fork.mk) <;> intro hb) | with_reducible apply Two.mk))
  exact finS hR hC' hcl (y := .bool true) (.same _ rfl) ⟨rfl, rfl⟩
end Go.Proofs.YtneklfhahljgnaaDoor
end
