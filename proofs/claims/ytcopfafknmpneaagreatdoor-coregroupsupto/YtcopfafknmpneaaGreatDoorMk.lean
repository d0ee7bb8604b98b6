/- A part of the proof: Q1, Q2, Q4, Q3, Q5, Q6, Q7. -/
import Derived.Test.YtcopfafknmpneaaGreatDoorMj

section
namespace Go.Proofs.YtcopfafknmpneaaGreatDoor
open Go
set_option linter.unusedSimpArgs false
set_option linter.unusedVariables false
set_option maxRecDepth 10000
set_option maxHeartbeats 4000000

/-! ### what is reached -/
abbrev RelB := Nat → Nat → Bool
def warS (k : Nat) (M : RelB) : RelB := fun i j => M i j || (M i k && M k j)
def warF (E : RelB) : Nat → RelB
  | 0 => E
  | k + 1 => warS k (warF E k)
theorem warS_col (k : Nat) (M : RelB) (i : Nat) : warS k M i k = M i k := by
  unfold warS; cases M i k <;> cases M k k <;> rfl
theorem warS_row (k : Nat) (M : RelB) (j : Nat) : warS k M k j = M k j := by
  unfold warS; cases M k j <;> cases M k k <;> rfl
theorem warF_mono (E : RelB) {i j : Nat} (h : E i j = true) : ∀ k, warF E k i j = true
  | 0 => h
  | k + 1 => by simp [warF, warS, warF_mono E h k]
theorem warF_trans (E : RelB) : ∀ k m i j, m < k → warF E k i m = true → warF E k m j = true → warF E k i j = true
  | k + 1, m, i, j, hm, h1, h2 => by
    simp only [warF, warS, Bool.or_eq_true, Bool.and_eq_true] at h1 h2 ⊢
    rcases Nat.lt_or_ge m k with h | h
    · have ih := fun i j => warF_trans E k m i j h
      rcases h1 with h1 | ⟨h1, h1'⟩ <;> rcases h2 with h2 | ⟨h2, h2'⟩
      · exact .inl (ih i j h1 h2)
      · exact .inr ⟨ih i k h1 h2, h2'⟩
      · exact .inr ⟨h1, ih k j h1' h2⟩
      · exact .inr ⟨h1, h2'⟩
    · have : m = k := by omega
      subst this
      have h1 : warF E m i m = true := by rcases h1 with h | h; exact h; exact h.1
      have h2 : warF E m m j = true := by rcases h2 with h | h; exact h; exact h.2
      exact .inr ⟨h1, h2⟩
/-- what is reached lies in each set that holds the next ones and those behind its own -/
theorem warF_least (E : RelB) (V : Nat → Prop) (hV : ∀ a b, V a → E a b = true → V b) : ∀ k i j, (∀ m, E i m = true → V m) → warF E k i j = true → V j
  | 0, i, j, h, h1 => h j h1
  | k + 1, i, j, h, h1 => by
    simp only [warF, warS, Bool.or_eq_true, Bool.and_eq_true] at h1
    rcases h1 with h1 | ⟨h1, h2⟩
    · exact warF_least E V hV k i j h h1
    · have hk := warF_least E V hV k i k h h1
      exact warF_least E V hV k k j (fun m hm => hV k m hk hm) h2
theorem warF_in (E : RelB) (n : Nat) (hE : ∀ i j, E i j = true → j < n) (k i j : Nat) (h : warF E k i j = true) : j < n :=
  warF_least E (fun a => a < n) (fun a b _ h => hE a b h) k i j (fun m hm => hE i m hm) h
theorem warF_all (E : RelB) (n : Nat) (hE : ∀ i j, E i j = true → j < n) {i m j : Nat} (h1 : warF E n i m = true) (h2 : warF E n m j = true) : warF E n i j = true :=
  warF_trans E n m i j (warF_in E n hE n i m h1) h1 h2

/-! ### groups -/
def mutR (R : RelB) (i j : Nat) : Bool := j == i || (R i j && R j i)
def rdyF (n : Nat) (R : RelB) (D : Nat → Bool) (i : Nat) : Bool := !D i && (List.range n).all fun j => !R i j || D j || i == j || R j i
def grpF (n : Nat) (R : RelB) (i : Nat) : List Nat := (List.range n).filter (mutR R i)
def orD (R : RelB) (i : Nat) (D : Nat → Bool) : Nat → Bool := fun j => D j || mutR R i j
def cntD (n : Nat) (D : Nat → Bool) : Nat := ((List.range n).filter fun j => !D j).length
def grpsF (n : Nat) (R : RelB) : Nat → (Nat → Bool) → List (List Nat)
  | 0, _ => []
  | k + 1, D => match (List.range n).find? (rdyF n R D) with
    | none => []
    | some i => grpF n R i :: grpsF n R k (orD R i D)
/-- what is done holds whole groups -/
def OkD (n : Nat) (R : RelB) (D : Nat → Bool) : Prop := ∀ j k, k < n → D j = true → R j k = true → R k j = true → D k = true
structure TrR (n : Nat) (R : RelB) : Prop where
  tr : ∀ {i m j : Nat}, R i m = true → R m j = true → R i j = true
theorem filter_len {α : Type} (p q : α → Bool) : ∀ l : List α, (∀ x ∈ l, p x = true → q x = true) → (l.filter p).length ≤ (l.filter q).length
  | [], _ => by simp
  | x :: r, h => by
    have ih := filter_len p q r (fun y hy => h y (List.mem_cons_of_mem _ hy))
    have h0 := h x (List.mem_cons_self ..)
    cases hp : p x <;> cases hq : q x <;> simp_all <;> omega
theorem filter_lt {α : Type} (p q : α → Bool) : ∀ l : List α, (∀ x ∈ l, p x = true → q x = true) → (∃ x ∈ l, p x = false ∧ q x = true) → (l.filter p).length < (l.filter q).length
  | [], _, h => by obtain ⟨x, hx, _⟩ := h; cases hx
  | x :: r, h, he => by
    have h0 := h x (List.mem_cons_self ..)
    have hr := fun y hy => h y (List.mem_cons_of_mem _ hy)
    have ihle := filter_len p q r hr
    obtain ⟨y, hy, h1, h2⟩ := he
    rcases List.mem_cons.1 hy with rfl | hy
    · simp only [List.filter_cons, h1, h2]; simp; omega
    · have ih := filter_lt p q r hr ⟨y, hy, h1, h2⟩
      cases hp : p x <;> cases hq : q x <;> simp_all <;> omega
/-- one is ready, while not all are done -/
theorem rdy_ex {n : Nat} {R : RelB} (hR : TrR n R) (D : Nat → Bool) : ∀ (c i : Nat), i < n → D i = false → ((List.range n).filter fun j => R i j || j == i).length ≤ c → ∃ j, j < n ∧ rdyF n R D j = true
  | c, i, hi, hD, hc => by
    cases hr : rdyF n R D i with
    | true => exact ⟨i, hi, hr⟩
    | false =>
      have h2 : ∃ k, k < n ∧ R i k = true ∧ D k = false ∧ i ≠ k ∧ R k i = false := by
        unfold rdyF at hr
        rw [hD] at hr
        simp only [Bool.not_false, Bool.true_and, List.all_eq_false, List.mem_range] at hr
        obtain ⟨k, hk, h⟩ := hr
        refine ⟨k, hk, ?_⟩
        cases a : R i k <;> cases b : D k <;> cases d : R k i <;> simp_all
      obtain ⟨k, hk, h1, h2, h3, h4⟩ := h2
      have hlt := filter_lt (fun j => R k j || j == k) (fun j => R i j || j == i) (List.range n) (fun x _ hx => by
        simp only [Bool.or_eq_true, beq_iff_eq] at hx ⊢
        rcases hx with hx | rfl
        · exact .inl (hR.tr h1 hx)
        · exact .inl h1) ⟨i, List.mem_range.2 hi, by simp [h4, h3], by simp⟩
      match c, hc with
      | 0, hc => omega
      | c + 1, hc => exact rdy_ex hR D c k hk h2 (by omega)
theorem cnt_pos {n : Nat} {D : Nat → Bool} (h : 0 < cntD n D) : ∃ i, i < n ∧ D i = false := by
  obtain ⟨x, hx⟩ := List.exists_mem_of_length_pos h
  have := List.mem_filter.1 hx
  exact ⟨x, List.mem_range.1 this.1, by simpa using this.2⟩
theorem rdy_first {n : Nat} {R : RelB} (hR : TrR n R) {D : Nat → Bool} (h : 0 < cntD n D) : ∃ i, (List.range n).find? (rdyF n R D) = some i ∧ i < n ∧ rdyF n R D i = true ∧ ∀ j, j < i → rdyF n R D j = false := by
  obtain ⟨i, hi, hD⟩ := cnt_pos h
  obtain ⟨j, hj, hr⟩ := rdy_ex hR D _ i hi hD (Nat.le_refl _)
  cases hf : (List.range n).find? (rdyF n R D) with
  | none => exact absurd hr (List.find?_eq_none.1 hf j (List.mem_range.2 hj))
  | some a =>
    have h2 := List.find?_range_eq_some.1 hf
    exact ⟨a, rfl, List.mem_range.1 h2.2.1, h2.1, fun j hj => by simpa using h2.2.2 j hj⟩
theorem rdy_parts {n : Nat} {R : RelB} {D : Nat → Bool} {i : Nat} (h : rdyF n R D i = true) : D i = false ∧ ∀ j, j < n → R i j = true → D j = true ∨ i = j ∨ R j i = true := by
  unfold rdyF at h
  simp only [Bool.and_eq_true, Bool.not_eq_true', List.all_eq_true, List.mem_range, Bool.or_eq_true, beq_iff_eq] at h
  refine ⟨h.1, fun j hj hr => ?_⟩
  rcases h.2 j hj with ((h2 | h2) | h2) | h2
  · rw [hr] at h2; cases h2
  · exact .inl h2
  · exact .inr (.inl h2)
  · exact .inr (.inr h2)
theorem grp_new {n : Nat} {R : RelB} {D : Nat → Bool} (hD : OkD n R D) {i : Nat} (hi : i < n) (h : D i = false) {j : Nat} (hj : mutR R i j = true) : D j = false := by
  cases hd : D j with
  | false => rfl
  | true =>
    simp only [mutR, Bool.or_eq_true, beq_iff_eq, Bool.and_eq_true] at hj
    rcases hj with rfl | ⟨h1, h2⟩
    · rw [h] at hd; cases hd
    · rw [hD j i hi hd h2 h1] at h; cases h
theorem cnt_split (D p : Nat → Bool) (hp : ∀ j, p j = true → D j = false) : ∀ l : List Nat, (l.filter fun j => !(D j || p j)).length + (l.filter p).length = (l.filter fun j => !D j).length
  | [] => rfl
  | x :: r => by
    have ih := cnt_split D p hp r
    have h0 := hp x
    cases a : D x <;> cases b : p x <;> simp_all <;> omega
theorem cnt_or {n : Nat} {R : RelB} {D : Nat → Bool} (hD : OkD n R D) {i : Nat} (hi : i < n) (h : D i = false) : cntD n (orD R i D) + (grpF n R i).length = cntD n D :=
  cnt_split D (mutR R i) (fun j hj => grp_new hD hi h hj) _
theorem grp_pos {n : Nat} {R : RelB} {i : Nat} (hi : i < n) : 0 < (grpF n R i).length :=
  List.length_pos_of_mem (a := i) (List.mem_filter.2 ⟨List.mem_range.2 hi, by simp [mutR]⟩)
theorem ok_or {n : Nat} {R : RelB} (hR : TrR n R) {D : Nat → Bool} (hD : OkD n R D) (i : Nat) : OkD n R (orD R i D) := by
  intro j k hk h h1 h2
  simp only [orD, mutR, Bool.or_eq_true, beq_iff_eq, Bool.and_eq_true] at h ⊢
  rcases h with h | rfl | ⟨h3, h4⟩
  · exact .inl (hD j k hk h h1 h2)
  · exact .inr (.inr ⟨h1, h2⟩)
  · exact .inr (.inr ⟨hR.tr h3 h1, hR.tr h2 h4⟩)
theorem grps_fuel {n : Nat} {R : RelB} (hR : TrR n R) : ∀ (k k' : Nat) (D : Nat → Bool), OkD n R D → cntD n D ≤ k → cntD n D ≤ k' → grpsF n R k D = grpsF n R k' D
  | 0, 0, _, _, _, _ => rfl
  | 0, k' + 1, D, hD, h, _ => by
    have hn : (List.range n).find? (rdyF n R D) = none := by
      refine List.find?_eq_none.2 fun x hx hr => ?_
      have h1 := (rdy_parts hr).1
      have hm : x ∈ (List.range n).filter (fun j => !D j) := List.mem_filter.2 ⟨hx, by simp [h1]⟩
      have := List.length_pos_of_mem hm
      unfold cntD at h
      omega
    rw [grpsF, grpsF, hn]
  | k + 1, 0, D, hD, _, h => by
    have hn : (List.range n).find? (rdyF n R D) = none := by
      refine List.find?_eq_none.2 fun x hx hr => ?_
      have h1 := (rdy_parts hr).1
      have hm : x ∈ (List.range n).filter (fun j => !D j) := List.mem_filter.2 ⟨hx, by simp [h1]⟩
      have := List.length_pos_of_mem hm
      unfold cntD at h
      omega
    rw [grpsF, grpsF, hn]
  | k + 1, k' + 1, D, hD, h, h' => by
    rw [grpsF, grpsF]
    cases hf : (List.range n).find? (rdyF n R D) with
    | none => rfl
    | some i =>
      have h2 := List.find?_range_eq_some.1 hf
      have h3 := List.mem_range.1 h2.2.1
      have h4 := cnt_or hD h3 (rdy_parts h2.1).1
      have h5 := grp_pos (R := R) h3
      simp only
      rw [grps_fuel hR k k' (orD R i D) (ok_or hR hD i) (by omega) (by omega)]
def groupsF (n : Nat) (R : RelB) : List (List Nat) := grpsF n R n fun _ => false
/-- one step of both loops -/
theorem grps_step {n : Nat} {R : RelB} (hR : TrR n R) {D : Nat → Bool} (hD : OkD n R D) (h : 0 < cntD n D) : ∃ i, i < n ∧ rdyF n R D i = true ∧ (∀ j, j < i → rdyF n R D j = false) ∧ OkD n R (orD R i D) ∧ cntD n (orD R i D) + (grpF n R i).length = cntD n D ∧ 0 < (grpF n R i).length ∧ (∀ j, mutR R i j = true → D j = false) ∧
    grpsF n R (cntD n D) D = grpF n R i :: grpsF n R (cntD n (orD R i D)) (orD R i D) := by
  obtain ⟨i, hf, hi, hr, hn⟩ := rdy_first hR h
  have h1 := (rdy_parts hr).1
  have h4 := cnt_or hD hi h1
  have h5 := grp_pos (R := R) hi
  refine ⟨i, hi, hr, hn, ok_or hR hD i, h4, h5, fun j hj => grp_new hD hi h1 hj, ?_⟩
  obtain ⟨c, hc⟩ : ∃ c, cntD n D = c + 1 := ⟨cntD n D - 1, by omega⟩
  rw [hc, grpsF, hf]
  simp only
  rw [grps_fuel hR c _ _ (ok_or hR hD i) (by omega) (Nat.le_refl _)]
theorem grps_done {n : Nat} {R : RelB} {D : Nat → Bool} (h : cntD n D = 0) : grpsF n R (cntD n D) D = [] := by rw [h]; rfl
end Go.Proofs.YtcopfafknmpneaaGreatDoor
end

section
namespace Go.Proofs.YtcopfafknmpneaaGreatDoor
open Go
set_option linter.unusedSimpArgs false
set_option linter.unusedVariables false
set_option maxRecDepth 10000
set_option maxHeartbeats 4000000

/-! ### who uses whom -/
def fstI (nms : List Str) (s : Str) : Option Nat := nms.findIdx? fun x => decide (x = s)
theorem fstI_some {nms : List Str} {s : Str} {j : Nat} (h : fstI nms s = some j) : ∃ hj : j < nms.length, nms[j] = s ∧ ∀ (k : Nat) (hk : k < j), nms[k] ≠ s := by
  obtain ⟨h1, h2, h3⟩ := List.findIdx?_eq_some_iff_getElem.1 h
  exact ⟨h1, by simpa using h2, fun k hk => by simpa using h3 k hk⟩
def usesF (binds : List Bd) (i : Nat) : List Nat := match binds[i]? with
  | some b => (freeS b.e).filterMap (fstI (binds.map Bd.name))
  | none => []
def edgF (binds : List Bd) : RelB := fun i j => decide (j ∈ usesF binds i)
def reaF (binds : List Bd) : RelB := warF (edgF binds) binds.length
theorem usesF_lt {binds : List Bd} {i j : Nat} (h : j ∈ usesF binds i) : j < binds.length := by
  unfold usesF at h
  split at h
  · obtain ⟨s, _, hs⟩ := List.mem_filterMap.1 h
    obtain ⟨hj, _⟩ := fstI_some hs
    simpa using hj
  · cases h
theorem edgF_lt {binds : List Bd} (i j : Nat) (h : edgF binds i j = true) : j < binds.length := usesF_lt (of_decide_eq_true h)
theorem reaF_lt {binds : List Bd} {i j : Nat} (h : reaF binds i j = true) : j < binds.length := warF_in _ _ edgF_lt _ i j h
theorem reaF_tr (binds : List Bd) : TrR binds.length (reaF binds) := ⟨fun h1 h2 => warF_all _ _ edgF_lt h1 h2⟩
theorem reaF_edge {binds : List Bd} {i j : Nat} (h : j ∈ usesF binds i) : reaF binds i j = true := warF_mono _ (decide_eq_true h) _
theorem usesF_len (binds : List Bd) {B : Nat} (hB : ∀ b ∈ binds, (freeS b.e).length ≤ B) (i : Nat) : (usesF binds i).length ≤ B := by
  unfold usesF
  split
  · rename_i b hb
    exact Nat.le_trans (List.length_filterMap_le ..) (hB b (List.mem_of_getElem? hb))
  · exact Nat.zero_le _

/-! ### what is reached from one, gone through with a list of what is still to do -/
structure DfsI (binds : List Bd) (B i : Nat) (V todo : List Nat) : Prop where
  sv : ∀ j ∈ V, reaF binds i j = true
  st : ∀ j ∈ todo, reaF binds i j = true
  us : ∀ m ∈ usesF binds i, m ∈ V ∨ m ∈ todo
  cl : ∀ v ∈ V, ∀ m ∈ usesF binds v, m ∈ V ∨ m ∈ todo
  nd : V.Nodup
  tl : todo.length ≤ (V.length + 1) * B
theorem dfs_start (binds : List Bd) {B : Nat} (hB : ∀ b ∈ binds, (freeS b.e).length ≤ B) (i : Nat) : DfsI binds B i [] (usesF binds i) :=
  ⟨by simp, fun j hj => reaF_edge hj, fun m hm => .inr hm, by simp, List.nodup_nil, by simpa using usesF_len binds hB i⟩
theorem dfs_V {binds : List Bd} {B i : Nat} {V todo : List Nat} (h : DfsI binds B i V todo) : V.length ≤ binds.length :=
  met_le h.nd fun j hj => reaF_lt (h.sv j hj)
theorem dfs_old {binds : List Bd} {B i k : Nat} {V todo : List Nat} (h : DfsI binds B i V (todo ++ [k])) (hk : k ∈ V) : DfsI binds B i V todo :=
  ⟨h.sv, fun j hj => h.st j (List.mem_append_left _ hj), fun m hm => (h.us m hm).elim .inl fun h2 => (List.mem_append.1 h2).elim .inr fun h3 => .inl (by rw [List.mem_singleton.1 h3]; exact hk),
   fun v hv m hm => (h.cl v hv m hm).elim .inl fun h2 => (List.mem_append.1 h2).elim .inr fun h3 => .inl (by rw [List.mem_singleton.1 h3]; exact hk), h.nd, by have := h.tl; rw [List.length_append] at this; omega⟩
theorem dfs_new {binds : List Bd} {B i k : Nat} {V todo : List Nat} (hB : ∀ b ∈ binds, (freeS b.e).length ≤ B) (h : DfsI binds B i V (todo ++ [k])) (hk : k ∉ V) : DfsI binds B i (V ++ [k]) (todo ++ usesF binds k) := by
  have hrk := h.st k (List.mem_append_right _ (List.mem_singleton_self k))
  have mv : ∀ m, m ∈ V ∨ m ∈ todo ++ [k] → m ∈ V ++ [k] ∨ m ∈ todo ++ usesF binds k := fun m hm => by
    rcases hm with hm | hm
    · exact .inl (List.mem_append_left _ hm)
    · rcases List.mem_append.1 hm with hm | hm
      · exact .inr (List.mem_append_left _ hm)
      · exact .inl (List.mem_append_right _ hm)
  refine ⟨fun j hj => ?_, fun j hj => ?_, fun m hm => mv m (h.us m hm), fun v hv m hm => ?_, List.nodup_append.2 ⟨h.nd, by simp, by simp; exact fun a ha e => hk (e ▸ ha)⟩, ?_⟩
  · rcases List.mem_append.1 hj with hj | hj
    · exact h.sv j hj
    · rw [List.mem_singleton.1 hj]; exact hrk
  · rcases List.mem_append.1 hj with hj | hj
    · exact h.st j (List.mem_append_left _ hj)
    · exact (reaF_tr binds).tr hrk (reaF_edge hj)
  · rcases List.mem_append.1 hv with hv | hv
    · exact mv m (h.cl v hv m hm)
    · rw [List.mem_singleton.1 hv] at hm
      exact .inr (List.mem_append_right _ hm)
  · have h1 := h.tl
    have h2 := usesF_len binds hB k
    simp only [List.length_append, List.length_singleton] at h1 ⊢
    have e : (V.length + 1 + 1) * B = (V.length + 1) * B + B := by rw [Nat.succ_mul]
    omega
theorem dfs_end {binds : List Bd} {B i : Nat} {V : List Nat} (h : DfsI binds B i V []) (j : Nat) : j ∈ V ↔ reaF binds i j = true := by
  refine ⟨h.sv j, fun hr => ?_⟩
  refine warF_least (edgF binds) (fun a => a ∈ V) (fun a b ha hb => ?_) binds.length i j (fun m hm => ?_) hr
  · rcases h.cl a ha b (of_decide_eq_true hb) with h2 | h2
    · exact h2
    · cases h2
  · rcases h.us m (of_decide_eq_true hm) with h2 | h2
    · exact h2
    · cases h2
/-- it comes to an end -/
def dfsM (n B : Nat) (V todo : List Nat) : Nat := (n - V.length) * (B + 1) + todo.length
theorem dfsM_old {n B k : Nat} {V todo : List Nat} : dfsM n B V todo < dfsM n B V (todo ++ [k]) := by
  unfold dfsM; rw [List.length_append, List.length_singleton]; omega
theorem dfsM_new {n B k : Nat} {V todo us : List Nat} (hV : V.length < n) (hu : us.length ≤ B) : dfsM n B (V ++ [k]) (todo ++ us) < dfsM n B V (todo ++ [k]) := by
  unfold dfsM
  simp only [List.length_append, List.length_singleton]
  obtain ⟨d, hd⟩ : ∃ d, n - V.length = d + 1 := ⟨n - V.length - 1, by omega⟩
  have h2 : n - (V.length + 1) = d := by omega
  rw [hd, h2, Nat.succ_mul]
  omega
end Go.Proofs.YtcopfafknmpneaaGreatDoor
end

section
namespace Go.Proofs.YtcopfafknmpneaaGreatDoor
open Go
set_option linter.unusedSimpArgs false
set_option linter.unusedVariables false
set_option maxRecDepth 10000
set_option maxHeartbeats 4000000

/-! ### the matrix of the reference, turned in place -/
def updR (M : RelB) (i j : Nat) (v : Bool) : RelB := fun a b => if a = i ∧ b = j then v else M a b
def warP (k i j : Nat) (M : RelB) : RelB := fun a b => if a < i ∨ (a = i ∧ b < j) then warS k M a b else M a b
theorem warP_val (k i j : Nat) (M : RelB) : (warP k i j M i j || (warP k i j M i k && warP k i j M k j)) = warS k M i j := by
  have h1 : warP k i j M i j = M i j := by simp [warP]
  have h2 : warP k i j M i k = M i k := by
    unfold warP; split
    · exact warS_col k M i
    · rfl
  have h3 : warP k i j M k j = M k j := by
    unfold warP; split
    · exact warS_row k M j
    · rfl
  rw [h1, h2, h3]; rfl
theorem warP_upd (k i j : Nat) (M : RelB) : updR (warP k i j M) i j (warS k M i j) = warP k i (j + 1) M := by
  funext a b
  unfold updR warP
  by_cases h : a = i ∧ b = j
  · obtain ⟨rfl, rfl⟩ := h
    simp
  · rw [if_neg h]
    by_cases h2 : a < i ∨ (a = i ∧ b < j)
    · rw [if_pos h2, if_pos (by omega)]
    · rw [if_neg h2, if_neg (by omega)]
theorem warP_zero (k : Nat) (M : RelB) : warP k 0 0 M = M := by funext a b; simp [warP]
theorem warP_row (k i n : Nat) (M : RelB) : ∀ a b, b < n → warP k i n M a b = warP k (i + 1) 0 M a b := by
  intro a b hb
  unfold warP
  by_cases h : a < i ∨ (a = i ∧ b < n)
  · rw [if_pos h, if_pos (by omega)]
  · rw [if_neg h, if_neg (by omega)]
theorem warP_all (k n : Nat) (M : RelB) : ∀ a b, a < n → warP k n 0 M a b = warS k M a b := by
  intro a b ha
  unfold warP
  rw [if_pos (.inl ha)]
theorem fstI_of {nms : List Str} {s : Str} {j : Nat} (hj : j < nms.length) (h : nms[j] = s) (hk : ∀ (k : Nat) (h : k < nms.length), k < j → nms[k] ≠ s) : fstI nms s = some j :=
  List.findIdx?_eq_some_iff_getElem.2 ⟨hj, by simpa using h, fun k hkj => by simpa using hk k (by omega) hkj⟩
theorem fstI_none {nms : List Str} {s : Str} (hk : ∀ (k : Nat) (h : k < nms.length), nms[k] ≠ s) : fstI nms s = none :=
  List.findIdx?_eq_none_iff.2 fun x hx => by
    obtain ⟨k, h, rfl⟩ := List.mem_iff_getElem.1 hx
    simpa using hk k h

/-! ### the first ones, as a map -/
def lkB : List (Str × Int) → Str → Option Int
  | [], _ => none
  | (k, n) :: r, s => if s = k then some n else lkB r s
theorem lkB_app (k : Str) (n : Int) (s : Str) : ∀ l : List (Str × Int), lkB (l ++ [(k, n)]) s = (lkB l s).or (if s = k then some n else none)
  | [] => by simp [lkB]
  | (q, m) :: r => by
    rw [List.cons_append, lkB, lkB, lkB_app k n s r]
    split <;> rfl
def fstN (nms : List Str) : Nat → List (Str × Int)
  | 0 => []
  | i + 1 => match nms[i]? with
    | some s => if (lkB (fstN nms i) s).isSome then fstN nms i else fstN nms i ++ [(s, (i : Int))]
    | none => fstN nms i
theorem fstN_lk (nms : List Str) (s : Str) : ∀ i, i ≤ nms.length → lkB (fstN nms i) s = (fstI (nms.take i) s).map fun x : Nat => (x : Int)
  | 0, _ => by simp [fstN, lkB, fstI]
  | i + 1, h => by
    have hi : i < nms.length := by omega
    have ih := fstN_lk nms s i (by omega)
    have ihs := fstN_lk nms nms[i] i (by omega)
    have e1 : fstI (nms.take (i + 1)) s = (fstI (nms.take i) s).or (if nms[i] = s then some i else none) := by
      unfold fstI
      rw [List.take_succ_eq_append_getElem hi, List.findIdx?_append, List.findIdx?_singleton]
      congr 1
      by_cases h2 : nms[i] = s
      · simp [h2]; omega
      · simp [h2]
    rw [e1, fstN, List.getElem?_eq_getElem hi]
    simp only
    split
    · rename_i h2
      rw [ih]
      by_cases h3 : nms[i] = s
      · rw [h3, ih] at h2
        cases hf : fstI (nms.take i) s with
        | none => rw [hf] at h2; cases h2
        | some x => rfl
      · rw [if_neg h3]; cases fstI (nms.take i) s <;> rfl
    · rename_i h2
      rw [lkB_app, ih]
      by_cases h3 : nms[i] = s
      · subst h3
        rw [if_pos rfl, if_pos rfl]
        cases fstI (nms.take i) nms[i] <;> rfl
      · rw [if_neg h3, if_neg (fun e => h3 e.symm)]
        cases fstI (nms.take i) s <;> rfl
theorem fstN_all (nms : List Str) (s : Str) : lkB (fstN nms nms.length) s = (fstI nms s).map fun x : Nat => (x : Int) := by
  have := fstN_lk nms s nms.length (Nat.le_refl _)
  rwa [List.take_length] at this
theorem fstN_len (nms : List Str) : ∀ i, (fstN nms i).length ≤ i
  | 0 => Nat.le_refl _
  | i + 1 => by
    have := fstN_len nms i
    rw [fstN]
    split
    · split
      · omega
      · rw [List.length_append, List.length_singleton]; omega
    · omega

/-! ### the groups stand as they should -/
structure GrpOK (n : Nat) (R : RelB) (D : Nat → Bool) (gs : List (List Nat)) : Prop where
  nw : ∀ (p : Nat) (g : List Nat), gs[p]? = some g → ∀ j ∈ g, j < n ∧ D j = false
  ri : ∀ (p : Nat) (g : List Nat), gs[p]? = some g → g.Pairwise (fun x y => x < y)
  dj : ∀ (p q : Nat) (g h : List Nat), p < q → gs[p]? = some g → gs[q]? = some h → ∀ j ∈ g, j ∉ h
  al : ∀ j : Nat, j < n → D j = false → ∃ (p : Nat) (g : List Nat), gs[p]? = some g ∧ j ∈ g
  us : ∀ (p : Nat) (g : List Nat) (i j : Nat), gs[p]? = some g → i ∈ g → R i j = true → j < n → D j = true ∨ ∃ (q : Nat) (h : List Nat), q ≤ p ∧ gs[q]? = some h ∧ j ∈ h
theorem range_rise (n : Nat) : (List.range n).Pairwise (fun x y => x < y) := List.pairwise_lt_range
theorem grps_ok {n : Nat} {R : RelB} (hR : TrR n R) : ∀ (k : Nat) (D : Nat → Bool), OkD n R D → cntD n D ≤ k → GrpOK n R D (grpsF n R k D)
  | k, D, hD, hk => by
    rcases Nat.eq_zero_or_pos (cntD n D) with h0 | h0
    · have hnil : grpsF n R k D = [] := by rw [grps_fuel hR k (cntD n D) D hD hk (Nat.le_refl _)]; exact grps_done h0
      rw [hnil]
      refine ⟨by simp, by simp, by simp, fun j hj hd => ?_, by simp⟩
      have hm : j ∈ (List.range n).filter (fun j => !D j) := List.mem_filter.2 ⟨List.mem_range.2 hj, by simp [hd]⟩
      have := List.length_pos_of_mem hm
      unfold cntD at h0
      omega
    · obtain ⟨i, hi, hr, hn, hok, hc, hp, hnew, heq⟩ := grps_step hR hD h0
      rw [grps_fuel hR k (cntD n D) D hD hk (Nat.le_refl _), heq]
      match k, hk with
      | 0, hk => omega
      | k + 1, hk =>
      have ih := grps_ok hR k (orD R i D) hok (by omega)
      rw [grps_fuel hR k (cntD n (orD R i D)) (orD R i D) hok (by omega) (Nat.le_refl _)] at ih
      have hgm : ∀ j, j ∈ grpF n R i ↔ j < n ∧ mutR R i j = true := fun j => by simp [grpF]
      have hod : ∀ j, orD R i D j = false → D j = false ∧ mutR R i j = false := fun j hj => by simpa [orD] using hj
      refine ⟨fun p g hg j hj => ?_, fun p g hg => ?_, fun p q g h hpq hg hh j hj => ?_, fun j hj hd => ?_, fun p g a j hg ha hrj hj => ?_⟩
      · cases p with
        | zero => simp only [List.getElem?_cons_zero, Option.some.injEq] at hg; subst hg; exact ⟨((hgm j).1 hj).1, hnew j ((hgm j).1 hj).2⟩
        | succ p =>
          have := ih.nw p g (by simpa using hg) j hj
          exact ⟨this.1, (hod j this.2).1⟩
      · cases p with
        | zero => simp only [List.getElem?_cons_zero, Option.some.injEq] at hg; subst hg; exact (range_rise n).filter _
        | succ p => exact ih.ri p g (by simpa using hg)
      · cases q with
        | zero => omega
        | succ q =>
          cases p with
          | zero =>
            simp only [List.getElem?_cons_zero, Option.some.injEq] at hg; subst hg
            intro hjh
            have := hod j (ih.nw q h (by simpa using hh) j hjh).2
            rw [((hgm j).1 hj).2] at this
            cases this.2
          | succ p => exact ih.dj p q g h (by omega) (by simpa using hg) (by simpa using hh) j hj
      · cases hm : mutR R i j with
        | true => exact ⟨0, _, rfl, (hgm j).2 ⟨hj, hm⟩⟩
        | false =>
          obtain ⟨p, g, h1, h2⟩ := ih.al j hj (by simp [orD, hd, hm])
          exact ⟨p + 1, g, by simpa using h1, h2⟩
      · cases p with
        | zero =>
          simp only [List.getElem?_cons_zero, Option.some.injEq] at hg; subst hg
          have hrij : R i j = true := by
            have hm := ((hgm a).1 ha).2
            simp only [mutR, Bool.or_eq_true, beq_iff_eq, Bool.and_eq_true] at hm
            rcases hm with rfl | ⟨h1, _⟩
            · exact hrj
            · exact hR.tr h1 hrj
          rcases (rdy_parts hr).2 j hj hrij with h1 | h1 | h1
          · exact .inl h1
          · exact .inr ⟨0, _, Nat.le_refl _, rfl, (hgm j).2 ⟨hj, by simp [mutR, h1]⟩⟩
          · exact .inr ⟨0, _, Nat.le_refl _, rfl, (hgm j).2 ⟨hj, by simp [mutR, h1, hrij]⟩⟩
        | succ p =>
          rcases ih.us p g a j (by simpa using hg) ha hrj hj with h1 | ⟨q, h, h1, h2, h3⟩
          · simp only [orD, Bool.or_eq_true] at h1
            rcases h1 with h1 | h1
            · exact .inl h1
            · exact .inr ⟨0, _, Nat.zero_le _, rfl, (hgm j).2 ⟨hj, h1⟩⟩
          · exact .inr ⟨q + 1, h, by omega, by simpa using h2, h3⟩
theorem cnt_none (n : Nat) : cntD n (fun _ => false) = n := by
  unfold cntD
  have h : (List.range n).filter (fun j => !(fun _ => false : Nat → Bool) j) = List.range n := List.filter_eq_self.2 fun _ _ => rfl
  rw [h, List.length_range]
theorem groups_ok {n : Nat} {R : RelB} (hR : TrR n R) : GrpOK n R (fun _ => false) (groupsF n R) := grps_ok hR n _ (fun j k _ h => by cases h) (by rw [cnt_none]; exact Nat.le_refl _)
end Go.Proofs.YtcopfafknmpneaaGreatDoor
end

section
namespace Go.Proofs.YtcopfafknmpneaaGreatDoor
open Go
set_option linter.unusedSimpArgs false
set_option linter.unusedVariables false
set_option maxRecDepth 10000
set_option maxHeartbeats 4000000

abbrev iv (x : Nat) : SV := .int .i64 (x : Int)
theorem clone_ints (G : Gl) (hG : GClosed G) (l : List Nat) (H : List Blk) (hl : l.length < 1099511627776) : ACall Tryz.prog G 57 [.list 1 (l.map iv)] H (fun r H' => H' = H ++ [.cells 0 1 (l.map iv)] ∧ r = .sl H.length 0 0 l.length) := by
  refine ACall.of_go TB [2,5] tabOK _ Tryz.func57 rfl (by decide) Tryz.ntmps57 (by simp) rfl (by simp only [initEnv, Nat.reduceAdd]; rfl) fun C R' hR hC hcl hB => ?_; have X := noX; have hC' := congrArg List.length hC
  (refine runO ?_; repeat' (first | with_reducible exact trivial | ((with_reducible apply Fork.mk) <;> intro hb) | with_reducible apply Two.mk))
  · obtain rfl : l = [] := List.length_eq_zero_iff.1 hb
    exact finK [(H.length + 1, 0)] (.sl H.length 0 0 0) [.cells 0 1 []] hR hC' hcl ⟨rfl, rfl⟩
  · exact finK [(H.length + 1, 0)] (.sl H.length 0 0 l.length) [.cells 0 1 (l.map iv)] hR hC' hcl ⟨rfl, rfl⟩

/-! ### sets of numbers, as maps -/
def kI (V : List Nat) : List SV := V.map iv
def vI (V : List Nat) : List SV := V.map fun _ => .bool true
def esI (V : List Nat) : List (SV × SV) := V.map fun x => (iv x, .bool true)
theorem esI_fst (V : List Nat) : (esI V).map Prod.fst = kI V := by simp [esI, kI]
theorem esI_snd (V : List Nat) : (esI V).map Prod.snd = vI V := by simp [esI, vI]
theorem esI_zip (V : List Nat) : (kI V).zip (vI V) = esI V := by simp [esI, kI, vI, List.zip_map']
theorem findSV_esI (x : Nat) : ∀ V : List Nat, findSV (esI V) (iv x) = if x ∈ V then some (.bool true) else none
  | [] => rfl
  | y :: V => by
    have ih := findSV_esI x V
    simp only [esI, List.map_cons, findSV, SV.keyEq] at ih ⊢
    by_cases h : x = y
    · subst h; simp
    · have h2 : ((x : Int) == (y : Int)) = false := beq_eq_false_iff_ne.2 (by omega)
      simp only [h2, Bool.false_eq_true, if_false, ih, List.mem_cons, h, false_or]
theorem getD_esI (x : Nat) (V : List Nat) : (findSV (esI V) (iv x)).getD (.bool false) = .bool (decide (x ∈ V)) := by
  rw [findSV_esI]; by_cases h : x ∈ V <;> simp [h]
theorem setSV_esI {x : Nat} : ∀ {V : List Nat}, x ∉ V → setSV (esI V) (iv x) (.bool true) = esI (V ++ [x])
  | [], _ => rfl
  | y :: V, h => by
    have h1 : x ≠ y := fun e => h (e ▸ List.mem_cons_self ..)
    have ih := setSV_esI (x := x) (V := V) (fun h2 => h (List.mem_cons_of_mem _ h2))
    have h2 : ((x : Int) == (y : Int)) = false := beq_eq_false_iff_ne.2 (by omega)
    simp only [esI, List.map_cons, setSV, SV.keyEq, List.cons_append, h2, Bool.false_eq_true, if_false] at ih ⊢
    rw [ih]
theorem kI_under (n : Nat) (V : List Nat) : SV.underL n (kI V) = true := SV.underL_map fun _ _ => rfl
theorem vI_under (n : Nat) (V : List Nat) : SV.underL n (vI V) = true := SV.underL_map fun _ _ => rfl

/-- the sets of what is reached, read only -/
structure RchA (R : RelB) (j : Nat) (x : SV) : Prop where
  ex : ∃ b clk born V, x = .imap b clk born (some .i64) (kI V) (vI V) ∧ born.length = V.length ∧ born.Nodup ∧ ∀ y, y ∈ V ↔ R j y = true
structure Rch (n : Nat) (R : RelB) (rs : List SV) : Prop where
  len : rs.length = n
  at_ : ∀ j (h : j < n), ∃ x, rs[j]? = some x ∧ RchA R j x
  lt : ∀ i j, R i j = true → j < n
theorem Rch.get {n : Nat} {R : RelB} {rs : List SV} (h : Rch n R rs) {j : Nat} (hj : j < n) : ∃ b clk born V, rs[j]? = some (.imap b clk born (some .i64) (kI V) (vI V)) ∧ born.length = V.length ∧ born.Nodup ∧ ∀ y, y ∈ V ↔ R j y = true := by
  obtain ⟨x, hx, ⟨b, clk, born, V, rfl, q2, q3, q4⟩⟩ := h.at_ j hj
  exact ⟨b, clk, born, V, hx, q2, q3, q4⟩
theorem met_all {born idx : List Nat} {m : Nat} (hb : born.Nodup) (hlb : born.length = m) (hlt : ∀ i ∈ idx, i < m) (hall : ∀ b ∈ born, (idx.map fun i => born.getD i 0).toArray.contains b = true) : ∀ i, i < m → i ∈ idx := fun i hi => by
  have hi' : i < born.length := by omega
  have h := hall born[i] (List.getElem_mem hi')
  simp only [List.contains_toArray, List.contains_iff_mem, List.mem_map] at h
  obtain ⟨j, hj, e⟩ := h
  have hj' : j < born.length := by have := hlt j hj; omega
  rw [List.getD_eq_getElem?_getD, List.getElem?_eq_getElem hj', Option.getD_some] at e
  obtain rfl : j = i := (List.getElem_inj hb).1 e
  exact hj
theorem RchA.under {R : RelB} {j : Nat} {x : SV} (h : RchA R j x) (n : Nat) : x.under n = true := by
  obtain ⟨b, clk, born, V, rfl, _⟩ := h.ex
  simp only [SV.under, kI_under, vI_under, Bool.and_self]

def blB (n : Nat) (D : Nat → Bool) : List SV := (List.range n).map fun j => .bool (D j)
theorem blB_len (n : Nat) (D : Nat → Bool) : (blB n D).length = n := by simp [blB]
theorem blB_get {n : Nat} {D : Nat → Bool} {j : Nat} (h : j < n) : (blB n D)[j]? = some (.bool (D j)) := by simp [blB, h]

def okR (R : RelB) (D : Nat → Bool) (i j : Nat) : Bool := D j || j == i || R j i
theorem ready_ok (G : Gl) (hG : GClosed G) (n : Nat) (hn : n < 1099511627776) (R : RelB) (D : Nat → Bool) (rs : List SV) (hr : Rch n R rs) (i : Nat) (hi : i < n) (db dc dg rb rc rg : Nat) (H : List Blk)
    (h1 : H[db]? = some (.cells 0 1 [.sl dc dg 0 n])) (h2 : H[dc]? = some (.cells dg 1 (blB n D))) (h3 : H[rb]? = some (.cells 0 1 [.sl rc rg 0 n])) (h4 : H[rc]? = some (.cells rg 1 rs)) :
    ACall Tryz.prog G 58 [.int .i64 i, .ptr db 0 0 0, .ptr rb 0 0 0] H (fun r H' => H' = H ∧ r = .bool (rdyF n R D i)) := by
  obtain ⟨b, clk, born, V, hx, hbl, hnd, hV⟩ := hr.get hi
  have hDi := blB_get (D := D) hi
  have hbn := blB_len n D
  have hrl := hr.len
  by_cases hd : D i = true
  · have e0 : rdyF n R D i = false := by simp [rdyF, hd]
    rw [e0]
    rw [hd] at hDi
    refine ACall.of_go TB [] tabOK _ Tryz.func58 rfl (by decide) Tryz.ntmps58 (by simp) rfl (by simp only [initEnv, Nat.reduceAdd]; rfl) fun C R' hR hC hcl hB => ?_; have X := noX; have hC' := congrArg List.length hC
    have X := And.intro X (And.intro h1 (And.intro h2 (And.intro h3 (And.intro h4 (And.intro hDi (And.intro hbn hrl))))))
    (refine run ?_; repeat' (first | with_reducible exact trivial | ((with_reducible apply Fork.mk) <;> intro hb) | with_reducible apply Two.mk))
    exact Fin.out hR ⟨rfl, rfl⟩
  have hd : D i = false := by simpa using hd
  rw [hd] at hDi
  refine ACall.of_go TB [] tabOK _ Tryz.func58 rfl (by decide) Tryz.ntmps58 (by simp) rfl (by simp only [initEnv, Nat.reduceAdd]; rfl) fun C R' hR hC hcl hB => ?_; have X := noX; have hC' := congrArg List.length hC
  have X := And.intro X (And.intro h1 (And.intro h2 (And.intro h3 (And.intro h4 (And.intro hDi (And.intro hbn (And.intro hrl hx)))))))
  (refine run ?_; repeat' (first | with_reducible exact trivial | ((with_reducible apply Fork.mk) <;> intro hb) | with_reducible apply Two.mk))
  refine go_range rfl rfl rfl ?_
  (refine run ?_; repeat' (first | with_reducible exact trivial | ((with_reducible apply Fork.mk) <;> intro hb) | with_reducible apply Two.mk))
  refine go_loop (fun idx : List Nat => [(0, .int .i64 i), (1, .ptr db 0 0 0), (2, .ptr rb 0 0 0), (13, .imap b clk born (some .i64) (kI V) (vI V)), (14, .it H.length)]) (fun idx => H ++ [.obj (.mapIter (some b) clk (idx.map fun i => born.getD i 0).toArray clk)])
    (fun idx => V.length - idx.length) (fun idx => (idx.Nodup ∧ ∀ q ∈ idx, q < V.length) ∧ ∀ q ∈ idx, okR R D i (V.getD q 0) = true) [] ⟨⟨List.nodup_nil, by simp⟩, by simp⟩ ?_ ?_
  · exact Wk.sub (by simp [subEnv, look])
  rintro K idx ⟨⟨hi1, hi2⟩, hok⟩ hK
  have hle := met_le hi1 hi2
  generalize hse : (idx.map fun i => born.getD i 0).toArray = seen
  (refine run ?_; repeat' (first | with_reducible exact trivial | ((with_reducible apply Fork.mk) <;> intro hb) | with_reducible apply Two.mk))
  refine go_next (tm := 13) rfl rfl (by simp only [get_app0]; rfl) rfl (fun hall => ?_) (fun q bb qk y hbq hsn hq hy2 => ?_)
  · (refine run ?_; repeat' (first | with_reducible exact trivial | ((with_reducible apply Fork.mk) <;> intro hb) | with_reducible apply Two.mk))
    have e1 : rdyF n R D i = true := by
      unfold rdyF
      rw [hd]
      simp only [Bool.not_false, Bool.true_and, List.all_eq_true, List.mem_range]
      intro j hj
      cases hrj : R i j with
      | false => rfl
      | true =>
        obtain ⟨q, hq, e⟩ := List.mem_iff_getElem.1 ((hV j).2 hrj)
        have h := hok q (met_all hnd hbl hi2 (fun b hb => by rw [hse]; exact hall b hb) q hq)
        rw [List.getD_eq_getElem?_getD, List.getElem?_eq_getElem hq, Option.getD_some, e] at h
        unfold okR at h
        simp only [Bool.or_eq_true, beq_iff_eq] at h ⊢
        rcases h with (h | h) | h
        · exact .inl (.inl (.inr h))
        · exact .inl (.inr h.symm)
        · exact .inr h
    rw [e1] at hR
    exact finS (n0 := H.length) hR hC' hcl (.same _ rfl) ⟨rfl, rfl⟩
  · have hqV : q < V.length := by have := (List.getElem?_eq_some_iff.1 hbq).1; omega
    have hq' : qk = iv V[q] := by rw [kI, List.getElem?_map, List.getElem?_eq_getElem hqV] at hq; cases hq; rfl
    subst hq'
    have hni : q ∉ idx := fun hm => by
      rw [← hse] at hsn
      have : (idx.map fun i => born.getD i 0).toArray.contains bb = true := by
        simp only [List.contains_toArray, List.contains_iff_mem, List.mem_map]
        exact ⟨q, hm, by rw [List.getD_eq_getElem?_getD, hbq]; rfl⟩
      rw [this] at hsn; cases hsn
    have hlt : idx.length < V.length := by
      have := met_le (n := V.length) (idx := idx ++ [q]) (List.nodup_append.2 ⟨hi1, by simp, by simp; exact fun a ha e => hni (e ▸ ha)⟩) (by simp only [List.mem_append, List.mem_singleton]; exact fun a ha => ha.elim (hi2 a) (fun e => e ▸ hqV))
      simp at this; omega
    have hRk : R i V[q] = true := (hV _).1 (List.getElem_mem hqV)
    have hkn : V[q] < n := hr.lt _ _ hRk
    obtain ⟨b2, clk2, born2, V2, hx2, _, _, hV2⟩ := hr.get hkn
    rw [set_app0, List.set_cons_zero]
    (refine run ?_; repeat' (first | with_reducible exact trivial | ((with_reducible apply Fork.mk) <;> intro hb) | with_reducible apply Two.mk))
    refine go_entry (tm := 13) rfl rfl (by simp only [get_app0]; rfl) hbq (by rw [kI, List.getElem?_map, List.getElem?_eq_getElem hqV]; rfl) hy2 rfl ?_
    have hDk := blB_get (D := D) hkn
    have hlk : (findSV ((kI V2).zip (vI V2)) (iv i)).getD (.bool false) = .bool (R V[q] i) := by
      rw [esI_zip, getD_esI]; congr 1
      have := hV2 i
      cases hb : R V[q] i <;> simp_all
    have X := And.intro noX (And.intro h1 (And.intro h2 (And.intro h3 (And.intro h4 (And.intro hDk (And.intro hbn (And.intro hrl (And.intro hx2 hlk))))))))
    have l1 : db < H.length := (List.getElem?_eq_some_iff.1 h1).1
    have l2 : dc < H.length := (List.getElem?_eq_some_iff.1 h2).1
    have l3 : rb < H.length := (List.getElem?_eq_some_iff.1 h3).1
    have l4 : rc < H.length := (List.getElem?_eq_some_iff.1 h4).1
    have hoe : okR R D i V[q] = (D V[q] || V[q] == i || R V[q] i) := rfl
    generalize hkk : V[q] = kk at *
    generalize hz1 : D kk = z1 at *
    generalize hz2 : R kk i = z2 at *
    (refine run ?_; repeat' (first | with_reducible exact trivial | ((with_reducible apply Fork.mk) <;> intro hb) | with_reducible apply Two.mk))
    · have e1 : rdyF n R D i = false := by
        cases hrd : rdyF n R D i with
        | false => rfl
        | true =>
          simp only [Bool.and_eq_true, Bool.not_eq_true', decide_eq_true_eq] at hb
          rcases (rdy_parts hrd).2 kk hkn hRk with h | h | h
          · rw [hz1, hb.1.1] at h; cases h
          · exact absurd (by omega) hb.1.2
          · rw [hz2, hb.2] at h; cases h
      rw [e1] at hR
      exact finS (n0 := H.length) hR hC' hcl (.same _ rfl) ⟨rfl, rfl⟩
    · have e2 : ((idx ++ [q]).map fun i => born.getD i 0).toArray = seen.push bb := by
        rw [List.map_append, ← hse]; simp [hbq]
      have hqq : V.getD q 0 = kk := by rw [List.getD_eq_getElem?_getD, List.getElem?_eq_getElem hqV, Option.getD_some, hkk]
      refine hK _ _ (idx ++ [q]) (by simp; omega) ⟨⟨List.nodup_append.2 ⟨hi1, by simp, by simp; exact fun a ha e => hni (e ▸ ha)⟩, by simp only [List.mem_append, List.mem_singleton]; exact fun a ha => ha.elim (hi2 a) (fun e => e ▸ hqV)⟩, fun a ha => ?_⟩ ?_
      · rcases List.mem_append.1 ha with ha | ha
        · exact hok a ha
        · rw [List.mem_singleton.1 ha, hqq, hoe]
          by_cases h : kk = i
          · simp [h]
          · have h' : ¬ (kk : Int) = (i : Int) := by omega
            revert hb
            cases z1 <;> cases z2 <;> simp [h, h']
      · rw [e2]
        exact Wk.sub (by simp [subEnv, look])
end Go.Proofs.YtcopfafknmpneaaGreatDoor
end

section
namespace Go.Proofs.YtcopfafknmpneaaGreatDoor
open Go
set_option linter.unusedSimpArgs false
set_option linter.unusedVariables false
set_option maxRecDepth 10000
set_option maxHeartbeats 4000000

/-! ### the reference's matrix: a block a row -/
def slC (base n r : Nat) : List SV := (List.range n).map fun a => if a < r then .sl (base + (1 + a)) 0 0 n else .nil
def rowsB (n r : Nat) (M : RelB) : List Blk := (List.range r).map fun a => .cells 0 1 (blB n (M a))
def rowsH (H : List Blk) (n r : Nat) (M : RelB) : List Blk := H ++ (.cells 0 1 (slC H.length n r) :: rowsB n r M)
def mL (n : Nat) (M : RelB) : List SV := (List.range n).map fun a => .list 1 (blB n (M a))
def gL (g : List Nat) : SV := .list 1 (g.map iv)
theorem slC_len (base n r : Nat) : (slC base n r).length = n := by simp [slC]
theorem slC_get {base n r a : Nat} (h : a < n) (h' : a < r) : (slC base n r)[a]? = some (.sl (base + (1 + a)) 0 0 n) := by simp [slC, h, h']
theorem slC_nil {base n r : Nat} (h : r < n) : (slC base n r)[r]? = some .nil := by simp [slC, h]
theorem rowsH_len (H : List Blk) (n r : Nat) (M : RelB) : (rowsH H n r M).length = H.length + (1 + r) := by simp [rowsH, rowsB]; omega
theorem rowsH_0 (H : List Blk) (n r : Nat) (M : RelB) : (rowsH H n r M)[H.length]? = some (.cells 0 1 (slC H.length n r)) := by simp [rowsH]
theorem rowsH_at (H : List Blk) {n r a : Nat} (M : RelB) (h : a < r) : (rowsH H n r M)[H.length + (1 + a)]? = some (.cells 0 1 (blB n (M a))) := by
  unfold rowsH
  rw [List.getElem?_append_right (by omega), show H.length + (1 + a) - H.length = a + 1 by omega, List.getElem?_cons_succ]
  simp [rowsB, h]
theorem blB_set {n : Nat} {D : Nat → Bool} {j : Nat} {v : Bool} : (blB n D).set j (.bool v) = blB n (fun b => if b = j then v else D b) := by
  apply List.ext_getElem?
  intro k
  rw [List.getElem?_set]
  by_cases hk : k < n
  · rw [blB_get hk, blB_get hk]
    by_cases h : j = k
    · subst h; simp [blB_len, hk]
    · rw [if_neg h, if_neg (fun e => h e.symm)]
  · have h1 : (blB n D)[k]? = none := List.getElem?_eq_none (by rw [blB_len]; omega)
    have h2 : (blB n (fun b => if b = j then v else D b))[k]? = none := List.getElem?_eq_none (by rw [blB_len]; omega)
    rw [h1, h2]
    split
    · rw [if_neg (by rw [blB_len]; omega)]
    · rfl
theorem blB_congr {n : Nat} {D D' : Nat → Bool} (h : ∀ b, b < n → D b = D' b) : blB n D = blB n D' :=
  List.map_congr_left fun b hb => by rw [h b (List.mem_range.1 hb)]
theorem rowsH_congr (H : List Blk) {n r : Nat} {M M' : RelB} (h : ∀ a b, a < r → b < n → M a b = M' a b) : rowsH H n r M = rowsH H n r M' := by
  unfold rowsH rowsB
  rw [List.map_congr_left fun a ha => by rw [blB_congr fun b hb => h a b (List.mem_range.1 ha) hb]]
theorem rowsH_upd (H : List Blk) {n r i j : Nat} (M : RelB) (v : Bool) (hi : i < r) : (rowsH H n r M).set (H.length + (1 + i)) (.cells 0 1 ((blB n (M i)).set j (.bool v))) = rowsH H n r (updR M i j v) := by
  unfold rowsH
  rw [List.set_append_right _ _ (by omega), show H.length + (1 + i) - H.length = i + 1 by omega, List.set_cons_succ]
  congr 2
  apply List.ext_getElem?
  intro k
  rw [List.getElem?_set]
  unfold rowsB
  simp only [List.getElem?_map, List.length_map, List.length_range]
  by_cases hk : k < r
  · simp only [List.getElem?_range hk, Option.map_some]
    by_cases h : i = k
    · subst h
      rw [if_pos rfl, if_pos hk, blB_set]
      congr 2
      exact blB_congr fun b _ => by simp [updR]
    · rw [if_neg h]
      congr 2
      exact blB_congr fun b _ => by rw [updR, if_neg (fun e => h e.1.symm)]
  · have hn : (List.range r)[k]? = none := List.getElem?_eq_none (by simp; omega)
    rw [hn]
    split
    · omega
    · rfl
theorem slC_set {base n i : Nat} (h : i < n) : (slC base n i).set i (.sl (base + (1 + i)) 0 0 n) = slC base n (i + 1) := by
  apply List.ext_getElem?
  intro k
  rw [List.getElem?_set]
  unfold slC
  simp only [List.getElem?_map, List.length_map, List.length_range]
  by_cases hk : k < n
  · simp only [List.getElem?_range hk, Option.map_some]
    by_cases e : i = k
    · subst e; simp [h]
    · rw [if_neg e]
      congr 1
      by_cases h2 : k < i
      · rw [if_pos h2, if_pos (by omega)]
      · rw [if_neg h2, if_neg (by omega)]
  · have hn : (List.range n)[k]? = none := List.getElem?_eq_none (by simp; omega)
    rw [hn]
    split
    · rename_i e
      exact absurd h (by omega)
    · rfl
theorem rowsH_new (H : List Blk) {n i : Nat} (M : RelB) (h : i < n) : (rowsH H n i M).set H.length (.cells 0 1 ((slC H.length n i).set i (.sl (H.length + (1 + i)) 0 0 n))) ++ [.cells 0 1 (List.replicate n (.bool false))] = rowsH H n (i + 1) (fun a b => if a < i then M a b else false) := by
  rw [slC_set h]
  unfold rowsH
  rw [List.set_append_right _ _ (Nat.le_refl _), Nat.sub_self, List.set_cons_zero, List.append_assoc, List.cons_append]
  congr 2
  unfold rowsB
  rw [List.range_succ, List.map_append, List.map_singleton]
  congr 1
  · exact List.map_congr_left fun a ha => by rw [blB_congr (D' := fun b => if a < i then M a b else false) fun b _ => by rw [if_pos (List.mem_range.1 ha)]]
  · congr 2
    unfold blB
    simp only [Nat.lt_irrefl, if_false]
    exact (List.eq_replicate_iff.2 ⟨by simp, by simp⟩).symm
theorem FrzL.mapF {α : Type} {H : List Blk} {n : Nat} {ks : Keep} {f g : α → SV} : ∀ {l : List α}, (∀ a ∈ l, Frz H n ks (f a) (g a)) → FrzL H n ks (l.map f) (l.map g)
  | [], _ => .nil
  | x :: r, h => .cons _ _ _ _ (h x (List.mem_cons_self ..)) (FrzL.mapF fun a ha => h a (List.mem_cons_of_mem _ ha))
theorem blB_under (m n : Nat) (D : Nat → Bool) : SV.underL m (blB n D) = true := SV.underL_map fun _ _ => rfl
theorem rows_frz (H : List Blk) (n : Nat) (M : RelB) : Frz (rowsH H n n M) H.length [] (.sl H.length 0 0 n) (.list 1 (mL n M)) := by
  refine .sl _ _ _ _ _ _ _ (rowsH_0 H n n M) (Nat.le_refl _) (by simp) ?_
  rw [List.drop_zero, List.take_of_length_le (by rw [slC_len]; exact Nat.le_refl _)]
  unfold slC mL
  refine FrzL.mapF fun a ha => ?_
  have ha := List.mem_range.1 ha
  rw [if_pos ha]
  exact Frz.sf (rowsH_at H M ha) (by omega) (by simp) (by rw [List.drop_zero, List.take_of_length_le (by rw [blB_len]; exact Nat.le_refl _)]) (blB_under _ _ _)
theorem mL_len (n : Nat) (M : RelB) : (mL n M).length = n := by simp [mL]
theorem mL_get {n a : Nat} {M : RelB} (h : a < n) : (mL n M)[a]? = some (.list 1 (blB n (M a))) := by simp [mL, h]
theorem mL_under (m n : Nat) (M : RelB) : SV.underL m (mL n M) = true := SV.underL_map fun a _ => by simp only [SV.under, blB_under]
theorem gL_under (m : Nat) (gs : List (List Nat)) : SV.underL m (gs.map gL) = true := SV.underL_map fun a _ => by
  show SV.underL m (a.map iv) = true
  exact SV.underL_map fun _ _ => rfl
/-- ready, as far as it has been looked into -/
def rdyP (R : RelB) (D : Nat → Bool) (i j : Nat) : Bool := !D i && (List.range j).all fun k => !R i k || D k || i == k || R k i
theorem rdyP_succ (R : RelB) (D : Nat → Bool) (i j : Nat) : rdyP R D i (j + 1) = (rdyP R D i j && (!R i j || D j || i == j || R j i)) := by
  simp [rdyP, List.range_succ, Bool.and_assoc]
/-- a group, and what is done, as far as it has been gone through -/
def grpP (R : RelB) (i k : Nat) : List Nat := (List.range k).filter (mutR R i)
def orP (R : RelB) (i k : Nat) (D : Nat → Bool) : Nat → Bool := fun j => D j || (decide (j < k) && mutR R i j)
theorem grpP_succ (R : RelB) (i k : Nat) : grpP R i (k + 1) = grpP R i k ++ if mutR R i k = true then [k] else [] := by
  simp only [grpP, List.range_succ, List.filter_append, List.filter_cons, List.filter_nil]
theorem orP_zero (R : RelB) (i : Nat) (D : Nat → Bool) : orP R i 0 D = D := by funext j; simp [orP]
theorem orP_yes {R : RelB} {i k : Nat} {D : Nat → Bool} (h : mutR R i k = true) : (fun b => if b = k then true else orP R i k D b) = orP R i (k + 1) D := by
  funext b
  unfold orP
  by_cases e : b = k
  · subst e; simp [h]
  · rw [if_neg e]
    have : (b < k + 1) = (b < k) := by simp; omega
    simp only [this]
theorem orP_no {R : RelB} {i k : Nat} {D : Nat → Bool} (h : mutR R i k = false) : orP R i (k + 1) D = orP R i k D := by
  funext b
  unfold orP
  by_cases e : b = k
  · subst e; simp [h]
  · have : (b < k + 1) = (b < k) := by simp; omega
    simp only [this]
theorem orP_all {R : RelB} {i n : Nat} {D : Nat → Bool} : ∀ b, b < n → orP R i n D b = orD R i D b := fun b hb => by simp [orP, orD, hb]
theorem grpP_len_le (R : RelB) (i : Nat) {k n : Nat} (h : k ≤ n) : (grpP R i k).length ≤ (grpF n R i).length := by
  unfold grpP grpF
  exact (List.Sublist.filter _ (List.range_sublist.2 h)).length_le
end Go.Proofs.YtcopfafknmpneaaGreatDoor
end

section
namespace Go.Proofs.YtcopfafknmpneaaGreatDoor
open Go
set_option linter.unusedSimpArgs false
set_option linter.unusedVariables false
set_option maxRecDepth 10000
set_option maxHeartbeats 4000000

theorem rowsH_zero (H : List Blk) (n : Nat) (M : RelB) : H ++ [.cells 0 1 (List.replicate n .nil)] = rowsH H n 0 M := by
  unfold rowsH rowsB slC
  congr 2
  simp only [Nat.not_lt_zero, if_false]
  congr 1
  exact (List.eq_replicate_iff.2 ⟨by simp, by simp⟩).symm
def eRow (binds : List Bd) (i : Nat) (F : List Str) (p : Nat) : RelB := fun a b => if a < i then edgF binds a b else decide (b ∈ (F.take p).filterMap (fstI (binds.map Bd.name)))
theorem eRow_zero (binds : List Bd) (i : Nat) (F : List Str) : (fun a b => if a < i then edgF binds a b else false) = eRow binds i F 0 := by
  funext a b; simp [eRow]
theorem eRow_none {binds : List Bd} {i : Nat} {F : List Str} {p : Nat} (hp : p < F.length) (h : fstI (binds.map Bd.name) F[p] = none) : eRow binds i F (p + 1) = eRow binds i F p := by
  unfold eRow; rw [List.take_succ_eq_append_getElem hp, List.filterMap_append]; simp [h]
theorem eRow_some {binds : List Bd} {i : Nat} {F : List Str} {p j : Nat} (hp : p < F.length) (h : fstI (binds.map Bd.name) F[p] = some j) (H : List Blk) (n : Nat) : rowsH H n (i + 1) (updR (eRow binds i F p) i j true) = rowsH H n (i + 1) (eRow binds i F (p + 1)) := by
  refine rowsH_congr H fun a b ha _ => ?_
  unfold eRow updR
  rw [List.take_succ_eq_append_getElem hp, List.filterMap_append]
  by_cases h1 : a = i ∧ b = j
  · rw [if_pos h1, if_neg (by omega), h1.2]; simp [h]
  · rw [if_neg h1]
    by_cases h2 : a < i
    · simp only [if_pos h2]
    · simp only [if_neg h2]
      have : b ≠ j := fun e => h1 ⟨by omega, e⟩
      simp [h, this]
theorem eRow_all {binds : List Bd} {i : Nat} (hi : i < binds.length) (H : List Blk) (n : Nat) : rowsH H n (i + 1) (eRow binds i (freeS binds[i].e) (freeS binds[i].e).length) = rowsH H n (i + 1) (edgF binds) := by
  refine rowsH_congr H fun a b ha _ => ?_
  unfold eRow
  by_cases h : a < i
  · rw [if_pos h]
  · obtain rfl : a = i := by omega
    rw [if_neg h, List.take_length]
    unfold edgF usesF
    rw [List.getElem?_eq_getElem hi]

theorem rows_wk {G : Gl} {nt : Nat} {C : Cx} {env : Env} {H : List Blk} (hG : GClosed G) (hB : Based G C.H.length) (hC : C.H.length = H.length) (hcl : closed H) (n : Nat) (M : RelB) {v : SV} (hv : v.under H.length = true) (h3 : look env 3 = some v) (h4 : look env 4 = some (.sl H.length 0 0 n)) :
    Wk G nt C ⟨env, rowsH H n n M⟩ ⟨[(3, v), (4, .list 1 (mL n M))], H⟩ := by
  have h : Wk G nt C ⟨env, rowsH H n n M⟩ ⟨[(3, v), (4, .list 1 (mL n M))], H ++ []⟩ := Wk.keepN (H := H) (X := .cells 0 1 (slC H.length n n) :: rowsB n n M) (KB := []) [] hG hB rfl hC hcl .nil (by simp) ⟨⟨_, h3, .same _ hv⟩, ⟨_, h4, rows_frz H n M⟩, trivial⟩
  rwa [List.append_nil] at h
theorem blB_false (n : Nat) : List.replicate n (SV.bool false) = blB n fun _ => false := by
  unfold blB
  exact (List.eq_replicate_iff.2 ⟨by simp, by simp⟩).symm
theorem rgroups_ok (G : Gl) (hG : GClosed G) (binds : List Bd) (hn : binds.length < 1000) (hw : ∀ b ∈ binds, b.e.wt < 4294967296) (H : List Blk) :
    ACall Tryz.prog G 26 [.list 9 (bdCells binds)] H (fun r H' => H' = H ∧ r = .list 1 ((groupsF binds.length (reaF binds)).map gL)) := by
  refine ACall.of_go TB [12, 18] tabOK _ Tryz.func26 rfl (by decide) Tryz.ntmps26 (by simp) rfl (by simp only [initEnv, Nat.reduceAdd]; rfl) fun C R' hR hC hcl hB => ?_; have X := noX; have hC' := congrArg List.length hC
  (refine run ?_; repeat' (first | with_reducible exact trivial | ((with_reducible apply Fork.mk) <;> intro hb) | with_reducible apply Two.mk))
  refine go_loop (fun i : Nat => [(0, .list 9 (bdCells binds)), (3, .int .i64 binds.length), (4, .sl H.length 0 0 binds.length), (5, .int .i64 i)])
    (fun i => rowsH H binds.length i (edgF binds)) (fun i => binds.length - i) (fun i => i ≤ binds.length) 0 (Nat.zero_le _) ?_ ?_
  · rw [← rowsH_zero]
    exact Wk.sub (by simp [subEnv, look])
  · rintro K i hi hK
    rcases Nat.lt_or_ge i binds.length with hlt | hge
    · have c1 := fun H => rFreeL_ok G hG binds[i].e (by have := hw binds[i] (List.getElem_mem hlt); omega) H
      have hFl : (freeS binds[i].e).length ≤ binds[i].e.wt := by
        have := unb_len binds[i].e.wt binds[i].e ([], [])
        rw [freeS, sortS_len]
        simpa using this
      have hwi := hw binds[i] (List.getElem_mem hlt)
      have hal := eRow_all hlt H binds.length
      generalize freeS binds[i].e = F at *
      have h0 := rowsH_0 H binds.length i (edgF binds)
      have hl0 := rowsH_len H binds.length i (edgF binds)
      have hl1 : H.length < (rowsH H binds.length i (edgF binds)).length := by omega
      have X := And.intro noX (And.intro h0 (And.intro hl0 (And.intro (slC_len H.length binds.length i) (slC_nil (base := H.length) hlt))))
      (refine run ?_; repeat' (first | with_reducible exact trivial | ((with_reducible apply Fork.mk) <;> intro hb) | with_reducible apply Two.mk))
      rw [rowsH_new H (edgF binds) hlt, eRow_zero binds i F]
      refine go_loop (fun p : Nat => [(0, .list 9 (bdCells binds)), (3, .int .i64 binds.length), (4, .sl H.length 0 0 binds.length), (5, .int .i64 i), (6, .list 1 (F.map .str)), (7, .int .i64 p)])
        (fun p => rowsH H binds.length (i + 1) (eRow binds i F p)) (fun p => F.length - p) (fun p => p ≤ F.length) 0 (Nat.zero_le _) (Wk.sub (by simp [subEnv, look])) ?_
      clear X h0 hl0 hl1
      rintro K2 p hp hK2
      rcases Nat.lt_or_ge p F.length with hlp | hge
      · have X := noX
        (refine run ?_; repeat' (first | with_reducible exact trivial | ((with_reducible apply Fork.mk) <;> intro hb) | with_reducible apply Two.mk))
        refine go_loop (fun j : Nat => [(0, .list 9 (bdCells binds)), (3, .int .i64 binds.length), (4, .sl H.length 0 0 binds.length), (5, .int .i64 i), (6, .list 1 (F.map .str)), (7, .int .i64 p), (8, .int .i64 j)])
          (fun _ => rowsH H binds.length (i + 1) (eRow binds i F p)) (fun j => binds.length - j) (fun j => j ≤ binds.length ∧ ∀ (k : Nat) (h : k < binds.length), k < j → binds[k].name ≠ F[p]) 0 ⟨Nat.zero_le _, fun k _ h => by omega⟩ (Wk.sub (by simp [subEnv, look])) ?_
        rintro K3 j ⟨hj, hne⟩ hK3
        rcases Nat.lt_or_ge j binds.length with hlj | hgj
        · have hnm : binds[j].name = F[p] → rowsH H binds.length (i + 1) (updR (eRow binds i F p) i j true) = rowsH H binds.length (i + 1) (eRow binds i F (p + 1)) := fun e =>
            eRow_some hlp (fstI_of (by simpa using hlj) (by simpa using e) (fun k hk hkj => by simpa using hne k (by simpa using hk) hkj)) H _
          have hnx : binds[j].name ≠ F[p] → ∀ (k : Nat) (h : k < binds.length), k < j + 1 → binds[k].name ≠ F[p] := fun e k hk hkj => by
            rcases Nat.lt_or_ge k j with h | h
            · exact hne k hk h
            · have : k = j := by omega
              subst this; exact e
          have hup := rowsH_upd H (n := binds.length) (r := i + 1) (i := i) (j := j) (eRow binds i F p) true (by omega)
          have h0 := rowsH_0 H binds.length (i + 1) (eRow binds i F p)
          have h1 := rowsH_at H (n := binds.length) (r := i + 1) (a := i) (eRow binds i F p) (by omega)
          have X := And.intro noX (And.intro h0 (And.intro h1 (And.intro (slC_len H.length binds.length (i + 1)) (And.intro (slC_get (base := H.length) hlt (show i < i + 1 by omega)) (And.intro (blB_len binds.length (eRow binds i F p i)) (blB_get (D := eRow binds i F p i) hlj))))))
          (refine run ?_; repeat' (first | with_reducible exact trivial | ((with_reducible apply Fork.mk) <;> intro hb) | with_reducible apply Two.mk))
          · refine hK2 _ _ (p + 1) (by omega) (by omega) ?_
            rw [hup, hnm hb]
            exact Wk.sub (by simp [subEnv, look])
          · exact hK3 _ _ (j + 1) (by omega) ⟨by omega, hnx hb⟩ (Wk.sub (by simp [subEnv, look]))
        · have hfn : fstI (binds.map Bd.name) F[p] = none := fstI_none fun k hk => by simpa using hne k (by simpa using hk) (by simp at hk; omega)
          have X := And.intro noX (show ¬ ((j : Int) < (binds.length : Int)) from by omega)
          (refine run ?_; repeat' (first | with_reducible exact trivial | ((with_reducible apply Fork.mk) <;> intro hb) | with_reducible apply Two.mk))
          refine hK2 _ _ (p + 1) (by omega) (by omega) ?_
          rw [eRow_none hlp hfn]
          exact Wk.sub (by simp [subEnv, look])
      · have hpe : p = F.length := by omega
        have X := And.intro noX (show ¬ ((p : Int) < (F.length : Int)) from by omega)
        (refine run ?_; repeat' (first | with_reducible exact trivial | ((with_reducible apply Fork.mk) <;> intro hb) | with_reducible apply Two.mk))
        refine hK _ _ (i + 1) (by omega) (by omega) ?_
        rw [hpe, hal]
        exact Wk.sub (by simp [subEnv, look])
    obtain rfl : i = binds.length := by omega
    clear hK
    have X := And.intro noX (Int.lt_irrefl (binds.length : Int))
    (refine run ?_; repeat' (first | with_reducible exact trivial | ((with_reducible apply Fork.mk) <;> intro hb) | with_reducible apply Two.mk))
    clear X
    generalize hE : edgF binds = E at *
    refine go_loop (fun k : Nat => [(3, .int .i64 binds.length), (4, .sl H.length 0 0 binds.length), (9, .int .i64 k)]) (fun k => rowsH H binds.length binds.length (warF E k)) (fun k => binds.length - k) (fun k => k ≤ binds.length) 0 (Nat.zero_le _) (Wk.sub (by simp [subEnv, look])) ?_
    rintro K k hk hK
    rcases Nat.lt_or_ge k binds.length with hlk | hgk
    · have X := noX
      (refine run ?_; repeat' (first | with_reducible exact trivial | ((with_reducible apply Fork.mk) <;> intro hb) | with_reducible apply Two.mk))
      generalize hM : warF E k = M at *
      refine go_loop (fun i : Nat => [(3, .int .i64 binds.length), (4, .sl H.length 0 0 binds.length), (9, .int .i64 k), (10, .int .i64 i)]) (fun i => rowsH H binds.length binds.length (warP k i 0 M)) (fun i => binds.length - i) (fun i => i ≤ binds.length) 0 (Nat.zero_le _) (by rw [warP_zero]; exact Wk.sub (by simp [subEnv, look])) ?_
      rintro K2 i hi hK2
      rcases Nat.lt_or_ge i binds.length with hli | hgi
      · have X := noX
        (refine run ?_; repeat' (first | with_reducible exact trivial | ((with_reducible apply Fork.mk) <;> intro hb) | with_reducible apply Two.mk))
        refine go_loop (fun j : Nat => [(3, .int .i64 binds.length), (4, .sl H.length 0 0 binds.length), (9, .int .i64 k), (10, .int .i64 i), (11, .int .i64 j)]) (fun j => rowsH H binds.length binds.length (warP k i j M)) (fun j => binds.length - j) (fun j => j ≤ binds.length) 0 (Nat.zero_le _) (Wk.sub (by simp [subEnv, look])) ?_
        rintro K3 j hj hK3
        rcases Nat.lt_or_ge j binds.length with hlj | hgj
        · have hv := warP_val k i j M
          have hu := warP_upd k i j M
          rw [← hv] at hu
          have hnew := rowsH_upd H (n := binds.length) (r := binds.length) (i := i) (j := j) (warP k i j M) (warP k i j M i j || (warP k i j M i k && warP k i j M k j)) hli
          rw [hu] at hnew
          have h0 := rowsH_0 H binds.length binds.length (warP k i j M)
          have h1 := rowsH_at H (n := binds.length) (r := binds.length) (a := i) (warP k i j M) hli
          have h2 := rowsH_at H (n := binds.length) (r := binds.length) (a := k) (warP k i j M) hlk
          have b1 := blB_get (D := warP k i j M i) hlj
          have b2 := blB_get (D := warP k i j M i) hlk
          have b3 := blB_get (D := warP k i j M k) hlj
          have X := And.intro noX (And.intro h0 (And.intro h1 (And.intro h2 (And.intro (slC_len H.length binds.length binds.length) (And.intro (slC_get (base := H.length) hli hli) (And.intro (slC_get (base := H.length) hlk hlk) (And.intro (blB_len binds.length (warP k i j M i)) (And.intro (blB_len binds.length (warP k i j M k)) (And.intro b1 (And.intro b2 b3))))))))))
          clear hv hu
          (refine run ?_; repeat' (first | with_reducible exact trivial | ((with_reducible apply Fork.mk) <;> intro hb) | with_reducible apply Two.mk))
          refine hK3 _ _ (j + 1) (by omega) (by omega) ?_
          rw [← hnew]
          exact Wk.sub (by simp [subEnv, look])
        · have X := And.intro noX (show ¬ ((j : Int) < (binds.length : Int)) from by omega)
          obtain rfl : j = binds.length := by omega
          (refine run ?_; repeat' (first | with_reducible exact trivial | ((with_reducible apply Fork.mk) <;> intro hb) | with_reducible apply Two.mk))
          refine hK2 _ _ (i + 1) (by omega) (by omega) ?_
          rw [rowsH_congr H fun a b _ hb => warP_row k i binds.length M a b hb]
          exact Wk.sub (by simp [subEnv, look])
      · have X := And.intro noX (show ¬ ((i : Int) < (binds.length : Int)) from by omega)
        obtain rfl : i = binds.length := by omega
        (refine run ?_; repeat' (first | with_reducible exact trivial | ((with_reducible apply Fork.mk) <;> intro hb) | with_reducible apply Two.mk))
        refine hK _ _ (k + 1) (by omega) (by omega) ?_
        rw [rowsH_congr H fun a b ha _ => warP_all k binds.length M a b ha, ← hM]
        exact Wk.sub (by simp [subEnv, look])
    obtain rfl : k = binds.length := by omega
    clear hK
    have hR0 : warF E binds.length = reaF binds := by rw [← hE]; rfl
    rw [hR0]
    have htr := reaF_tr binds
    have X := noX
    (refine runC ?_; repeat' (first | with_reducible exact trivial | ((with_reducible apply Fork.mk) <;> intro hb) | with_reducible apply Two.mk))
    refine go_condDF rfl (by omega) ?_
    refine go_wkC _ _ (rows_wk (v := .int .i64 binds.length) hG hB hC' hcl binds.length (reaF binds) rfl rfl rfl) ?_
    generalize reaF binds = R at *
    (refine run ?_; repeat' (first | with_reducible exact trivial | ((with_reducible apply Fork.mk) <;> intro hb) | with_reducible apply Two.mk))
    rw [blB_false]
    generalize hnn : binds.length = n at *
    have u0 : (SV.list 1 (mL n R)).under H.length = true := mL_under _ _ _
    have hgf : groupsF n R = grpsF n R (cntD n fun _ => false) fun _ => false := by rw [cnt_none]; rfl
    rw [hgf] at hR
    refine go_loop (fun a : (Nat → Bool) × List (List Nat) => [(3, .int .i64 n), (4, .list 1 (mL n R)), (12, .sl H.length 0 0 a.2.length), (13, .sl (H.length + 1) 0 0 n), (14, .int .i64 (cntD n a.1))])
      (fun a => H ++ [.cells 0 1 (a.2.map gL), .cells 0 1 (blB n a.1)]) (fun a => cntD n a.1) (fun a => (OkD n R a.1 ∧ cntD n a.1 ≤ n ∧ a.2.length + cntD n a.1 ≤ n) ∧ a.2 ++ grpsF n R (cntD n a.1) a.1 = grpsF n R (cntD n fun _ => false) fun _ => false) (fun _ => false, []) ⟨⟨(fun j k _ h => by cases h), (by simp only [cnt_none]; exact Nat.le_refl _), (by simp only [cnt_none, List.length_nil]; omega)⟩, rfl⟩ ?_ ?_
    · simp only [cnt_none, List.length_nil, List.map_nil]
      exact wkS (n0 := H.length) [(H.length, 0), (H.length + 1, 0)] hG hB hC' hcl
    rintro K ⟨D, outs⟩ ⟨⟨hD, hcn, hol⟩, heq⟩ hK
    simp only at hD hcn hol heq
    dsimp only
    have u1 : SV.underL H.length (List.drop 0 (outs.map gL)) = true := gL_under _ _
    have u2 : (SV.list 1 (outs.map gL)).under H.length = true := gL_under _ _
    rcases Nat.eq_zero_or_pos (cntD n D) with h0 | h0
    · rw [grps_done h0, List.append_nil] at heq
      have X := And.intro noX (show ¬ ((0 : Int) < (cntD n D : Int)) from by omega)
      (refine run ?_; repeat' (first | with_reducible exact trivial | ((with_reducible apply Fork.mk) <;> intro hb) | with_reducible apply Two.mk))
      exact finS (n0 := H.length) (y := .list 1 (outs.map gL)) hR hC' hcl (Frz.sf (by rw [get_app0]; rfl) (by omega) (by simp) (by rw [List.drop_zero, List.take_of_length_le (by simp)]) (gL_under _ _)) ⟨rfl, by rw [heq]⟩
    · obtain ⟨i0, hi0, hr0, hn0, hok0, hc0, hp0, hnew0, hst⟩ := grps_step htr hD h0
      have X := And.intro noX (show ((0 : Int) < (cntD n D : Int)) from by omega)
      (refine run ?_; repeat' (first | with_reducible exact trivial | ((with_reducible apply Fork.mk) <;> intro hb) | with_reducible apply Two.mk))
      clear X
      refine go_loop (fun i : Nat => [(3, .int .i64 n), (4, .list 1 (mL n R)), (12, .sl H.length 0 0 outs.length), (13, .sl (H.length + 1) 0 0 n), (14, .int .i64 (cntD n D)), (15, .int .i64 i)])
        (fun i => H ++ [.cells 0 1 (outs.map gL), .cells 0 1 (blB n D)]) (fun i => n - i) (fun i => i ≤ i0) 0 (Nat.zero_le _) (wkS (n0 := H.length) [(H.length, 0), (H.length + 1, 0)] hG hB hC' hcl) ?_
      rintro K2 i hi hK2
      have hin : i < n := by omega
      have b1 := blB_get (D := D) hin
      have X := And.intro noX (And.intro (blB_len n D) (And.intro b1 (show ((i : Int) < (n : Int)) from by omega)))
      (refine run ?_; repeat' (first | with_reducible exact trivial | ((with_reducible apply Fork.mk) <;> intro hb) | with_reducible apply Two.mk))
      refine go_loop (fun j : Nat => [(3, .int .i64 n), (4, .list 1 (mL n R)), (12, .sl H.length 0 0 outs.length), (13, .sl (H.length + 1) 0 0 n), (14, .int .i64 (cntD n D)), (15, .int .i64 i), (16, .bool (rdyP R D i j)), (17, .int .i64 j)])
        (fun j => H ++ [.cells 0 1 (outs.map gL), .cells 0 1 (blB n D)]) (fun j => n - j) (fun j => j ≤ n) 0 (Nat.zero_le _) ?_ ?_
      · have e : rdyP R D i 0 = !D i := by simp [rdyP]
        rw [e]
        exact wkS (n0 := H.length) [(H.length, 0), (H.length + 1, 0)] hG hB hC' hcl
      rintro K3 j hj hK3
      rcases Nat.lt_or_ge j n with hlj | hgj
      · have es := rdyP_succ R D i j
        have d1 := mL_get (M := R) hin
        have d2 := mL_get (M := R) hlj
        have d3 := blB_get (D := R i) hlj
        have d4 := blB_get (D := D) hlj
        have d5 := blB_get (D := R j) hin
        have X := And.intro noX (And.intro (blB_len n D) (And.intro (mL_len n R) (And.intro (blB_len n (R i)) (And.intro (blB_len n (R j)) (And.intro d1 (And.intro d2 (And.intro d3 (And.intro d4 (And.intro d5 (show ((j : Int) < (n : Int)) from by omega))))))))))
        have ed : (i == j) = decide ((i : Int) = (j : Int)) := by
          by_cases h : i = j
          · subst h; simp
          · have h' : ¬ (i : Int) = (j : Int) := by omega
            simp [h, h']
        rw [ed] at es
        (refine run ?_; repeat' (first | with_reducible exact trivial | ((with_reducible apply Fork.mk) <;> intro hb) | with_reducible apply Two.mk))
        refine hK3 _ _ (j + 1) (by omega) (by omega) ?_
        rw [es]
        exact (wkS (n0 := H.length) [(H.length, 0), (H.length + 1, 0)] hG hB hC' hcl)
      · have hjn : j = n := by omega
        have er : rdyP R D i j = rdyF n R D i := by rw [hjn]; rfl
        rw [er]
        clear er
        rcases Nat.lt_or_ge i i0 with hii | hii
        · rw [hn0 i hii]
          have X := And.intro noX (show ¬ ((j : Int) < (n : Int)) from by omega)
          (refine run ?_; repeat' (first | with_reducible exact trivial | ((with_reducible apply Fork.mk) <;> intro hb) | with_reducible apply Two.mk))
          exact hK2 _ _ (i + 1) (by omega) (by omega) (wkS (n0 := H.length) [(H.length, 0), (H.length + 1, 0)] hG hB hC' hcl)
        · obtain rfl : i = i0 := by omega
          rw [hr0]
          have X := And.intro noX (show ¬ ((j : Int) < (n : Int)) from by omega)
          (refine run ?_; repeat' (first | with_reducible exact trivial | ((with_reducible apply Fork.mk) <;> intro hb) | with_reducible apply Two.mk))
          clear X
          refine go_loop (fun k : Nat => [(3, .int .i64 n), (4, .list 1 (mL n R)), (12, .sl H.length 0 0 outs.length), (13, .sl (H.length + 1) 0 0 n), (14, .int .i64 ((cntD n D : Int) - ((grpP R i k).length : Int))), (15, .int .i64 i), (18, .sl (H.length + 2) 0 0 (grpP R i k).length), (19, .int .i64 k)])
            (fun k => H ++ [.cells 0 1 (outs.map gL), .cells 0 1 (blB n (orP R i k D)), .cells 0 1 ((grpP R i k).map iv)]) (fun k => n - k) (fun k => k ≤ n) 0 (Nat.zero_le _) ?_ ?_
          · rw [orP_zero]
            have e : grpP R i 0 = [] := rfl
            rw [e]
            simp only [List.length_nil, List.map_nil, Int.ofNat_zero, Int.sub_zero]
            exact wkS (n0 := H.length) [(H.length, 0), (H.length + 1, 0), (H.length + 2, 0)] hG hB hC' hcl
          rintro K4 k hk hK4
          have hgl := grpP_len_le R i hk
          rcases Nat.lt_or_ge k n with hlk | hgk
          · have hmr : mutR R i k = (decide ((k : Int) = (i : Int)) || (R i k && R k i)) := by
              unfold mutR
              congr 1
              by_cases h : k = i
              · subst h; simp
              · have h' : ¬ (k : Int) = (i : Int) := by omega
                simp [h, h']
            have es := grpP_succ R i k
            have d1 := mL_get (M := R) hin
            have d2 := mL_get (M := R) hlk
            have d3 := blB_get (D := R i) hlk
            have d5 := blB_get (D := R k) hin
            have hsl := grpP_len_le R i (show k + 1 ≤ n by omega)
            have X := And.intro noX (And.intro (blB_len n (orP R i k D)) (And.intro (mL_len n R) (And.intro (blB_len n (R i)) (And.intro (blB_len n (R k)) (And.intro d1 (And.intro d2 (And.intro d3 (And.intro d5 (And.intro (blB_get (D := orP R i k D) hlk) (And.intro (show ((k : Int) < (n : Int)) from by omega) (show ((grpP R i k).map iv).length = (grpP R i k).length from List.length_map ..)))))))))))
            have hrs : mutR R i k = true → (grpP R i (k + 1)).length = (grpP R i k).length + 1 := fun h => by rw [es, if_pos h, List.length_append, List.length_singleton]
            (refine run ?_; repeat' (first | with_reducible exact trivial | ((with_reducible apply Fork.mk) <;> intro hb) | with_reducible apply Two.mk))
            · rw [← hmr] at hb
              refine hK4 _ _ (k + 1) (by omega) (by omega) ?_
              rw [hrs hb, es, if_pos hb, List.map_append, List.map_singleton, blB_set, orP_yes hb]
              have e5 : (cntD n D : Int) - ((grpP R i k).length : Int) - 1 = (cntD n D : Int) - (((grpP R i k).length + 1 : Nat) : Int) := by omega
              rw [e5]
              exact wkS (n0 := H.length) [(H.length, 0), (H.length + 1, 0), (H.length + 2, 0)] hG hB hC' hcl
            · rw [← hmr] at hb
              refine hK4 _ _ (k + 1) (by omega) (by omega) ?_
              rw [es, if_neg (by simp [hb]), List.append_nil, orP_no hb]
              exact wkS (n0 := H.length) [(H.length, 0), (H.length + 1, 0), (H.length + 2, 0)] hG hB hC' hcl
          · have hkn : k = n := by omega
            subst hkn
            have hgf2 : grpP R i k = grpF k R i := rfl
            rw [hgf2, blB_congr fun b hb => orP_all b hb]
            have X := noX
            (refine runC ?_; repeat' (first | with_reducible exact trivial | ((with_reducible apply Fork.mk) <;> intro hb) | with_reducible apply Two.mk))
            refine go_condDF rfl (by omega) ?_
            refine go_wkC [(3, .int .i64 k), (4, .list 1 (mL k R)), (12, .sl H.length 0 0 outs.length), (13, .sl (H.length + 1) 0 0 k), (14, .int .i64 (cntD k (orD R i D))), (18, gL (grpF k R i))] (H ++ [.cells 0 1 (outs.map gL), .cells 0 1 (blB k (orD R i D))]) ?_ ?_
            · have e5 : (cntD k D : Int) - ((grpF k R i).length : Int) = (cntD k (orD R i D) : Int) := by omega
              rw [e5]
              unfold gL
              exact wkS (n0 := H.length) [(H.length, 0), (H.length + 1, 0)] hG hB hC' hcl
            have X := And.intro noX (show (outs.map gL).length = outs.length from List.length_map ..)
            (refine run ?_; repeat' (first | with_reducible exact trivial | ((with_reducible apply Fork.mk) <;> intro hb) | with_reducible apply Two.mk))
            have u3 : SV.underL H.length (List.drop 0 (outs.map gL ++ [gL (grpF k R i)])) = true := by
              have := gL_under H.length (outs ++ [grpF k R i])
              rwa [List.map_append, List.map_singleton] at this
            refine hK _ _ (orD R i D, outs ++ [grpF k R i]) (by simp only; omega) ⟨⟨hok0, (by simp only; omega), (by simp only [List.length_append, List.length_singleton]; omega)⟩, ?_⟩ ?_
            · simp only
              rw [List.append_assoc, List.singleton_append, ← hst]
              exact heq
            · simp only [List.map_append, List.map_singleton, List.length_append, List.length_singleton]
              exact wkS (n0 := H.length) [(H.length, 0), (H.length + 1, 0)] hG hB hC' hcl
end Go.Proofs.YtcopfafknmpneaaGreatDoor
end

section
namespace Go.Proofs.YtcopfafknmpneaaGreatDoor
open Go
set_option linter.unusedSimpArgs false
set_option linter.unusedVariables false
set_option maxRecDepth 10000
set_option maxHeartbeats 4000000

theorem findSV_lk (s : Str) : ∀ l : List (Str × Int), findSV (esB l) (.str s) = (lkB l s).map (SV.int .i64)
  | [] => rfl
  | (k, n) :: r => by
    have ih := findSV_lk s r
    simp only [esB, List.map_cons, findSV, SV.keyEq, lkB] at ih ⊢
    by_cases h : s = k
    · subst h; simp
    · have h2 : (s == k) = false := by simpa using h
      simp only [h2, Bool.false_eq_true, if_false, ih, h]
theorem setSV_lk {s : Str} {n : Int} : ∀ {l : List (Str × Int)}, lkB l s = none → setSV (esB l) (.str s) (.int .i64 n) = esB (l ++ [(s, n)])
  | [], _ => rfl
  | (k, m) :: r, h => by
    have h1 : ¬ s = k := fun e => by simp [lkB, e] at h
    have ih := setSV_lk (s := s) (n := n) (l := r) (by simpa [lkB, h1] using h)
    have h2 : (s == k) = false := by simpa using h1
    simp only [esB, List.map_cons, setSV, SV.keyEq, List.cons_append, h2, Bool.false_eq_true, if_false] at ih ⊢
    rw [ih]
theorem fstN_new {nms : List Str} {i : Nat} (hi : i < nms.length) (h : lkB (fstN nms i) nms[i] = none) : fstN nms (i + 1) = fstN nms i ++ [(nms[i], (i : Int))] := by
  rw [fstN, List.getElem?_eq_getElem hi]; simp [h]
theorem fstN_old {nms : List Str} {i : Nat} {x : Int} (hi : i < nms.length) (h : lkB (fstN nms i) nms[i] = some x) : fstN nms (i + 1) = fstN nms i := by
  rw [fstN, List.getElem?_eq_getElem hi]; simp [h]
def uC (binds : List Bd) (i : Nat) : List SV := (List.range binds.length).map fun j => if j < i then gL (usesF binds j) else .nil
def uL (binds : List Bd) : List SV := (List.range binds.length).map fun j => gL (usesF binds j)
theorem gL_under1 (m : Nat) (g : List Nat) : (gL g).under m = true := by
  show SV.underL m (g.map iv) = true
  exact SV.underL_map fun _ _ => rfl
theorem uC_under (m : Nat) (binds : List Bd) (i : Nat) : SV.underL m (uC binds i) = true := SV.underL_map fun j _ => by
  split
  · exact gL_under1 _ _
  · rfl
theorem uL_under (m : Nat) (binds : List Bd) : SV.underL m (uL binds) = true := SV.underL_map fun j _ => gL_under1 _ _
theorem uC_len (binds : List Bd) (i : Nat) : (uC binds i).length = binds.length := by simp [uC]
theorem uL_len (binds : List Bd) : (uL binds).length = binds.length := by simp [uL]
theorem uL_get {binds : List Bd} {j : Nat} (h : j < binds.length) : (uL binds)[j]? = some (gL (usesF binds j)) := by simp [uL, h]
theorem uC_nil {binds : List Bd} {i : Nat} (h : i < binds.length) : (uC binds i)[i]? = some .nil := by simp [uC, h]
theorem uC_zero (binds : List Bd) : List.replicate binds.length SV.nil = uC binds 0 := (List.eq_replicate_iff.2 ⟨by simp [uC], by simp [uC]⟩).symm
theorem uC_all (binds : List Bd) : uC binds binds.length = uL binds := List.map_congr_left fun j hj => by rw [if_pos (List.mem_range.1 hj)]
theorem uC_set {binds : List Bd} {i : Nat} (h : i < binds.length) : (uC binds i).set i (gL (usesF binds i)) = uC binds (i + 1) := by
  apply List.ext_getElem?
  intro k
  rw [List.getElem?_set]
  unfold uC
  simp only [List.getElem?_map, List.length_map, List.length_range]
  by_cases hk : k < binds.length
  · simp only [List.getElem?_range hk, Option.map_some]
    by_cases e : i = k
    · subst e; simp [h]
    · rw [if_neg e]
      congr 1
      by_cases h2 : k < i
      · rw [if_pos h2, if_pos (by omega)]
      · rw [if_neg h2, if_neg (by omega)]
  · have hn : (List.range binds.length)[k]? = none := List.getElem?_eq_none (by simp; omega)
    rw [hn]
    split
    · rename_i e
      exact absurd h (by omega)
    · rfl
theorem FrzL.setAt {H : List Blk} {n : Nat} {ks : Keep} {x y : SV} (hx : Frz H n ks x y) : ∀ {xs : List SV} {i : Nat}, SV.underL n xs = true → FrzL H n ks (xs.set i x) (xs.set i y)
  | [], _, _ => .nil
  | z :: xs, 0, h => by
    simp only [SV.underL, Bool.and_eq_true] at h
    exact .cons _ _ _ _ hx (FrzL.same h.2)
  | z :: xs, i + 1, h => by
    simp only [SV.underL, Bool.and_eq_true] at h
    exact .cons _ _ _ _ (.same _ h.1) (FrzL.setAt hx h.2)
/-- the cells of what is reached: the first ones done -/
def csR (n i : Nat) (rs : List SV) : List SV := rs ++ List.replicate (n - i) .nilmap
structure RsI (R : RelB) (i : Nat) (rs : List SV) : Prop where
  len : rs.length = i
  at_ : ∀ j (h : j < i), ∃ x, rs[j]? = some x ∧ RchA R j x
theorem lk_set {R : RelB} {j : Nat} {V : List Nat} (i : Nat) (hV : ∀ y, y ∈ V ↔ R j y = true) : (findSV ((kI V).zip (vI V)) (iv i)).getD (.bool false) = .bool (R j i) := by
  rw [esI_zip, getD_esI]; congr 1
  have := hV i
  cases hb : R j i <;> simp_all
theorem esI_under (n : Nat) : ∀ V : List Nat, belowE n (esI V) = true
  | [] => rfl
  | x :: V => by simp only [esI, List.map_cons, belowE, SV.under, Bool.true_and]; exact esI_under n V
theorem csR_len {n i : Nat} {R : RelB} {rs : List SV} (h : RsI R i rs) (hi : i ≤ n) : (csR n i rs).length = n := by simp [csR, h.len]; omega
theorem RsI.under {R : RelB} {i : Nat} {rs : List SV} (h : RsI R i rs) (m : Nat) : SV.underL m rs = true := by
  have key : ∀ l : List SV, (∀ x ∈ l, x.under m = true) → SV.underL m l = true := fun l => by
    induction l with
    | nil => intro _; rfl
    | cons x r ih => intro hx; simp only [SV.underL, hx x (List.mem_cons_self ..), ih fun y hy => hx y (List.mem_cons_of_mem _ hy), Bool.and_self]
  refine key rs fun x hx => ?_
  obtain ⟨j, hj, rfl⟩ := List.mem_iff_getElem.1 hx
  obtain ⟨y, hy, hr⟩ := h.at_ j (by rw [← h.len]; exact hj)
  rw [List.getElem?_eq_getElem hj] at hy
  cases hy
  exact hr.under m
theorem underL_app {m : Nat} : ∀ {a b : List SV}, SV.underL m a = true → SV.underL m b = true → SV.underL m (a ++ b) = true
  | [], b, _, h => h
  | x :: a, b, h, h' => by
    simp only [SV.underL, Bool.and_eq_true] at h
    simp only [List.cons_append, SV.underL, h.1, underL_app h.2 h', Bool.and_self]
theorem underL_rep {m : Nat} {x : SV} (h : x.under m = true) : ∀ k, SV.underL m (List.replicate k x) = true
  | 0 => rfl
  | k + 1 => by simp only [List.replicate_succ, SV.underL, h, underL_rep h k, Bool.and_self]
theorem csR_under (m : Nat) (R : RelB) (n : Nat) {i : Nat} {rs : List SV} (h : RsI R i rs) : SV.underL m (csR n i rs) = true := underL_app (h.under m) (underL_rep rfl _)
theorem csR_at {n i : Nat} {R : RelB} {rs : List SV} (h : RsI R i rs) (hi : i < n) (x : SV) : ((csR n i rs).set i x)[i]? = some x := List.getElem?_set_self (by rw [csR_len h (by omega)]; exact hi)
theorem csR_get {n i : Nat} {R : RelB} {rs : List SV} (h : RsI R i rs) (hi : i < n) : (csR n i rs)[i]? = some .nilmap := by
  unfold csR
  rw [List.getElem?_append_right (by rw [h.len]; exact Nat.le_refl _), h.len, Nat.sub_self]
  obtain ⟨d, hd⟩ : ∃ d, n - i = d + 1 := ⟨n - i - 1, by omega⟩
  rw [hd]; rfl
theorem csR_next {n i : Nat} {R : RelB} {rs : List SV} (h : RsI R i rs) (hi : i < n) (x : SV) : (csR n i rs).set i x = csR n (i + 1) (rs ++ [x]) := by
  unfold csR
  rw [List.set_append_right _ _ (by rw [h.len]; exact Nat.le_refl _), h.len, Nat.sub_self]
  obtain ⟨d, hd⟩ : ∃ d, n - i = d + 1 := ⟨n - i - 1, by omega⟩
  rw [hd, List.replicate_succ, List.set_cons_zero, List.append_assoc, show n - (i + 1) = d by omega]
  rfl
theorem RsI.snoc {R : RelB} {i : Nat} {rs : List SV} (h : RsI R i rs) {x : SV} (hx : RchA R i x) : RsI R (i + 1) (rs ++ [x]) := by
  refine ⟨by simp [h.len], fun j hj => ?_⟩
  rcases Nat.lt_or_ge j i with h2 | h2
  · obtain ⟨y, hy, hr⟩ := h.at_ j h2
    exact ⟨y, by rw [List.getElem?_append_left (by rw [h.len]; exact h2)]; exact hy, hr⟩
  · obtain rfl : j = i := by omega
    exact ⟨x, by rw [List.getElem?_append_right (by rw [h.len]; exact Nat.le_refl _), h.len, Nat.sub_self]; rfl, hx⟩
theorem cgroups_ok (G : Gl) (hG : GClosed G) (binds : List Bd) (hn : binds.length < 1000) (hw : ∀ b ∈ binds, b.e.wt < 4294967296) (H : List Blk) :
    ACall Tryz.prog G 25 [.list 9 (bdCells binds)] H (fun r H' => H' = H ∧ r = .list 1 ((groupsF binds.length (reaF binds)).map gL)) := by
  refine ACall.of_go TB [21, 24] tabOK _ Tryz.func25 rfl (by decide) Tryz.ntmps25 (by simp) rfl (by simp only [initEnv, Nat.reduceAdd]; rfl) fun C R' hR hC hcl hB => ?_; have X := noX; have hC' := congrArg List.length hC
  (refine run ?_; repeat' (first | with_reducible exact trivial | ((with_reducible apply Fork.mk) <;> intro hb) | with_reducible apply Two.mk))
  generalize hnms : binds.map Bd.name = nms
  have hnl : nms.length = binds.length := by rw [← hnms]; simp
  refine go_loop (fun i : Nat => [(0, .list 9 (bdCells binds)), (3, .map H.length), (27, .list 9 (bdCells binds)), (28, .int .i64 binds.length), (29, .int .i64 i)]) (fun i => H ++ [.map none (esB (fstN nms i))]) (fun i => binds.length - i) (fun i => i ≤ binds.length) 0 (Nat.zero_le _) (wkS (n0 := H.length) [(H.length, 0)] hG hB hC' hcl) ?_
  rintro K i hi hK
  rcases Nat.lt_or_ge i binds.length with hlt | hge
  · have hni : nms[i]'(by omega) = binds[i].name := by subst hnms; simp
    have hf := findSV_lk binds[i].name (fstN nms i)
    cases hl : lkB (fstN nms i) binds[i].name with
    | none =>
      have hs := setSV_lk (n := (i : Int)) hl
      have hnew := fstN_new (nms := nms) (i := i) (by omega) (by rw [hni]; exact hl)
      rw [hl] at hf
      have X := And.intro noX (And.intro hf hs)
      (refine run ?_; repeat' (first | with_reducible exact trivial | ((with_reducible apply Fork.mk) <;> intro hb) | with_reducible apply Two.mk))
      refine hK _ _ (i + 1) (by omega) (by omega) ?_
      rw [hnew, hni]
      exact wkS (n0 := H.length) [(H.length, 0)] hG hB hC' hcl
    | some x =>
      have hold := fstN_old (nms := nms) (i := i) (by omega) (by rw [hni]; exact hl)
      rw [hl] at hf
      have X := And.intro noX hf
      (refine run ?_; repeat' (first | with_reducible exact trivial | ((with_reducible apply Fork.mk) <;> intro hb) | with_reducible apply Two.mk))
      refine hK _ _ (i + 1) (by omega) (by omega) ?_
      rw [hold]
      exact wkS (n0 := H.length) [(H.length, 0)] hG hB hC' hcl
  obtain rfl : i = binds.length := by omega
  clear hK
  have X := And.intro noX (Int.lt_irrefl (binds.length : Int))
  (refine run ?_; repeat' (first | with_reducible exact trivial | ((with_reducible apply Fork.mk) <;> intro hb) | with_reducible apply Two.mk))
  clear X
  rw [uC_zero]
  refine go_loop (fun i : Nat => [(0, .list 9 (bdCells binds)), (3, .map H.length), (8, .sl (H.length + 1) 0 0 binds.length), (51, .list 9 (bdCells binds)), (52, .int .i64 binds.length), (53, .int .i64 i)]) (fun i => H ++ [.map none (esB (fstN nms binds.length)), .cells 0 1 (uC binds i)]) (fun i => binds.length - i) (fun i => i ≤ binds.length) 0 (Nat.zero_le _) ?_ ?_
  · have u := uC_under H.length binds 0
    exact wkS (n0 := H.length) [(H.length, 0), (H.length + 1, 0)] hG hB hC' hcl
  rintro K i hi hK
  rcases Nat.lt_or_ge i binds.length with hlt | hge
  · have c1 := fun H => freeL_ok G hG binds[i].e (by have := hw binds[i] (List.getElem_mem hlt); omega) H
    have hus : usesF binds i = (freeS binds[i].e).filterMap (fstI nms) := by subst hnms; unfold usesF; rw [List.getElem?_eq_getElem hlt]
    have hFl : (freeS binds[i].e).length ≤ binds[i].e.wt := by
      have := unb_len binds[i].e.wt binds[i].e ([], [])
      rw [freeS, sortS_len]
      simpa using this
    have hwi := hw binds[i] (List.getElem_mem hlt)
    generalize freeS binds[i].e = F at *
    have X := noX
    (refine run ?_; repeat' (first | with_reducible exact trivial | ((with_reducible apply Fork.mk) <;> intro hb) | with_reducible apply Two.mk))
    have u : SV.underL H.length (List.drop 0 (uC binds i)) = true := uC_under H.length binds i
    refine go_wkC [(0, .list 9 (bdCells binds)), (3, .map H.length), (8, .sl (H.length + 1) 0 0 binds.length), (9, .int .i64 i), (51, .list 9 (bdCells binds)), (52, .int .i64 binds.length), (53, .int .i64 i), (60, .list 1 (F.map .str)), (61, .int .i64 F.length), (62, .int .i64 0)] (H ++ [.map none (esB (fstN nms binds.length)), .cells 0 1 (uC binds i)]) (wkS (n0 := H.length) [(H.length, 0), (H.length + 1, 0)] hG hB hC' hcl) ?_
    refine go_wkC _ _ (wk_ghostC (id := H.length + 1) (g := 0) (s := 1) (i := i) (vals := uC binds i) 1 (by simp) (uC_nil hlt)) ?_
    simp only [set_app, List.set_cons_succ, List.set_cons_zero, List.length_append, List.length_cons, List.length_nil, List.append_assoc, List.cons_append, List.nil_append, Nat.zero_add, Nat.reduceAdd]
    refine go_loop (fun p : Nat => [(0, .list 9 (bdCells binds)), (3, .map H.length), (8, .sl (H.length + 1) 0 0 binds.length), (9, .int .i64 i), (51, .list 9 (bdCells binds)), (52, .int .i64 binds.length), (53, .int .i64 i), (60, .list 1 (F.map .str)), (61, .int .i64 F.length), (62, .int .i64 p)])
      (fun p => H ++ [.map none (esB (fstN nms binds.length)), .cells 0 1 ((uC binds i).set i (.sl (H.length + 2) 0 0 ((F.take p).filterMap (fstI nms)).length)), .cells 0 1 (((F.take p).filterMap (fstI nms)).map iv)]) (fun p => F.length - p) (fun p => p ≤ F.length) 0 (Nat.zero_le _) ?_ ?_
    · simp only [List.take_zero, List.filterMap_nil, List.length_nil, List.map_nil]
      exact Wk.sub (by simp [subEnv, look])
    rintro K2 p hp hK2
    have ust : ∀ x, ((uC binds i).set i x)[i]? = some x := fun x => List.getElem?_set_self (by rw [uC_len]; exact hlt)
    have usl : ∀ x, ((uC binds i).set i x).length = binds.length := fun x => by rw [List.length_set, uC_len]
    have hacc : ((F.take p).filterMap (fstI nms)).length ≤ F.length := Nat.le_trans (List.length_filterMap_le ..) (by simp; omega)
    rcases Nat.lt_or_ge p F.length with hlp | hgp
    · have hf := findSV_lk F[p] (fstN nms nms.length)
      rw [fstN_all, hnl] at hf
      have htk : (F.take (p + 1)).filterMap (fstI nms) = (F.take p).filterMap (fstI nms) ++ [F[p]].filterMap (fstI nms) := by rw [List.take_succ_eq_append_getElem hlp, List.filterMap_append]
      cases hl : fstI nms F[p] with
      | none =>
        rw [hl] at hf
        have htk2 : (F.take (p + 1)).filterMap (fstI nms) = (F.take p).filterMap (fstI nms) := by rw [htk]; simp [hl]
        have X := And.intro noX hf
        (refine run ?_; repeat' (first | with_reducible exact trivial | ((with_reducible apply Fork.mk) <;> intro hb) | with_reducible apply Two.mk))
        refine hK2 _ _ (p + 1) (by omega) (by omega) ?_
        rw [htk2]
        exact Wk.sub (by simp [subEnv, look])
      | some x =>
        rw [hl] at hf
        have htk2 : (F.take (p + 1)).filterMap (fstI nms) = (F.take p).filterMap (fstI nms) ++ [x] := by rw [htk]; simp [hl]
        generalize (F.take p).filterMap (fstI nms) = acc at *
        have X := And.intro noX (And.intro hf (And.intro (ust (.sl (H.length + 2) 0 0 acc.length)) (And.intro (usl (.sl (H.length + 2) 0 0 acc.length)) (show (acc.map iv).length = acc.length from List.length_map ..))))
        (refine run ?_; repeat' (first | with_reducible exact trivial | ((with_reducible apply Fork.mk) <;> intro hb) | with_reducible apply Two.mk))
        refine hK2 _ _ (p + 1) (by omega) (by omega) ?_
        rw [htk2, List.length_append, List.length_singleton, List.map_append, List.map_singleton]
        simp only [Option.getD_some]
        have uacc : SV.underL H.length (acc.map iv ++ [iv x]) = true := by
          have h : SV.underL H.length ((acc ++ [x]).map iv) = true := SV.underL_map fun _ _ => rfl
          rwa [List.map_append, List.map_singleton] at h
        exact wkS (n0 := H.length) [(H.length, 0), (H.length + 1, 0), (H.length + 2, 0)] hG hB hC' hcl (hk := KeepB.m (by rw [get_app0]; rfl) (Nat.le_refl _) (FrzE.same (esB_under _ _)) (KeepB.c (by rw [get_app]; rfl) (by omega) (Nat.zero_le _) (FrzL.setAt (by exact frzS) (uC_under _ _ _)) (KeepB.c (by rw [get_app]; rfl) (by omega) (Nat.zero_le _) (FrzL.same uacc) .nil)))
    · have hpe : p = F.length := by omega
      have X := And.intro noX (show ¬ ((p : Int) < (F.length : Int)) from by omega)
      subst hpe
      rw [List.take_length, ← hus]
      (refine run ?_; repeat' (first | with_reducible exact trivial | ((with_reducible apply Fork.mk) <;> intro hb) | with_reducible apply Two.mk))
      refine hK _ _ (i + 1) (by omega) (by omega) ?_
      rw [← uC_set hlt]
      exact wkS (n0 := H.length) [(H.length, 0), (H.length + 1, 0)] hG hB hC' hcl (hk := KeepB.m (by rw [get_app0]; rfl) (Nat.le_refl _) (FrzE.same (esB_under _ _)) (KeepB.c (by rw [get_app]; rfl) (by omega) (Nat.zero_le _) (FrzL.setAt (Frz.sf (by rw [get_app]; rfl) (by omega) (by simp) (by rw [List.drop_zero, List.take_of_length_le (by simp)]) (SV.underL_map fun _ _ => rfl)) (uC_under _ _ _)) .nil))
  obtain rfl : i = binds.length := by omega
  clear hK
  rw [uC_all]
  have X := noX
  (refine runC ?_; repeat' (first | with_reducible exact trivial | ((with_reducible apply Fork.mk) <;> intro hb) | with_reducible apply Two.mk))
  refine go_condDF rfl (by omega) ?_
  refine go_wkC [(0, .list 9 (bdCells binds)), (8, .list 1 (uL binds))] (H ++ []) ?_ ?_
  · exact Wk.keepN [] hG hB rfl hC' hcl .nil (by simp) ⟨⟨_, rfl, .same _ undS⟩, ⟨_, rfl, Frz.sf (by rw [get_app]; rfl) (by omega) (by simp) (by rw [List.drop_zero, List.take_of_length_le (by rw [uL_len]; exact Nat.le_refl _)]) (uL_under _ _)⟩, trivial⟩
  rw [List.append_nil]
  have u8 : (SV.list 1 (uL binds)).under H.length = true := uL_under _ _
  (refine run ?_; repeat' (first | with_reducible exact trivial | ((with_reducible apply Fork.mk) <;> intro hb) | with_reducible apply Two.mk))
  clear X
  have hBn : ∀ b ∈ binds, (freeS b.e).length ≤ 4294967296 := fun b hb => by
    have h1 : (freeS b.e).length ≤ b.e.wt := by
      have := unb_len b.e.wt b.e ([], [])
      rw [freeS, sortS_len]
      simpa using this
    have h2 := hw b hb
    omega
  have hRn : ∀ i j, reaF binds i j = true → j < binds.length := fun i j h => reaF_lt h
  refine go_loop (fun a : Nat × List SV => [(0, .list 9 (bdCells binds)), (8, .list 1 (uL binds)), (15, .ptr (H.length + 1) 0 0 0), (89, .int .i64 binds.length), (90, .int .i64 a.1)]) (fun a => H ++ [.cells 0 1 (csR binds.length a.1 a.2), .cells 0 1 [.sl H.length 0 0 binds.length]]) (fun a => binds.length - a.1) (fun a => a.1 ≤ binds.length ∧ RsI (reaF binds) a.1 a.2) (0, []) ⟨Nat.zero_le _, rfl, fun j h => by omega⟩ ?_ ?_
  · have u := csR_under H.length (reaF binds) binds.length (rs := []) (i := 0) ⟨rfl, fun j h => by omega⟩
    exact wkS (n0 := H.length) [(H.length, 0), (H.length + 1, 0)] hG hB hC' hcl
  rintro K ⟨i, rs⟩ ⟨hi, hrs⟩ hK
  dsimp only at hi hrs ⊢
  have u := csR_under H.length (reaF binds) binds.length hrs
  have ud : SV.underL H.length (List.drop 0 (csR binds.length i rs)) = true := u
  have hcl0 := csR_len hrs hi
  rcases Nat.lt_or_ge i binds.length with hlt | hge
  · have c1 := fun H => clone_ints G hG (usesF binds i) H (by have := usesF_len binds hBn i; omega)
    have X := And.intro noX (And.intro (csR_get hrs hlt) (And.intro hcl0 (And.intro (uL_len binds) (show (uL binds)[i]? = some (.list 1 ((usesF binds i).map iv)) from uL_get hlt))))
    (refine run ?_; repeat' (first | with_reducible exact trivial | ((with_reducible apply Fork.mk) <;> intro hb) | with_reducible apply Two.mk))
    clear X
    refine go_loop (fun a : List Nat × List Nat => [(0, .list 9 (bdCells binds)), (8, .list 1 (uL binds)), (15, .ptr (H.length + 1) 0 0 0), (16, .int .i64 i), (17, .sl (H.length + 3) 0 0 a.2.length), (89, .int .i64 binds.length), (90, .int .i64 i)])
      (fun a => H ++ [.cells 0 1 ((csR binds.length i rs).set i (.map (H.length + 2))), .cells 0 1 [.sl H.length 0 0 binds.length], .map (some .i64) (esI a.1), .cells 0 1 (a.2.map iv)]) (fun a => dfsM binds.length 4294967296 a.1 a.2) (fun a => DfsI binds 4294967296 i a.1 a.2) ([], usesF binds i) (dfs_start binds hBn i) ?_ ?_
    · dsimp only
      simp only [List.length_append, List.length_cons, List.length_nil, List.append_assoc, List.cons_append, List.nil_append, Nat.reduceAdd, Nat.zero_add]
      rw [show ([] : List (SV × SV)) = esI [] from rfl]
      exact wkS (n0 := H.length) [(H.length, 0), (H.length + 1, 0), (H.length + 2, 0), (H.length + 3, 0)] hG hB hC' hcl (hk := KeepB.c (by rw [get_app0]; rfl) (Nat.le_refl _) (Nat.zero_le _) (FrzL.setAt (by exact frzS) u) (KeepB.c (by rw [get_app]; rfl) (by omega) (Nat.zero_le _) (by exact frzLS) (KeepB.m (by rw [get_app]; rfl) (by omega) (FrzE.same (esI_under _ _)) (KeepB.c (by rw [get_app]; rfl) (by omega) (Nat.zero_le _) (FrzL.same (SV.underL_map fun _ _ => rfl)) .nil))))
    rintro K2 ⟨V, todo⟩ hdf hK2
    dsimp only at hdf ⊢
    have ust : ∀ x, ((csR binds.length i rs).set i x)[i]? = some x := csR_at hrs hlt
    have usl : ∀ x, ((csR binds.length i rs).set i x).length = binds.length := fun x => by rw [List.length_set]; exact hcl0
    have hVn := dfs_V hdf
    rcases List.eq_nil_or_concat todo with rfl | ⟨td, k, rfl⟩
    · have X := noX
      (refine runC ?_; repeat' (first | with_reducible exact trivial | ((with_reducible apply Fork.mk) <;> intro hb) | with_reducible apply Two.mk))
      refine go_condDF rfl (by simp) ?_
      refine go_pinC (io := H.length + 2) (jo := H.length) (i := i) (by rw [get_app]; rfl) (by rw [get_app0]; rfl) (ust _) (by omega) hB (fun b clk born hb1 hb2 => ?_)
      rw [esI_fst, esI_snd, List.set_set]
      have hx : RchA (reaF binds) i (.imap b clk born (some .i64) (kI V) (vI V)) := ⟨b, clk, born, V, rfl, by rw [hb1]; simp [esI], hb2, fun y => dfs_end hdf y⟩
      have hrs2 := hrs.snoc hx
      generalize SV.imap b clk born (some .i64) (kI V) (vI V) = x at *
      rw [csR_next hrs hlt x]
      simp only [set_app, set_app0, List.set_cons_succ, List.set_cons_zero]
      (refine run ?_; repeat' (first | with_reducible exact trivial | ((with_reducible apply Fork.mk) <;> intro hb) | with_reducible apply Two.mk))
      have u2 : SV.underL H.length (List.drop 0 (csR binds.length (i + 1) (rs ++ [x]))) = true := csR_under H.length (reaF binds) binds.length hrs2
      refine hK _ _ (i + 1, rs ++ [x]) (by dsimp only; omega) ⟨hlt, hrs2⟩ ?_
      dsimp only
      exact wkS (n0 := H.length) [(H.length, 0), (H.length + 1, 0)] hG hB hC' hcl
    · rw [List.concat_eq_append] at hdf hK2 ⊢
      have hkn : k < binds.length := hRn _ _ (hdf.st k (List.mem_append_right _ (List.mem_singleton_self k)))
      have htl := hdf.tl
      rw [List.length_append, List.length_singleton] at htl ⊢
      have e1 : ((td.length + 1 : Nat) : Int) - 1 = (td.length : Int) := by omega
      have e2 : (td.length : Int) + 1 - 1 = (td.length : Int) := by omega
      have e3 : ((td ++ [k]).map iv)[td.length]? = some (iv k) := by rw [List.map_append, List.getElem?_append_right (by simp)]; simp
      have e4 : ((td ++ [k]).map iv).length = td.length + 1 := by simp
      have e5 := getD_esI k V
      have hul := usesF_len binds hBn k
      have htl2 : td.length + 1 ≤ 4299262263296 := Nat.le_trans htl (Nat.mul_le_mul_right 4294967296 (show V.length + 1 ≤ 1001 by omega))
      have X := And.intro noX (And.intro e1 (And.intro e2 (And.intro e3 (And.intro e4 (And.intro e5 (And.intro (ust (.map (H.length + 2))) (And.intro (usl (.map (H.length + 2))) (show ((0 : Int) < ((td.length + 1 : Nat) : Int)) from by omega))))))))
      (refine runC ?_; repeat' (first | with_reducible exact trivial | ((with_reducible apply Fork.mk) <;> intro hb) | with_reducible apply Two.mk))
      refine go_condDT rfl trivial ?_
      (refine runC ?_; repeat' (first | with_reducible exact trivial | ((with_reducible apply Fork.mk) <;> intro hb) | with_reducible apply Two.mk))
      refine go_trunc (t := 17) (id := H.length + 3) (by rw [get_app]; rfl) rfl (by simp) ?_
      have e6 : List.take (0 + (td.length - 0)) ((td ++ [k]).map iv) = td.map iv := by
        rw [Nat.zero_add, Nat.sub_zero, List.map_append, List.take_append_of_le_length (by simp), List.take_of_length_le (by simp)]
      rw [e6, Nat.sub_zero]
      simp only [set_app, List.set_cons_succ, List.set_cons_zero]
      clear X
      by_cases hkV : k ∈ V
      · have X := noX
        refine go_condDF rfl (fun h => h hkV) ?_
        (refine run ?_; repeat' (first | with_reducible exact trivial | ((with_reducible apply Fork.mk) <;> intro hb) | with_reducible apply Two.mk))
        refine hK2 _ _ (V, td) dfsM_old (dfs_old hdf hkV) ?_
        dsimp only
        exact wkS (n0 := H.length) [(H.length, 0), (H.length + 1, 0), (H.length + 2, 0), (H.length + 3, 0)] hG hB hC' hcl (hk := KeepB.c (by rw [get_app0]; rfl) (Nat.le_refl _) (Nat.zero_le _) (FrzL.setAt (by exact frzS) u) (KeepB.c (by rw [get_app]; rfl) (by omega) (Nat.zero_le _) (by exact frzLS) (KeepB.m (by rw [get_app]; rfl) (by omega) (FrzE.same (esI_under _ _)) (KeepB.c (by rw [get_app]; rfl) (by omega) (Nat.zero_le _) (FrzL.same (SV.underL_map fun _ _ => rfl)) .nil))))
      · rw [decide_eq_false hkV]
        have hset := setSV_esI hkV
        have hnew := dfs_new hBn hdf hkV
        have hVl : V.length < binds.length := by
          have := dfs_V hnew
          rw [List.length_append, List.length_singleton] at this
          omega
        have X := And.intro noX (And.intro hset (And.intro (uL_len binds) (And.intro (show (uL binds)[k]? = some (.list 1 ((usesF binds k).map iv)) from uL_get hkn) (And.intro (ust (.map (H.length + 2))) (And.intro (usl (.map (H.length + 2))) (And.intro (show (td.map iv).length = td.length from List.length_map ..) (show ((usesF binds k).map iv).length = (usesF binds k).length from List.length_map ..)))))))
        (refine run ?_; repeat' (first | with_reducible exact trivial | ((with_reducible apply Fork.mk) <;> intro hb) | with_reducible apply Two.mk))
        refine hK2 _ _ (V ++ [k], td ++ usesF binds k) (dfsM_new hVl hul) hnew ?_
        dsimp only
        rw [← List.map_append, List.length_append]
        exact wkS (n0 := H.length) [(H.length, 0), (H.length + 1, 0), (H.length + 2, 0), (H.length + 3, 0)] hG hB hC' hcl (hk := KeepB.c (by rw [get_app0]; rfl) (Nat.le_refl _) (Nat.zero_le _) (FrzL.setAt (by exact frzS) u) (KeepB.c (by rw [get_app]; rfl) (by omega) (Nat.zero_le _) (by exact frzLS) (KeepB.m (by rw [get_app]; rfl) (by omega) (FrzE.same (esI_under _ _)) (KeepB.c (by rw [get_app]; rfl) (by omega) (Nat.zero_le _) (FrzL.same (SV.underL_map fun _ _ => rfl)) .nil))))
  obtain rfl : i = binds.length := by omega
  clear hK
  have hcs : csR binds.length binds.length rs = rs := by simp [csR]
  rw [hcs]
  have hR0 : Rch binds.length (reaF binds) rs := ⟨hrs.len, hrs.at_, hRn⟩
  have ur : SV.underL H.length (List.drop 0 rs) = true := hrs.under _
  have hrl := hrs.len
  have htr := reaF_tr binds
  clear hRn hBn u ud hcl0 hrs hcs u8 hw
  generalize reaF binds = R at *
  have X := And.intro noX (Int.lt_irrefl (binds.length : Int))
  (refine run ?_; repeat' (first | with_reducible exact trivial | ((with_reducible apply Fork.mk) <;> intro hb) | with_reducible apply Two.mk))
  clear X
  rw [blB_false]
  have hgf : groupsF binds.length R = grpsF binds.length R (cntD binds.length fun _ => false) fun _ => false := by rw [cnt_none]; rfl
  rw [hgf] at hR
  generalize hnn : binds.length = n at *
  refine go_loop (fun a : (Nat → Bool) × List (List Nat) => [(0, .list 9 (bdCells binds)), (15, .ptr (H.length + 1) 0 0 0), (19, .ptr (H.length + 3) 0 0 0), (20, .fn (.func 58) [] [.ptr (H.length + 3) 0 0 0, .ptr (H.length + 1) 0 0 0]), (21, .sl (H.length + 4) 0 0 a.2.length), (22, .int .i64 (cntD n a.1))])
    (fun a => H ++ [.cells 0 1 rs, .cells 0 1 [.sl H.length 0 0 n], .cells 0 1 (blB n a.1), .cells 0 1 [.sl (H.length + 2) 0 0 n], .cells 0 1 (a.2.map gL)]) (fun a => cntD n a.1) (fun a => (OkD n R a.1 ∧ cntD n a.1 ≤ n ∧ a.2.length + cntD n a.1 ≤ n) ∧ a.2 ++ grpsF n R (cntD n a.1) a.1 = grpsF n R (cntD n fun _ => false) fun _ => false) (fun _ => false, []) ⟨⟨(fun j k _ h => by cases h), (by simp only [cnt_none]; exact Nat.le_refl _), (by simp only [cnt_none, List.length_nil]; omega)⟩, rfl⟩ ?_ ?_
  · simp only [cnt_none, List.length_nil, List.map_nil]
    exact wkF (n0 := H.length) [(H.length, 0), (H.length + 1, 0), (H.length + 2, 0), (H.length + 3, 0), (H.length + 4, 0)] hG hB hC' hcl
  rintro K ⟨D, outs⟩ ⟨⟨hD, hcn, hol⟩, heq⟩ hK
  simp only at hD hcn hol heq
  dsimp only
  have u1 : SV.underL H.length (List.drop 0 (outs.map gL)) = true := gL_under _ _
  have u2 : (SV.list 1 (outs.map gL)).under H.length = true := gL_under _ _
  rcases Nat.eq_zero_or_pos (cntD n D) with h0 | h0
  · rw [grps_done h0, List.append_nil] at heq
    have X := And.intro noX (show ¬ ((0 : Int) < (cntD n D : Int)) from by omega)
    (refine run ?_; repeat' (first | with_reducible exact trivial | ((with_reducible apply Fork.mk) <;> intro hb) | with_reducible apply Two.mk))
    exact finS (n0 := H.length) (y := .list 1 (outs.map gL)) hR hC' hcl (Frz.sf (by rw [get_app]; rfl) (by omega) (by simp) (by rw [List.drop_zero, List.take_of_length_le (by simp)]) (gL_under _ _)) ⟨rfl, by rw [heq]⟩
  · obtain ⟨i0, hi0, hr0, hn0, hok0, hc0, hp0, hnew0, hst⟩ := grps_step htr hD h0
    have X := And.intro noX (show ((0 : Int) < (cntD n D : Int)) from by omega)
    (refine run ?_; repeat' (first | with_reducible exact trivial | ((with_reducible apply Fork.mk) <;> intro hb) | with_reducible apply Two.mk))
    clear X
    have X := noX
    refine go_loop (fun i : Nat => [(0, .list 9 (bdCells binds)), (15, .ptr (H.length + 1) 0 0 0), (19, .ptr (H.length + 3) 0 0 0), (20, .fn (.func 58) [] [.ptr (H.length + 3) 0 0 0, .ptr (H.length + 1) 0 0 0]), (21, .sl (H.length + 4) 0 0 outs.length), (22, .int .i64 (cntD n D)), (23, .int .i64 i)])
      (fun _ => H ++ [.cells 0 1 rs, .cells 0 1 [.sl H.length 0 0 n], .cells 0 1 (blB n D), .cells 0 1 [.sl (H.length + 2) 0 0 n], .cells 0 1 (outs.map gL)]) (fun i => n - i) (fun i => i ≤ i0) 0 (Nat.zero_le _) (wkF (n0 := H.length) [(H.length, 0), (H.length + 1, 0), (H.length + 2, 0), (H.length + 3, 0), (H.length + 4, 0)] hG hB hC' hcl) ?_
    rintro K2 i hi hK2
    have hin : i < n := by omega
    have v1 := ACallV.of (first := []) (args := [.int .i64 i]) (cap := [.ptr (H.length + 3) 0 0 0, .ptr (H.length + 1) 0 0 0]) (ready_ok G hG n (by omega) R D rs hR0 i hin (H.length + 3) (H.length + 2) 0 (H.length + 1) H.length 0 (H ++ [.cells 0 1 rs, .cells 0 1 [.sl H.length 0 0 n], .cells 0 1 (blB n D), .cells 0 1 [.sl (H.length + 2) 0 0 n], .cells 0 1 (outs.map gL)]) (by rw [get_app]; rfl) (by rw [get_app]; rfl) (by rw [get_app]; rfl) (by rw [get_app0]; rfl))
    rcases Nat.lt_or_ge i i0 with hii | hii
    · rw [hn0 i hii] at v1
      (refine run ?_; repeat' (first | with_reducible exact trivial | ((with_reducible apply Fork.mk) <;> intro hb) | with_reducible apply Two.mk))
      exact hK2 _ _ (i + 1) (by omega) (by omega) (wkF (n0 := H.length) [(H.length, 0), (H.length + 1, 0), (H.length + 2, 0), (H.length + 3, 0), (H.length + 4, 0)] hG hB hC' hcl)
    · obtain rfl : i = i0 := by omega
      rw [hr0] at v1
      (refine run ?_; repeat' (first | with_reducible exact trivial | ((with_reducible apply Fork.mk) <;> intro hb) | with_reducible apply Two.mk))
      rw [hnn]
      refine go_loop (fun k : Nat => [(0, .list 9 (bdCells binds)), (15, .ptr (H.length + 1) 0 0 0), (19, .ptr (H.length + 3) 0 0 0), (20, .fn (.func 58) [] [.ptr (H.length + 3) 0 0 0, .ptr (H.length + 1) 0 0 0]), (21, .sl (H.length + 4) 0 0 outs.length), (22, .int .i64 ((cntD n D : Int) - ((grpP R i k).length : Int))), (23, .int .i64 i), (24, .sl (H.length + 5) 0 0 (grpP R i k).length), (150, .int .i64 n), (151, .int .i64 k)])
        (fun k => H ++ [.cells 0 1 rs, .cells 0 1 [.sl H.length 0 0 n], .cells 0 1 (blB n (orP R i k D)), .cells 0 1 [.sl (H.length + 2) 0 0 n], .cells 0 1 (outs.map gL), .cells 0 1 ((grpP R i k).map iv)]) (fun k => n - k) (fun k => k ≤ n) 0 (Nat.zero_le _) ?_ ?_
      · rw [orP_zero]
        have e : grpP R i 0 = [] := rfl
        rw [e]
        simp only [List.length_nil, List.map_nil, Int.ofNat_zero, Int.sub_zero]
        exact wkF (n0 := H.length) [(H.length, 0), (H.length + 1, 0), (H.length + 2, 0), (H.length + 3, 0), (H.length + 4, 0), (H.length + 5, 0)] hG hB hC' hcl
      rintro K4 k hk hK4
      have hgl := grpP_len_le R i hk
      rcases Nat.lt_or_ge k n with hlk | hgk
      · have hmr : mutR R i k = (decide ((k : Int) = (i : Int)) || (R i k && R k i)) := by
          unfold mutR
          congr 1
          by_cases h : k = i
          · subst h; simp
          · have h' : ¬ (k : Int) = (i : Int) := by omega
            simp [h, h']
        have es := grpP_succ R i k
        have hsl := grpP_len_le R i (show k + 1 ≤ n by omega)
        obtain ⟨b1, q1, w1, V1, d1, _, _, hV1⟩ := hR0.get hin
        obtain ⟨b2, q2, w2, V2, d2, _, _, hV2⟩ := hR0.get hlk
        have d3 := lk_set k hV1
        have d4 := lk_set i hV2
        have X := And.intro noX (And.intro (blB_len n (orP R i k D)) (And.intro hrl (And.intro d1 (And.intro d2 (And.intro d3 (And.intro d4 (And.intro (blB_get (D := orP R i k D) hlk) (And.intro (show ((k : Int) < (n : Int)) from by omega) (show ((grpP R i k).map iv).length = (grpP R i k).length from List.length_map ..)))))))))
        have hrs : mutR R i k = true → (grpP R i (k + 1)).length = (grpP R i k).length + 1 := fun h => by rw [es, if_pos h, List.length_append, List.length_singleton]
        (refine run ?_; repeat' (first | with_reducible exact trivial | ((with_reducible apply Fork.mk) <;> intro hb) | with_reducible apply Two.mk))
        · rw [← hmr] at hb
          refine hK4 _ _ (k + 1) (by omega) (by omega) ?_
          rw [hrs hb, es, if_pos hb, List.map_append, List.map_singleton, blB_set, orP_yes hb]
          have e5 : (cntD n D : Int) - ((grpP R i k).length : Int) - 1 = (cntD n D : Int) - (((grpP R i k).length + 1 : Nat) : Int) := by omega
          rw [e5]
          exact wkF (n0 := H.length) [(H.length, 0), (H.length + 1, 0), (H.length + 2, 0), (H.length + 3, 0), (H.length + 4, 0), (H.length + 5, 0)] hG hB hC' hcl
        · rw [← hmr] at hb
          refine hK4 _ _ (k + 1) (by omega) (by omega) ?_
          rw [es, if_neg (by simp [hb]), List.append_nil, orP_no hb]
          exact wkF (n0 := H.length) [(H.length, 0), (H.length + 1, 0), (H.length + 2, 0), (H.length + 3, 0), (H.length + 4, 0), (H.length + 5, 0)] hG hB hC' hcl
      · have hkn : k = n := by omega
        subst hkn
        have hgf2 : grpP R i k = grpF k R i := rfl
        rw [hgf2, blB_congr fun b hb => orP_all b hb]
        have X := noX
        (refine runC ?_; repeat' (first | with_reducible exact trivial | ((with_reducible apply Fork.mk) <;> intro hb) | with_reducible apply Two.mk))
        refine go_condDF rfl (by omega) ?_
        refine go_wkC [(0, .list 9 (bdCells binds)), (15, .ptr (H.length + 1) 0 0 0), (19, .ptr (H.length + 3) 0 0 0), (20, .fn (.func 58) [] [.ptr (H.length + 3) 0 0 0, .ptr (H.length + 1) 0 0 0]), (21, .sl (H.length + 4) 0 0 outs.length), (22, .int .i64 (cntD k (orD R i D))), (24, gL (grpF k R i))] (H ++ [.cells 0 1 rs, .cells 0 1 [.sl H.length 0 0 k], .cells 0 1 (blB k (orD R i D)), .cells 0 1 [.sl (H.length + 2) 0 0 k], .cells 0 1 (outs.map gL)]) ?_ ?_
        · have e5 : (cntD k D : Int) - ((grpF k R i).length : Int) = (cntD k (orD R i D) : Int) := by omega
          rw [e5]
          unfold gL
          exact wkF (n0 := H.length) [(H.length, 0), (H.length + 1, 0), (H.length + 2, 0), (H.length + 3, 0), (H.length + 4, 0)] hG hB hC' hcl
        have X := And.intro noX (show (outs.map gL).length = outs.length from List.length_map ..)
        (refine run ?_; repeat' (first | with_reducible exact trivial | ((with_reducible apply Fork.mk) <;> intro hb) | with_reducible apply Two.mk))
        have u3 : SV.underL H.length (List.drop 0 (outs.map gL ++ [gL (grpF k R i)])) = true := by
          have := gL_under H.length (outs ++ [grpF k R i])
          rwa [List.map_append, List.map_singleton] at this
        refine hK _ _ (orD R i D, outs ++ [grpF k R i]) (by simp only; omega) ⟨⟨hok0, (by simp only; omega), (by simp only [List.length_append, List.length_singleton]; omega)⟩, ?_⟩ ?_
        · simp only
          rw [List.append_assoc, List.singleton_append, ← hst]
          exact heq
        · simp only [List.map_append, List.map_singleton, List.length_append, List.length_singleton]
          exact wkF (n0 := H.length) [(H.length, 0), (H.length + 1, 0), (H.length + 2, 0), (H.length + 3, 0), (H.length + 4, 0)] hG hB hC' hcl
end Go.Proofs.YtcopfafknmpneaaGreatDoor
end
