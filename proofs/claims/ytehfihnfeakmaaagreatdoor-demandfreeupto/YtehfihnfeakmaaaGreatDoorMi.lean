/- A part of the proof: J1, J2, J3, J4, J5, J6a, J6, J7, J8, J9. -/
import Derived.Test.YtehfihnfeakmaaaGreatDoorMh

section
namespace Go.Proofs.YtehfihnfeakmaaaGreatDoor
open Go
set_option linter.unusedSimpArgs false
set_option linter.unusedVariables false

/-! ### what is looked into first -/
structure Od where
  name : Str
  arity : Int
  nums : List Int
deriving Inhabited
def intL (l : List Int) : List SV := l.map (SV.int .i64)
def Od.cells (o : Od) : List SV := [.str o.name, .int .i64 o.arity, .list 1 (intL o.nums)]
def Od.sv (o : Od) : SV := .agg o.cells
def odCells (l : List Od) : List SV := l.map Od.sv
theorem intL_len (l : List Int) : (intL l).length = l.length := by simp [intL]
theorem odCells_len (l : List Od) : (odCells l).length = l.length := by simp [odCells]
theorem intL_under (n : Nat) (l : List Int) : SV.underL n (intL l) = true := SV.underL_map fun _ _ => rfl
theorem Od.under (n : Nat) (o : Od) : SV.underL n o.cells = true := by simp [Od.cells, SV.underL, SV.under, intL_under]
theorem odCells_under (n : Nat) (l : List Od) : SV.underL n (odCells l) = true := SV.underL_map fun o _ => o.under n

def vrsF : Nat → Ex → List Str
  | 0, _ => []
  | m + 1, e => (if e.kind = 1 then [e.name] else []) ++ e.parts.flatMap (vrsF m)
def calmB (op : Int) : Bool := decide (1 ≤ op) && decide (op ≤ 8) && decide (op ≠ 4) && decide (op ≠ 5)
def simF : Nat → Ex → Bool
  | 0, _ => false
  | m + 1, e => if e.kind = 2 ∨ e.kind = 1 then true else if e.kind = 8 then calmB e.op && !(e.subs.any fun s => !simF m s) else false
def findOd : List Od → Str → Option Od
  | [], _ => none
  | o :: r, s => if s = o.name then some o else findOd r s
def noOd : Od := ⟨[], 0, []⟩
def getOd (l : List Od) (s : Str) : Od := (findOd l s).getD noOd
/-- orders, each name's first -/
def knoF : List Od → List Od → List Od
  | k, [] => k
  | k, o :: r => if (findOd k o.name).isSome then knoF k r else knoF (k ++ [o]) r
def callO (k : List Od) (e : Ex) : Od × Bool :=
  match e.subs with
  | [] => (noOd, false)
  | s :: r => if s.kind ≠ 1 then (noOd, false) else (getOd k s.name, (findOd k s.name).isSome && decide ((getOd k s.name).arity < ((s :: r).length : Int)))
def joinF (l more : List Str) : List Str := more.foldl putO l
def untilF (l names : List Str) : List Str := l.takeWhile fun n => !decide (n ∈ names)
def rowF (f : Ex → List Str) (sim : Ex → Bool) : List Str → List Ex → List Str
  | out, [] => out
  | out, e :: r => if sim e then rowF f sim (joinF out (f e)) r else joinF out (f e)
def noEx : Ex := .mk 0 [] 0 0 [] [] [] []
/-- the arguments that some numbers name -/
def argsF (subs : List Ex) : List Int → List Ex
  | [] => []
  | n :: r => if n < 0 ∨ (subs.length : Int) - 1 ≤ n then [] else (subs.getD (n.toNat + 1) noEx) :: argsF subs r
/-- how far two lists are the same -/
def lcp : List Str → List Str → List Str
  | x :: a, y :: b => if x = y then x :: lcp a b else []
  | _, _ => []
def altF (f : Ex → List Str) (nm : Str) (out : List Str) (a : Al) : List Str := untilF ((f a.body).filter fun n => !(decide (n = nm) || decide (n ∈ out))) a.names
def comF (f : Ex → List Str) (nm : Str) (out : List Str) : List Str → List Al → List Str
  | c, [] => c
  | c, a :: r => comF f nm out (lcp c (altF f nm out a)) r
def comA (f : Ex → List Str) (nm : Str) (out : List Str) : List Al → List Str
  | [] => []
  | a :: r => comF f nm out (altF f nm out a) r
def chcF (f : Ex → List Str) (sim : Ex → Bool) (nm : Str) (s : Ex) (alts : List Al) : List Str := if sim s then joinF (f s) (comA f nm (f s) alts) else f s
def fstF (sim : Ex → Bool) (k : List Od) : Nat → Ex → List Str
  | 0, _ => []
  | m + 1, e => if e.kind = 1 then [e.name] else
    match e.subs with
    | [] => []
    | s :: r =>
      if e.kind = 8 then (if 0 < r.length ∧ 1 ≤ e.op ∧ e.op ≤ 8 then rowF (fstF sim k m) sim [] (e.subs.take 2) else fstF sim k m s)
      else if e.kind = 4 then (if (callO k e).2 then rowF (fstF sim k m) sim [] (argsF e.subs (callO k e).1.nums) else fstF sim k m s)
      else if e.kind = 5 then untilF (fstF sim k m s) (e.binds.map Bd.name)
      else if e.kind = 6 then chcF (fstF sim k m) sim e.name s e.alts
      else []
end Go.Proofs.YtehfihnfeakmaaaGreatDoor
end

section
namespace Go.Proofs.YtehfihnfeakmaaaGreatDoor
open Go
set_option linter.unusedSimpArgs false
set_option linter.unusedVariables false

theorem memJ {l : List Str} {s t : Str} : s ∈ putO l t ↔ s ∈ l ∨ s = t := by
  unfold putO
  split
  · rename_i h
    constructor
    · exact .inl
    · rintro (h2 | rfl)
      · exact h2
      · exact h
  · simp
theorem mem_joinF {s : Str} : ∀ {more l : List Str}, s ∈ joinF l more ↔ s ∈ l ∨ s ∈ more
  | [], l => by simp [joinF]
  | t :: r, l => by
    rw [joinF, List.foldl_cons, ← joinF, mem_joinF (more := r), memJ, List.mem_cons]
    constructor
    · rintro ((h | h) | h)
      · exact .inl h
      · exact .inr (.inl h)
      · exact .inr (.inr h)
    · rintro (h | h | h)
      · exact .inl (.inl h)
      · exact .inl (.inr h)
      · exact .inr h
theorem joinF_nodup : ∀ {more l : List Str}, l.Nodup → (joinF l more).Nodup
  | [], l, h => h
  | t :: r, l, h => by rw [joinF, List.foldl_cons, ← joinF]; exact joinF_nodup (putO_nodup h t)
theorem mem_untilF {s : Str} {l names : List Str} (h : s ∈ untilF l names) : s ∈ l ∧ s ∉ names := by
  refine ⟨(List.takeWhile_sublist _).subset h, ?_⟩
  induction l with
  | nil => cases h
  | cons x r ih =>
    rw [untilF, List.takeWhile_cons] at h
    split at h
    · rename_i hx
      rcases List.mem_cons.1 h with rfl | h
      · simpa using hx
      · exact ih h
    · cases h
theorem untilF_nodup {l names : List Str} (h : l.Nodup) : (untilF l names).Nodup := (List.takeWhile_sublist _).nodup h
theorem lcp_sub : ∀ (a b : List Str), (lcp a b).Sublist a
  | [], b => by simp [lcp]
  | x :: a, [] => by simp [lcp]
  | x :: a, y :: b => by
    rw [lcp]
    split
    · exact (lcp_sub a b).cons_cons x
    · exact List.nil_sublist _
theorem comF_sub (f : Ex → List Str) (nm : Str) (out : List Str) : ∀ (l : List Al) (c : List Str), (comF f nm out c l).Sublist c
  | [], c => List.Sublist.refl _
  | a :: r, c => (comF_sub f nm out r _).trans (lcp_sub _ _)
theorem comA_sub (f : Ex → List Str) (nm : Str) (out : List Str) (hf : ∀ e, (f e).Nodup) : ∀ (l : List Al), (comA f nm out l).Nodup ∧ ∀ s ∈ comA f nm out l, ∃ a ∈ l, s ∈ altF f nm out a
  | [] => ⟨List.nodup_nil, fun s h => by cases h⟩
  | a :: r => by
    have h := comF_sub f nm out r (altF f nm out a)
    refine ⟨h.nodup (untilF_nodup ((List.filter_sublist ..).nodup (hf _))), fun s hs => ⟨a, List.mem_cons_self .., h.subset hs⟩⟩
theorem rowF_mem (f : Ex → List Str) (sim : Ex → Bool) {s : Str} : ∀ (l : List Ex) (out : List Str), s ∈ rowF f sim out l → s ∈ out ∨ ∃ e ∈ l, s ∈ f e
  | [], out, h => .inl h
  | e :: r, out, h => by
    rw [rowF] at h
    split at h
    · rcases rowF_mem f sim r _ h with h | ⟨x, h1, h2⟩
      · rcases mem_joinF.1 h with h | h
        · exact .inl h
        · exact .inr ⟨e, List.mem_cons_self .., h⟩
      · exact .inr ⟨x, List.mem_cons_of_mem _ h1, h2⟩
    · rcases mem_joinF.1 h with h | h
      · exact .inl h
      · exact .inr ⟨e, List.mem_cons_self .., h⟩
theorem rowF_nodup (f : Ex → List Str) (sim : Ex → Bool) : ∀ (l : List Ex) (out : List Str), out.Nodup → (rowF f sim out l).Nodup
  | [], out, h => h
  | e :: r, out, h => by
    rw [rowF]
    split
    · exact rowF_nodup f sim r _ (joinF_nodup h)
    · exact joinF_nodup h
theorem argsF_mem (subs : List Ex) {x : Ex} : ∀ (l : List Int), x ∈ argsF subs l → x ∈ subs
  | [], h => by cases h
  | n :: r, h => by
    rw [argsF] at h
    split at h
    · cases h
    · rename_i hn
      rcases List.mem_cons.1 h with h | h
      · subst h
        have : n.toNat + 1 < subs.length := by omega
        rw [List.getD_eq_getElem?_getD, List.getElem?_eq_getElem this]
        exact List.getElem_mem this
      · exact argsF_mem subs r h
theorem fst_nodup (sim : Ex → Bool) (k : List Od) : ∀ (m : Nat) (e : Ex), (fstF sim k m e).Nodup
  | 0, e => List.nodup_nil
  | m + 1, e => by
    have ih := fst_nodup sim k m
    rw [fstF]
    split
    · simp
    · split
      · simp
      · rename_i s r _
        split
        · split
          · exact rowF_nodup _ _ _ _ List.nodup_nil
          · exact ih s
        · split
          · split
            · exact rowF_nodup _ _ _ _ List.nodup_nil
            · exact ih s
          · split
            · exact untilF_nodup (ih s)
            · split
              · unfold chcF
                split
                · exact joinF_nodup (ih s)
                · exact ih s
              · simp
theorem occ_in {s : Str} {kd : Int} {nm : Str} {nn op : Int} {names : List Str} {subs : List Ex} {binds : List Bd} {alts : List Al} (hk : kd ≠ 1) (ho : s ∉ ownOf kd names binds) {x : Ex} (hx : x ∈ usL s kd nm subs binds alts) (h : 0 < occ s x) :
    0 < occ s (.mk kd nm nn op names subs binds alts) := by
  rw [occ_us s hk ho]
  generalize usL s kd nm subs binds alts = l at hx
  induction l with
  | nil => cases hx
  | cons y r ih =>
    simp only [occS, List.map_cons, List.sum_cons]
    rcases List.mem_cons.1 hx with rfl | hx
    · omega
    · have := ih hx
      simp only [occS] at this
      omega
/-- what is looked into first is used -/
theorem fst_used (sim : Ex → Bool) (k : List Od) (s : Str) : ∀ (m : Nat) (e : Ex), s ∈ fstF sim k m e → 0 < occ s e
  | 0, e, h => by cases h
  | m + 1, .mk kd nm nn op names subs binds alts, h => by
    have ih := fst_used sim k s m
    rw [fstF] at h
    by_cases hk : kd = 1
    · rw [if_pos (show (Ex.mk kd nm nn op names subs binds alts).kind = 1 from hk)] at h
      have h : s = nm := List.mem_singleton.1 h
      rw [occ, if_pos hk, if_pos h.symm]; omega
    · rw [if_neg (show ¬ (Ex.mk kd nm nn op names subs binds alts).kind = 1 from hk)] at h
      have hin : ∀ {x : Ex}, s ∉ ownOf kd names binds → x ∈ subs → s ∈ fstF sim k m x → 0 < occ s (.mk kd nm nn op names subs binds alts) := fun ho hx hs => occ_in hk ho (List.mem_append_left _ hx) (ih _ hs)
      have h : s ∈ (match subs with | [] => [] | s :: r => (if kd = 8 then (if 0 < r.length ∧ 1 ≤ op ∧ op ≤ 8 then rowF (fstF sim k m) sim [] (subs.take 2) else fstF sim k m s) else if kd = 4 then (if (callO k (.mk kd nm nn op names subs binds alts)).2 then rowF (fstF sim k m) sim [] (argsF subs (callO k (.mk kd nm nn op names subs binds alts)).1.nums) else fstF sim k m s) else if kd = 5 then untilF (fstF sim k m s) (binds.map Bd.name) else if kd = 6 then chcF (fstF sim k m) sim nm s alts else [] : List Str)) := h
      cases hsb : subs with
      | nil => rw [hsb] at h; cases h
      | cons t r =>
        have hm : t ∈ subs := by rw [hsb]; exact List.mem_cons_self ..
        rw [← hsb]
        simp only [hsb] at h
        rw [← hsb] at h
        by_cases h8 : kd = 8
        · have ho : s ∉ ownOf kd names binds := by simp [ownOf, h8]
          rw [if_pos h8] at h
          split at h
          · rcases rowF_mem _ _ _ _ h with h | ⟨x, h1, h2⟩
            · cases h
            · exact hin ho (List.mem_of_mem_take h1) h2
          · exact hin ho hm h
        rw [if_neg h8] at h
        by_cases h4 : kd = 4
        · have ho : s ∉ ownOf kd names binds := by simp [ownOf, h4]
          rw [if_pos h4] at h
          split at h
          · rcases rowF_mem _ _ _ _ h with h | ⟨x, h1, h2⟩
            · cases h
            · exact hin ho (argsF_mem _ _ h1) h2
          · exact hin ho hm h
        rw [if_neg h4] at h
        by_cases h5 : kd = 5
        · rw [if_pos h5] at h
          have h2 := mem_untilF h
          exact hin (by simpa [ownOf, h5] using h2.2) hm h2.1
        rw [if_neg h5] at h
        by_cases h6 : kd = 6
        · have ho : s ∉ ownOf kd names binds := by simp [ownOf, h6]
          rw [if_pos h6] at h
          unfold chcF at h
          split at h
          · rcases mem_joinF.1 h with h | h
            · exact hin ho hm h
            · obtain ⟨a, h1, h2⟩ := (comA_sub _ _ _ (fun e => fst_nodup sim k m e) alts).2 s h
              obtain ⟨h3, h4⟩ := mem_untilF h2
              rw [List.mem_filter] at h3
              have hn : ¬ s = nm := by have := h3.2; simp at this; exact this.1
              refine occ_in hk ho (x := a.body) ?_ (ih _ h3.1)
              refine List.mem_append_right _ (List.mem_append_right _ (List.mem_map.2 ⟨a, List.mem_filter.2 ⟨h1, ?_⟩, rfl⟩))
              simp only [keepA, Bool.not_eq_true', decide_eq_false_iff_not]
              rintro (h5 | h5)
              · exact h4 h5
              · exact hn h5.2.symm
          · exact hin ho hm h
        rw [if_neg h6] at h
        cases h
end Go.Proofs.YtehfihnfeakmaaaGreatDoor
end

section
namespace Go.Proofs.YtehfihnfeakmaaaGreatDoor
open Go
set_option linter.unusedSimpArgs false
set_option linter.unusedVariables false
set_option maxRecDepth 10000
set_option maxHeartbeats 4000000

theorem calm_ok (G : Gl) (op : Int) (H : List Blk) : ACall Tryz.prog G 142 [.int .i64 op] H (fun r H' => H' = H ∧ r = .bool (calmB op)) := by
  refine ACall.of_go TB [] tabOK _ Tryz.func142 rfl (by decide) Tryz.ntmps142 (by simp) rfl (by simp only [initEnv, Nat.reduceAdd]; rfl) fun C R' hR hC hcl hB => ?_; have X := noX; have hC' := congrArg List.length hC
  (refine run ?_; repeat' (first | with_reducible exact trivial | ((with_reducible apply Fork.mk) <;> intro hb) | with_reducible apply Two.mk))
  all_goals (refine Fin.out hR ⟨rfl, ?_⟩; simp only [resSV, calmB]; try simp only [decide_not])
theorem simF_fuel : ∀ (m m' : Nat) (e : Ex), e.wt ≤ m → e.wt ≤ m' → simF m e = simF m' e
  | 0, _, e, h, _ => absurd e.wt_pos (by omega)
  | m + 1, 0, e, _, h => absurd e.wt_pos (by omega)
  | m + 1, m' + 1, .mk kd nm nn op names subs binds alts, h, h' => by
    have h1 : (subs.any fun s => !simF m s) = subs.any fun s => !simF m' s := by
      rw [Bool.eq_iff_iff, List.any_eq_true, List.any_eq_true]
      refine exists_congr fun x => and_congr_right fun hx => ?_
      have := Ex.wt_parts (e := .mk kd nm nn op names subs binds alts) (p := x) (by rw [Ex.parts_mk]; exact List.mem_append_left _ hx)
      rw [simF_fuel m m' x (by omega) (by omega)]
    rw [simF, simF]
    simp only [Ex.subs, h1]
def simS (e : Ex) : Bool := simF e.wt e
def SimC (G : Gl) (m : Nat) : Prop := ∀ (e : Ex) (H : List Blk), e.wt ≤ m → ACall Tryz.prog G 114 [e.sv] H (fun r H' => H' = H ∧ r = .bool (simF m e))
theorem simple1_ok (G : Gl) (hG : GClosed G) (m : Nat) (hrec : SimC G m) (e : Ex) (he : e.wt ≤ m) (H : List Blk) : ACall Tryz.prog G 144 [e.sv] H (fun r H' => H' = H ∧ r = .bool (!simF m e)) := by
  have c1 := fun L => hrec e (H ++ L) he
  refine ACall.of_go TB [] tabOK _ Tryz.func144 rfl (by decide) Tryz.ntmps144 (by simp) rfl (by simp only [initEnv, Nat.reduceAdd]; rfl) fun C R' hR hC hcl hB => ?_; have X := noX; have hC' := congrArg List.length hC
  (refine run ?_; repeat' (first | with_reducible exact trivial | ((with_reducible apply Fork.mk) <;> intro hb) | with_reducible apply Two.mk))
  exact finS (n0 := H.length) hR hC' hcl (.same _ rfl) ⟨rfl, rfl⟩
theorem simple_ok (G : Gl) (hG : GClosed G) : ∀ m, m < 4294967296 → SimC G m
  | 0, _, e, _, h => absurd e.wt_pos (by omega)
  | m + 1, hm2, .mk kd nm nn op names subs binds alts, H, hm => by
    have hrec := simple_ok G hG m (by omega)
    have hle := Ex.wt_lens kd nm nn op names subs binds alts
    have c1 := fun H => calm_ok G op H
    have c2 := anyEx_ok G hG (.fn (.func 144) [] []) (fun s => !simF m s) subs (H ++ [.cells 0 8 [.agg [.int .i64 kd, .str nm, .int .i64 nn, .int .i64 op, .list 1 (names.map .str), .list 8 (exCells subs), .list 9 (bdCells binds), .list 12 (alCells alts)]]]) (by omega) (by simp [SV.under, SV.underL])
      (fun x hx => ACallV.of (first := []) (args := [x.sv]) (cap := []) (simple1_ok G hG m hrec x (by have := Ex.wt_parts (e := .mk kd nm nn op names subs binds alts) (p := x) (by rw [Ex.parts_mk]; exact List.mem_append_left _ hx); omega) _))
    have es : simF (m + 1) (.mk kd nm nn op names subs binds alts) = if kd = 2 ∨ kd = 1 then true else if kd = 8 then calmB op && !(subs.any fun s => !simF m s) else false := rfl
    rw [es]
    generalize (subs.any fun s => !simF m s) = an at *
    generalize calmB op = cb at *
    refine ACall.of_go TB [] tabOK _ Tryz.func114 rfl (by decide) Tryz.ntmps114 (by simp) rfl (by simp only [initEnv, Nat.reduceAdd]; rfl) fun C R' hR hC hcl hB => ?_; have X := noX; have hC' := congrArg List.length hC
    (refine run ?_; repeat' (first | with_reducible exact trivial | ((with_reducible apply Fork.mk) <;> intro hb) | with_reducible apply Two.mk))
    all_goals (refine finS (n0 := H.length) hR hC' hcl (.same _ rfl) ⟨rfl, ?_⟩; simp_all [resSV])
theorem simpleS_ok (G : Gl) (hG : GClosed G) (e : Ex) (hw : e.wt < 4294967296) (H : List Blk) : ACall Tryz.prog G 114 [e.sv] H (fun r H' => H' = H ∧ r = .bool (simS e)) := simple_ok G hG e.wt hw e H (Nat.le_refl _)

/-! ### orders by names -/
def esD (l : List Od) : List (SV × SV) := l.map fun o => (.str o.name, o.sv)
theorem findSV_esD : ∀ (l : List Od) (s : Str), findSV (esD l) (.str s) = (findOd l s).map Od.sv
  | [], s => rfl
  | c :: r, s => by
    simp only [esD, List.map_cons, findSV, SV.keyEq, findOd]
    by_cases h : s = c.name
    · simp [h]
    · simp only [beq_eq_false_iff_ne.2 h, h, if_false, Bool.false_eq_true]
      exact findSV_esD r s
theorem od_zero (l : List Od) (s : Str) : (findSV (esD l) (.str s)).getD (.agg [.str [], .int .i64 0, .list 1 []]) = .agg [.str (getOd l s).name, .int .i64 (getOd l s).arity, .list 1 (intL (getOd l s).nums)] := by
  rw [findSV_esD, getOd]
  cases findOd l s <;> rfl
theorem esD_has (l : List Od) (s : Str) : (findSV (esD l) (.str s)).isSome = (findOd l s).isSome := by
  rw [findSV_esD]; cases findOd l s <;> rfl
theorem setSV_esD : ∀ (l : List Od) (c : Od), findOd l c.name = none → setSV (esD l) (.str c.name) (.agg [.str c.name, .int .i64 c.arity, .list 1 (intL c.nums)]) = esD (l ++ [c])
  | [], c, _ => rfl
  | d :: r, c, h => by
    simp only [esD, List.map_cons, setSV, SV.keyEq, findOd, List.cons_append] at h ⊢
    by_cases h2 : c.name = d.name
    · rw [if_pos h2] at h; cases h
    · rw [if_neg h2] at h
      simp only [beq_eq_false_iff_ne.2 h2, if_false, Bool.false_eq_true]
      rw [show setSV (List.map _ r) (.str c.name) _ = _ from setSV_esD r c h]
      rfl
theorem esD_under (n : Nat) : ∀ l : List Od, belowE n (esD l) = true
  | [] => rfl
  | p :: l => by simp only [esD, List.map_cons, belowE, SV.under, Od.sv, Od.under, Bool.and_self, Bool.true_and]; exact esD_under n l
theorem odCells_get (l : List Od) (i : Nat) : (odCells l)[i]? = l[i]?.map fun o => .agg [.str o.name, .int .i64 o.arity, .list 1 (intL o.nums)] := by simp [odCells, Od.sv, Od.cells]; rfl
attribute [go_sem] odCells_len odCells_get intL_len
theorem knoF_cut (l : List Od) : ∀ (r k : List Od), knoF k (r ++ l) = knoF (knoF k r) l
  | [], k => rfl
  | o :: r, k => by
    rw [List.cons_append, knoF, knoF]
    split
    · exact knoF_cut l r k
    · exact knoF_cut l r _
theorem knoF_snoc (l : List Od) (o : Od) : knoF [] (l ++ [o]) = if (findOd (knoF [] l) o.name).isSome then knoF [] l else knoF [] l ++ [o] := by
  rw [knoF_cut, knoF, knoF, knoF]
theorem knowing_ok (G : Gl) (hG : GClosed G) (l : List Od) (hl : l.length < 1099511627776) (H : List Blk) :
    ACall Tryz.prog G 26 [.list 3 (odCells l)] H (fun r H' => H' = H ++ [.map none (esD (knoF [] l))] ∧ r = .map H.length) := by
  have esB_under := esD_under
  have under_ints := odCells_under
  refine ACall.of_go TB [] tabOK _ Tryz.func26 rfl (by decide) Tryz.ntmps26 (by simp) rfl (by simp only [initEnv, Nat.reduceAdd]; rfl) fun C R' hR hC hcl hB => ?_; have X := noX; have hC' := congrArg List.length hC
  (refine run ?_; repeat' (first | with_reducible exact trivial | ((with_reducible apply Fork.mk) <;> intro hb) | with_reducible apply Two.mk))
  refine go_loop (fun i : Nat => [(3, .map H.length), (9, .list 3 (odCells l)), (10, .int .i64 l.length), (11, .int .i64 i)]) (fun i => H ++ [.map none (esD (knoF [] (l.take i)))]) (fun i => l.length - i) (fun i => i ≤ l.length) 0 (Nat.zero_le _) ?_ ?_
  · exact wkS (n0 := H.length) [(H.length, 0)] hG hB hC' hcl
  rintro K i hi hK
  rcases Nat.lt_or_ge i l.length with hlt | hge
  · have ht := List.take_succ_eq_append_getElem hlt
    have hk := knoF_snoc (l.take i) l[i]
    rw [← ht] at hk
    have hset := setSV_esD (knoF [] (l.take i)) l[i]
    have hz := od_zero (knoF [] (l.take i)) l[i].name
    have hh := esD_has (knoF [] (l.take i)) l[i].name
    cases hf : findOd (knoF [] (l.take i)) l[i].name with
    | none =>
      have hs2 := hset hf
      rw [hf] at hk hh
      have hk : knoF [] (l.take (i + 1)) = knoF [] (l.take i) ++ [l[i]] := hk
      have hh : (findSV (esD (knoF [] (l.take i))) (.str l[i].name)).isSome = false := hh
      rw [← hk] at hs2
      have X := And.intro noX (And.intro hz (And.intro hh hs2))
      (refine run ?_; repeat' (first | with_reducible exact trivial | ((with_reducible apply Fork.mk) <;> intro hb) | with_reducible apply Two.mk))
      exact hK _ _ (i + 1) (by omega) (by omega) (wkS (n0 := H.length) [(H.length, 0)] hG hB hC' hcl)
    | some o =>
      rw [hf] at hk hh
      have hk : knoF [] (l.take (i + 1)) = knoF [] (l.take i) := hk
      have hh : (findSV (esD (knoF [] (l.take i))) (.str l[i].name)).isSome = true := hh
      have X := And.intro noX (And.intro hz hh)
      (refine run ?_; repeat' (first | with_reducible exact trivial | ((with_reducible apply Fork.mk) <;> intro hb) | with_reducible apply Two.mk))
      refine hK _ _ (i + 1) (by omega) (by omega) ?_
      rw [hk]
      exact wkS (n0 := H.length) [(H.length, 0)] hG hB hC' hcl
  obtain rfl : i = l.length := by omega
  clear hK
  simp only [List.take_length]
  have X := And.intro noX (Int.lt_irrefl (l.length : Int))
  (refine run ?_; repeat' (first | with_reducible exact trivial | ((with_reducible apply Fork.mk) <;> intro hb) | with_reducible apply Two.mk))
  exact finK [(H.length, 0)] (.map H.length) [.map none (esD (knoF [] l))] hR hC' hcl ⟨rfl, rfl⟩

/-- an order, for a call -/
theorem call_ok (G : Gl) (hG : GClosed G) (k : List Od) (kb : Nat) (H : List Blk) (hkb : H[kb]? = some (.map none (esD k))) (e : Ex) (hw : e.wt < 4294967296) :
    ACall Tryz.prog G 65 [.map kb, e.sv] H (fun r H' => H' = H ∧ r = .tuple [.agg (callO k e).1.cells, .bool (callO k e).2]) := by
  have lk := (List.getElem?_eq_some_iff.1 hkb).1
  obtain ⟨kd, nm, nn, op, names, subs, binds, alts⟩ := e
  have hle := Ex.wt_lens kd nm nn op names subs binds alts
  have hkx := fun L => (show (H ++ L)[kb]? = some (.map none (esD k)) by rw [get_old lk]; exact hkb)
  cases hs : subs with
  | nil =>
    have hc : callO k (.mk kd nm nn op names [] binds alts) = (noOd, false) := rfl
    rw [hc]
    refine ACall.of_go TB [] tabOK _ Tryz.func65 rfl (by decide) Tryz.ntmps65 (by simp) rfl (by simp only [initEnv, Nat.reduceAdd]; rfl) fun C R' hR hC hcl hB => ?_; have X := noX; have hC' := congrArg List.length hC
    (refine run ?_; repeat' (first | with_reducible exact trivial | ((with_reducible apply Fork.mk) <;> intro hb) | with_reducible apply Two.mk))
    exact finS (n0 := H.length) hR hC' hcl (.same _ rfl) ⟨rfl, rfl⟩
  | cons s r =>
    obtain ⟨k2, n2, nn2, op2, ns2, ss2, bs2, as2⟩ := s
    have hc : callO k (.mk kd nm nn op names (.mk k2 n2 nn2 op2 ns2 ss2 bs2 as2 :: r) binds alts) = if k2 ≠ 1 then (noOd, false) else (getOd k n2, (findOd k n2).isSome && decide ((getOd k n2).arity < ((Ex.mk k2 n2 nn2 op2 ns2 ss2 bs2 as2 :: r).length : Int))) := rfl
    rw [hc]
    rw [hs] at hle
    have hs0 : (Ex.mk k2 n2 nn2 op2 ns2 ss2 bs2 as2 :: r)[0]? = some (.mk k2 n2 nn2 op2 ns2 ss2 bs2 as2) := rfl
    have hlr : (Ex.mk k2 n2 nn2 op2 ns2 ss2 bs2 as2 :: r).length = r.length + 1 := rfl
    generalize hS : Ex.mk k2 n2 nn2 op2 ns2 ss2 bs2 as2 :: r = S at *
    have hlr0 : ¬ (S.length : Int) = 0 := by omega
    have hz := od_zero k n2
    have hh := esD_has k n2
    refine ACall.of_go TB [] tabOK _ Tryz.func65 rfl (by decide) Tryz.ntmps65 (by simp) rfl (by simp only [initEnv, Nat.reduceAdd]; rfl) fun C R' hR hC hcl hB => ?_; have X := noX; have hC' := congrArg List.length hC
    have X := And.intro X (And.intro hkx (And.intro hz (And.intro hh (And.intro hs0 hlr0))))
    (refine run ?_; repeat' (first | with_reducible exact trivial | ((with_reducible apply Fork.mk) <;> intro hb) | with_reducible apply Two.mk))
    · exact finS (n0 := H.length) hR hC' hcl (.same _ rfl) ⟨rfl, by rw [if_pos hb]; rfl⟩
    · exact finS (n0 := H.length) hR hC' hcl (.same _ (by simp only [resSV, SV.under, SV.underL, intL_under, Bool.and_self])) ⟨rfl, by rw [if_neg hb]; rfl⟩
end Go.Proofs.YtehfihnfeakmaaaGreatDoor
end

section
namespace Go.Proofs.YtehfihnfeakmaaaGreatDoor
open Go
set_option linter.unusedSimpArgs false
set_option linter.unusedVariables false
set_option maxRecDepth 10000
set_option maxHeartbeats 4000000

/-! ### lists of one's own: l, and what stands behind -/
theorem junk_get {l j : List Str} {i : Nat} (h : i < l.length) : ((l ++ j).map SV.str)[i]? = some (.str l[i]) := by
  rw [List.getElem?_map, List.getElem?_append_left h, List.getElem?_eq_getElem h]; rfl
theorem index_sl (G : Gl) (hG : GClosed G) (l j : List Str) (v : Str) (H : List Blk) (id g : Nat) (hid : H[id]? = some (.cells g 1 ((l ++ j).map .str))) (hl : l.length < 1099511627776) :
    ACall Tryz.prog G 145 [.sl id g 0 l.length, .str v] H (fun r H' => H' = H ∧ r = .int .i64 (idxFrom 0 l v)) := by
  have key : ∀ (l : List Str) (i n : Nat), i ≤ l.length → v ∉ l.take i → idxFrom n l v = idxFrom (n + i) (l.drop i) v := by
    intro l
    induction l with
    | nil => intro i n hi _; have : i = 0 := by simpa using hi
             subst this; rfl
    | cons x r ih =>
      intro i n hi hv
      cases i with
      | zero => rfl
      | succ i =>
        rw [List.take_succ_cons, List.mem_cons] at hv
        have hx : ¬ v = x := fun e => hv (.inl e)
        rw [idxFrom, if_neg (by first | exact hx | exact fun e => hx e.symm), ih i (n + 1) (by simpa using hi) (fun h => hv (.inr h)), List.drop_succ_cons]
        congr 1; omega
  refine ACall.of_go TB [] tabOK _ Tryz.func145 rfl (by decide) Tryz.ntmps145 (by simp) rfl (by simp only [initEnv, Nat.reduceAdd]; rfl) fun C R' hR hC hcl hB => ?_; have X := noX; have hC' := congrArg List.length hC
  have X := And.intro X hid
  (refine run ?_; repeat' (first | with_reducible exact trivial | ((with_reducible apply Fork.mk) <;> intro hb) | with_reducible apply Two.mk))
  refine go_loop (fun i : Nat => [(0, .sl id g 0 l.length), (1, .str v), (7, .int .i64 l.length), (8, .int .i64 i)]) (fun _ => H) (fun i => l.length - i) (fun i => i ≤ l.length ∧ v ∉ l.take i) 0 ⟨Nat.zero_le _, by simp⟩ (Wk.sub (by simp [subEnv, look])) ?_
  rintro K i ⟨hi, hno⟩ hK
  rcases Nat.lt_or_ge i l.length with hlt | hge
  · have e1 := junk_get (j := j) hlt
    have X := And.intro X e1
    (refine run ?_; repeat' (first | with_reducible exact trivial | ((with_reducible apply Fork.mk) <;> intro hb) | with_reducible apply Two.mk))
    · refine Fin.out hR ⟨rfl, ?_⟩
      rw [key l i 0 hi hno, List.drop_eq_getElem_cons hlt, idxFrom, if_pos (by first | exact hb | exact hb.symm), Nat.zero_add]; rfl
    · refine hK _ _ (i + 1) (by omega) ⟨by omega, ?_⟩ (Wk.sub (by simp [subEnv, look]))
      rw [List.take_succ_eq_append_getElem hlt, List.mem_append, List.mem_singleton]
      exact fun h => h.elim hno hb
  · obtain rfl : i = l.length := by omega
    clear hK
    have X := And.intro X (Int.lt_irrefl (l.length : Int))
    (refine run ?_; repeat' (first | with_reducible exact trivial | ((with_reducible apply Fork.mk) <;> intro hb) | with_reducible apply Two.mk))
    refine Fin.out hR ⟨rfl, ?_⟩
    rw [key l l.length 0 hi hno, List.drop_length]; rfl
theorem contains_sl (G : Gl) (hG : GClosed G) (l j : List Str) (v : Str) (H : List Blk) (id g : Nat) (hid : H[id]? = some (.cells g 1 ((l ++ j).map .str))) (hl : l.length < 1099511627776) :
    ACall Tryz.prog G 119 [.sl id g 0 l.length, .str v] H (fun r H' => H' = H ∧ r = .bool (decide (v ∈ l))) := by
  refine ACall.of_go TB [] tabOK _ Tryz.func119 rfl (by decide) Tryz.ntmps119 (by simp) rfl (by simp only [initEnv, Nat.reduceAdd]; rfl) fun C R' hR hC hcl hB => ?_; have X := noX; have hC' := congrArg List.length hC
  (refine run ?_; repeat' (first | with_reducible exact trivial | ((with_reducible apply Fork.mk) <;> intro hb) | with_reducible apply Two.mk))
  refine callS (index_sl G hG l j v H id g hid hl) ?_
  rintro r H' ⟨rfl, rfl⟩
  (refine run ?_; repeat' (first | with_reducible exact trivial | ((with_reducible apply Fork.mk) <;> intro hb) | with_reducible apply Two.mk))
  refine Fin.out hR ⟨rfl, ?_⟩
  rcases idxFrom_ge l v 0 with h | h
  · simp [h.1, h.2, resSV]
  · simp only [h.2, decide_true, SV.bool.injEq, decide_eq_true_eq, resSV]; omega
/-- the first place at which something holds -/
theorem indexF_sl (G : Gl) (hG : GClosed G) (f : SV) (p : Str → Bool) (l j : List Str) (H : List Blk) (id g : Nat) (hid : H[id]? = some (.cells g 1 ((l ++ j).map .str))) (hl : l.length < 1099511627776) (hfu : f.under H.length = true)
    (hf : ∀ n, ACallV Tryz.prog G f [.str n] H (fun r H' => H' = H ∧ r = .bool (p n))) :
    ACall Tryz.prog G 115 [.sl id g 0 l.length, f] H (fun r H' => H' = H ∧ r = .int .i64 (match l.findIdx? p with | some i => (i : Int) | none => -1)) := by
  refine ACall.of_go TB [] tabOK _ Tryz.func115 rfl (by decide) Tryz.ntmps115 (by simp) rfl (by simp only [initEnv, Nat.reduceAdd]; rfl) fun C R' hR hC hcl hB => ?_; have X := noX; have hC' := congrArg List.length hC
  have X := And.intro X hid
  (refine run ?_; repeat' (first | with_reducible exact trivial | ((with_reducible apply Fork.mk) <;> intro hb) | with_reducible apply Two.mk))
  refine go_loop (fun i : Nat => [(0, .sl id g 0 l.length), (1, f), (7, .int .i64 l.length), (8, .int .i64 i)]) (fun _ => H) (fun i => l.length - i) (fun i => i ≤ l.length ∧ ∀ x ∈ l.take i, p x = false) 0 ⟨Nat.zero_le _, by simp⟩ (Wk.sub (by simp [subEnv, look])) ?_
  rintro K i ⟨hi, hno⟩ hK
  rcases Nat.lt_or_ge i l.length with hlt | hge
  · have e1 := junk_get (j := j) hlt
    have X := And.intro X e1
    (refine run ?_; repeat' (first | with_reducible exact trivial | ((with_reducible apply Fork.mk) <;> intro hb) | with_reducible apply Two.mk))
    refine callV (hf l[i]) ?_
    rintro r H' ⟨rfl, rfl⟩
    cases hb : p l[i]
    · (refine run ?_; repeat' (first | with_reducible exact trivial | ((with_reducible apply Fork.mk) <;> intro hb) | with_reducible apply Two.mk))
      refine hK _ _ (i + 1) (by omega) ⟨by omega, ?_⟩ (Wk.sub (by simp [subEnv, look]))
      rw [List.take_succ_eq_append_getElem hlt]
      intro x hx
      rcases List.mem_append.1 hx with hx | hx
      · exact hno x hx
      · rw [List.mem_singleton.1 hx]; exact hb
    · have hfi : l.findIdx? p = some i := by
        rw [List.findIdx?_eq_some_iff_getElem]
        refine ⟨hlt, hb, fun j hj => ?_⟩
        have := hno (l[j]'(by omega)) (by rw [List.mem_take_iff_getElem]; exact ⟨j, by omega, rfl⟩)
        simp [this]
      (refine run ?_; repeat' (first | with_reducible exact trivial | ((with_reducible apply Fork.mk) <;> intro hb) | with_reducible apply Two.mk))
      exact Fin.out hR ⟨rfl, by simp only [resSV, hfi]⟩
  · obtain rfl : i = l.length := by omega
    clear hK
    have X := And.intro X (Int.lt_irrefl (l.length : Int))
    (refine run ?_; repeat' (first | with_reducible exact trivial | ((with_reducible apply Fork.mk) <;> intro hb) | with_reducible apply Two.mk))
    have hfi : l.findIdx? p = none := by rw [List.findIdx?_eq_none_iff]; rw [List.take_length] at hno; exact hno
    exact Fin.out hR ⟨rfl, by simp only [resSV, hfi]⟩
theorem takeWhile_find (p : Str → Bool) : ∀ l : List Str, (match l.findIdx? p with | some i => l.take i | none => l) = l.takeWhile (fun n => !p n) ∧ (∀ i, l.findIdx? p = some i → i = (l.takeWhile (fun n => !p n)).length)
  | [] => ⟨rfl, fun i h => by simp at h⟩
  | x :: r => by
    have ih := takeWhile_find p r
    rw [List.findIdx?_cons, List.takeWhile_cons]
    cases hx : p x
    · simp only [Bool.not_false, if_true, Bool.false_eq_true, if_false]
      cases hr : r.findIdx? p with
      | none => rw [hr] at ih; refine ⟨by simp only [Option.map_none]; rw [← ih.1], fun i h => by simp at h⟩
      | some i =>
        rw [hr] at ih
        refine ⟨by simp only [Option.map_some, List.take_succ_cons]; rw [← ih.1], fun k h => ?_⟩
        simp only [Option.map_some, Option.some.injEq] at h
        rw [List.length_cons, ← ih.2 i rfl, h]
    · simp
theorem until1_ok (G : Gl) (hG : GClosed G) (names : List Str) (hn : names.length < 1099511627776) (v : Str) (H : List Blk) (nb : Nat) (hnb : H[nb]? = some (.cells 0 1 [.list 1 (names.map .str)])) :
    ACall Tryz.prog G 116 [.str v, .ptr nb 0 0 0] H (fun r H' => H' = H ∧ r = .bool (decide (v ∈ names))) := by
  refine ACall.of_go TB [] tabOK _ Tryz.func116 rfl (by decide) Tryz.ntmps116 (by simp) rfl (by simp only [initEnv, Nat.reduceAdd]; rfl) fun C R' hR hC hcl hB => ?_; have X := noX; have hC' := congrArg List.length hC
  have c1 := fun H => contains_list G names v H (by omega)
  have X := And.intro X hnb
  (refine run ?_; repeat' (first | with_reducible exact trivial | ((with_reducible apply Fork.mk) <;> intro hb) | with_reducible apply Two.mk))
  exact Fin.out hR ⟨rfl, rfl⟩
/-- a list up to the first of some names -/
theorem until_ok (G : Gl) (hG : GClosed G) (l j names : List Str) (H : List Blk) (id g : Nat) (hid : H[id]? = some (.cells g 1 ((l ++ j).map .str))) (hl : l.length < 1099511627776) (hn : names.length < 1099511627776) :
    ACall Tryz.prog G 66 [.sl id g 0 l.length, .list 1 (names.map .str)] H (fun r H' => H' = H ∧ r = .sl id g 0 (untilF l names).length) := by
  have li := (List.getElem?_eq_some_iff.1 hid).1
  have hix := indexF_sl G hG (.fn (.func 116) [] [.ptr H.length 0 0 0]) (fun n => decide (n ∈ names)) l j (H ++ [.cells 0 1 [.list 1 (names.map .str)]]) id g (by rw [get_old li]; exact hid) hl (by simp [SV.under, SV.underL])
    (fun n => ACallV.of (first := []) (args := [.str n]) (cap := [.ptr H.length 0 0 0]) (until1_ok G hG names hn n _ H.length (by simp)))
  have htk := takeWhile_find (fun n => decide (n ∈ names)) l
  have hun : untilF l names = l.takeWhile (fun n => !decide (n ∈ names)) := rfl
  have hjl : ((l ++ j).map SV.str).length = l.length + j.length := by simp
  have hidx := fun L => (show (H ++ L)[id]? = some (.cells g 1 ((l ++ j).map .str)) by rw [get_old li]; exact hid)
  refine ACall.of_go TB [] tabOK _ Tryz.func66 rfl (by decide) Tryz.ntmps66 (by simp) rfl (by simp only [initEnv, Nat.reduceAdd]; rfl) fun C R' hR hC hcl hB => ?_; have X := noX; have hC' := congrArg List.length hC
  have X := And.intro X (And.intro hidx hjl)
  (refine run ?_; repeat' (first | with_reducible exact trivial | ((with_reducible apply Fork.mk) <;> intro hb) | with_reducible apply Two.mk))
  refine callS hix ?_
  rintro r H' ⟨rfl, rfl⟩
  cases hr : l.findIdx? (fun n => decide (n ∈ names)) with
  | none =>
    rw [hr] at htk
    have e : untilF l names = l := by rw [hun, ← htk.1]
    simp only
    (refine run ?_; repeat' (first | with_reducible exact trivial | ((with_reducible apply Fork.mk) <;> intro hb) | with_reducible apply Two.mk))
    exact finS (n0 := H.length) hR hC' hcl (.same _ (by simpa [SV.under, resSV] using li)) ⟨rfl, by rw [e]; rfl⟩
  | some i =>
    have e := htk.2 i hr
    rw [← hun] at e
    have hil : i < l.length := by
      obtain ⟨h1, _⟩ := List.findIdx?_eq_some_iff_getElem.1 hr
      exact h1
    simp only
    (refine run ?_; repeat' (first | with_reducible exact trivial | ((with_reducible apply Fork.mk) <;> intro hb) | with_reducible apply Two.mk))
    exact finS (n0 := H.length) hR hC' hcl (.same _ (by simpa [SV.under, resSV] using li)) ⟨rfl, by rw [← e]; rfl⟩
end Go.Proofs.YtehfihnfeakmaaaGreatDoor
end

section
namespace Go.Proofs.YtehfihnfeakmaaaGreatDoor
open Go
set_option linter.unusedSimpArgs false
set_option linter.unusedVariables false
set_option maxRecDepth 10000
set_option maxHeartbeats 4000000

/-- the heap in which one block of texts turns -/
theorem strsQ {H : List Blk} {id g : Nat} {l : List Str} (h : H[id]? = some (.cells g 1 (l.map .str))) :
    ∃ Q : List Str → List Blk, Q l = H ∧ (∀ xs, Q xs = H.set id (.cells g 1 (xs.map .str))) ∧ (∀ xs, (Q xs).length = H.length) ∧
      ((∀ xs, (Q xs)[id]? = some (.cells g 1 (xs.map .str))) ∧ (∀ xs L, (Q xs ++ L)[id]? = some (.cells g 1 (xs.map .str))) ∧ (∀ xs ys, (Q xs).set id (.cells g 1 (ys.map .str)) = Q ys) ∧ (∀ xs ys L, (Q xs ++ L).set id (.cells g 1 (ys.map .str)) = Q ys ++ L)) ∧ (closed H → ∀ xs, closed (Q xs)) := by
  obtain ⟨Q, q0, qd, hlen, ⟨x1, x2, x3, x4⟩, qc⟩ := cellsQ h
  exact ⟨fun xs => Q (xs.map .str), q0, fun xs => qd _, fun xs => hlen _, ⟨fun xs => x1 _, fun xs L => x2 _ L, fun xs ys => x3 _ _, fun xs ys L => x4 _ _ L⟩, fun hc xs => qc hc _ (SV.underL_map fun _ _ => rfl)⟩
theorem filter_snoc (p : Str → Bool) (l : List Str) (x : Str) : (l ++ [x]).filter p = l.filter p ++ if p x then [x] else [] := by
  rw [List.filter_append, List.filter_cons]; rfl
/-- what is left when some are deleted, in place -/
theorem delete_ok (G : Gl) (hG : GClosed G) (f : SV) (p : Str → Bool) (l j : List Str) (H : List Blk) (id g : Nat) (hid : H[id]? = some (.cells g 1 ((l ++ j).map .str))) (hl : l.length < 1099511627776) (hfu : f.under H.length = true)
    (hf : ∀ (n : Str) (vs : List SV), ACallV Tryz.prog G f [.str n] (H.set id (.cells g 1 vs)) (fun r H' => H' = H.set id (.cells g 1 vs) ∧ r = .bool (p n))) :
    ACall Tryz.prog G 117 [.sl id g 0 l.length, f] H (fun r H' => ∃ j' : List Str, H' = H.set id (.cells g 1 ((l.filter (fun n => !p n) ++ j').map .str)) ∧ r = .sl id g 0 (l.filter (fun n => !p n)).length) := by
  have li := (List.getElem?_eq_some_iff.1 hid).1
  obtain ⟨Q, q0, qd, hlen, qx, qc⟩ := cellsQ hid
  simp only [← qd] at hf ⊢
  have hidx := fun n => hf n ((l ++ j).map .str)
  have hix := indexF_sl G hG f p l j (Q ((l ++ j).map .str)) id g (qx.1 _) hl (by rw [hlen]; exact hfu) hidx
  rw [← q0]
  refine ACall.of_go TB [] tabOK _ Tryz.func117 rfl (by decide) Tryz.ntmps117 (by simp) rfl (by simp only [initEnv, Nat.reduceAdd]; rfl) fun C R' hR hC hcl hB => ?_; have X := noX; have hC' := congrArg List.length hC
  have hC' := hC'.trans (hlen _)
  have hcls : ∀ xs : List Str, closed (Q (xs.map .str)) := fun xs => qc (q0 ▸ hcl) _ (SV.underL_map fun _ _ => rfl)
  generalize H.length = n0 at *
  have X := And.intro X qx
  (refine run ?_; repeat' (first | with_reducible exact trivial | ((with_reducible apply Fork.mk) <;> intro hb) | with_reducible apply Two.mk))
  refine callS hix ?_
  rintro r H' ⟨rfl, rfl⟩
  cases hr : l.findIdx? p with
  | none =>
    simp only
    (refine run ?_; repeat' (first | with_reducible exact trivial | ((with_reducible apply Fork.mk) <;> intro hb) | with_reducible apply Two.mk))
    have e : l.filter (fun n => !p n) = l := by
      rw [List.filter_eq_self]
      intro x hx
      rw [List.findIdx?_eq_none_iff] at hr
      simp [hr x hx]
    exact Fin.out hR ⟨j, by rw [e], by rw [e]; rfl⟩
  | some i0 =>
    obtain ⟨hi0, hpi, hno⟩ := List.findIdx?_eq_some_iff_getElem.1 hr
    simp only
    have hne : ¬ (i0 : Int) = -1 := by omega
    have X := And.intro X hne
    (refine run ?_; repeat' (first | with_reducible exact trivial | ((with_reducible apply Fork.mk) <;> intro hb) | with_reducible apply Two.mk))
    have hf0 : (l.take (i0 + 1)).filter (fun n => !p n) = l.take i0 := by
      rw [List.take_succ_eq_append_getElem hi0, filter_snoc, hpi]
      simp only [Bool.not_true, Bool.false_eq_true, if_false, List.append_nil]
      rw [List.filter_eq_self]
      intro x hx
      obtain ⟨q, hq, rfl⟩ := List.mem_take_iff_getElem.1 hx
      have := hno q (by omega)
      simpa using this
    have hfl0 : ((l.take (i0 + 1)).filter (fun n => !p n)).length = i0 := by rw [hf0, List.length_take]; omega
    refine go_loop (fun a : Nat × List Str => [(0, .sl id g 0 l.length), (1, f), (5, .int .i64 (((l.take a.1).filter (fun n => !p n)).length : Int)), (6, .int .i64 (a.1 : Int))]) (fun a => Q (a.2.map .str) ++ []) (fun a => l.length - a.1)
      (fun a => (a.1 ≤ l.length ∧ a.2.length = l.length + j.length) ∧ (∀ q, a.1 ≤ q → a.2[q]? = (l ++ j)[q]?) ∧ ((l.take a.1).filter (fun n => !p n)).length < a.1 ∧ a.2.take ((l.take a.1).filter (fun n => !p n)).length = (l.take a.1).filter (fun n => !p n)) (i0 + 1, l ++ j) ⟨⟨by simp only; omega, by simp⟩, fun q _ => rfl, by simp only; omega, ?_⟩ ?_ ?_
    · simp only
      rw [hfl0, hf0, List.take_append_of_le_length (by omega)]
    · simp only [List.append_nil, hfl0]
      exact Wk.sub (by simp [subEnv, look])
    clear X
    rintro K ⟨m, xs⟩ ⟨⟨hm, hxl⟩, hxs, hlt0, htk⟩ hK
    simp only at hm hxl hxs hlt0 htk
    dsimp only
    have hxl' : (xs.map SV.str).length = l.length + j.length := by rw [List.length_map, hxl]
    rcases Nat.lt_or_ge m l.length with hlt | hge
    · have ht := List.take_succ_eq_append_getElem hlt
      have hfs := filter_snoc (fun n => !p n) (l.take m) l[m]
      rw [← ht] at hfs
      have f1 := hxs m (Nat.le_refl _)
      rw [List.getElem?_append_left hlt, List.getElem?_eq_getElem hlt] at f1
      have f1' : (xs.map SV.str)[m]? = some (.str l[m]) := by rw [List.getElem?_map, f1]; rfl
      have hcall := hf l[m] (xs.map .str)
      generalize l[m] = x at *
      generalize hF : ((l.take m).filter (fun n => !p n)).length = F at *
      have hFx : F < xs.length := by omega
      obtain ⟨y, hy⟩ : ∃ y, xs[F]? = some y := ⟨_, List.getElem?_eq_getElem hFx⟩
      have hy' : (xs.map SV.str)[F]? = some (.str y) := by rw [List.getElem?_map, hy]; rfl
      have hset : (xs.map SV.str).set F (.str x) = (xs.set F x).map SV.str := by rw [List.map_set]
      have X := And.intro noX (And.intro qx (And.intro f1' (And.intro hy' (And.intro hxl' hset))))
      rw [List.append_nil]
      (refine run ?_; repeat' (first | with_reducible exact trivial | ((with_reducible apply Fork.mk) <;> intro hb) | with_reducible apply Two.mk))
      refine callV hcall ?_
      rintro r H' ⟨rfl, rfl⟩
      cases hpx : p x
      · simp only [hpx, Bool.not_false, if_true] at hfs
        have hF2 : ((l.take (m + 1)).filter (fun n => !p n)).length = F + 1 := by rw [hfs, List.length_append, hF]; rfl
        (refine run ?_; repeat' (first | with_reducible exact trivial | ((with_reducible apply Fork.mk) <;> intro hb) | with_reducible apply Two.mk))
        refine hK _ _ (m + 1, xs.set F x) (by simp only; omega) ⟨⟨by simp only; omega, by simpa using hxl⟩, fun q hq => ?_, by simp only [hF2]; omega, ?_⟩ ?_
        · simp only at hq
          rw [List.getElem?_set_ne (by omega)]
          exact hxs q (by omega)
        · show (xs.set F x).take ((l.take (m + 1)).filter (fun n => !p n)).length = (l.take (m + 1)).filter (fun n => !p n)
          rw [hF2, hfs, List.take_succ_eq_append_getElem (by simpa using hFx), List.getElem_set_self, List.take_set_of_le (Nat.le_refl _), htk]
        · simp only [hF2]
          rw [List.append_nil]
          exact Wk.sub (by simp [subEnv, look])
      · simp only [hpx, Bool.not_true, Bool.false_eq_true, if_false, List.append_nil] at hfs
        have hF2 : ((l.take (m + 1)).filter (fun n => !p n)).length = F := by rw [hfs, hF]
        (refine run ?_; repeat' (first | with_reducible exact trivial | ((with_reducible apply Fork.mk) <;> intro hb) | with_reducible apply Two.mk))
        refine hK _ _ (m + 1, xs) (by simp only; omega) ⟨⟨by simp only; omega, hxl⟩, fun q hq => hxs q (by simp only at hq; omega), by simp only [hF2]; omega, ?_⟩ ?_
        · show xs.take ((l.take (m + 1)).filter (fun n => !p n)).length = (l.take (m + 1)).filter (fun n => !p n)
          rw [hF2, hfs]; exact htk
        · simp only [hF2]
          rw [List.append_nil]
          exact Wk.sub (by simp [subEnv, look])
    · obtain rfl : m = l.length := by omega
      rw [List.take_length] at *
      clear hK
      generalize hF : (l.filter (fun n => !p n)).length = F at *
      have X := And.intro noX (And.intro qx (And.intro hxl' (Int.lt_irrefl (l.length : Int))))
      rw [List.append_nil]
      (refine run ?_; repeat' (first | with_reducible exact trivial | ((with_reducible apply Fork.mk) <;> intro hb) | with_reducible apply Two.mk))
      refine Fin.out hR ⟨List.replicate (l.length - F) [] ++ xs.drop (F + (l.length - F)), congrArg Q ?_, rfl⟩
      rw [← htk, List.map_append, List.map_append, List.map_take, List.map_drop, List.map_replicate]
/-- a list, and what is not in it of another one -/
theorem joinF_snoc (l more : List Str) (x : Str) : joinF l (more ++ [x]) = putO (joinF l more) x := by rw [joinF, List.foldl_append]; rfl
theorem joinF_len (l more : List Str) : (joinF l more).length ≤ l.length + more.length := by
  induction more generalizing l with
  | nil => exact Nat.le_refl _
  | cons x r ih =>
    rw [joinF, List.foldl_cons, ← joinF]
    have := ih (putO l x)
    have := putO_len l x
    simp only [List.length_cons]; omega
theorem join_ok (G : Gl) (hG : GClosed G) (l j more : List Str) (H : List Blk) (id g : Nat) (hid : H[id]? = some (.cells g 1 ((l ++ j).map .str))) (hl : l.length + more.length < 1099511627776) :
    ACall Tryz.prog G 113 [.sl id g 0 l.length, .list 1 (more.map .str)] H (fun r H' => ∃ g', H' = H.set id (.cells g' 1 ((joinF l more).map .str)) ∧ r = .sl id g' 0 (joinF l more).length) := by
  have li := (List.getElem?_eq_some_iff.1 hid).1
  obtain ⟨Q, qd⟩ : ∃ Q : Nat → List Str → List Blk, ∀ g xs, H.set id (.cells g 1 (xs.map .str)) = Q g xs := ⟨fun g xs => H.set id (.cells g 1 (xs.map .str)), fun _ _ => rfl⟩
  have hlen : ∀ g xs, (Q g xs).length = H.length := fun g xs => by rw [← qd, List.length_set]
  have qx1 : ∀ g xs, (Q g xs)[id]? = some (.cells g 1 (xs.map .str)) := fun g xs => by rw [← qd]; exact List.getElem?_set_self li
  have qx2 : ∀ g xs b x, (Q g xs).set id (.cells b 1 (xs.map .str ++ [.str x])) = Q b (xs ++ [x]) := fun g xs b x => by rw [← qd, List.set_set, ← qd, List.map_append]; rfl
  simp only [qd]
  refine ACall.of_go TB [] tabOK _ Tryz.func113 rfl (by decide) Tryz.ntmps113 (by simp) rfl (by simp only [initEnv, Nat.reduceAdd]; rfl) fun C R' hR hC hcl hB => ?_; have X := noX; have hC' := congrArg List.length hC
  refine go_trunc (t := 0) hid rfl (by simp) ?_
  rw [Nat.zero_add, List.map_append, List.take_left' (List.length_map ..), qd]
  have X := And.intro X (And.intro qx1 qx2)
  (refine run ?_; repeat' (first | with_reducible exact trivial | ((with_reducible apply Fork.mk) <;> intro hb) | with_reducible apply Two.mk))
  refine go_loop (fun a : Nat × Nat => [(0, .sl id a.2 0 (joinF l (more.take a.1)).length), (7, .list 1 (more.map .str)), (8, .int .i64 more.length), (9, .int .i64 a.1)]) (fun a => Q a.2 (joinF l (more.take a.1))) (fun a => more.length - a.1) (fun a => a.1 ≤ more.length) (0, g + 1) (Nat.zero_le _) (Wk.sub (by simp [subEnv, look, joinF])) ?_
  rintro K ⟨i, g1⟩ hi hK
  simp only at hi
  dsimp only
  rcases Nat.lt_or_ge i more.length with hlt | hge
  · have ht := List.take_succ_eq_append_getElem hlt
    have hs := joinF_snoc l (more.take i) more[i]
    rw [← ht] at hs
    have hjl := joinF_len l (more.take i)
    rw [List.length_take] at hjl
    have hidj : (Q g1 (joinF l (more.take i)))[id]? = some (.cells g1 1 ((joinF l (more.take i) ++ []).map .str)) := by rw [List.append_nil]; exact qx1 _ _
    have c1 := contains_sl G hG (joinF l (more.take i)) [] more[i] (Q g1 (joinF l (more.take i))) id g1 hidj (by omega)
    have hme : (more.map SV.str)[i]? = some (.str more[i]) := by simp [hlt]
    generalize more[i] = x at *
    generalize joinF l (more.take i) = J at *
    have hml : (J.map SV.str).length = J.length := List.length_map ..
    by_cases hx : x ∈ J
    · rw [decide_eq_true hx] at c1
      have hs' : joinF l (more.take (i + 1)) = J := by rw [hs, putO, if_pos hx]
      have X := And.intro noX (And.intro qx1 (And.intro qx2 (And.intro hme hml)))
      (refine run ?_; repeat' (first | with_reducible exact trivial | ((with_reducible apply Fork.mk) <;> intro hb) | with_reducible apply Two.mk))
      refine hK _ _ (i + 1, g1) (by simp only; omega) (by simp only; omega) ?_
      simp only [hs']
      exact Wk.sub (by simp [subEnv, look])
    · rw [decide_eq_false hx] at c1
      have hs' : joinF l (more.take (i + 1)) = J ++ [x] := by rw [hs, putO, if_neg hx]
      have X := And.intro noX (And.intro qx1 (And.intro qx2 (And.intro hme hml)))
      (refine run ?_; repeat' (first | with_reducible exact trivial | ((with_reducible apply Fork.mk) <;> intro hb) | with_reducible apply Two.mk))
      refine hK _ _ (i + 1, g1 + 1) (by simp only; omega) (by simp only; omega) ?_
      simp only [hs', List.length_append, List.length_singleton]
      exact Wk.sub (by simp [subEnv, look])
  · obtain rfl : i = more.length := by omega
    clear hK
    rw [List.take_length]
    have X := And.intro noX (Int.lt_irrefl (more.length : Int))
    (refine run ?_; repeat' (first | with_reducible exact trivial | ((with_reducible apply Fork.mk) <;> intro hb) | with_reducible apply Two.mk))
    exact Fin.out hR ⟨g1, rfl, rfl⟩
end Go.Proofs.YtehfihnfeakmaaaGreatDoor
end

section
namespace Go.Proofs.YtehfihnfeakmaaaGreatDoor
open Go
set_option linter.unusedSimpArgs false
set_option linter.unusedVariables false
set_option maxRecDepth 10000
set_option maxHeartbeats 4000000

/-! ### how many names -/
theorem nodup_le : ∀ (l L : List Str), l.Nodup → (∀ x ∈ l, x ∈ L) → l.length ≤ L.length
  | [], L, _, _ => Nat.zero_le _
  | x :: r, L, h, hs => by
    obtain ⟨a, b, rfl⟩ := List.append_of_mem (hs x (List.mem_cons_self ..))
    rw [List.nodup_cons] at h
    have := nodup_le r (a ++ b) h.2 (fun y hy => by
      have := hs y (List.mem_cons_of_mem _ hy)
      rw [List.mem_append, List.mem_cons] at this
      rw [List.mem_append]
      rcases this with h1 | h1 | h1
      · exact .inl h1
      · exact absurd (h1 ▸ hy) h.1
      · exact .inr h1)
    simp only [List.length_append, List.length_cons] at this ⊢
    omega
theorem flat_lenE {f : Ex → List Str} : ∀ {l : List Ex}, (∀ x ∈ l, (f x).length ≤ x.wt) → (l.flatMap f).length ≤ (l.map Ex.wt).sum
  | [], _ => by simp
  | x :: r, h => by
    have h2 := flat_lenE (l := r) (fun y hy => h y (List.mem_cons_of_mem _ hy))
    have h3 := h x (List.mem_cons_self ..)
    rw [List.flatMap_cons, List.length_append, List.map_cons, List.sum_cons]
    omega
theorem vrs_len : ∀ (m : Nat) (e : Ex), (vrsF m e).length ≤ e.wt
  | 0, e => Nat.zero_le _
  | m + 1, e => by
    have h1 := parts_wt e
    have h2 := flat_lenE (f := vrsF m) (l := e.parts) fun x _ => vrs_len m x
    rw [vrsF, List.length_append]
    split
    · simp only [List.length_singleton]; omega
    · simp only [List.length_nil]; omega
theorem vrs_part {m : Nat} {e p : Ex} (hp : p ∈ e.parts) {s : Str} (hs : s ∈ vrsF m p) : s ∈ vrsF (m + 1) e := by
  rw [vrsF, List.mem_append]
  exact .inr (List.mem_flatMap.2 ⟨p, hp, hs⟩)
theorem fst_vrs (sim : Ex → Bool) (k : List Od) (s : Str) : ∀ (m : Nat) (e : Ex), s ∈ fstF sim k m e → s ∈ vrsF m e
  | 0, e, h => by cases h
  | m + 1, .mk kd nm nn op names subs binds alts, h => by
    have ih := fst_vrs sim k s m
    have hin : ∀ {x : Ex}, x ∈ (Ex.mk kd nm nn op names subs binds alts).parts → s ∈ fstF sim k m x → s ∈ vrsF (m + 1) (.mk kd nm nn op names subs binds alts) := fun hx hs => vrs_part hx (ih _ hs)
    rw [Ex.parts_mk] at hin
    have hsb : ∀ {x : Ex}, x ∈ subs → s ∈ fstF sim k m x → s ∈ vrsF (m + 1) (.mk kd nm nn op names subs binds alts) := fun hx hs => hin (List.mem_append_left _ hx) hs
    rw [fstF] at h
    split at h
    · rename_i hk
      have h := List.mem_singleton.1 h
      rw [vrsF, if_pos hk, h]
      exact List.mem_append_left _ (List.mem_singleton.2 rfl)
    · have h : s ∈ (match subs with | [] => [] | t :: r => (if kd = 8 then (if 0 < r.length ∧ 1 ≤ op ∧ op ≤ 8 then rowF (fstF sim k m) sim [] (subs.take 2) else fstF sim k m t) else if kd = 4 then (if (callO k (.mk kd nm nn op names subs binds alts)).2 then rowF (fstF sim k m) sim [] (argsF subs (callO k (.mk kd nm nn op names subs binds alts)).1.nums) else fstF sim k m t) else if kd = 5 then untilF (fstF sim k m t) (binds.map Bd.name) else if kd = 6 then chcF (fstF sim k m) sim nm t alts else [] : List Str)) := h
      cases hs0 : subs with
      | nil => rw [hs0] at h; cases h
      | cons t r =>
        have hm : t ∈ subs := by rw [hs0]; exact List.mem_cons_self ..
        rw [← hs0]
        simp only [hs0] at h
        rw [← hs0] at h
        split at h
        · split at h
          · rcases rowF_mem _ _ _ _ h with h | ⟨x, h1, h2⟩
            · cases h
            · exact hsb (List.mem_of_mem_take h1) h2
          · exact hsb hm h
        · split at h
          · split at h
            · rcases rowF_mem _ _ _ _ h with h | ⟨x, h1, h2⟩
              · cases h
              · exact hsb (argsF_mem _ _ h1) h2
            · exact hsb hm h
          · split at h
            · exact hsb hm (mem_untilF h).1
            · split at h
              · unfold chcF at h
                split at h
                · rcases mem_joinF.1 h with h | h
                  · exact hsb hm h
                  · obtain ⟨a, h1, h2⟩ := (comA_sub _ _ _ (fun e => fst_nodup sim k m e) alts).2 s h
                    have h3 := (mem_untilF h2).1
                    rw [List.mem_filter] at h3
                    exact hin (List.mem_append_right _ (List.mem_append_right _ (List.mem_map.2 ⟨a, h1, rfl⟩))) h3.1
                · exact hsb hm h
              · cases h
theorem fst_len (sim : Ex → Bool) (k : List Od) (m : Nat) (e : Ex) : (fstF sim k m e).length ≤ e.wt :=
  Nat.le_trans (nodup_le _ _ (fst_nodup sim k m e) fun s hs => fst_vrs sim k s m e hs) (vrs_len m e)

end Go.Proofs.YtehfihnfeakmaaaGreatDoor
end

section
namespace Go.Proofs.YtehfihnfeakmaaaGreatDoor
open Go
set_option linter.unusedSimpArgs false
set_option linter.unusedVariables false
set_option maxRecDepth 10000
set_option maxHeartbeats 4000000

/-! ### what is looked into first, of a row -/
def FstC (G : Gl) (k : List Od) (m : Nat) : Prop := ∀ (e : Ex) (kb : Nat) (H : List Blk), e.wt ≤ m → e.wt < 4294967296 → H[kb]? = some (.map none (esD k)) →
  ACall Tryz.prog G 27 [.map kb, e.sv] H (fun r H' => ∃ j : List Str, H' = H ++ [.cells 0 1 ((fstF simS k m e ++ j).map .str)] ∧ r = .sl H.length 0 0 (fstF simS k m e).length)
theorem fst_list {G : Gl} {k : List Od} {m : Nat} (hrec : FstC G k m) (e : Ex) (kb : Nat) (H : List Blk) (he : e.wt ≤ m) (hw : e.wt < 4294967296) (hkb : H[kb]? = some (.map none (esD k))) :
    ACall Tryz.prog G 27 [.map kb, e.sv] H (fun r H' => H' = H ∧ r = .list 1 ((fstF simS k m e).map .str)) :=
  (hrec e kb H he hw hkb).fin fun C x H' h1 hcl hr => by
    obtain ⟨j, rfl, rfl⟩ := hr
    exact Fin.tellN (n0 := H.length) (R0 := fun r H' => H' = H ∧ r = .list 1 ((fstF simS k m e).map .str)) (fun _ _ h => h) rfl (by rw [h1]) hcl
      (Frz.sf (g := 0) (sz := 1) (vals := (fstF simS k m e ++ j).map .str) (List.getElem?_concat_length ..) (Nat.le_refl _) (by simp) (by rw [List.drop_zero, List.map_append, List.take_left' (List.length_map ..)]) (SV.underL_map fun _ _ => rfl)) ⟨rfl, rfl⟩
theorem row_ok (G : Gl) (hG : GClosed G) (k : List Od) (m : Nat) (hrec : FstC G k m) (es : List Ex) (hes : ∀ x ∈ es, x.wt ≤ m ∧ x.wt < 4294967296) (hel : es.length < 1099511627776) (L : List Str) (hL : L.length < 549755813888) (hsub : ∀ x ∈ es, ∀ s ∈ fstF simS k m x, s ∈ L) (kb : Nat) (H : List Blk) (hkb : H[kb]? = some (.map none (esD k))) :
    ACall Tryz.prog G 64 [.map kb, .list 8 (exCells es)] H (fun r H' => H' = H ++ [.cells 0 1 ((rowF (fstF simS k m) simS [] es).map .str)] ∧ r = .sl H.length 0 0 (rowF (fstF simS k m) simS [] es).length) := by
  have lk := (List.getElem?_eq_some_iff.1 hkb).1
  have hkx := fun L => (show (H ++ L)[kb]? = some (.map none (esD k)) by rw [get_old lk]; exact hkb)
  have hnd := fun e => fst_nodup simS k m e
  have hfl := fun e => fst_len simS k m e
  generalize hRR : rowF (fstF simS k m) simS [] es = RR
  refine ACall.of_go TB [5] tabOK _ Tryz.func64 rfl (by decide) Tryz.ntmps64 (by simp) rfl (by simp only [initEnv, Nat.reduceAdd]; rfl) fun C R' hR hC hcl hB => ?_; have X := noX; have hC' := congrArg List.length hC
  (refine run ?_; repeat' (first | with_reducible exact trivial | ((with_reducible apply Fork.mk) <;> intro hb) | with_reducible apply Two.mk))
  refine go_loop (fun a : Nat × List Str => [(0, .map kb), (5, .sl H.length 0 0 a.2.length), (8, .list 8 (exCells es)), (9, .int .i64 es.length), (10, .int .i64 a.1)]) (fun a => H ++ [.cells 0 1 (a.2.map .str)]) (fun a => es.length - a.1)
    (fun a => a.1 ≤ es.length ∧ rowF (fstF simS k m) simS a.2 (es.drop a.1) = RR ∧ a.2.Nodup ∧ ∀ s ∈ a.2, s ∈ L) (0, []) ⟨Nat.zero_le _, hRR, List.nodup_nil, fun s h => by cases h⟩ ?_ ?_
  · simp only [List.length_nil, List.map_nil]
    exact wkS (n0 := H.length) [(H.length, 0)] hG hB hC' hcl
  rintro K ⟨i, out⟩ ⟨hi, hro, hon, hoL⟩ hK
  simp only at hi hro hon hoL
  dsimp only
  have hol := nodup_le out L hon hoL
  rcases Nat.lt_or_ge i es.length with hlt | hge
  · have hx := hes es[i] (List.getElem_mem hlt)
    have c1 := fun L => fst_list hrec es[i] kb (H ++ L) hx.1 hx.2 (hkx L)
    have c2 := fun H => simpleS_ok G hG es[i] hx.2 H
    rw [List.drop_eq_getElem_cons hlt, rowF] at hro
    have hsx := hsub es[i] (List.getElem_mem hlt)
    have hfx := hfl es[i]
    have hxi : es[i]? = some es[i] := List.getElem?_eq_getElem hlt
    generalize es[i] = x at *
    have hjl := joinF_len out (fstF simS k m x)
    have hjn := joinF_nodup (more := fstF simS k m x) hon
    have hjL : ∀ s ∈ joinF out (fstF simS k m x), s ∈ L := fun s hs => (mem_joinF.1 hs).elim (hoL s) (hsx s)
    generalize fstF simS k m x = F at *
    have X := And.intro noX (And.intro hkx hxi)
    (refine run ?_; repeat' (first | with_reducible exact trivial | ((with_reducible apply Fork.mk) <;> intro hb) | with_reducible apply Two.mk))
    refine callS (join_ok G hG out [] F _ H.length 0 (by simp) (by omega)) ?_
    rintro r H' ⟨g', rfl, rfl⟩
    simp only [set_app0, List.set_cons_zero]
    generalize joinF out F = J at *
    (refine run ?_; repeat' (first | with_reducible exact trivial | ((with_reducible apply Fork.mk) <;> intro hb) | with_reducible apply Two.mk))
    · have hro : J = RR := by rw [if_neg (by simpa using hb)] at hro; exact hro
      subst hro
      exact finK [(H.length, 0)] (.sl H.length 0 0 J.length) [.cells 0 1 (J.map .str)] hR hC' hcl ⟨rfl, rfl⟩
    · rw [if_pos (by simpa using hb)] at hro
      refine hK _ _ (i + 1, J) (by simp only; omega) ⟨by simp only; omega, hro, hjn, hjL⟩ ?_
      dsimp only
      exact wkS (n0 := H.length) [(H.length, 0)] hG hB hC' hcl
  obtain rfl : i = es.length := by omega
  clear hK
  rw [List.drop_length] at hro
  have hro : out = RR := hro
  subst hro
  have X := And.intro noX (Int.lt_irrefl (es.length : Int))
  (refine run ?_; repeat' (first | with_reducible exact trivial | ((with_reducible apply Fork.mk) <;> intro hb) | with_reducible apply Two.mk))
  exact finK [(H.length, 0)] (.sl H.length 0 0 out.length) [.cells 0 1 (out.map .str)] hR hC' hcl ⟨rfl, rfl⟩
end Go.Proofs.YtehfihnfeakmaaaGreatDoor
end

section
namespace Go.Proofs.YtehfihnfeakmaaaGreatDoor
open Go
set_option linter.unusedSimpArgs false
set_option linter.unusedVariables false
set_option maxRecDepth 10000
set_option maxHeartbeats 4000000

/-! ### what is looked into first, of a choice -/
theorem lcp_self : ∀ a : List Str, lcp a a = a
  | [] => by simp [lcp]
  | x :: a => by rw [lcp, if_pos rfl, lcp_self a]
theorem lcp_take : ∀ (a b : List Str) (n : Nat), a.take n = b.take n → n ≤ a.length → n ≤ b.length → (∀ (h1 : n < a.length) (h2 : n < b.length), ¬ a[n] = b[n]) → lcp a b = a.take n
  | [], b, n, _, h, _, _ => by simp [lcp]
  | x :: a, [], n, _, _, h, _ => by
    have : n = 0 := by simpa using h
    subst this; simp [lcp]
  | x :: a, y :: b, 0, _, _, _, h => by
    have := h (by simp) (by simp)
    rw [lcp, if_neg (by simpa using this)]; rfl
  | x :: a, y :: b, n + 1, ht, h1, h2, h3 => by
    rw [List.take_succ_cons, List.take_succ_cons, List.cons.injEq] at ht
    rw [lcp, if_pos ht.1, lcp_take a b n ht.2 (by simpa using h1) (by simpa using h2) (fun q1 q2 => by have := h3 (by simpa using q1) (by simpa using q2); simpa using this), List.take_succ_cons]
theorem comF_snoc (f : Ex → List Str) (nm : Str) (out : List Str) (a : Al) : ∀ (l : List Al) (c : List Str), comF f nm out c (l ++ [a]) = lcp (comF f nm out c l) (altF f nm out a)
  | [], c => rfl
  | b :: r, c => by rw [List.cons_append, comF, comF]; exact comF_snoc f nm out a r _
theorem comA_snoc (f : Ex → List Str) (nm : Str) (out : List Str) (l : List Al) (a : Al) : comA f nm out (l ++ [a]) = lcp (if l.length = 0 then altF f nm out a else comA f nm out l) (altF f nm out a) := by
  cases l with
  | nil => rw [List.length_nil, if_pos rfl, lcp_self]; rfl
  | cons b r => rw [List.cons_append, comA, comA, comF_snoc, if_neg (by simp)]
theorem until_take (l names j : List Str) : (untilF l names ++ j).take (untilF l names).length = untilF l names := List.take_left' rfl
theorem untilF_pre (l names : List Str) : l.take (untilF l names).length = untilF l names := by
  induction l with
  | nil => rfl
  | cons x r ih =>
    rw [untilF, List.takeWhile_cons]
    split
    · rw [List.length_cons, List.take_succ_cons]
      congr 1
    · rfl
theorem untilF_len (l names : List Str) : (untilF l names).length ≤ l.length := (List.takeWhile_sublist _).length_le
theorem comA_len {f : Ex → List Str} {nm : Str} {out : List Str} {B : Nat} : ∀ (l : List Al), (∀ a ∈ l, (f a.body).length ≤ B) → (comA f nm out l).length ≤ B
  | [], _ => Nat.zero_le _
  | a :: r, h => by
    have h1 := (comF_sub f nm out r (altF f nm out a)).length_le
    have h2 := untilF_len ((f a.body).filter fun n => !(decide (n = nm) || decide (n ∈ out))) a.names
    have h3 : ((f a.body).filter fun n => !(decide (n = nm) || decide (n ∈ out))).length ≤ (f a.body).length := List.length_filter_le ..
    have h4 := h a (List.mem_cons_self ..)
    rw [comA]
    unfold altF at h1 ⊢
    omega
theorem choice1_ok (G : Gl) (hG : GClosed G) {kd : Int} {nm : Str} {nn op : Int} {names : List Str} {subs : List Ex} {binds : List Bd} {alts : List Al} (out j : List Str) (ho : out.length < 1099511627776) (n : Str) (H : List Blk) (eb ob oid og : Nat)
    (h1 : H[eb]? = some (.cells 0 8 [.agg [.int .i64 kd, .str nm, .int .i64 nn, .int .i64 op, .list 1 (names.map .str), .list 8 (exCells subs), .list 9 (bdCells binds), .list 12 (alCells alts)]])) (h2 : H[ob]? = some (.cells 0 1 [.sl oid og 0 out.length])) (h3 : H[oid]? = some (.cells og 1 ((out ++ j).map .str))) :
    ACall Tryz.prog G 118 [.str n, .ptr eb 0 0 0, .ptr ob 0 0 0] H (fun r H' => H' = H ∧ r = .bool (decide (n = nm) || decide (n ∈ out))) := by
  have c1 := contains_sl G hG out j n H oid og h3 ho
  refine ACall.of_go TB [] tabOK _ Tryz.func118 rfl (by decide) Tryz.ntmps118 (by simp) rfl (by simp only [initEnv, Nat.reduceAdd]; rfl) fun C R' hR hC hcl hB => ?_; have X := noX; have hC' := congrArg List.length hC
  have X := And.intro X (And.intro h1 h2)
  (refine run ?_; repeat' (first | with_reducible exact trivial | ((with_reducible apply Fork.mk) <;> intro hb) | with_reducible apply Two.mk))
  all_goals (refine Fin.out hR ⟨rfl, ?_⟩; simp_all [resSV])
theorem choice_ok (G : Gl) (hG : GClosed G) (k : List Od) (m : Nat) (hrec : FstC G k m) (nm : Str) (kd nn op : Int) (names : List Str) (s : Ex) (rs : List Ex) (binds : List Bd) (alts : List Al) (hw : (Ex.mk kd nm nn op names (s :: rs) binds alts).wt ≤ m + 1) (hw0 : (Ex.mk kd nm nn op names (s :: rs) binds alts).wt < 4294967296) (kb : Nat) (H : List Blk) (hkb : H[kb]? = some (.map none (esD k))) :
    ACall Tryz.prog G 67 [.map kb, (Ex.mk kd nm nn op names (s :: rs) binds alts).sv] H (fun r H' => ∃ j : List Str, H' = H ++ [.cells 0 1 ((chcF (fstF simS k m) simS nm s alts ++ j).map .str)] ∧ r = .sl H.length 0 0 (chcF (fstF simS k m) simS nm s alts).length) := by
  have lk := (List.getElem?_eq_some_iff.1 hkb).1
  have hkx := fun L => (show (H ++ L)[kb]? = some (.map none (esD k)) by rw [get_old lk]; exact hkb)
  have hle := Ex.wt_lens kd nm nn op names (s :: rs) binds alts
  have hpw : ∀ p ∈ (Ex.mk kd nm nn op names (s :: rs) binds alts).parts, p.wt ≤ m ∧ p.wt < 4294967296 := fun p hp => by have := Ex.wt_parts hp; exact ⟨by omega, by omega⟩
  rw [Ex.parts_mk] at hpw
  have hs := hpw s (by simp)
  have hs0 : (s :: rs)[0]? = some s := rfl
  have hsl : 0 < (s :: rs).length := by simp
  generalize hS : s :: rs = subs at *
  have hfl := fst_len simS k m s
  have hcf : chcF (fstF simS k m) simS nm s alts = if simS s then joinF (fstF simS k m s) (comA (fstF simS k m) nm (fstF simS k m s) alts) else fstF simS k m s := rfl
  rw [hcf]
  have c2 := fun H => simpleS_ok G hG s hs.2 H
  have hfirst := fun L => hrec s kb (H ++ L) hs.1 hs.2 (hkx L)
  generalize hF : fstF simS k m s = F at *
  refine ACall.of_go TB [] tabOK _ Tryz.func67 rfl (by decide) Tryz.ntmps67 (by simp) rfl (by simp only [initEnv, Nat.reduceAdd]; rfl) fun C R' hR hC hcl hB => ?_; have X := noX; have hC' := congrArg List.length hC
  have X := And.intro X (And.intro hkx hs0)
  (refine run ?_; repeat' (first | with_reducible exact trivial | ((with_reducible apply Fork.mk) <;> intro hb) | with_reducible apply Two.mk))
  refine callS (hfirst _) ?_
  rintro r H' ⟨j0, rfl, rfl⟩
  simp only [List.append_assoc, List.cons_append, List.nil_append, List.length_append, List.length_cons, List.length_nil, List.length_set, X, Nat.reduceAdd]
  cases hsim : simS s
  · rw [hsim] at c2
    simp only [hsim, Bool.false_eq_true, if_false] at hR
    (refine run ?_; repeat' (first | with_reducible exact trivial | ((with_reducible apply Fork.mk) <;> intro hb) | with_reducible apply Two.mk))
    exact finK [(H.length + 1, 0)] (.sl H.length 0 0 F.length) [.cells 0 1 ((F ++ j0).map .str)] hR hC' hcl ⟨j0, rfl, rfl⟩
  rw [hsim] at c2
  simp only [hsim, if_true] at hR
  (refine run ?_; repeat' (first | with_reducible exact trivial | ((with_reducible apply Fork.mk) <;> intro hb) | with_reducible apply Two.mk))
  refine go_loop (fun i : Nat => [(0, .map kb), (3, .ptr H.length 0 0 0), (5, .ptr (H.length + 2) 0 0 0), (6, .list 1 ((comA (fstF simS k m) nm F (alts.take i)).map .str)), (25, .list 12 (alCells alts)), (26, .int .i64 alts.length), (27, .int .i64 i)]) (fun i => H ++ [.cells 0 8 [.agg [.int .i64 kd, .str nm, .int .i64 nn, .int .i64 op, .list 1 (names.map .str), .list 8 (exCells subs), .list 9 (bdCells binds), .list 12 (alCells alts)]], .cells 0 1 ((F ++ j0).map .str), .cells 0 1 [.sl (H.length + 1) 0 0 F.length]]) (fun i => alts.length - i) (fun i => i ≤ alts.length) 0 (Nat.zero_le _) ?_ ?_
  · simp only [List.take_zero, show comA (fstF simS k m) nm F [] = [] from rfl, List.map_nil]
    exact wkS (n0 := H.length) [(H.length, 0), (H.length + 1, 0), (H.length + 2, 0)] hG hB hC' hcl
  rintro K i hi hK
  rcases Nat.lt_or_ge i alts.length with hlt | hge
  · have ht := List.take_succ_eq_append_getElem hlt
    have hcs := comA_snoc (fstF simS k m) nm F (alts.take i) alts[i]
    rw [← ht, List.length_take, Nat.min_eq_left (by omega)] at hcs
    have hab := hpw alts[i].body (List.mem_append_right _ (List.mem_append_right _ (List.mem_map.2 ⟨_, List.getElem_mem hlt, rfl⟩)))
    have hfa := fun L => hrec alts[i].body kb (H ++ L) hab.1 hab.2 (hkx L)
    have hfal := fst_len simS k m alts[i].body
    have han : alts[i].names.length < 4294967296 := by have := Al.names_lt (kd := kd) (nm := nm) (nn := nn) (op := op) (names := names) (subs := subs) (binds := binds) hlt; omega
    have hal : altF (fstF simS k m) nm F alts[i] = untilF ((fstF simS k m alts[i].body).filter fun n => !(decide (n = nm) || decide (n ∈ F))) alts[i].names := rfl
    rw [hal] at hcs
    have hcw := comA_len (f := fstF simS k m) (nm := nm) (out := F) (B := 4294967295) (alts.take i) (fun a ha => by
      have h1 := fst_len simS k m a.body
      have h2 := (hpw a.body (List.mem_append_right _ (List.mem_append_right _ (List.mem_map.2 ⟨a, List.mem_of_mem_take ha, rfl⟩)))).2
      omega)
    generalize hF2 : fstF simS k m alts[i].body = F2 at *
    have hlen2 := untilF_len (F2.filter fun n => !(decide (n = nm) || decide (n ∈ F))) alts[i].names
    have hfl2 : (F2.filter fun n => !(decide (n = nm) || decide (n ∈ F))).length ≤ F2.length := List.length_filter_le ..
    generalize hc0 : comA (fstF simS k m) nm F (alts.take i) = c at *
    have X := And.intro noX hkx
    (refine run ?_; repeat' (first | with_reducible exact trivial | ((with_reducible apply Fork.mk) <;> intro hb) | with_reducible apply Two.mk))
    refine xcallS (hfa _) ?_
    rintro r H' ⟨j1, rfl, rfl⟩
    simp only [List.append_assoc, List.cons_append, List.nil_append, List.length_append, List.length_cons, List.length_nil, List.length_set, X, Nat.reduceAdd]
    (refine run ?_; repeat' (first | with_reducible exact trivial | ((with_reducible apply Fork.mk) <;> intro hb) | with_reducible apply Two.mk))
    refine xcallS (delete_ok G hG (.fn (.func 118) [] [.ptr H.length 0 0 0, .ptr (H.length + 2) 0 0 0]) (fun n => decide (n = nm) || decide (n ∈ F)) F2 j1 _ (H.length + 4) 0 (by simp) (by omega) (by simp [SV.under, SV.underL]) (fun n vs => ACallV.of (first := []) (args := [.str n]) (cap := [.ptr H.length 0 0 0, .ptr (H.length + 2) 0 0 0])
      (choice1_ok G hG (kd := kd) (nn := nn) (op := op) (names := names) (subs := subs) (binds := binds) (alts := alts) F j0 (by omega) n _ H.length (H.length + 2) (H.length + 1) 0 (by simp [set_app]) (by simp [set_app]) (by simp [set_app])))) ?_
    rintro r H' ⟨j2, rfl, rfl⟩
    simp only [set_app, List.set_cons_succ, List.set_cons_zero]
    (refine run ?_; repeat' (first | with_reducible exact trivial | ((with_reducible apply Fork.mk) <;> intro hb) | with_reducible apply Two.mk))
    generalize hfilt : F2.filter (fun n => !(decide (n = nm) || decide (n ∈ F))) = fl at *
    refine xcallS (until_ok G hG fl j2 alts[i].names _ (H.length + 4) 0 (by simp) (by omega) (by omega)) ?_
    rintro r H' ⟨rfl, rfl⟩
    have htk : ((fl ++ j2).map SV.str).take (untilF fl alts[i].names).length = (untilF fl alts[i].names).map SV.str := by
      rw [← List.map_take, List.take_append_of_le_length hlen2, untilF_pre]
    have hul : (untilF fl alts[i].names).length ≤ (fl ++ j2).length := by rw [List.length_append]; omega
    generalize hu : untilF fl alts[i].names = u at *
    (refine runC ?_; repeat' (first | with_reducible exact trivial | ((with_reducible apply Fork.mk) <;> intro hb) | with_reducible apply Two.mk))
    refine go_trunc (t := 9) (id := H.length + 4) (by rw [get_app]; rfl) rfl (by simpa using hul) ?_
    simp only [Nat.zero_add, htk, set_app, List.set_cons_succ, List.set_cons_zero]
    refine go_cut (fun _ : Unit => [(0, .map kb), (3, .ptr H.length 0 0 0), (5, .ptr (H.length + 2) 0 0 0), (6, .list 1 ((if i = 0 then u else c).map .str)), (9, .list 1 (u.map .str)), (25, .list 12 (alCells alts)), (26, .int .i64 alts.length), (27, .int .i64 i)]) (fun _ => H ++ [.cells 0 8 [.agg [.int .i64 kd, .str nm, .int .i64 nn, .int .i64 op, .list 1 (names.map .str), .list 8 (exCells subs), .list 9 (bdCells binds), .list 12 (alCells alts)]], .cells 0 1 ((F ++ j0).map .str), .cells 0 1 [.sl (H.length + 1) 0 0 F.length]]) (fun _ => True) (fun K2 hK2 => ?_) (fun _ _ => ?_)
    · have X := noX
      (refine run ?_; repeat' (first | with_reducible exact trivial | ((with_reducible apply Fork.mk) <;> intro hb) | with_reducible apply Two.mk))
      · refine hK2 _ _ () trivial ?_
        rw [if_pos (by omega)]
        exact wkS (n0 := H.length) [(H.length, 0), (H.length + 1, 0), (H.length + 2, 0)] hG hB hC' hcl
      · refine hK2 _ _ () trivial ?_
        rw [if_neg (by omega)]
        exact wkS (n0 := H.length) [(H.length, 0), (H.length + 1, 0), (H.length + 2, 0)] hG hB hC' hcl
    have hcl2 : (if i = 0 then u else c).length < 4294967296 := by
      split
      · omega
      · omega
    generalize (if i = 0 then u else c) = c1 at *
    have X := noX
    (refine run ?_; repeat' (first | with_reducible exact trivial | ((with_reducible apply Fork.mk) <;> intro hb) | with_reducible apply Two.mk))
    refine go_loop (fun n : Nat => [(0, .map kb), (3, .ptr H.length 0 0 0), (5, .ptr (H.length + 2) 0 0 0), (6, .list 1 (c1.map .str)), (9, .list 1 (u.map .str)), (10, .int .i64 n), (25, .list 12 (alCells alts)), (26, .int .i64 alts.length), (27, .int .i64 i)]) (fun _ => H ++ [.cells 0 8 [.agg [.int .i64 kd, .str nm, .int .i64 nn, .int .i64 op, .list 1 (names.map .str), .list 8 (exCells subs), .list 9 (bdCells binds), .list 12 (alCells alts)]], .cells 0 1 ((F ++ j0).map .str), .cells 0 1 [.sl (H.length + 1) 0 0 F.length]]) (fun n => c1.length - n) (fun n => n ≤ c1.length ∧ n ≤ u.length ∧ c1.take n = u.take n) 0 ⟨Nat.zero_le _, Nat.zero_le _, rfl⟩ ?_ ?_
    · exact wkS (n0 := H.length) [(H.length, 0), (H.length + 1, 0), (H.length + 2, 0)] hG hB hC' hcl
    rintro K2 n ⟨hn1, hn2, hnt⟩ hK2
    have hmm : IntKind.i64.min ≤ (u.length : Int) ∧ (u.length : Int) ≤ IntKind.i64.max := ⟨by show (-9223372036854775808 : Int) ≤ _; omega, by show _ ≤ (9223372036854775807 : Int); omega⟩
    by_cases hb1 : n < c1.length ∧ n < u.length
    · have hmin : (n : Int) < (if (u.length : Int) < (c1.length : Int) then (u.length : Int) else (c1.length : Int)) := by split <;> omega
      have g1 : (c1.map SV.str)[n]? = some (.str c1[n]) := by simp [hb1.1]
      have g2 : (u.map SV.str)[n]? = some (.str u[n]) := by simp [hb1.2]
      have X := And.intro noX (And.intro hmm (And.intro hmin (And.intro g1 g2)))
      (refine run ?_; repeat' (first | with_reducible exact trivial | ((with_reducible apply Fork.mk) <;> intro hb) | with_reducible apply Two.mk))
      · have he : c1[n] = u[n] := by simpa using hb
        refine hK2 _ _ (n + 1) (by omega) ⟨by omega, by omega, by rw [List.take_succ_eq_append_getElem hb1.1, List.take_succ_eq_append_getElem hb1.2, hnt, he]⟩ ?_
        exact wkS (n0 := H.length) [(H.length, 0), (H.length + 1, 0), (H.length + 2, 0)] hG hB hC' hcl
      · have he : ¬ c1[n] = u[n] := by simpa using hb
        have hlc := lcp_take c1 u n hnt hn1 hn2 (fun _ _ => he)
        refine hK _ _ (i + 1) (by omega) (by omega) ?_
        rw [hcs, hlc, Nat.sub_zero, ← List.map_take]
        exact wkS (n0 := H.length) [(H.length, 0), (H.length + 1, 0), (H.length + 2, 0)] hG hB hC' hcl
    · have hmin : ¬ (n : Int) < (if (u.length : Int) < (c1.length : Int) then (u.length : Int) else (c1.length : Int)) := by split <;> omega
      have X := And.intro noX (And.intro hmm hmin)
      (refine run ?_; repeat' (first | with_reducible exact trivial | ((with_reducible apply Fork.mk) <;> intro hb) | with_reducible apply Two.mk))
      have hlc := lcp_take c1 u n hnt hn1 hn2 (fun q1 q2 => absurd ⟨q1, q2⟩ hb1)
      refine hK _ _ (i + 1) (by omega) (by omega) ?_
      rw [hcs, hlc, Nat.sub_zero, ← List.map_take]
      exact wkS (n0 := H.length) [(H.length, 0), (H.length + 1, 0), (H.length + 2, 0)] hG hB hC' hcl
  obtain rfl : i = alts.length := by omega
  clear hK
  rw [List.take_length]
  have hcw := comA_len (f := fstF simS k m) (nm := nm) (out := F) (B := 4294967295) alts (fun a ha => by
    have h1 := fst_len simS k m a.body
    have h2 := (hpw a.body (List.mem_append_right _ (List.mem_append_right _ (List.mem_map.2 ⟨a, ha, rfl⟩)))).2
    omega)
  generalize comA (fstF simS k m) nm F alts = c at *
  have X := And.intro noX (Int.lt_irrefl (alts.length : Int))
  (refine run ?_; repeat' (first | with_reducible exact trivial | ((with_reducible apply Fork.mk) <;> intro hb) | with_reducible apply Two.mk))
  refine callS (join_ok G hG F j0 c _ (H.length + 1) 0 (by simp) (by omega)) ?_
  rintro r H' ⟨g', rfl, rfl⟩
  simp only [set_app, List.set_cons_succ, List.set_cons_zero]
  generalize joinF F c = J at *
  (refine run ?_; repeat' (first | with_reducible exact trivial | ((with_reducible apply Fork.mk) <;> intro hb) | with_reducible apply Two.mk))
  exact finK [(H.length + 1, 0)] (.sl H.length 0 0 J.length) [.cells 0 1 (J.map .str)] hR hC' hcl ⟨[], by rw [List.append_nil], rfl⟩
end Go.Proofs.YtehfihnfeakmaaaGreatDoor
end

section
namespace Go.Proofs.YtehfihnfeakmaaaGreatDoor
open Go
set_option linter.unusedSimpArgs false
set_option linter.unusedVariables false
set_option maxRecDepth 10000
set_option maxHeartbeats 4000000

theorem exCells_take (l : List Ex) (n : Nat) : (exCells l).take n = exCells (l.take n) := by simp [exCells_map, List.map_take]
theorem exCells_snoc2 (l : List Ex) (x : Ex) : exCells l ++ [.agg x.cells] = exCells (l ++ [x]) := by simp [exCells_map]; rfl
def argA (subs : List Ex) (l : List Int) : List Ex := l.map fun n => subs.getD (n.toNat + 1) noEx
theorem argA_snoc (subs : List Ex) (l : List Int) (n : Int) : argA subs (l ++ [n]) = argA subs l ++ [subs.getD (n.toNat + 1) noEx] := by simp [argA]
theorem first_ok (G : Gl) (hG : GClosed G) (k : List Od) (hkn : ∀ s, (getOd k s).nums.length < 4294967296) : ∀ m, FstC G k m
  | 0, e, kb, H, h, _, _ => absurd e.wt_pos (by omega)
  | m + 1, e, kb, H, hm, hw0, hkb => by
    have hrec := first_ok G hG k hkn m
    obtain ⟨kd, nm, nn, op, names, subs, binds, alts⟩ := e
    have lk := (List.getElem?_eq_some_iff.1 hkb).1
    have hkx := fun L => (show (H ++ L)[kb]? = some (.map none (esD k)) by rw [get_old lk]; exact hkb)
    have hle := Ex.wt_lens kd nm nn op names subs binds alts
    by_cases h1 : kd = 1
    · have ef : fstF simS k (m + 1) (.mk kd nm nn op names subs binds alts) = [nm] := if_pos h1
      rw [ef]
      refine ACall.of_go TB [4, 18] tabOK _ Tryz.func27 rfl (by decide) Tryz.ntmps27 (by simp) rfl (by simp only [initEnv, Nat.reduceAdd]; rfl) fun C R' hR hC hcl hB => ?_; have X := noX; have hC' := congrArg List.length hC
      (refine runC ?_; repeat' (first | with_reducible exact trivial | ((with_reducible apply Fork.mk) <;> intro hb) | with_reducible apply Two.mk))
      refine go_condDT rfl h1 ?_
      (refine run ?_; repeat' (first | with_reducible exact trivial | ((with_reducible apply Fork.mk) <;> intro hb) | with_reducible apply Two.mk))
      exact finK [(H.length + 2, 0)] (.sl H.length 0 0 1) [.cells 0 1 [.str nm]] hR hC' hcl ⟨[], rfl, rfl⟩
    rcases subs with _ | ⟨s, rs⟩
    · have ef : fstF simS k (m + 1) (.mk kd nm nn op names [] binds alts) = [] := if_neg h1
      rw [ef]
      refine ACall.of_go TB [4] tabOK _ Tryz.func27 rfl (by decide) Tryz.ntmps27 (by simp) rfl (by simp only [initEnv, Nat.reduceAdd]; rfl) fun C R' hR hC hcl hB => ?_; have X := noX; have hC' := congrArg List.length hC
      (refine runC ?_; repeat' (first | with_reducible exact trivial | ((with_reducible apply Fork.mk) <;> intro hb) | with_reducible apply Two.mk))
      refine go_condDF rfl h1 ?_
      (refine run ?_; repeat' (first | with_reducible exact trivial | ((with_reducible apply Fork.mk) <;> intro hb) | with_reducible apply Two.mk))
      exact finK [(H.length + 2, 0)] (.sl H.length 0 0 0) [.cells 0 1 []] hR hC' hcl ⟨[], rfl, rfl⟩
    have ef : fstF simS k (m + 1) (.mk kd nm nn op names (s :: rs) binds alts) = if kd = 8 then (if 0 < rs.length ∧ 1 ≤ op ∧ op ≤ 8 then rowF (fstF simS k m) simS [] ((s :: rs).take 2) else fstF simS k m s)
      else if kd = 4 then (if (callO k (.mk kd nm nn op names (s :: rs) binds alts)).2 then rowF (fstF simS k m) simS [] (argsF (s :: rs) (callO k (.mk kd nm nn op names (s :: rs) binds alts)).1.nums) else fstF simS k m s)
      else if kd = 5 then untilF (fstF simS k m s) (binds.map Bd.name) else if kd = 6 then chcF (fstF simS k m) simS nm s alts else [] := if_neg h1
    have hpw : ∀ p ∈ (Ex.mk kd nm nn op names (s :: rs) binds alts).parts, p.wt ≤ m ∧ p.wt < 4294967296 := fun p hp => by have := Ex.wt_parts hp; exact ⟨by omega, by omega⟩
    have hpt := Ex.parts_mk kd nm nn op names (s :: rs) binds alts
    have hvl := vrs_len (m + 1) (.mk kd nm nn op names (s :: rs) binds alts)
    have hvs : ∀ x ∈ s :: rs, ∀ t ∈ fstF simS k m x, t ∈ vrsF (m + 1) (.mk kd nm nn op names (s :: rs) binds alts) := fun x hx t ht => vrs_part (by rw [hpt]; exact List.mem_append_left _ hx) (fst_vrs _ _ _ _ _ ht)
    have hsw : ∀ x ∈ s :: rs, x.wt ≤ m ∧ x.wt < 4294967296 := fun x hx => hpw x (by rw [hpt]; exact List.mem_append_left _ hx)
    have hs := hsw s (List.mem_cons_self ..)
    have hs0 : (s :: rs)[0]? = some s := rfl
    have hlr : (s :: rs).length = rs.length + 1 := rfl
    have hch := fun L => choice_ok G hG k m hrec nm kd nn op names s rs binds alts hm hw0 kb (H ++ L) (hkx L)
    have c1 := fun L => call_ok G hG k kb (H ++ L) (hkx L) (.mk kd nm nn op names (s :: rs) binds alts) hw0
    generalize hE : vrsF (m + 1) (.mk kd nm nn op names (s :: rs) binds alts) = V at *
    generalize hCO : callO k (.mk kd nm nn op names (s :: rs) binds alts) = co at *
    have hnb : co.1.nums.length < 4294967296 := by
      rw [← hCO]
      unfold callO
      simp only [Ex.subs]
      split
      · show ([] : List Int).length < _; simp
      · exact hkn _
    clear hpt
    generalize hS : s :: rs = subs at *
    have hz0 : ¬ (subs.length : Int) = 0 := by omega
    have hfirst := fun L => hrec s kb (H ++ L) hs.1 hs.2 (hkx L)
    rw [ef]
    by_cases h8 : kd = 8
    · rw [if_pos h8]
      by_cases hop : 0 < rs.length ∧ 1 ≤ op ∧ op ≤ 8
      · rw [if_pos hop]
        have q1 : (1 : Int) < (subs.length : Int) := by omega
        have q2 := hop.2.1
        have q3 := hop.2.2
        refine ACall.of_go TB [4] tabOK _ Tryz.func27 rfl (by decide) Tryz.ntmps27 (by simp) rfl (by simp only [initEnv, Nat.reduceAdd]; rfl) fun C R' hR hC hcl hB => ?_; have X := noX; have hC' := congrArg List.length hC
        (refine runC ?_; repeat' (first | with_reducible exact trivial | ((with_reducible apply Fork.mk) <;> intro hb) | with_reducible apply Two.mk))
        refine go_condDF rfl h1 ?_
        have X := And.intro noX (And.intro hkx (And.intro hs0 (And.intro hz0 (And.intro q1 (And.intro q2 (And.intro q3 (exCells_take subs 2)))))))
        (refine run ?_; repeat' (first | with_reducible exact trivial | ((with_reducible apply Fork.mk) <;> intro hb) | with_reducible apply Two.mk))
        refine callS (row_ok G hG k m hrec (subs.take 2) (fun x hx => hsw x (List.mem_of_mem_take hx)) (by rw [List.length_take]; omega) V (by omega) (fun x hx t ht => hvs x (List.mem_of_mem_take hx) t ht) kb _ (hkx _)) ?_
        rintro r H' ⟨rfl, rfl⟩
        simp only [List.append_assoc, List.cons_append, List.nil_append, List.length_append, List.length_cons, List.length_nil, List.length_set, X, Nat.reduceAdd]
        generalize rowF (fstF simS k m) simS [] (subs.take 2) = R at *
        (refine run ?_; repeat' (first | with_reducible exact trivial | ((with_reducible apply Fork.mk) <;> intro hb) | with_reducible apply Two.mk))
        exact finK [(H.length + 2, 0)] (.sl H.length 0 0 R.length) [.cells 0 1 (R.map .str)] hR hC' hcl ⟨[], by rw [List.append_nil], rfl⟩
      · rw [if_neg hop]
        have q : (decide ((1 : Int) < (subs.length : Int)) && decide (1 ≤ op) && decide (op ≤ 8)) = false := by
          rw [Bool.eq_false_iff]
          intro h
          simp only [Bool.and_eq_true, decide_eq_true_eq] at h
          exact hop ⟨by omega, h.1.2, h.2⟩
        refine ACall.of_go TB [4] tabOK _ Tryz.func27 rfl (by decide) Tryz.ntmps27 (by simp) rfl (by simp only [initEnv, Nat.reduceAdd]; rfl) fun C R' hR hC hcl hB => ?_; have X := noX; have hC' := congrArg List.length hC
        (refine runC ?_; repeat' (first | with_reducible exact trivial | ((with_reducible apply Fork.mk) <;> intro hb) | with_reducible apply Two.mk))
        refine go_condDF rfl h1 ?_
        have X := And.intro noX (And.intro hkx (And.intro hs0 hz0))
        (refine run ?_; repeat' (first | with_reducible exact trivial | ((with_reducible apply Fork.mk) <;> intro hb) | with_reducible apply Two.mk))
        · rw [q] at hb; cases hb
        refine callS (hfirst _) ?_
        rintro r H' ⟨j0, rfl, rfl⟩
        simp only [List.append_assoc, List.cons_append, List.nil_append, List.length_append, List.length_cons, List.length_nil, List.length_set, X, Nat.reduceAdd]
        (refine run ?_; repeat' (first | with_reducible exact trivial | ((with_reducible apply Fork.mk) <;> intro hb) | with_reducible apply Two.mk))
        exact finK [(H.length + 2, 0)] (.sl H.length 0 0 (fstF simS k m s).length) [.cells 0 1 ((fstF simS k m s ++ j0).map .str)] hR hC' hcl ⟨j0, rfl, rfl⟩
    rw [if_neg h8]
    by_cases h4 : kd = 4
    · rw [if_pos h4]
      cases hc2 : co.2
      · rw [if_neg Bool.false_ne_true]
        rw [hc2] at c1
        refine ACall.of_go TB [4] tabOK _ Tryz.func27 rfl (by decide) Tryz.ntmps27 (by simp) rfl (by simp only [initEnv, Nat.reduceAdd]; rfl) fun C R' hR hC hcl hB => ?_; have X := noX; have hC' := congrArg List.length hC
        (refine runC ?_; repeat' (first | with_reducible exact trivial | ((with_reducible apply Fork.mk) <;> intro hb) | with_reducible apply Two.mk))
        refine go_condDF rfl h1 ?_
        have X := And.intro noX (And.intro hkx (And.intro hs0 hz0))
        (refine run ?_; repeat' (first | with_reducible exact trivial | ((with_reducible apply Fork.mk) <;> intro hb) | with_reducible apply Two.mk))
        refine callS (hfirst _) ?_
        rintro r H' ⟨j0, rfl, rfl⟩
        simp only [List.append_assoc, List.cons_append, List.nil_append, List.length_append, List.length_cons, List.length_nil, List.length_set, X, Nat.reduceAdd]
        (refine run ?_; repeat' (first | with_reducible exact trivial | ((with_reducible apply Fork.mk) <;> intro hb) | with_reducible apply Two.mk))
        exact finK [(H.length + 3, 0)] (.sl H.length 0 0 (fstF simS k m s).length) [.cells 0 1 ((fstF simS k m s ++ j0).map .str)] hR hC' hcl ⟨j0, rfl, rfl⟩
      rw [if_pos rfl]
      rw [hc2] at c1
      have hcc : co.1.cells = [.str co.1.name, .int .i64 co.1.arity, .list 1 (intL co.1.nums)] := rfl
      rw [hcc] at c1
      have hargs : ∀ i, i ≤ co.1.nums.length → (∀ x ∈ co.1.nums.take i, ¬ (x < 0 ∨ (subs.length : Int) - 1 ≤ x)) → argsF subs co.1.nums = argA subs (co.1.nums.take i) ++ argsF subs (co.1.nums.drop i) := fun i => by
        generalize co.1.nums = ns
        induction i generalizing ns with
        | zero => intro _ _; rfl
        | succ i ih =>
          intro hi hx
          cases ns with
          | nil => simp at hi
          | cons n r =>
            rw [List.take_succ_cons, argsF, if_neg (hx n (by simp)), List.drop_succ_cons, ih r (by simpa using hi) (fun x hxx => hx x (by simp [hxx]))]
            rfl
      have hAm : ∀ i, (∀ x ∈ co.1.nums.take i, ¬ (x < 0 ∨ (subs.length : Int) - 1 ≤ x)) → ∀ x ∈ argA subs (co.1.nums.take i), x ∈ subs := fun i hx x hm => by
        obtain ⟨n, hn, rfl⟩ := List.mem_map.1 hm
        have h := hx n hn
        have hlt : n.toNat + 1 < subs.length := by omega
        rw [List.getD_eq_getElem?_getD, List.getElem?_eq_getElem hlt]
        exact List.getElem_mem hlt
      refine ACall.of_go TB [4, 7] tabOK _ Tryz.func27 rfl (by decide) Tryz.ntmps27 (by simp) rfl (by simp only [initEnv, Nat.reduceAdd]; rfl) fun C R' hR hC hcl hB => ?_; have X := noX; have hC' := congrArg List.length hC
      (refine runC ?_; repeat' (first | with_reducible exact trivial | ((with_reducible apply Fork.mk) <;> intro hb) | with_reducible apply Two.mk))
      refine go_condDF rfl h1 ?_
      have X := And.intro noX (And.intro hkx (And.intro hs0 hz0))
      (refine run ?_; repeat' (first | with_reducible exact trivial | ((with_reducible apply Fork.mk) <;> intro hb) | with_reducible apply Two.mk))
      refine go_loop (fun i : Nat => [(0, .map kb), (3, .ptr H.length 0 0 0), (7, .sl (H.length + 1) 0 0 i), (69, .list 1 (intL co.1.nums)), (70, .int .i64 co.1.nums.length), (71, .int .i64 i)]) (fun i => H ++ [.cells 0 8 [.agg [.int .i64 kd, .str nm, .int .i64 nn, .int .i64 op, .list 1 (names.map .str), .list 8 (exCells subs), .list 9 (bdCells binds), .list 12 (alCells alts)]], .cells 0 8 (exCells (argA subs (co.1.nums.take i)))]) (fun i => co.1.nums.length - i)
        (fun i => i ≤ co.1.nums.length ∧ ∀ x ∈ co.1.nums.take i, ¬ (x < 0 ∨ (subs.length : Int) - 1 ≤ x)) 0 ⟨Nat.zero_le _, by simp⟩ ?_ ?_
      · simp only [List.take_zero, argA, List.map_nil, exCells]
        exact wkS (n0 := H.length) [(H.length, 0), (H.length + 3, 0)] hG hB hC' hcl
      rintro K i ⟨hi, hx⟩ hK
      have hA := hAm i hx
      have hargi := hargs i hi hx
      have hAl : (argA subs (co.1.nums.take i)).length = i := by simp only [argA, List.length_map, List.length_take]; omega
      have hAt : List.take i (exCells (argA subs (co.1.nums.take i))) = exCells (argA subs (co.1.nums.take i)) := List.take_of_length_le (by rw [exCells_len, hAl]; exact Nat.le_refl _)
      have hel : (exCells (argA subs (co.1.nums.take i))).length = i := by rw [exCells_len, hAl]
      have hun : SV.underL H.length (List.take i (exCells (argA subs (co.1.nums.take i)))) = true := by rw [hAt]; exact exCells_under _ _
      rcases Nat.lt_or_ge i co.1.nums.length with hlt | hge
      · have g1 : (intL co.1.nums)[i]? = some (.int .i64 co.1.nums[i]) := by simp [intL, hlt]
        have ht := List.take_succ_eq_append_getElem hlt
        rw [List.drop_eq_getElem_cons hlt, argsF] at hargi
        generalize co.1.nums[i] = n at *
        by_cases hbad : n < 0 ∨ (subs.length : Int) - 1 ≤ n
        · rw [if_pos hbad, List.append_nil] at hargi
          have hend := hargi.symm
          have hbb : (decide (n < 0) || decide ((subs.length : Int) - 1 ≤ n)) = true := by
            rw [Bool.or_eq_true, decide_eq_true_eq, decide_eq_true_eq]; exact hbad
          rcases hbad with hneg | hbig
          · have X := And.intro noX (And.intro hkx (And.intro g1 hneg))
            (refine runC ?_; repeat' (first | with_reducible exact trivial | ((with_reducible apply Fork.mk) <;> intro hb) | with_reducible apply Two.mk))
            refine go_condDT rfl (by omega) ?_
            (refine runC ?_; repeat' (first | with_reducible exact trivial | ((with_reducible apply Fork.mk) <;> intro hb) | with_reducible apply Two.mk))
            refine go_condT (by first | rfl | (simp [look, pk]; done)) ?_
            refine go_wkC [(0, .map kb), (3, .ptr H.length 0 0 0), (7, .list 8 (List.take i (exCells (argA subs (co.1.nums.take i)))))] (H ++ [.cells 0 8 [.agg [.int .i64 kd, .str nm, .int .i64 nn, .int .i64 op, .list 1 (names.map .str), .list 8 (exCells subs), .list 9 (bdCells binds), .list 12 (alCells alts)]]]) (wkS (n0 := H.length) [(H.length, 0)] hG hB hC' hcl) ?_
            rw [hAt]
            have X := And.intro noX hkx
            (refine run ?_; repeat' (first | with_reducible exact trivial | ((with_reducible apply Fork.mk) <;> intro hb) | with_reducible apply Two.mk))
            refine callS (row_ok G hG k m hrec (argA subs (co.1.nums.take i)) (fun x hx => hsw x (hA x hx)) (by rw [hAl]; omega) V (by omega) (fun x hx t ht => hvs x (hA x hx) t ht) kb _ (hkx _)) ?_
            rintro r H' ⟨rfl, rfl⟩
            simp only [List.append_assoc, List.cons_append, List.nil_append, List.length_append, List.length_cons, List.length_nil, List.length_set, X, Nat.reduceAdd]
            rw [hend]
            generalize rowF (fstF simS k m) simS [] (argsF subs co.1.nums) = R at *
            (refine run ?_; repeat' (first | with_reducible exact trivial | ((with_reducible apply Fork.mk) <;> intro hb) | with_reducible apply Two.mk))
            exact finK [(H.length + 1, 0)] (.sl H.length 0 0 R.length) [.cells 0 1 (R.map .str)] hR hC' hcl ⟨[], by rw [List.append_nil], rfl⟩
          · by_cases hneg : n < 0
            · exfalso; omega
            have X := And.intro noX (And.intro hkx (And.intro g1 (And.intro hneg hbig)))
            (refine runC ?_; repeat' (first | with_reducible exact trivial | ((with_reducible apply Fork.mk) <;> intro hb) | with_reducible apply Two.mk))
            refine go_condDT rfl (by omega) ?_
            (refine runC ?_; repeat' (first | with_reducible exact trivial | ((with_reducible apply Fork.mk) <;> intro hb) | with_reducible apply Two.mk))
            refine go_condT (by first | rfl | (simp [look, pk]; done)) ?_
            refine go_wkC [(0, .map kb), (3, .ptr H.length 0 0 0), (7, .list 8 (List.take i (exCells (argA subs (co.1.nums.take i)))))] (H ++ [.cells 0 8 [.agg [.int .i64 kd, .str nm, .int .i64 nn, .int .i64 op, .list 1 (names.map .str), .list 8 (exCells subs), .list 9 (bdCells binds), .list 12 (alCells alts)]]]) (wkS (n0 := H.length) [(H.length, 0)] hG hB hC' hcl) ?_
            rw [hAt]
            have X := And.intro noX hkx
            (refine run ?_; repeat' (first | with_reducible exact trivial | ((with_reducible apply Fork.mk) <;> intro hb) | with_reducible apply Two.mk))
            refine callS (row_ok G hG k m hrec (argA subs (co.1.nums.take i)) (fun x hx => hsw x (hA x hx)) (by rw [hAl]; omega) V (by omega) (fun x hx t ht => hvs x (hA x hx) t ht) kb _ (hkx _)) ?_
            rintro r H' ⟨rfl, rfl⟩
            simp only [List.append_assoc, List.cons_append, List.nil_append, List.length_append, List.length_cons, List.length_nil, List.length_set, X, Nat.reduceAdd]
            rw [hend]
            generalize rowF (fstF simS k m) simS [] (argsF subs co.1.nums) = R at *
            (refine run ?_; repeat' (first | with_reducible exact trivial | ((with_reducible apply Fork.mk) <;> intro hb) | with_reducible apply Two.mk))
            exact finK [(H.length + 1, 0)] (.sl H.length 0 0 R.length) [.cells 0 1 (R.map .str)] hR hC' hcl ⟨[], by rw [List.append_nil], rfl⟩
        · have hneg : ¬ n < 0 := fun h => hbad (.inl h)
          have hbig : ¬ (subs.length : Int) - 1 ≤ n := fun h => hbad (.inr h)
          have hnn : (n + 1).toNat = n.toNat + 1 := by omega
          have hlt2 : n.toNat + 1 < subs.length := by omega
          have hg2 : subs[n.toNat + 1]? = some subs[n.toNat + 1] := List.getElem?_eq_getElem hlt2
          have hsn : argA subs (co.1.nums.take (i + 1)) = argA subs (co.1.nums.take i) ++ [subs[n.toNat + 1]] := by
            rw [ht, argA_snoc, List.getD_eq_getElem?_getD, hg2]; rfl
          have hec := exCells_snoc2 (argA subs (co.1.nums.take i)) subs[n.toNat + 1]
          rw [← hsn] at hec
          generalize subs[n.toNat + 1] = x at *
          have X := And.intro noX (And.intro hkx (And.intro g1 (And.intro hneg (And.intro hbig (And.intro hnn (And.intro hg2 (And.intro hec (And.intro hel hAl))))))))
          (refine runC ?_; repeat' (first | with_reducible exact trivial | ((with_reducible apply Fork.mk) <;> intro hb) | with_reducible apply Two.mk))
          refine go_condDT rfl (by omega) ?_
          (refine runC ?_; repeat' (first | with_reducible exact trivial | ((with_reducible apply Fork.mk) <;> intro hb) | with_reducible apply Two.mk))
          refine go_condF (by first | rfl | (simp [look, pk]; done)) ?_
          (refine run ?_; repeat' (first | with_reducible exact trivial | ((with_reducible apply Fork.mk) <;> intro hb) | with_reducible apply Two.mk))
          refine hK _ _ (i + 1) (by omega) ⟨by omega, fun y hy => ?_⟩ ?_
          · rw [ht] at hy
            rcases List.mem_append.1 hy with hy | hy
            · exact hx y hy
            · rw [List.mem_singleton.1 hy]; exact hbad
          · exact wkS (n0 := H.length) [(H.length, 0), (H.length + 1, 0)] hG hB hC' hcl
      · obtain hil : i = co.1.nums.length := by omega
        have hend : argA subs (co.1.nums.take i) = argsF subs co.1.nums := by rw [hargi, hil, List.drop_length]; simp [argsF]
        clear hK
        have X := And.intro noX hkx
        (refine runC ?_; repeat' (first | with_reducible exact trivial | ((with_reducible apply Fork.mk) <;> intro hb) | with_reducible apply Two.mk))
        refine go_condDF rfl (by omega) ?_
        refine go_wkC [(0, .map kb), (3, .ptr H.length 0 0 0), (7, .list 8 (List.take i (exCells (argA subs (co.1.nums.take i)))))] (H ++ [.cells 0 8 [.agg [.int .i64 kd, .str nm, .int .i64 nn, .int .i64 op, .list 1 (names.map .str), .list 8 (exCells subs), .list 9 (bdCells binds), .list 12 (alCells alts)]]]) (wkS (n0 := H.length) [(H.length, 0)] hG hB hC' hcl) ?_
        rw [hAt]
        have X := And.intro noX hkx
        (refine run ?_; repeat' (first | with_reducible exact trivial | ((with_reducible apply Fork.mk) <;> intro hb) | with_reducible apply Two.mk))
        refine callS (row_ok G hG k m hrec (argA subs (co.1.nums.take i)) (fun x hx => hsw x (hA x hx)) (by rw [hAl]; omega) V (by omega) (fun x hx t ht => hvs x (hA x hx) t ht) kb _ (hkx _)) ?_
        rintro r H' ⟨rfl, rfl⟩
        simp only [List.append_assoc, List.cons_append, List.nil_append, List.length_append, List.length_cons, List.length_nil, List.length_set, X, Nat.reduceAdd]
        rw [hend]
        generalize rowF (fstF simS k m) simS [] (argsF subs co.1.nums) = R at *
        (refine run ?_; repeat' (first | with_reducible exact trivial | ((with_reducible apply Fork.mk) <;> intro hb) | with_reducible apply Two.mk))
        exact finK [(H.length + 1, 0)] (.sl H.length 0 0 R.length) [.cells 0 1 (R.map .str)] hR hC' hcl ⟨[], by rw [List.append_nil], rfl⟩
    rw [if_neg h4]
    by_cases h5 : kd = 5
    · rw [if_pos h5]
      have hnl : ∀ i, i ≤ binds.length → ((((binds.take i).map Bd.name).map SV.str)).length = i := fun i hi => by simp only [List.length_map, List.length_take]; omega
      have hut := hsw
      refine ACall.of_go TB [4, 10] tabOK _ Tryz.func27 rfl (by decide) Tryz.ntmps27 (by simp) rfl (by simp only [initEnv, Nat.reduceAdd]; rfl) fun C R' hR hC hcl hB => ?_; have X := noX; have hC' := congrArg List.length hC
      (refine runC ?_; repeat' (first | with_reducible exact trivial | ((with_reducible apply Fork.mk) <;> intro hb) | with_reducible apply Two.mk))
      refine go_condDF rfl h1 ?_
      have X := And.intro noX (And.intro hkx (And.intro hs0 hz0))
      (refine run ?_; repeat' (first | with_reducible exact trivial | ((with_reducible apply Fork.mk) <;> intro hb) | with_reducible apply Two.mk))
      refine go_loop (fun i : Nat => [(0, .map kb), (3, .ptr H.length 0 0 0), (10, .sl (H.length + 1) 0 0 i), (101, .list 9 (bdCells binds)), (102, .int .i64 binds.length), (103, .int .i64 i)]) (fun i => H ++ [.cells 0 8 [.agg [.int .i64 kd, .str nm, .int .i64 nn, .int .i64 op, .list 1 (names.map .str), .list 8 (exCells subs), .list 9 (bdCells binds), .list 12 (alCells alts)]], .cells 0 1 (((binds.take i).map Bd.name).map SV.str)]) (fun i => binds.length - i) (fun i => i ≤ binds.length) 0 (Nat.zero_le _) ?_ ?_
      · simp only [List.take_zero, List.map_nil]
        exact wkS (n0 := H.length) [(H.length, 0), (H.length + 2, 0)] hG hB hC' hcl
      rintro K i hi hK
      have hni := hnl i hi
      rcases Nat.lt_or_ge i binds.length with hlt | hge
      · have ht := List.take_succ_eq_append_getElem hlt
        have hsn : ((binds.take i).map Bd.name).map SV.str ++ [SV.str binds[i].name] = ((binds.take (i + 1)).map Bd.name).map SV.str := by rw [ht, List.map_append, List.map_append]; rfl
        have X := And.intro noX (And.intro hkx (And.intro hni hsn))
        (refine run ?_; repeat' (first | with_reducible exact trivial | ((with_reducible apply Fork.mk) <;> intro hb) | with_reducible apply Two.mk))
        refine hK _ _ (i + 1) (by omega) (by omega) ?_
        exact wkS (n0 := H.length) [(H.length, 0), (H.length + 1, 0)] hG hB hC' hcl
      · have hil : i = binds.length := by omega
        clear hK
        have hAt : List.take i (((binds.take i).map Bd.name).map SV.str) = (binds.map Bd.name).map SV.str := by rw [List.take_of_length_le (by omega), hil, List.take_length]
        have hun : SV.underL H.length (List.take i (((binds.take i).map Bd.name).map SV.str)) = true := by rw [hAt]; exact strs_under _ _
        have X := And.intro noX hkx
        (refine runC ?_; repeat' (first | with_reducible exact trivial | ((with_reducible apply Fork.mk) <;> intro hb) | with_reducible apply Two.mk))
        refine go_condDF rfl (by omega) ?_
        refine go_wkC [(0, .map kb), (3, .ptr H.length 0 0 0), (10, .list 1 (List.take i (((binds.take i).map Bd.name).map SV.str)))] (H ++ [.cells 0 8 [.agg [.int .i64 kd, .str nm, .int .i64 nn, .int .i64 op, .list 1 (names.map .str), .list 8 (exCells subs), .list 9 (bdCells binds), .list 12 (alCells alts)]]]) (wkS (n0 := H.length) [(H.length, 0)] hG hB hC' hcl) ?_
        rw [hAt]
        have X := And.intro noX (And.intro hkx (And.intro hs0 hz0))
        (refine run ?_; repeat' (first | with_reducible exact trivial | ((with_reducible apply Fork.mk) <;> intro hb) | with_reducible apply Two.mk))
        refine callS (hfirst _) ?_
        rintro r H' ⟨j0, rfl, rfl⟩
        simp only [List.append_assoc, List.cons_append, List.nil_append, List.length_append, List.length_cons, List.length_nil, List.length_set, X, Nat.reduceAdd]
        (refine run ?_; repeat' (first | with_reducible exact trivial | ((with_reducible apply Fork.mk) <;> intro hb) | with_reducible apply Two.mk))
        have hfl := fst_len simS k m s
        refine callS (until_ok G hG (fstF simS k m s) j0 (binds.map Bd.name) _ (H.length + 1) 0 (by simp) (by omega) (by rw [List.length_map]; omega)) ?_
        rintro r H' ⟨rfl, rfl⟩
        have hj : fstF simS k m s ++ j0 = untilF (fstF simS k m s) (binds.map Bd.name) ++ ((fstF simS k m s).drop (untilF (fstF simS k m s) (binds.map Bd.name)).length ++ j0) := by
          rw [← List.append_assoc]
          congr 1
          conv => lhs; rw [← List.take_append_drop (untilF (fstF simS k m s) (binds.map Bd.name)).length (fstF simS k m s)]
          rw [untilF_pre]
        rw [hj]
        (refine run ?_; repeat' (first | with_reducible exact trivial | ((with_reducible apply Fork.mk) <;> intro hb) | with_reducible apply Two.mk))
        exact finK [(H.length + 1, 0)] (.sl H.length 0 0 (untilF (fstF simS k m s) (binds.map Bd.name)).length) [.cells 0 1 ((untilF (fstF simS k m s) (binds.map Bd.name) ++ ((fstF simS k m s).drop (untilF (fstF simS k m s) (binds.map Bd.name)).length ++ j0)).map .str)] hR hC' hcl ⟨_, rfl, rfl⟩
    rw [if_neg h5]
    by_cases h6 : kd = 6
    · rw [if_pos h6]
      refine ACall.of_go TB [4] tabOK _ Tryz.func27 rfl (by decide) Tryz.ntmps27 (by simp) rfl (by simp only [initEnv, Nat.reduceAdd]; rfl) fun C R' hR hC hcl hB => ?_; have X := noX; have hC' := congrArg List.length hC
      (refine runC ?_; repeat' (first | with_reducible exact trivial | ((with_reducible apply Fork.mk) <;> intro hb) | with_reducible apply Two.mk))
      refine go_condDF rfl h1 ?_
      have X := And.intro noX (And.intro hkx (And.intro hs0 hz0))
      (refine run ?_; repeat' (first | with_reducible exact trivial | ((with_reducible apply Fork.mk) <;> intro hb) | with_reducible apply Two.mk))
      refine callS (hch _) ?_
      rintro r H' ⟨j0, rfl, rfl⟩
      simp only [List.append_assoc, List.cons_append, List.nil_append, List.length_append, List.length_cons, List.length_nil, List.length_set, X, Nat.reduceAdd]
      generalize chcF (fstF simS k m) simS nm s alts = R at *
      (refine run ?_; repeat' (first | with_reducible exact trivial | ((with_reducible apply Fork.mk) <;> intro hb) | with_reducible apply Two.mk))
      exact finK [(H.length + 2, 0)] (.sl H.length 0 0 R.length) [.cells 0 1 ((R ++ j0).map .str)] hR hC' hcl ⟨j0, rfl, rfl⟩
    · rw [if_neg h6]
      refine ACall.of_go TB [4] tabOK _ Tryz.func27 rfl (by decide) Tryz.ntmps27 (by simp) rfl (by simp only [initEnv, Nat.reduceAdd]; rfl) fun C R' hR hC hcl hB => ?_; have X := noX; have hC' := congrArg List.length hC
      (refine runC ?_; repeat' (first | with_reducible exact trivial | ((with_reducible apply Fork.mk) <;> intro hb) | with_reducible apply Two.mk))
      refine go_condDF rfl h1 ?_
      have X := And.intro noX (And.intro hkx (And.intro hs0 hz0))
      (refine run ?_; repeat' (first | with_reducible exact trivial | ((with_reducible apply Fork.mk) <;> intro hb) | with_reducible apply Two.mk))
      exact finK [(H.length + 2, 0)] (.sl H.length 0 0 0) [.cells 0 1 []] hR hC' hcl ⟨[], rfl, rfl⟩
theorem knF_len {l : List Od} {B : Nat} (h : ∀ o ∈ l, o.nums.length < B) (hB : 0 < B) (s : Str) : (getOd l s).nums.length < B := by
  unfold getOd
  induction l with
  | nil => exact hB
  | cons o r ih =>
    rw [findOd]
    split
    · exact h o (List.mem_cons_self ..)
    · exact ih fun x hx => h x (List.mem_cons_of_mem _ hx)
theorem knoF_mem : ∀ (r k : List Od) {o : Od}, o ∈ knoF k r → o ∈ k ∨ o ∈ r
  | [], k, o, h => .inl h
  | x :: r, k, o, h => by
    rw [knoF] at h
    split at h
    · exact (knoF_mem r k h).elim .inl fun h => .inr (List.mem_cons_of_mem _ h)
    · rcases knoF_mem r _ h with h | h
      · rcases List.mem_append.1 h with h | h
        · exact .inl h
        · exact .inr (by rw [List.mem_singleton.1 h]; exact List.mem_cons_self ..)
      · exact .inr (List.mem_cons_of_mem _ h)
end Go.Proofs.YtehfihnfeakmaaaGreatDoor
end

section
namespace Go.Proofs.YtehfihnfeakmaaaGreatDoor
open Go
set_option linter.unusedSimpArgs false
set_option linter.unusedVariables false

/-! ### what Lint says -/
theorem dedNs_adj (l : List Str) : ∀ m, (dedNs l m).length = m → ∀ i, i + 1 < m → l.getD (i + 1) [] ≠ l.getD i []
  | 0, _, i, h => by omega
  | m + 1, hm, i, h => by
    have h1 := dedNs_le l m
    rw [dedNs] at hm
    split at hm
    · omega
    · rename_i hc
      rw [List.length_append, List.length_singleton] at hm
      rcases Nat.lt_or_ge (i + 1) m with h2 | h2
      · exact dedNs_adj l m (by omega) i h2
      · obtain rfl : m = i + 1 := by omega
        intro he
        exact hc ⟨by omega, by simpa using he⟩
theorem sortS_le (l : List Str) {i j : Nat} (hj : j < (sortS l).length) (hij : i < j) : (sortS l)[i] ≤ (sortS l)[j] := by
  have tr : ∀ a b c : List UInt8, (decide (a ≤ b)) = true → (decide (b ≤ c)) = true → (decide (a ≤ c)) = true := fun a b c h1 h2 => by simp only [decide_eq_true_eq] at *; exact List.le_trans h1 h2
  have to : ∀ a b : List UInt8, (decide (a ≤ b) || decide (b ≤ a)) = true := fun a b => by simp only [Bool.or_eq_true, decide_eq_true_eq]; exact List.le_total a b
  have h1 : (sortS l).Pairwise (fun x y : List UInt8 => (decide (x ≤ y)) = true) := List.pairwise_mergeSort tr to _
  exact of_decide_eq_true (List.pairwise_iff_getElem.1 h1 i j (by omega) hj hij)
theorem sorted_nodup (l : List Str) (h : (dedS (sortS l)).length = l.length) : l.Nodup := by
  have hl : (sortS l).length = l.length := sortS_len _
  rw [dedS, ← hl] at h
  refine (sortS_perm _).nodup_iff.1 (List.pairwise_iff_getElem.2 fun i j hi hj hij he => ?_)
  have hadj := dedNs_adj (sortS l) _ h i (by omega)
  apply hadj
  rw [List.getD_eq_getElem?_getD, List.getD_eq_getElem?_getD, List.getElem?_eq_getElem (show i + 1 < (sortS l).length by omega), List.getElem?_eq_getElem hi]
  simp only [Option.getD_some]
  have h1 := sortS_le l (i := i) (j := i + 1) (by omega) (by omega)
  rcases Nat.lt_or_ge (i + 1) j with h2 | h2
  · have h3 := sortS_le l hj h2
    rw [← he] at h3
    exact List.le_antisymm h3 h1
  · obtain rfl : j = i + 1 := by omega
    exact he.symm
theorem binds_nodup {l : List Bd} (h : (bindersP l).Nodup) : (l.map Bd.name).Nodup := by
  have : (l.map Bd.name).Sublist (bindersP l) := by
    clear h
    induction l with
    | nil => exact List.Sublist.refl _
    | cons b r ih =>
      show (b.name :: r.map Bd.name).Sublist ((b.name :: bnds b.e) ++ bindersP r)
      rw [List.cons_append]
      exact (ih.trans (List.sublist_append_right _ _)).cons_cons _
  exact this.nodup h
structure Lint0 (p : Pg) : Prop where
  shp : ∀ b ∈ p.binds, allS shpC b.e = true
  cons : okCns [] p.cons = true
  names : (bindersP p.binds).Nodup
  scope : ∀ b ∈ p.binds, bndS (topB p.binds) b = true
  know : knoS p.cons = true
  full : ∀ b ∈ p.binds, allS (fulS p.cons) b.e = true
  alts : ∀ b ∈ p.binds, allS (chsS p.cons) b.e = true
theorem lint0 {p : Pg} (h : lintS p = 0) : Lint0 p := by
  unfold lintS at h
  split at h
  · cases h
  split at h
  · cases h
  split at h
  · cases h
  rename_i h3
  split at h
  · cases h
  rename_i h4
  split at h
  · cases h
  rename_i h5
  split at h
  · cases h
  rename_i h6
  split at h
  · cases h
  rename_i h7
  split at h
  · cases h
  rename_i h8
  simp only [Bool.not_eq_true', Bool.not_eq_false, Bool.and_eq_true, List.all_eq_true] at h3 h4 h6 h7 h8
  refine ⟨h3, by simpa using h4, ?_, h6, h7.1, h7.2, h8⟩
  unfold badNames at h5
  simp only [Bool.or_eq_true, not_or, decide_eq_true_eq, Decidable.not_not] at h5
  exact sorted_nodup _ h5.2
theorem lint_lam {p : Pg} (h : lintS p = 0) {b : Bd} (hb : b ∈ p.binds) (hk : b.e.kind = 3) : b.e.subs.length = 1 := by
  have h1 := (lint0 h).shp b hb
  rw [allS_eq, Bool.and_eq_true] at h1
  have h2 := h1.1
  generalize b.e = e at *
  obtain ⟨kd, nm, nn, op, names, subs, binds, alts⟩ := e
  obtain rfl : kd = 3 := hk
  simp only [shpC, Ex.kind, oddS, Bool.and_eq_true] at h2
  simp at h2
  simp only [Ex.subs]
  omega
end Go.Proofs.YtehfihnfeakmaaaGreatDoor
end
