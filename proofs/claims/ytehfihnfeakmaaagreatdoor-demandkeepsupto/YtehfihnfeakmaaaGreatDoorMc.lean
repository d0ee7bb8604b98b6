/- A part of the proof: SwE, SwF, SwG, SwH, Tab. -/
import Derived.Test.YtehfihnfeakmaaaGreatDoorMb
import Derived.RangeFuncIn
import Derived.KernelRfl
import Derived.Test.YtehfihnfeakmaaaGreatDoorChecked

set_option linter.unusedSimpArgs false
set_option linter.unusedVariables false
section
/- Drawn regions in walks. -/
namespace Go.Proofs.YtehfihnfeakmaaaGreatDoor
open Go
def LP (m : Nat) (ex : List Nat) (i : Nat) : Bool := Nat.blt i m || memN i ex
def agC (own : List Nat) (all : List Oper) (cj : List Nat) (i : Nat) : Bool := match all[i]? with
    | some o => isQ own o && readsH o && !memN i cj
    | none => false
def agL (own : List Nat) (all : List Oper) (cj : List Nat) : List Nat → List Nat
  | [] => []
  | i :: r => bif agC own all cj i then i :: agL own all cj r else agL own all cj r
def agR (own : List Nat) (all : List Oper) (cj : List Nat) : Nat → List Nat
  | 0 => []
  | i + 1 => bif agC own all cj i then i :: agR own all cj i else agR own all cj i
def stepQ (own : List Nat) (all : List Oper) (m : Nat) (ex : List Nat) : Option Oper := match all[m]? with
  | some o => bif !memN m ex && isQ own o && (depsOf o).all (LP m ex) then some o else none
  | none => none
def firstQP (own : List Nat) (m : Nat) (ex : List Nat) : Nat → List Oper → Option Nat
  | _, [] => none
  | i, o :: r => bif !LP m ex i && isQ own o && (depsOf o).all (LP m ex) then some i else firstQP own m ex (i + 1) r
def readyP (m : Nat) (ex : List Nat) : Nat → List Oper → List Nat
  | _, [] => []
  | i, o :: r => bif !LP m ex i && (depsOf o).all (LP m ex) then i :: readyP m ex (i + 1) r else readyP m ex (i + 1) r
def DrP (P : Program) (G : Gl) (T : Tab) (own : List Nat) (all : List Oper) (n m : Nat) (ex : List Nat) (env : Env) (H : List Blk) (K : Env → List Blk → Prop) : Prop :=
  ∀ L : List Nat, (∀ i, i ∈ L ↔ LP m ex i = true) → Dr P G T own all n L env H K
section
variable {P : Program} {G : Gl} {T : Tab} {own : List Nat} {nt B : Nat} {ρ : Option Nat} {C : Cx} {rs : List ResultVar} {R : SV → List Blk → Prop} {env env2 : Env} {H H' : List Blk} {k : List It}
variable {all : List Oper} {L : List Nat} {n i j ty d : Nat} {op : Op} {pos : String} {after : Array Edge} {v : SV} {o : Oper} {K : Env → List Blk → Prop}
def AgAll (G : Gl) (T : Tab) (own : List Nat) (all : List Oper) (env : Env) (H : List Blk) : List Nat → Prop
  | [] => True
  | i :: r => (∃ o, all[i]? = some o ∧ qg G T own all o env H = (o.dst).bind (look env)) ∧ AgAll G T own all env H r
theorem AgAll.get {env : Env} {H : List Blk} : ∀ {l : List Nat}, AgAll G T own all env H l → ∀ i ∈ l, ∃ o, all[i]? = some o ∧ qg G T own all o env H = (o.dst).bind (look env)
  | i :: r, h, j, hj => by
    rcases List.mem_cons.1 hj with rfl | hj
    · exact h.1
    · exact AgAll.get h.2 j hj
theorem mem_agL {cj : List Nat} : ∀ {l : List Nat} {i : Nat}, i ∈ l → agC own all cj i = true → i ∈ agL own all cj l
  | k :: r, i, hi, hc => by
    simp only [agL]
    rcases List.mem_cons.1 hi with rfl | hi
    · rw [hc]; exact List.mem_cons_self ..
    · cases agC own all cj k with
      | true => exact List.mem_cons_of_mem _ (mem_agL hi hc)
      | false => exact mem_agL hi hc
theorem mem_agR {cj : List Nat} : ∀ {m i : Nat}, i < m → agC own all cj i = true → i ∈ agR own all cj m
  | 0, i, hi, hc => by omega
  | m + 1, i, hi, hc => by
    simp only [agR]
    by_cases h : i = m
    · subst h; rw [hc]; exact List.mem_cons_self ..
    · have hi' : i < m := by omega
      cases agC own all cj m with
      | true => exact List.mem_cons_of_mem _ (mem_agR hi' hc)
      | false => exact mem_agR hi' hc
theorem again_of {j m : Nat} {ex : List Nat} {env : Env} {H : List Blk} (h : AgAll G T own all env H (agR own all (getL (clo all) j) m ++ agL own all (getL (clo all) j) ex)) : ∀ {L : List Nat}, (∀ i ∈ L, LP m ex i = true) → again G T own all j env H L
  | [], _ => trivial
  | i :: r, hL => by
    refine ⟨?_, again_of h fun k hk => hL k (List.mem_cons_of_mem _ hk)⟩
    cases ho : all[i]? with
    | none => trivial
    | some o =>
      intro hc
      have hc' : agC own all (getL (clo all) j) i = true := by unfold agC; rw [ho]; exact hc
      have hi := hL i (List.mem_cons_self ..)
      simp only [LP, Bool.or_eq_true, Nat.blt_eq, memN_iff] at hi
      have hm : i ∈ agR own all (getL (clo all) j) m ++ agL own all (getL (clo all) j) ex := by
        rw [List.mem_append]
        rcases hi with hi | hi
        · exact .inl (mem_agR hi hc')
        · exact .inr (mem_agL hi hc')
      obtain ⟨o', h1, h2⟩ := AgAll.get h i hm
      rw [ho] at h1
      cases h1
      exact h2
theorem again_eqE (he : EqE env env2) : ∀ {L : List Nat}, again G T own all j env H L → again G T own all j env2 H L
  | [], _ => trivial
  | i :: r, h => by
    refine ⟨?_, again_eqE he h.2⟩
    have h1 := h.1
    cases ho : all[i]? with
    | none => trivial
    | some o =>
      rw [ho] at h1
      intro hc
      have h2 := h1 hc
      rw [← qg_congr (env := env) (env2 := env2) (fun t _ => he t), h2]
      cases o.dst with
      | none => rfl
      | some d => exact he d
theorem EqE.put (he : EqE env env2) (d : Option Nat) (x : SV) : EqE (putE d x env) (putE d x env2) := by
  cases d with
  | none => exact he
  | some d => exact he.cons _
theorem Dr.eqE (hK : ∀ a b H, EqE a b → K a H → K b H) : ∀ {n : Nat} {L : List Nat} {env env2 : Env} {H : List Blk}, EqE env env2 → Dr P G T own all n L env H K → Dr P G T own all n L env2 H K
  | 0, _, _, _, _, _, h => h
  | n + 1, L, env, env2, H, he, h => by
    rcases h with ⟨i, o, v, h1, h2, h3, h4, h5, h6⟩ | ⟨h1, h2⟩
    · exact .inl ⟨i, o, v, h1, h2, h3, h4, by rw [← qg_congr (env := env) (env2 := env2) (fun t _ => he t)]; exact h5, Dr.eqE hK (he.put _ _) h6⟩
    · refine .inr ⟨h1, ?_⟩
      rcases h2 with ⟨h2, h3⟩ | ⟨h2, h3⟩
      · exact .inl ⟨h2, hK _ _ _ he h3⟩
      · exact .inr ⟨h2, fun j o a1 a2 a3 => exG_congr (fun t _ => he t) (exG_mono (fun x H' hx => ⟨again_eqE (he.put _ _) hx.1, Dr.eqE hK (he.put _ _) hx.2⟩) (h3 j o a1 a2 a3))⟩
variable {m : Nat} {ex : List Nat}
theorem LP_iff {i : Nat} : LP m ex i = true ↔ i < m ∨ i ∈ ex := by simp only [LP, Bool.or_eq_true, Nat.blt_eq, memN_iff]
theorem not_LP {L : List Nat} (hL : ∀ i, i ∈ L ↔ LP m ex i = true) {i : Nat} (h : (!LP m ex i) = true) : i ∉ L := fun hi => by rw [(hL i).1 hi] at h; cases h
theorem deps_LP {L : List Nat} (hL : ∀ i, i ∈ L ↔ LP m ex i = true) {o : Oper} (h : (depsOf o).all (LP m ex) = true) : ∀ j ∈ depsOf o, j ∈ L := fun j hj => (hL j).2 (List.all_eq_true.1 h j hj)
theorem go_draw (hT : TabOK P T) (hm : P.follows .mixedOrders = true) {id : Nat} {ops : Array Oper} {l : List Oper} (hl : ops = ⟨l⟩) (hok : drawOK nt l = true) (h : DrP P G T own l 200 0 [] env H (fun env H => (Out P G T own nt ρ C rs R) k .normal env H)) : (Out P G T own nt ρ C rs R) (.code (.region id ops true) :: k) .normal env H := by
  subst hl
  exact AWP.draw hT hm (own := own) (Q := fun e s => (Out P G T own nt ρ C rs R) k e s.env s.H) hok (h [] (fun i => by simp [LP, memN, Nat.blt_eq]))
theorem dr_done (hm : Nat.ble all.length m = true) (h : (Out P G T own nt ρ C rs R) k .normal env H) : (DrP P G T own all) (n + 1) m ex env H (fun env H => (Out P G T own nt ρ C rs R) k .normal env H) := fun L hL => by
  have hall : ∀ i o, all[i]? = some o → i ∈ L := fun i o ho => (hL i).2 (LP_iff.2 (.inl (by
    have h1 := (List.getElem?_eq_some_iff.1 ho).1
    have h2 := Nat.le_of_ble_eq_true hm
    omega)))
  exact .inr ⟨fun i o ho hn => (hn (hall i o ho)).elim, .inl ⟨hall, h⟩⟩
theorem dr_adv (hm : memN m ex = true) (h : (DrP P G T own all) n (m + 1) ex env H K) : (DrP P G T own all) n m ex env H K := fun L hL => h L fun i => by
  rw [hL i, LP_iff, LP_iff]
  have := memN_iff.1 hm
  constructor
  · rintro (h | h)
    · exact .inl (by omega)
    · exact .inr h
  · rintro (h | h)
    · by_cases e : i = m
      · subst e; exact .inr this
      · exact .inl (by omega)
    · exact .inr h
theorem stepQ_some {o : Oper} (h : stepQ own all m ex = some o) : all[m]? = some o ∧ m ∉ ex ∧ isQ own o = true ∧ (depsOf o).all (LP m ex) = true := by
  unfold stepQ at h
  split at h
  · rename_i o' ho
    cases hb : (!memN m ex && isQ own o' && (depsOf o').all (LP m ex)) with
    | false => rw [hb] at h; cases h
    | true =>
      rw [hb] at h
      cases h
      simp only [Bool.and_eq_true, Bool.not_eq_true'] at hb
      exact ⟨ho, fun hm => by rw [memN_iff.2 hm] at hb; exact absurd hb.1.1 (by simp), hb.1.2, hb.2⟩
  · cases h
theorem firstQP_some : ∀ {l : List Oper} {i j : Nat}, firstQP own m ex i l = some j → ∃ k o, j = i + k ∧ l[k]? = some o ∧ (!LP m ex j) = true ∧ isQ own o = true ∧ (depsOf o).all (LP m ex) = true
  | [], i, j, h => by cases h
  | o' :: r, i, j, h => by
    simp only [firstQP] at h
    cases hb : (!LP m ex i && isQ own o' && (depsOf o').all (LP m ex)) with
    | true =>
      rw [hb] at h
      cases h
      simp only [Bool.and_eq_true] at hb
      exact ⟨0, o', rfl, rfl, hb.1.1, hb.1.2, hb.2⟩
    | false =>
      rw [hb] at h
      obtain ⟨k, o, h1, h2, h3⟩ := firstQP_some h
      exact ⟨k + 1, o, by omega, by simpa using h2, h3⟩
theorem firstQP_none : ∀ {l : List Oper} {i : Nat}, firstQP own m ex i l = none → ∀ k o, l[k]? = some o → LP m ex (i + k) = false → (depsOf o).all (LP m ex) = true → isQ own o = false
  | [], i, _, k, o, ho, _, _ => by simp at ho
  | o' :: r, i, h, k, o, ho, hm, hd => by
    simp only [firstQP] at h
    cases hb : (!LP m ex i && isQ own o' && (depsOf o').all (LP m ex)) with
    | true => rw [hb] at h; cases h
    | false =>
      rw [hb] at h
      cases k with
      | zero =>
        simp at ho
        subst ho
        cases hq : isQ own o' with
        | false => rfl
        | true => rw [Nat.add_zero] at hm; rw [hm, hq, hd] at hb; cases hb
      | succ k => exact firstQP_none h k o (by simpa using ho) (by rw [show i + 1 + k = i + (k + 1) by omega]; exact hm) hd
theorem mem_readyP : ∀ {l : List Oper} {i k : Nat} {o : Oper}, l[k]? = some o → LP m ex (i + k) = false → (depsOf o).all (LP m ex) = true → i + k ∈ readyP m ex i l
  | [], i, k, o, ho, _, _ => by simp at ho
  | o' :: r, i, k, o, ho, hm, hd => by
    simp only [readyP]
    cases k with
    | zero =>
      simp at ho
      subst ho
      rw [Nat.add_zero] at hm ⊢
      rw [hm, hd]
      exact List.mem_cons_self ..
    | succ k =>
      have := mem_readyP (l := r) (i := i + 1) (k := k) (o := o) (by simpa using ho) (by rw [show i + 1 + k = i + (k + 1) by omega]; exact hm) hd
      rw [show i + 1 + k = i + (k + 1) by omega] at this
      cases hb : (!LP m ex i && (depsOf o').all (LP m ex)) with
      | true => exact List.mem_cons_of_mem _ this
      | false => exact this
theorem readyP_mem : ∀ {l : List Oper} {i j : Nat}, j ∈ readyP m ex i l → ∃ k o, j = i + k ∧ l[k]? = some o ∧ (!LP m ex j) = true
  | [], i, j, h => by cases h
  | o' :: r, i, j, h => by
    simp only [readyP] at h
    have go : j ∈ readyP m ex (i + 1) r → ∃ k o, j = i + k ∧ (o' :: r)[k]? = some o ∧ (!LP m ex j) = true := fun h => by
      obtain ⟨k, o, h1, h2, h3⟩ := readyP_mem h
      exact ⟨k + 1, o, by omega, by simpa using h2, h3⟩
    cases hb : (!LP m ex i && (depsOf o').all (LP m ex)) with
    | true =>
      rw [hb] at h
      rcases List.mem_cons.1 h with rfl | h
      · simp only [Bool.and_eq_true] at hb
        exact ⟨0, o', rfl, rfl, hb.1⟩
      · exact go h
    | false => rw [hb] at h; exact go h
theorem LP_ins {L : List Nat} (hL : ∀ i, i ∈ L ↔ LP m ex i = true) (j : Nat) : ∀ i, i ∈ j :: L ↔ LP m (j :: ex) i = true := fun i => by
  rw [List.mem_cons, hL i, LP_iff, LP_iff, List.mem_cons]
  constructor
  · rintro (h | h | h)
    · exact .inr (.inl h)
    · exact .inl h
    · exact .inr (.inr h)
  · rintro (h | h | h)
    · exact .inr (.inl h)
    · exact .inl h
    · exact .inr (.inr h)
theorem LP_next {L : List Nat} (hL : ∀ i, i ∈ L ↔ LP m ex i = true) : ∀ i, i ∈ m :: L ↔ LP (m + 1) ex i = true := fun i => by
  rw [List.mem_cons, hL i, LP_iff, LP_iff]
  constructor
  · rintro (h | h | h)
    · exact .inl (by omega)
    · exact .inl (by omega)
    · exact .inr h
  · rintro (h | h)
    · by_cases e : i = m
      · exact .inl e
      · exact .inr (.inl (by omega))
    · exact .inr (.inr h)
theorem not_mem_next {L : List Nat} (hL : ∀ i, i ∈ L ↔ LP m ex i = true) (h : m ∉ ex) : m ∉ L := fun hi => by
  rcases LP_iff.1 ((hL m).1 hi) with h1 | h1
  · omega
  · exact h h1
def AgP (G : Gl) (T : Tab) (own : List Nat) (all : List Oper) (j m : Nat) (ex : List Nat) (env : Env) (H : List Blk) : Prop := AgAll G T own all env H (agR own all (getL (clo all) j) m ++ agL own all (getL (clo all) j) ex)
theorem loud_any (hf : firstQP own m ex 0 all = none) {j0 : Nat} {js : List Nat} (hr : readyP m ex 0 all = j0 :: js) (h : ∀ j ∈ j0 :: js, ∃ o, all[j]? = some o ∧ exG P G T own all o env H fun x H' => AgP G T own all j m ex (putE o.dst x env) H' ∧ (DrP P G T own all) n m (j :: ex) (putE o.dst x env) H' K) : (DrP P G T own all) (n + 1) m ex env H K := fun L hL => by
  have lpf : ∀ i, i ∉ L → LP m ex i = false := fun i hi => by
    cases hb : LP m ex i with
    | false => rfl
    | true => exact (hi ((hL i).2 hb)).elim
  have dpf : ∀ o, (∀ j ∈ depsOf o, j ∈ L) → (depsOf o).all (LP m ex) = true := fun o hd => List.all_eq_true.2 fun j hj => (hL j).1 (hd j hj)
  refine .inr ⟨fun i o ho hn hd => firstQP_none hf i o ho (by rw [Nat.zero_add]; exact lpf i hn) (dpf o hd), .inr ⟨?_, fun j o ho hn hd => ?_⟩⟩
  · obtain ⟨k, o, e1, e2, e3⟩ := readyP_mem (m := m) (ex := ex) (l := all) (i := 0) (j := j0) (by rw [hr]; exact List.mem_cons_self ..)
    rw [Nat.zero_add] at e1
    subst e1
    exact ⟨j0, o, e2, not_LP hL e3⟩
  · have hmem := mem_readyP (m := m) (ex := ex) (l := all) (i := 0) ho (by rw [Nat.zero_add]; exact lpf j hn) (dpf o hd)
    rw [Nat.zero_add, hr] at hmem
    obtain ⟨o', ho', hx⟩ := h j hmem
    rw [ho] at ho'
    cases ho'
    exact exG_mono (fun x H' hh => ⟨again_of hh.1 (fun i hi => (hL i).1 hi), hh.2 (j :: L) (LP_ins hL j)⟩) hx
theorem dr_l1 (hf : firstQP own m ex 0 all = none) (hr : readyP m ex 0 all = [j]) (ho : all[j]? = some o) (h : exG P G T own all o env H fun x H' => AgP G T own all j m ex (putE o.dst x env) H' ∧ (DrP P G T own all) n m (j :: ex) (putE o.dst x env) H' K) : (DrP P G T own all) (n + 1) m ex env H K :=
  loud_any hf hr fun j' hj => by rw [List.mem_singleton.1 hj]; exact ⟨o, ho, h⟩
theorem dr_l2 {j2 : Nat} {o2 : Oper} (hf : firstQP own m ex 0 all = none) (hr : readyP m ex 0 all = [j, j2]) (ho : all[j]? = some o) (ho2 : all[j2]? = some o2) (h : exG P G T own all o env H fun x H' => AgP G T own all j m ex (putE o.dst x env) H' ∧ (DrP P G T own all) n m (j :: ex) (putE o.dst x env) H' K)
    (h2 : exG P G T own all o2 env H fun x H' => AgP G T own all j2 m ex (putE o2.dst x env) H' ∧ (DrP P G T own all) n m (j2 :: ex) (putE o2.dst x env) H' K) : (DrP P G T own all) (n + 1) m ex env H K :=
  loud_any hf hr fun j' hj => by
    rcases List.mem_cons.1 hj with rfl | hj
    · exact ⟨o, ho, h⟩
    · rw [List.mem_singleton.1 hj]; exact ⟨o2, ho2, h2⟩
variable {kk : SV → List Blk → Prop} {dst : Option Nat} {want b : Bool} {dj : Nat}
theorem xg_q (h : qv G T own env H dst ty op = some v) (hk : kk v H) : exG P G T own all ⟨dst, op, ty, pos, after, none⟩ env H kk := qv_ok h hk
theorem xg_l (h : lv G T own env H dst ty op = some (v, H')) (hk : kk v H') : exG P G T own all ⟨dst, op, ty, pos, after, none⟩ env H kk := lv_ok h hk
theorem xg_run (h1 : (all[j]?).bind (·.dst) = some dj) (h2 : look env dj = some (.bool want)) (h : exG P G T own all ⟨dst, op, ty, pos, after, none⟩ env H kk) : exG P G T own all ⟨dst, op, ty, pos, after, some (j, want)⟩ env H kk :=
  ⟨dj, h1, _, h2, some want, rfl, And.intro (fun _ => h) (fun e => by simp at e)⟩
theorem xg_skip {u : SV} {bo : Option Bool} (h1 : (all[j]?).bind (·.dst) = some dj) (h2 : look env dj = some u) (h3 : asG u = some bo) (hb : (bo == some want) = false) (h : kk .undef H) : exG P G T own all ⟨dst, op, ty, pos, after, some (j, want)⟩ env H kk :=
  ⟨dj, h1, _, h2, bo, h3, And.intro (fun e => by rw [hb] at e; cases e) (fun _ => h)⟩
variable {R' : SV → List Blk → Prop} {xs : List SV} {f : Operand} {fv : SV} {args : Array Operand} {tys : Array Nat} {g : FuncId}
theorem xg_callV (h1 : ev G env f = some fv) (h2 : evs G env args.toList = some xs) (hc : ACallV P G fv xs H R') (hk : ∀ x H', R' x H' → kk x H') : exG P G T own all ⟨dst, .call ⟨.value f, args, tys⟩, ty, pos, after, none⟩ env H kk :=
  ⟨fv, h1, xs, h2, hc.mono fun x H' hr => hk x H' hr⟩
theorem xg_call (h2 : evs G env args.toList = some xs) (hc : ACall P G g xs H R') (hk : ∀ x H', R' x H' → kk x H') : exG P G T own all ⟨dst, .call ⟨.value (.func g), args, tys⟩, ty, pos, after, none⟩ env H kk :=
  xg_callV rfl h2 (ACallV.of (by simpa using hc)) hk
theorem ag_mkS {x : SV} {l : List Nat} (h1 : agR own all (getL (clo all) j) m ++ agL own all (getL (clo all) j) ex = l) (h2 : AgAll G T own all ((d, x) :: env) H l) (h : (DrP P G T own all) n m (j :: ex) ((d, x) :: env) H K) : AgP G T own all j m ex (putE (some d) x env) H ∧ (DrP P G T own all) n m (j :: ex) (putE (some d) x env) H K := ⟨by unfold AgP; rw [h1]; exact h2, h⟩
theorem ag_mkN {x : SV} {l : List Nat} (h1 : agR own all (getL (clo all) j) m ++ agL own all (getL (clo all) j) ex = l) (h2 : AgAll G T own all env H l) (h : (DrP P G T own all) n m (j :: ex) env H K) : AgP G T own all j m ex (putE none x env) H ∧ (DrP P G T own all) n m (j :: ex) (putE none x env) H K := ⟨by unfold AgP; rw [h1]; exact h2, h⟩
theorem ag_nil : AgAll G T own all env H [] := trivial
theorem ag_c0 {r : List Nat} (h : all[i]? = some ⟨some d, op, ty, pos, after, none⟩) (hl : look env d = some v) (hv : qv G T own env H (some d) ty op = some v) (hr : AgAll G T own all env H r) : AgAll G T own all env H (i :: r) :=
  ⟨⟨_, h, by simp only [qg, hv, Option.bind_some, hl]⟩, hr⟩
theorem ag_cR {r : List Nat} {dj : Nat} {want : Bool} {u : SV} (h : all[i]? = some ⟨some d, op, ty, pos, after, some (j, want)⟩) (h1 : (all[j]?).bind (·.dst) = some dj) (h2 : look env dj = some (.bool want)) (hl : look env d = some u) (hv : qv G T own env H (some d) ty op = some v) (he : u = v) (hr : AgAll G T own all env H r) : AgAll G T own all env H (i :: r) :=
  ⟨⟨_, h, by simp only [qg, h1, ob_some, h2, asG, beq_self_eq_true, bb_true, hv, Option.bind_some, hl, he]⟩, hr⟩
theorem ag_cS {r : List Nat} {dj : Nat} {want : Bool} {u u2 : SV} {b : Option Bool} (h : all[i]? = some ⟨some d, op, ty, pos, after, some (j, want)⟩) (h1 : (all[j]?).bind (·.dst) = some dj) (h2 : look env dj = some u) (h3 : asG u = some b) (hb : (b == some want) = false) (hl : look env d = some u2) (he : u2 = .undef) (hr : AgAll G T own all env H r) : AgAll G T own all env H (i :: r) :=
  ⟨⟨_, h, by simp only [qg, h1, ob_some, h2, h3, hb, bb_false, Option.bind_some, hl, he]⟩, hr⟩
theorem ag_cM1 {r : List Nat} {dj : Nat} {want b : Bool} (h : all[i]? = some ⟨some d, op, ty, pos, after, some (j, want)⟩) (h1 : (all[j]?).bind (·.dst) = some dj) (h2 : look env dj = some (.bool b)) (hl : look env d = some (gv b want v)) (hv : b = want → qv G T own env H (some d) ty op = some v) (hr : AgAll G T own all env H r) : AgAll G T own all env H (i :: r) := by
  by_cases hw : b = want
  · subst hw
    rw [gv_self] at hl
    exact ag_cR h h1 h2 hl (hv rfl) rfl hr
  · have e : gv b want v = .undef := by cases b <;> cases want <;> first | rfl | exact (hw rfl).elim
    exact ag_cS h h1 h2 rfl (by cases b <;> cases want <;> first | rfl | exact (hw rfl).elim) hl e hr
theorem ag_cM2 {r : List Nat} {dj : Nat} {want b b1 w1 : Bool} (h : all[i]? = some ⟨some d, op, ty, pos, after, some (j, want)⟩) (h1 : (all[j]?).bind (·.dst) = some dj) (h2 : look env dj = some (gv b1 w1 (.bool b))) (hl : look env d = some (gv b1 w1 (gv b want v))) (hv : b1 = w1 → b = want → qv G T own env H (some d) ty op = some v) (hr : AgAll G T own all env H r) : AgAll G T own all env H (i :: r) := by
  by_cases hw : b1 = w1
  · subst hw
    rw [gv_self] at hl h2
    exact ag_cM1 h h1 h2 hl (hv rfl) hr
  · have e : ∀ x, gv b1 w1 x = .undef := fun x => by cases b1 <;> cases w1 <;> first | rfl | exact (hw rfl).elim
    rw [e] at h2
    exact ag_cS h h1 h2 rfl rfl hl (e _) hr
theorem ag_cM3 {r : List Nat} {dj : Nat} {want b b1 w1 b2 w2 : Bool} (h : all[i]? = some ⟨some d, op, ty, pos, after, some (j, want)⟩) (h1 : (all[j]?).bind (·.dst) = some dj) (h2 : look env dj = some (gv b1 w1 (gv b2 w2 (.bool b)))) (hl : look env d = some (gv b1 w1 (gv b2 w2 (gv b want v)))) (hv : b1 = w1 → b2 = w2 → b = want → qv G T own env H (some d) ty op = some v) (hr : AgAll G T own all env H r) : AgAll G T own all env H (i :: r) := by
  by_cases hw : b1 = w1
  · subst hw
    rw [gv_self] at hl h2
    exact ag_cM2 h h1 h2 hl (hv rfl) hr
  · have e : ∀ x, gv b1 w1 x = .undef := fun x => by cases b1 <;> cases w1 <;> first | rfl | exact (hw rfl).elim
    rw [e] at h2
    exact ag_cS h h1 h2 rfl rfl hl (e _) hr
def StG (P : Program) (G : Gl) (T : Tab) (own : List Nat) (all : List Oper) (n m : Nat) (ex : List Nat) (o : Oper) (env : Env) (H : List Blk) (K : Env → List Blk → Prop) : Prop :=
  ∃ v, qg G T own all o env H = some v ∧ DrP P G T own all n m ex (putE o.dst v env) H K
theorem dr_s {m2 : Nat} (hs : stepQ own all m ex = some o) (hm : m + 1 = m2) (h : (StG P G T own all) n m2 ex o env H K) : (DrP P G T own all) (n + 1) m ex env H K := fun L hL => by
  subst hm
  obtain ⟨v, hv, h⟩ := h
  obtain ⟨h1, h2, h3, h4⟩ := stepQ_some hs
  exact .inl ⟨m, _, v, h1, not_mem_next hL h2, h3, deps_LP hL h4, hv, h (m :: L) (LP_next hL)⟩
theorem dr_so (hf : firstQP own m ex 0 all = some i) (ho : all[i]? = some o) (h : (StG P G T own all) n m (i :: ex) o env H K) : (DrP P G T own all) (n + 1) m ex env H K := fun L hL => by
  obtain ⟨v, hv, h⟩ := h
  obtain ⟨k, o, h1, h2, h3, h4, h5⟩ := firstQP_some hf
  rw [Nat.zero_add] at h1
  subst h1
  rw [ho] at h2
  cases h2
  exact .inl ⟨i, _, v, ho, not_LP hL h3, h4, deps_LP hL h5, hv, h (i :: L) (LP_ins hL i)⟩
theorem dr_adv2 {m2 : Nat} (hm : memN m ex = true) (h2 : m + 1 = m2) (h : (DrP P G T own all) n m2 ex env H K) : (DrP P G T own all) n m ex env H K := dr_adv hm (h2 ▸ h)
theorem sg_q (hv : qv G T own env H (some d) ty op = some v) (h : (DrP P G T own all) n m ex ((d, v) :: env) H K) : (StG P G T own all) n m ex ⟨some d, op, ty, pos, after, none⟩ env H K := ⟨v, hv, h⟩
theorem sg_run {dj : Nat} {want : Bool} (h1 : (all[j]?).bind (·.dst) = some dj) (h2 : look env dj = some (.bool want)) (hv : qv G T own env H (some d) ty op = some v) (h : (DrP P G T own all) n m ex ((d, v) :: env) H K) : (StG P G T own all) n m ex ⟨some d, op, ty, pos, after, some (j, want)⟩ env H K :=
  ⟨v, by simp only [qg, h1, ob_some, h2, asG, beq_self_eq_true, bb_true]; exact hv, h⟩
theorem sg_skip {dj : Nat} {want : Bool} {u : SV} {b : Option Bool} (h1 : (all[j]?).bind (·.dst) = some dj) (h2 : look env dj = some u) (h3 : asG u = some b) (hb : (b == some want) = false) (h : (DrP P G T own all) n m ex ((d, .undef) :: env) H K) : (StG P G T own all) n m ex ⟨some d, op, ty, pos, after, some (j, want)⟩ env H K :=
  ⟨.undef, by simp only [qg, h1, ob_some, h2, h3, hb, bb_false], h⟩
theorem sg_M1 {dj : Nat} {want b : Bool} (h1 : (all[j]?).bind (·.dst) = some dj) (h2 : look env dj = some (.bool b)) (hv : b = want → qv G T own env H (some d) ty op = some v) (h : (DrP P G T own all) n m ex ((d, gv b want v) :: env) H K) : (StG P G T own all) n m ex ⟨some d, op, ty, pos, after, some (j, want)⟩ env H K := by
  by_cases hw : b = want
  · subst hw
    rw [gv_self] at h
    exact sg_run h1 h2 (hv rfl) h
  · have e : gv b want v = .undef := by cases b <;> cases want <;> first | rfl | exact (hw rfl).elim
    rw [e] at h
    exact sg_skip h1 h2 rfl (by cases b <;> cases want <;> first | rfl | exact (hw rfl).elim) h
theorem sg_M2 {dj : Nat} {want b b1 w1 : Bool} (h1 : (all[j]?).bind (·.dst) = some dj) (h2 : look env dj = some (gv b1 w1 (.bool b))) (hv : b1 = w1 → b = want → qv G T own env H (some d) ty op = some v) (h : (DrP P G T own all) n m ex ((d, gv b1 w1 (gv b want v)) :: env) H K) : (StG P G T own all) n m ex ⟨some d, op, ty, pos, after, some (j, want)⟩ env H K := by
  by_cases hw : b1 = w1
  · subst hw
    rw [gv_self] at h h2
    exact sg_M1 h1 h2 (hv rfl) h
  · have e : ∀ x, gv b1 w1 x = .undef := fun x => by cases b1 <;> cases w1 <;> first | rfl | exact (hw rfl).elim
    rw [e] at h h2
    exact sg_skip h1 h2 rfl rfl h
theorem sg_M3 {dj : Nat} {want b b1 w1 b2 w2 : Bool} (h1 : (all[j]?).bind (·.dst) = some dj) (h2 : look env dj = some (gv b1 w1 (gv b2 w2 (.bool b)))) (hv : b1 = w1 → b2 = w2 → b = want → qv G T own env H (some d) ty op = some v) (h : (DrP P G T own all) n m ex ((d, gv b1 w1 (gv b2 w2 (gv b want v))) :: env) H K) : (StG P G T own all) n m ex ⟨some d, op, ty, pos, after, some (j, want)⟩ env H K := by
  by_cases hw : b1 = w1
  · subst hw
    rw [gv_self] at h h2
    exact sg_M2 h1 h2 (hv rfl) h
  · have e : ∀ x, gv b1 w1 x = .undef := fun x => by cases b1 <;> cases w1 <;> first | rfl | exact (hw rfl).elim
    rw [e] at h h2
    exact sg_skip h1 h2 rfl rfl h
theorem StG.eqE (he : EqE env env2) : (StG P G T own all) n m ex o env H (fun env H => (Out P G T own nt ρ C rs R) k .normal env H) → (StG P G T own all) n m ex o env2 H (fun env H => (Out P G T own nt ρ C rs R) k .normal env H) := fun ⟨v, h1, h2⟩ =>
  ⟨v, by rw [← qg_congr (env := env) (env2 := env2) (fun t _ => he t)]; exact h1, fun L hL => Dr.eqE (K := (fun env H => (Out P G T own nt ρ C rs R) k .normal env H)) (fun a b H he hk => Out.eqE (k := k) he hk) (he.put _ _) (h2 L hL)⟩
theorem sg_B {dj : Nat} {want b : Bool} (h1 : (all[j]?).bind (·.dst) = some dj) (h2 : look env dj = some (.bool b)) (h : b = true → (StG P G T own all) n m ex ⟨some d, op, ty, pos, after, some (j, want)⟩ ((dj, .bool true) :: env) H (fun env H => (Out P G T own nt ρ C rs R) k .normal env H)) (h' : b = false → (StG P G T own all) n m ex ⟨some d, op, ty, pos, after, some (j, want)⟩ ((dj, .bool false) :: env) H (fun env H => (Out P G T own nt ρ C rs R) k .normal env H)) : (StG P G T own all) n m ex ⟨some d, op, ty, pos, after, some (j, want)⟩ env H (fun env H => (Out P G T own nt ρ C rs R) k .normal env H) := by
  cases b with
  | true => exact StG.eqE (EqE.shadow h2) (h rfl)
  | false => exact StG.eqE (EqE.shadow h2) (h' rfl)
theorem sg_D {dj : Nat} {want : Bool} {a : Prop} {inst : Decidable a} (h1 : (all[j]?).bind (·.dst) = some dj) (h2 : look env dj = some (.bool (decide a))) (h : a → (StG P G T own all) n m ex ⟨some d, op, ty, pos, after, some (j, want)⟩ ((dj, .bool true) :: env) H (fun env H => (Out P G T own nt ρ C rs R) k .normal env H)) (h' : ¬ a → (StG P G T own all) n m ex ⟨some d, op, ty, pos, after, some (j, want)⟩ ((dj, .bool false) :: env) H (fun env H => (Out P G T own nt ρ C rs R) k .normal env H)) : (StG P G T own all) n m ex ⟨some d, op, ty, pos, after, some (j, want)⟩ env H (fun env H => (Out P G T own nt ρ C rs R) k .normal env H) :=
  sg_B h1 h2 (fun e => h (of_decide_eq_true e)) (fun e => h' (of_decide_eq_false e))
def Ld (P : Program) (G : Gl) (T : Tab) (own : List Nat) (all : List Oper) (n m : Nat) (ex : List Nat) (j : Nat) (o : Oper) (env : Env) (H : List Blk) (K : Env → List Blk → Prop) : Prop :=
  exG P G T own all o env H fun x H' => AgP G T own all j m ex (putE o.dst x env) H' ∧ DrP P G T own all n m (j :: ex) (putE o.dst x env) H' K
theorem dr_L1 (hf : firstQP own m ex 0 all = none) (hr : readyP m ex 0 all = [j]) (ho : all[j]? = some o) (h : (Ld P G T own all) n m ex j o env H K) : (DrP P G T own all) (n + 1) m ex env H K := dr_l1 hf hr ho h
theorem dr_L2 {j2 : Nat} {o2 : Oper} (hf : firstQP own m ex 0 all = none) (hr : readyP m ex 0 all = [j, j2]) (ho : all[j]? = some o) (ho2 : all[j2]? = some o2) (h : (Ld P G T own all) n m ex j o env H K) (h2 : (Ld P G T own all) n m ex j2 o2 env H K) : (DrP P G T own all) (n + 1) m ex env H K := dr_l2 hf hr ho ho2 h h2
variable {i0 : Nat}
theorem Ld.eqE (he : EqE env env2) : (Ld P G T own all) n m ex i0 o env H (fun env H => (Out P G T own nt ρ C rs R) k .normal env H) → (Ld P G T own all) n m ex i0 o env2 H (fun env H => (Out P G T own nt ρ C rs R) k .normal env H) := fun h =>
  exG_congr (fun t _ => he t) (exG_mono (fun x H' hx => ⟨by
    have h1 := hx.1
    unfold AgP at h1 ⊢
    revert h1
    generalize agR own all (getL (clo all) i0) m ++ agL own all (getL (clo all) i0) ex = l
    intro h1
    induction l with
    | nil => trivial
    | cons a l ih =>
      obtain ⟨⟨o', h2, h3⟩, h4⟩ := h1
      refine ⟨⟨o', h2, ?_⟩, ih h4⟩
      rw [← qg_congr (env := putE o.dst x env) (env2 := putE o.dst x env2) (fun t _ => (he.put _ _) t), h3]
      cases o'.dst with
      | none => rfl
      | some d => exact (he.put _ _) d, fun L hL => Dr.eqE (K := (fun env H => (Out P G T own nt ρ C rs R) k .normal env H)) (fun a b H he hk => Out.eqE (k := k) he hk) (he.put _ _) (hx.2 L hL)⟩) h)
theorem ld_go {dst : Option Nat} (h : exG P G T own all ⟨dst, op, ty, pos, after, none⟩ env H fun x H' => AgP G T own all i0 m ex (putE dst x env) H' ∧ (DrP P G T own all) n m (i0 :: ex) (putE dst x env) H' K) : (Ld P G T own all) n m ex i0 ⟨dst, op, ty, pos, after, none⟩ env H K := h
theorem ld_run {dst : Option Nat} {dj : Nat} {want : Bool} (h1 : (all[j]?).bind (·.dst) = some dj) (h2 : look env dj = some (.bool want)) (h : exG P G T own all ⟨dst, op, ty, pos, after, none⟩ env H fun x H' => AgP G T own all i0 m ex (putE dst x env) H' ∧ (DrP P G T own all) n m (i0 :: ex) (putE dst x env) H' K) : (Ld P G T own all) n m ex i0 ⟨dst, op, ty, pos, after, some (j, want)⟩ env H K := xg_run h1 h2 h
theorem ld_skip {dst : Option Nat} {dj : Nat} {want : Bool} {u : SV} {bo : Option Bool} (h1 : (all[j]?).bind (·.dst) = some dj) (h2 : look env dj = some u) (h3 : asG u = some bo) (hb : (bo == some want) = false) (h : AgP G T own all i0 m ex (putE dst .undef env) H ∧ (DrP P G T own all) n m (i0 :: ex) (putE dst .undef env) H K) : (Ld P G T own all) n m ex i0 ⟨dst, op, ty, pos, after, some (j, want)⟩ env H K := xg_skip h1 h2 h3 hb h
theorem ld_X {dst : Option Nat} {dj : Nat} {want b1 w1 : Bool} {u : SV} (h1 : (all[j]?).bind (·.dst) = some dj) (h2 : look env dj = some (gv b1 w1 u)) (h : ∀ c, b1 = c → (Ld P G T own all) n m ex i0 ⟨dst, op, ty, pos, after, some (j, want)⟩ env H K) : (Ld P G T own all) n m ex i0 ⟨dst, op, ty, pos, after, some (j, want)⟩ env H K := h _ rfl
theorem ld_B {dst : Option Nat} {dj : Nat} {want b : Bool} (h1 : (all[j]?).bind (·.dst) = some dj) (h2 : look env dj = some (.bool b)) (h : b = true → (Ld P G T own all) n m ex i0 ⟨dst, op, ty, pos, after, some (j, want)⟩ ((dj, .bool true) :: env) H (fun env H => (Out P G T own nt ρ C rs R) k .normal env H)) (h' : b = false → (Ld P G T own all) n m ex i0 ⟨dst, op, ty, pos, after, some (j, want)⟩ ((dj, .bool false) :: env) H (fun env H => (Out P G T own nt ρ C rs R) k .normal env H)) : (Ld P G T own all) n m ex i0 ⟨dst, op, ty, pos, after, some (j, want)⟩ env H (fun env H => (Out P G T own nt ρ C rs R) k .normal env H) := by
  cases b with
  | true => exact Ld.eqE (EqE.shadow h2) (h rfl)
  | false => exact Ld.eqE (EqE.shadow h2) (h' rfl)
theorem ld_D {dst : Option Nat} {dj : Nat} {want : Bool} {a : Prop} {inst : Decidable a} (h1 : (all[j]?).bind (·.dst) = some dj) (h2 : look env dj = some (.bool (decide a))) (h : a → (Ld P G T own all) n m ex i0 ⟨dst, op, ty, pos, after, some (j, want)⟩ ((dj, .bool true) :: env) H (fun env H => (Out P G T own nt ρ C rs R) k .normal env H)) (h' : ¬ a → (Ld P G T own all) n m ex i0 ⟨dst, op, ty, pos, after, some (j, want)⟩ ((dj, .bool false) :: env) H (fun env H => (Out P G T own nt ρ C rs R) k .normal env H)) : (Ld P G T own all) n m ex i0 ⟨dst, op, ty, pos, after, some (j, want)⟩ env H (fun env H => (Out P G T own nt ρ C rs R) k .normal env H) :=
  ld_B h1 h2 (fun e => h (of_decide_eq_true e)) (fun e => h' (of_decide_eq_false e))
end
end Go.Proofs.YtehfihnfeakmaaaGreatDoor
end

section
/- Forgetting blocks: some are kept under new numbers, what stood in the others becomes plain data. -/
namespace Go.Proofs.YtehfihnfeakmaaaGreatDoor
open Go
abbrev Keep := List (Nat × Nat)
mutual
inductive Frz (H : List Blk) (n : Nat) (ks : Keep) : SV → SV → Prop
  | same (x : SV) (h : x.under n = true) : Frz H n ks x x
  | sl (id g off len sz : Nat) (vals ys : List SV) (hb : H[id]? = some (.cells g sz vals)) (hn : n ≤ id) (hk : ∀ p ∈ ks, p.1 ≠ id) (h : FrzL H n ks ((vals.drop off).take len) ys) : Frz H n ks (.sl id g off len) (.list sz ys)
  | keepSl (i id d g off len sz : Nat) (vals : List SV) (hi : ks[i]? = some (id, d)) (hb : H[id]? = some (.cells g sz vals)) (hd : d ≤ off) : Frz H n ks (.sl id g off len) (.sl (n + i) 0 (off - d) len)
  | keepPtr (i id d g j o sz : Nat) (vals : List SV) (hi : ks[i]? = some (id, d)) (hb : H[id]? = some (.cells g sz vals)) (hd : d ≤ j) : Frz H n ks (.ptr id g j o) (.ptr (n + i) 0 (j - d) o)
  | keepMap (i id d : Nat) (kd : Option IntKind) (es : List (SV × SV)) (hi : ks[i]? = some (id, d)) (hb : H[id]? = some (.map kd es)) : Frz H n ks (.map id) (.map (n + i))
  | nil (sz : Nat) : Frz H n ks .nil (.list sz [])
  | agg (xs ys : List SV) (h : FrzL H n ks xs ys) : Frz H n ks (.agg xs) (.agg ys)
  | tuple (xs ys : List SV) (h : FrzL H n ks xs ys) : Frz H n ks (.tuple xs) (.tuple ys)
  | list (sz : Nat) (xs ys : List SV) (h : FrzL H n ks xs ys) : Frz H n ks (.list sz xs) (.list sz ys)
  | ptr (id g j sz : Nat) (vals : List SV) (x y : SV) (hb : H[id]? = some (.cells g sz vals)) (hn : n ≤ id) (hk : ∀ p ∈ ks, p.1 ≠ id) (hx : vals[j]? = some x) (h : Frz H n ks x y) : Frz H n ks (.ptr id g j 0) (.pto y)
  | fn (f : Fn) (xs ys us vs : List SV) (h1 : FrzL H n ks xs us) (h2 : FrzL H n ks ys vs) : Frz H n ks (.fn f xs ys) (.fn f us vs)
inductive FrzL (H : List Blk) (n : Nat) (ks : Keep) : List SV → List SV → Prop
  | nil : FrzL H n ks [] []
  | cons (x y : SV) (xs ys : List SV) (h : Frz H n ks x y) (t : FrzL H n ks xs ys) : FrzL H n ks (x :: xs) (y :: ys)
end
theorem FrzL.same {H : List Blk} {n : Nat} {ks : Keep} : ∀ {xs : List SV}, SV.underL n xs = true → FrzL H n ks xs xs
  | [], _ => .nil
  | x :: xs, h => by
    simp only [SV.underL, Bool.and_eq_true] at h
    exact .cons _ _ _ _ (.same _ h.1) (FrzL.same h.2)
theorem FrzL.map {α : Type} {H : List Blk} {n : Nat} {ks : Keep} {f g : α → SV} : ∀ {l : List α}, (∀ a ∈ l, Frz H n ks (f a) (g a)) → FrzL H n ks (l.map f) (l.map g)
  | [], _ => .nil
  | x :: xs, h => .cons _ _ _ _ (h x (by simp)) (FrzL.map fun a ha => h a (by simp [ha]))
theorem FrzL.length {H : List Blk} {n : Nat} {ks : Keep} : ∀ {xs ys : List SV}, FrzL H n ks xs ys → ys.length = xs.length
  | [], ys, h => by cases h; rfl
  | x :: xs, ys, h => by cases h; rename_i h1 h2; simp [FrzL.length h2]
theorem FrzL.drop {H : List Blk} {n : Nat} {ks : Keep} : ∀ {xs ys : List SV} (d : Nat), FrzL H n ks xs ys → FrzL H n ks (xs.drop d) (ys.drop d)
  | [], ys, d, h => by cases h; simpa using FrzL.nil
  | x :: xs, ys, 0, h => h
  | x :: xs, ys, d + 1, h => by cases h; rename_i h1 h2; exact FrzL.drop d h2
inductive FrzE (H : List Blk) (n : Nat) (ks : Keep) : List (SV × SV) → List (SV × SV) → Prop
  | nil : FrzE H n ks [] []
  | cons (k x y : SV) (xs ys : List (SV × SV)) (hk : k.under n = true) (h : Frz H n ks x y) (t : FrzE H n ks xs ys) : FrzE H n ks ((k, x) :: xs) ((k, y) :: ys)
theorem FrzE.keys {H : List Blk} {n : Nat} {ks : Keep} {kd : Option IntKind} : ∀ {xs ys : List (SV × SV)}, FrzE H n ks xs ys → (∀ p ∈ xs, keyIs kd p.1 = true) → ∀ p ∈ ys, keyIs kd p.1 = true
  | [], ys, h, hk, p, hp => by cases h; cases hp
  | (k, x) :: xs, ys, h, hk, p, hp => by
    cases h
    rename_i y ys h1 h2 h3
    rcases List.mem_cons.1 hp with rfl | hp
    · exact hk (k, x) (List.mem_cons_self ..)
    · exact FrzE.keys h3 (fun q hq => hk q (List.mem_cons_of_mem _ hq)) p hp
inductive KeepB (H : List Blk) (n : Nat) (ks : Keep) : Keep → List Blk → Prop
  | nil : KeepB H n ks [] []
  | cells (id d g sz : Nat) (vals ys : List SV) (r : Keep) (bs : List Blk) (hb : H[id]? = some (.cells g sz vals)) (hn : n ≤ id) (hd : d ≤ vals.length) (hv : FrzL H n ks (vals.drop d) ys) (t : KeepB H n ks r bs) : KeepB H n ks ((id, d) :: r) (.cells 0 sz ys :: bs)
  | map (id : Nat) (kd : Option IntKind) (es fs : List (SV × SV)) (r : Keep) (bs : List Blk) (hb : H[id]? = some (.map kd es)) (hn : n ≤ id) (hv : FrzE H n ks es fs) (t : KeepB H n ks r bs) : KeepB H n ks ((id, 0) :: r) (.map kd fs :: bs)
theorem KeepB.get {H : List Blk} {n : Nat} {ks : Keep} : ∀ {r : Keep} {bs : List Blk}, KeepB H n ks r bs → ∀ {i id d : Nat}, r[i]? = some (id, d) → n ≤ id ∧
    ((∃ g sz vals ys, H[id]? = some (.cells g sz vals) ∧ d ≤ vals.length ∧ FrzL H n ks (vals.drop d) ys ∧ bs[i]? = some (.cells 0 sz ys)) ∨ (∃ kd es fs, d = 0 ∧ H[id]? = some (.map kd es) ∧ FrzE H n ks es fs ∧ bs[i]? = some (.map kd fs)))
  | [], bs, h, i, id, d, hi => by simp at hi
  | p :: r, bs, h, i, id, d, hi => by
    cases h with
    | cells id' d' g sz vals ys r bs hb hn hd hv t =>
      cases i with
      | zero => simp at hi; obtain ⟨rfl, rfl⟩ := hi; exact ⟨hn, .inl ⟨g, sz, vals, ys, hb, hd, hv, rfl⟩⟩
      | succ i => simpa using t.get (i := i) (by simpa using hi)
    | map id' kd es fs r bs hb hn hv t =>
      cases i with
      | zero => simp at hi; obtain ⟨rfl, rfl⟩ := hi; exact ⟨hn, .inr ⟨kd, es, fs, rfl, hb, hv, rfl⟩⟩
      | succ i => simpa using t.get (i := i) (by simpa using hi)
theorem KeepB.length {H : List Blk} {n : Nat} {ks : Keep} : ∀ {r : Keep} {bs : List Blk}, KeepB H n ks r bs → bs.length = r.length
  | [], bs, h => by cases h; rfl
  | p :: r, bs, h => by cases h <;> (rename_i t; simp [t.length])
section
variable {P : Program} {G : Gl} {T : Tab} {own : List Nat} {nt B : Nat} {ρ : Option Nat} {C : Cx} {rs : List ResultVar} {R : SV → List Blk → Prop} {env env2 : Env} {H X KB : List Blk} {ks : Keep}
def szOf : Blk → Nat
  | .cells _ sz _ => sz
  | _ => 0
def thK (θ : Nat → Option (Nat × Nat)) (Hall : List Blk) (n : Nat) (ks : Keep) (i : Nat) : Option (Nat × Nat) :=
  if i < n then θ i else match ks[i - n]? with
    | some (id, d) => (θ id).map fun p => (p.1, p.2 + d * ((Hall[id]?).map szOf).getD 0)
    | none => none
theorem thK_lt {θ : Nat → Option (Nat × Nat)} {Hall : List Blk} {n i : Nat} (h : i < n) : thK θ Hall n ks i = θ i := if_pos h
theorem thK_ge {θ : Nat → Option (Nat × Nat)} {Hall : List Blk} {n i id d : Nat} (h : ks[i]? = some (id, d)) : thK θ Hall n ks (n + i) = (θ id).map fun p => (p.1, p.2 + d * ((Hall[id]?).map szOf).getD 0) := by
  unfold thK
  rw [if_neg (by omega), Nat.add_sub_cancel_left, h]
structure KeepOK (H X KB : List Blk) (ks : Keep) : Prop where
  kb : KeepB (H ++ X) H.length ks ks KB
  nd : (ks.map (·.1)).Nodup
theorem KeepOK.inj (hk : KeepOK H X KB ks) {i j id d d' : Nat} (h1 : ks[i]? = some (id, d)) (h2 : ks[j]? = some (id, d')) : i = j := by
  have e1 : (ks.map (·.1))[i]? = some id := by rw [List.getElem?_map, h1]; rfl
  have e2 : (ks.map (·.1))[j]? = some id := by rw [List.getElem?_map, h2]; rfl
  obtain ⟨l1, e1⟩ := List.getElem?_eq_some_iff.1 e1
  obtain ⟨l2, e2⟩ := List.getElem?_eq_some_iff.1 e2
  exact (List.getElem_inj hk.nd).1 (e1.trans e2.symm)
theorem own_keep {θ : Nat → Option (Nat × Nat)} {w : World} (hk : KeepOK H X KB ks) {b : Nat} (h : Cx.own ⟨thK θ (H ++ X) H.length ks, H ++ KB, w⟩ b) : ∃ id o, Cx.live ⟨θ, H ++ X, w⟩ id ∧ θ id = some (b, o) ∧ (id < H.length ∨ ∃ p ∈ ks, p.1 = id) := by
  obtain ⟨id, o, ⟨B, hB, hl⟩, ht⟩ := h
  have hB : (H ++ KB)[id]? = some B := hB
  have ht : thK θ (H ++ X) H.length ks id = some (b, o) := ht
  by_cases hlt : id < H.length
  · rw [thK_lt hlt] at ht
    refine ⟨id, o, ⟨B, ?_, hl⟩, ht, .inl hlt⟩
    show (H ++ X)[id]? = some B
    rw [List.getElem?_append_left hlt] at hB ⊢; exact hB
  · obtain ⟨i, rfl⟩ : ∃ i, id = H.length + i := ⟨id - H.length, by omega⟩
    rw [List.getElem?_append_right (by omega), Nat.add_sub_cancel_left] at hB
    have hi : i < ks.length := by rw [← hk.kb.length]; exact (List.getElem?_eq_some_iff.1 hB).1
    obtain ⟨⟨id', d⟩, hid⟩ : ∃ p, ks[i]? = some p := ⟨ks[i], List.getElem?_eq_getElem hi⟩
    rw [thK_ge hid] at ht
    cases hth : θ id' with
    | none => rw [hth] at ht; cases ht
    | some p =>
      rw [hth] at ht
      obtain ⟨b', o'⟩ := p
      simp at ht
      obtain ⟨rfl, _⟩ := ht
      refine ⟨id', o', ?_, hth, .inr ⟨_, List.mem_of_getElem? hid, rfl⟩⟩
      obtain ⟨_, h | h⟩ := hk.kb.get hid
      · obtain ⟨g, sz, vals, ys, h1, _⟩ := h; exact ⟨_, h1, rfl⟩
      · obtain ⟨kd, es, fs, _, h1, _⟩ := h; exact ⟨_, h1, rfl⟩
theorem imm_keep {θ : Nat → Option (Nat × Nat)} {w : World} (hk : KeepOK H X KB ks) {b : Nat} (h : Cx.imm ⟨θ, H ++ X, w⟩ b) : Cx.imm ⟨thK θ (H ++ X) H.length ks, H ++ KB, w⟩ b :=
  ⟨h.1, fun ho => by
    obtain ⟨id, o, h1, h2, _⟩ := own_keep hk ho
    exact h.2 ⟨id, o, h1, h2⟩⟩
theorem imm_lost {θ : Nat → Option (Nat × Nat)} {w : World} (hc : HeapOK ⟨θ, H ++ X, w⟩) (hk : KeepOK H X KB ks) {id g sz b o : Nat} {vals : List SV} (hb : (H ++ X)[id]? = some (.cells g sz vals)) (hn : H.length ≤ id) (hno : ∀ p ∈ ks, p.1 ≠ id) (ht : θ id = some (b, o)) :
    Cx.imm ⟨thK θ (H ++ X) H.length ks, H ++ KB, w⟩ b := by
  refine ⟨BlkRep.lt (hc.blk id _ hb) rfl ht, fun ho => ?_⟩
  obtain ⟨id', o', h1, h2, h3⟩ := own_keep hk ho
  have := hc.inj id id' b o o' ⟨_, hb, rfl⟩ h1 ht h2
  subst this
  rcases h3 with h3 | ⟨p, hp, h3⟩
  · omega
  · exact hno p hp h3
theorem Rep.keep_both {θ : Nat → Option (Nat × Nat)} {w : World} (hk : KeepOK H X KB ks) : (∀ x v, Rep ⟨θ, H ++ X, w⟩ x v → x.under H.length = true → Rep ⟨thK θ (H ++ X) H.length ks, H ++ KB, w⟩ x v) ∧
    (∀ xs vs, RepL ⟨θ, H ++ X, w⟩ xs vs → SV.underL H.length xs = true → RepL ⟨thK θ (H ++ X) H.length ks, H ++ KB, w⟩ xs vs) := by
  have hget : ∀ id : Nat, decide (id < H.length) = true → (H ++ X)[id]? = H[id]? ∧ (H ++ KB)[id]? = H[id]? ∧ thK θ (H ++ X) H.length ks id = θ id := fun id h => by
    have h : id < H.length := by simpa using h
    exact ⟨List.getElem?_append_left h, List.getElem?_append_left h, thK_lt h⟩
  apply SV.both
  · intro x h1 h2 h3 h4 h5 h6 v h hb
    cases x with
    | agg fs => exact absurd rfl (h1 fs)
    | list n xs => exact absurd rfl (h2 n xs)
    | pto y => exact absurd rfl (h3 y)
    | fn f a b => exact absurd rfl (h4 f a b)
    | tuple xs => exact absurd rfl (h5 xs)
    | imap b clk born kd ks vs => exact absurd rfl (h6 b clk born kd ks vs)
    | ptr id g i off => obtain ⟨e1, e2, e3⟩ := hget id hb; simp only [Rep, e1, e2, e3] at h ⊢; exact h
    | sl id g off len => obtain ⟨e1, e2, e3⟩ := hget id hb; simp only [Rep, e1, e2, e3] at h ⊢; exact h
    | map id => obtain ⟨e1, e2, e3⟩ := hget id hb; simp only [Rep, e1, e2, e3] at h ⊢; exact h
    | it id => obtain ⟨e1, e2, e3⟩ := hget id hb; simp only [Rep, e1, e2, e3] at h ⊢; exact h
    | _ => exact h
  · intro fs ih v h hb
    simp only [Rep] at h ⊢
    obtain ⟨vs, h1, h2⟩ := h
    exact ⟨vs, ih vs h1 hb, h2⟩
  · intro sz xs ih v h hb
    simp only [Rep] at h ⊢
    obtain ⟨a, cap, h0, h1, h2, h3⟩ := h
    refine ⟨a, cap, h0, h1, h2, ?_⟩
    rcases h3 with h3 | ⟨b, o, vs, h3, h4, h5, h6, h7⟩
    · exact .inl h3
    · exact .inr ⟨b, o, vs, h3, ih vs h4 hb, h5, h6, imm_keep hk h7⟩
  · intro x ih v h hb
    simp only [Rep] at h ⊢
    obtain ⟨b, o, u, h0, h1, h2, h3, h4⟩ := h
    exact ⟨b, o, u, h0, ih u h1 hb, h2, h3, imm_keep hk h4⟩
  · intro f xs ys ih1 ih2 v h hb
    simp only [SV.under, Bool.and_eq_true] at hb
    simp only [Rep] at h ⊢
    obtain ⟨us, vs, h0, h1, h2⟩ := h
    exact ⟨us, vs, ih1 us h0 hb.1, ih2 vs h1 hb.2, h2⟩
  · intro xs ih v h hb
    simp only [Rep] at h ⊢
    obtain ⟨vs, h0, h1⟩ := h
    exact ⟨vs, ih vs h0 hb, h1⟩
  · intro b clk born kd ks vs ih1 ih2 v h hb
    simp only [SV.under, Bool.and_eq_true] at hb
    simp only [Rep] at h ⊢
    obtain ⟨h0, h1, ents, h2, h3, h4, h5, h6, h7⟩ := h
    exact ⟨h0, imm_keep hk h1, ents, h2, h3, h4, ih1 _ h5 hb.1, ih2 _ h6 hb.2, h7⟩
  · intro vs h _; simpa [RepL] using h
  · intro x xs ih1 ih2 vs h hb
    simp only [SV.underL, Bool.and_eq_true] at hb
    obtain ⟨u, us, h1, h2, h3⟩ := RepL.cons_iff.1 h
    exact RepL.cons_iff.2 ⟨u, us, ih1 u h1 hb.1, ih2 us h2 hb.2, h3⟩
theorem Frz.rep {θ : Nat → Option (Nat × Nat)} {w : World} (hc : HeapOK ⟨θ, H ++ X, w⟩) (hk : KeepOK H X KB ks) : (∀ {x y : SV}, Frz (H ++ X) H.length ks x y → ∀ v, Rep ⟨θ, H ++ X, w⟩ x v → Rep ⟨thK θ (H ++ X) H.length ks, H ++ KB, w⟩ y v) ∧
    (∀ {xs ys : List SV}, FrzL (H ++ X) H.length ks xs ys → ∀ vs, RepL ⟨θ, H ++ X, w⟩ xs vs → RepL ⟨thK θ (H ++ X) H.length ks, H ++ KB, w⟩ ys vs) := by
  have main : ∀ {x y : SV}, Frz (H ++ X) H.length ks x y → ∀ v, Rep ⟨θ, H ++ X, w⟩ x v → Rep ⟨thK θ (H ++ X) H.length ks, H ++ KB, w⟩ y v := by
    intro x y h
    refine Frz.rec (motive_1 := fun x y _ => ∀ v, Rep ⟨θ, H ++ X, w⟩ x v → Rep ⟨thK θ (H ++ X) H.length ks, H ++ KB, w⟩ y v) (motive_2 := fun xs ys _ => ∀ vs, RepL ⟨θ, H ++ X, w⟩ xs vs → RepL ⟨thK θ (H ++ X) H.length ks, H ++ KB, w⟩ ys vs) ?_ ?_ ?_ ?_ ?_ ?_ ?_ ?_ ?_ ?_ ?_ ?_ ?_ h
    · intro x hx v hv; exact (Rep.keep_both hk).1 _ _ hv hx
    · intro id g off len sz vals ys hb hn hno hf ih v hv
      simp only [Rep, hb] at hv
      obtain ⟨_, hv⟩ := hv
      rcases hv with hv | ⟨_, h1, a, cap, rfl, h2, h3, h4⟩
      · exact absurd hv (Nat.lt_irrefl _)
      · have hbk := hc.blk id _ hb
        rcases hbk with ⟨_, rfl⟩ | ⟨b, o, cs, T', fr, vs, k1, k2, k3, k4, k5, k6⟩
        · have : ys = [] := by
            simp at hf
            cases hf
            rfl
          subst this
          have hlen : len = 0 := by simp at h1; omega
          subst hlen
          simp only [Rep]
          exact ⟨a, cap, rfl, Nat.zero_le _, h3, by simp⟩
        · have hr := ih _ ((k4.drop off).take len)
          have hl : ys.length = len := by
            rw [← hr.length, List.length_take, List.length_drop, k4.length]; omega
          simp only [Rep]
          refine ⟨a, cap, by rw [hl], by omega, h3, ?_⟩
          rcases h4 with h4 | ⟨b', o', cs', T2, fr2, e1, e2, e3, e4⟩
          · left
            have : len = 0 := by omega
            rw [← List.length_eq_zero_iff]; omega
          · have : (b', o') = (b, o) := by have := e1.symm.trans k1; simpa using this
            cases this
            right
            refine ⟨b, o + off * sz, _, e2, hr, fun u hu => k5 u (List.mem_of_mem_drop (List.mem_of_mem_take hu)), ?_, imm_lost hc hk hb hn hno k1⟩
            exact rangeAt_take (rangeAt_drop k6 (fun u hu => (k5 u hu).1) off (by rw [k4.length]; omega)) len
    · intro i id d g off len sz vals hi hb hd v hv
      simp only [Rep, hb] at hv
      obtain ⟨h0, hv⟩ := hv
      rcases hv with hv | ⟨_, h1, a, cap, rfl, h2, h3, h4⟩
      · exact absurd hv (Nat.lt_irrefl _)
      · obtain ⟨hn, hg | hg⟩ := hk.kb.get hi
        · obtain ⟨g', sz', vals', ys, e1, e2, e3, e4⟩ := hg
          rw [hb] at e1
          cases e1
          have hB : (H ++ KB)[H.length + i]? = some (.cells 0 sz ys) := by rw [List.getElem?_append_right (by omega), Nat.add_sub_cancel_left]; exact e4
          simp only [Rep, hB]
          have hyl := e3.length
          rw [List.length_drop] at hyl
          obtain ⟨k, rfl⟩ : ∃ k, off = d + k := ⟨off - d, by omega⟩
          rw [Nat.add_sub_cancel_left]
          refine ⟨h0, .inr ⟨trivial, by omega, a, cap, rfl, h2, h3, ?_⟩⟩
          rcases h4 with h4 | ⟨b', o', cs', T2, fr2, q1, q2, q3, q4⟩
          · exact .inl ⟨h4.1, h4.2.elim (fun h => .inl h) (fun h => .inr (by omega))⟩
          · refine .inr ⟨b', o' + d * sz, cs', T2, fr2, ?_, ?_, q3, ?_⟩
            · rw [thK_ge hi, q1, hb]; rfl
            · rw [q2, Nat.add_mul, Nat.add_assoc]
            · rw [← q4, Nat.add_assoc d k cap, Nat.add_mul d]; omega
        · obtain ⟨kd, es, fs, _, e1, _⟩ := hg
          rw [hb] at e1; cases e1
    · intro i id d g j o sz vals hi hb hd v hv
      simp only [Rep, hb] at hv
      obtain ⟨h0, hv⟩ := hv
      rcases hv with hv | ⟨_, h1, b, oo, h2, h3⟩
      · exact absurd hv (Nat.lt_irrefl _)
      · obtain ⟨hn, hg | hg⟩ := hk.kb.get hi
        · obtain ⟨g', sz', vals', ys, e1, e2, e3, e4⟩ := hg
          rw [hb] at e1
          cases e1
          have hB : (H ++ KB)[H.length + i]? = some (.cells 0 sz ys) := by rw [List.getElem?_append_right (by omega), Nat.add_sub_cancel_left]; exact e4
          simp only [Rep, hB]
          have hyl := e3.length
          rw [List.length_drop] at hyl
          refine ⟨h0, .inr ⟨trivial, by omega, b, oo + d * sz, ?_, ?_⟩⟩
          · rw [thK_ge hi, h2, hb]; rfl
          · rw [h3, show oo + j * sz + o = oo + d * sz + (j - d) * sz + o from by
              have : j = d + (j - d) := by omega
              conv => lhs; rw [this, Nat.add_mul]
              omega]
        · obtain ⟨kd, es, fs, _, e1, _⟩ := hg
          rw [hb] at e1; cases e1
    · intro i id d kd es hi hb v hv
      simp only [Rep, hb] at hv
      obtain ⟨h0, b, h1, h2⟩ := hv
      obtain ⟨hn, hg | hg⟩ := hk.kb.get hi
      · obtain ⟨g', sz', vals', ys, e1, _⟩ := hg
        rw [hb] at e1; cases e1
      · obtain ⟨kd', es', fs, hd0, e1, e2, e4⟩ := hg
        rw [hb] at e1
        cases e1
        have hB : (H ++ KB)[H.length + i]? = some (.map kd fs) := by rw [List.getElem?_append_right (by omega), Nat.add_sub_cancel_left]; exact e4
        simp only [Rep, hB]
        exact ⟨h0, b, by rw [thK_ge hi, h1, hd0, Nat.zero_mul]; rfl, h2⟩
    · intro sz v hv
      simp only [Rep] at hv ⊢
      exact ⟨none, 0, by rw [hv]; rfl, Nat.le_refl _, Nat.zero_le _, by simp⟩
    · intro xs ys hf ih v hv
      simp only [Rep] at hv ⊢
      obtain ⟨vs, h1, h2, h3⟩ := hv
      exact ⟨vs, ih vs h1, h2, h3⟩
    · intro xs ys hf ih v hv
      simp only [Rep] at hv ⊢
      obtain ⟨vs, h1, h3⟩ := hv
      exact ⟨vs, ih vs h1, h3⟩
    · intro sz xs ys hf ih v hv
      simp only [Rep] at hv ⊢
      obtain ⟨a, cap, rfl, h1, h2, h3⟩ := hv
      have hlen := hf.length
      refine ⟨a, cap, by rw [hlen], by omega, h2, ?_⟩
      rcases h3 with rfl | ⟨b, o, vs, e1, e2, e3, e4, e5⟩
      · left; exact List.length_eq_zero_iff.1 (by simpa using hlen)
      · exact .inr ⟨b, o, vs, e1, ih vs e2, e3, e4, imm_keep hk e5⟩
    · intro id g j sz vals x y hb hn hno hx hf ih v hv
      simp only [Rep, hb] at hv
      obtain ⟨_, hv⟩ := hv
      rcases hv with hv | ⟨_, h1, b, o, h2, h3⟩
      · exact absurd hv (Nat.lt_irrefl _)
      · have hbk := hc.blk id _ hb
        rcases hbk with ⟨hno', _⟩ | ⟨b', o', cs, T', fr, vs, k1, k2, k3, k4, k5, k6⟩
        · have hno' : θ id = none := hno'
          rw [hno'] at h2; cases h2
        · have : (b', o') = (b, o) := by have := k1.symm.trans h2; simpa using this
          cases this
          obtain ⟨u, g1, g2⟩ := k4.get hx
          simp only [Rep]
          refine ⟨b, o + j * sz, u, by rw [h3]; rfl, ih u g2, (k5 u (List.mem_of_getElem? g1)).2, ?_, imm_lost hc hk hb hn hno k1⟩
          exact rangeAt_elem k6 (fun u hu => (k5 u hu).1) g1
    · intro f xs ys us vs hx hy ih1 ih2 v hv
      simp only [Rep] at hv ⊢
      obtain ⟨asv, bs, h1, h2, h3⟩ := hv
      exact ⟨asv, bs, ih1 asv h1, ih2 bs h2, h3⟩
    · intro vs hv; exact hv
    · intro x y xs ys hx hxs ih1 ih2 vs hv
      obtain ⟨u, us, h1, h2, rfl⟩ := RepL.cons_iff.1 hv
      exact RepL.mk_cons (ih1 u h1) (ih2 us h2)
  refine ⟨main, fun {xs} => ?_⟩
  induction xs with
  | nil => intro ys h vs hv; cases h; exact hv
  | cons x xs ih =>
    intro ys h vs hv
    cases h
    rename_i y ys h1 h2
    obtain ⟨u, us, e1, e2, rfl⟩ := RepL.cons_iff.1 hv
    exact RepL.mk_cons (main h1 u e1) (ih h2 us e2)
theorem FrzE.rep {θ : Nat → Option (Nat × Nat)} {w : World} (hc : HeapOK ⟨θ, H ++ X, w⟩) (hk : KeepOK H X KB ks) : ∀ {es fs : List (SV × SV)}, FrzE (H ++ X) H.length ks es fs → ∀ l, RepE ⟨θ, H ++ X, w⟩ es l → RepE ⟨thK θ (H ++ X) H.length ks, H ++ KB, w⟩ fs l
  | [], fs, h, l, hr => by cases h; exact hr
  | (k, x) :: es, fs, h, l, hr => by
    cases h
    rename_i y ys h1 h2 h3
    simp only [RepE] at hr ⊢
    obtain ⟨e, es', a1, a2, a3, a4⟩ := hr
    exact ⟨e, es', (Rep.keep_both hk).1 _ _ a1 h1, (Frz.rep hc hk).1 h2 _ a2, FrzE.rep hc hk h3 _ a3, a4⟩
theorem Cx.keep {θ : Nat → Option (Nat × Nat)} {w : World} (hc : HeapOK ⟨θ, H ++ X, w⟩) (hk : KeepOK H X KB ks) (hcl : closed H) : HeapOK ⟨thK θ (H ++ X) H.length ks, H ++ KB, w⟩ ∧ ∀ C : Cx, C.H.length ≤ H.length → Grow C ⟨θ, H ++ X, w⟩ → Grow C ⟨thK θ (H ++ X) H.length ks, H ++ KB, w⟩ := by
  refine ⟨⟨fun id B hB => ?_, fun i j b o o' hi hj h1 h2 => ?_⟩, fun C hC hg => ⟨hg.os, hg.tape, hg.output, hg.size, fun b hb ho => hg.old b hb ho, hg.shape, fun id B hB => ?_, fun id b o hn hl ht => ?_⟩⟩
  · have hB : (H ++ KB)[id]? = some B := hB
    by_cases hlt : id < H.length
    · have hB' : (H ++ X)[id]? = some B := by rw [List.getElem?_append_left hlt] at hB ⊢; exact hB
      have hBH : H[id]? = some B := by rw [List.getElem?_append_left hlt] at hB; exact hB
      have hb := hc.blk id B hB'
      have hbel := hcl B (List.mem_of_getElem? hBH)
      cases B with
      | dead => trivial
      | obj o => obtain ⟨b, h1, h2⟩ := hb; exact ⟨b, (thK_lt hlt).trans h1, h2⟩
      | cells g sz vals =>
        rcases hb with ⟨h1, h2⟩ | ⟨b, o, cs, T, fr, vs, h1, h2, h3, h4, h5, h6⟩
        · exact .inl ⟨(thK_lt hlt).trans h1, h2⟩
        · exact .inr ⟨b, o, cs, T, fr, vs, (thK_lt hlt).trans h1, h2, h3, (Rep.keep_both hk).2 _ _ h4 hbel, h5, h6⟩
      | map kd es =>
        obtain ⟨b, ents, clk, h1, h2, h3, h4⟩ := hb
        have hE : ∀ {es : List (SV × SV)} {l : List MapEntry}, RepE ⟨θ, H ++ X, w⟩ es l → belowE H.length es = true → RepE ⟨thK θ (H ++ X) H.length ks, H ++ KB, w⟩ es l := by
          intro es
          induction es with
          | nil => intro l h _; exact h
          | cons p es ih =>
            intro l h hb
            obtain ⟨q, x⟩ := p
            simp only [RepE] at h ⊢
            simp only [belowE, Bool.and_eq_true] at hb
            obtain ⟨e, es', a1, a2, a3, a4⟩ := h
            exact ⟨e, es', (Rep.keep_both hk).1 _ _ a1 hb.1.1, (Rep.keep_both hk).1 _ _ a2 hb.1.2, ih a3 hb.2, a4⟩
        exact ⟨b, ents, clk, (thK_lt hlt).trans h1, h2, hE h3 hbel, h4⟩
    · obtain ⟨i, rfl⟩ : ∃ i, id = H.length + i := ⟨id - H.length, by omega⟩
      rw [List.getElem?_append_right (by omega), Nat.add_sub_cancel_left] at hB
      have hi : i < ks.length := by rw [← hk.kb.length]; exact (List.getElem?_eq_some_iff.1 hB).1
      obtain ⟨⟨id', d⟩, hid⟩ : ∃ p, ks[i]? = some p := ⟨ks[i], List.getElem?_eq_getElem hi⟩
      obtain ⟨hn, hg | hg⟩ := hk.kb.get hid
      · obtain ⟨g, sz, vals, ys, e1, e2, e3, e4⟩ := hg
        rw [e4] at hB
        cases hB
        rcases hc.blk id' _ e1 with ⟨h1, rfl⟩ | ⟨b, o, cs, T, fr, vs, h1, h2, h3, h4, h5, h6⟩
        · left
          refine ⟨by show thK _ _ _ _ _ = none; rw [thK_ge hid, show θ id' = none from h1]; rfl, ?_⟩
          have := e3.length
          simp at this
          exact this
        · right
          refine ⟨b, o + d * sz, cs, T, fr, vs.drop d, ?_, h2, h3, (Frz.rep hc hk).2 e3 _ (h4.drop d), fun u hu => h5 u (List.mem_of_mem_drop hu), ?_⟩
          · show thK _ _ _ _ _ = _
            rw [thK_ge hid, show θ id' = some (b, o) from h1, e1]; rfl
          · exact rangeAt_drop h6 (fun u hu => (h5 u hu).1) d (by rw [h4.length]; exact e2)
      · obtain ⟨kd, es, fs, rfl, e1, e2, e4⟩ := hg
        rw [e4] at hB
        cases hB
        obtain ⟨b, ents, clk, h1, h2, h3, h4, h5⟩ := hc.blk id' _ e1
        refine ⟨b, ents, clk, ?_, h2, FrzE.rep hc hk e2 _ h3, e2.keys h4, h5⟩
        show thK _ _ _ _ _ = _
        rw [thK_ge hid, show θ id' = some (b, 0) from h1, Nat.zero_mul]; rfl
  · -- no two are one
    have src : ∀ (i b o : Nat), Cx.live ⟨thK θ (H ++ X) H.length ks, H ++ KB, w⟩ i → thK θ (H ++ X) H.length ks i = some (b, o) → ∃ id o', Cx.live ⟨θ, H ++ X, w⟩ id ∧ θ id = some (b, o') ∧ ((i < H.length ∧ id = i) ∨ (H.length ≤ i ∧ H.length ≤ id ∧ ∃ d, ks[i - H.length]? = some (id, d))) := by
      intro i b o ⟨B, hB, hl⟩ ht
      have hB : (H ++ KB)[i]? = some B := hB
      by_cases hlt : i < H.length
      · rw [thK_lt hlt] at ht
        refine ⟨i, o, ⟨B, ?_, hl⟩, ht, .inl ⟨hlt, rfl⟩⟩
        show (H ++ X)[i]? = some B
        rw [List.getElem?_append_left hlt] at hB ⊢; exact hB
      · obtain ⟨i, rfl⟩ : ∃ k, i = H.length + k := ⟨i - H.length, by omega⟩
        rw [List.getElem?_append_right (by omega), Nat.add_sub_cancel_left] at hB
        have hi : i < ks.length := by rw [← hk.kb.length]; exact (List.getElem?_eq_some_iff.1 hB).1
        obtain ⟨⟨id', d⟩, hid⟩ : ∃ p, ks[i]? = some p := ⟨ks[i], List.getElem?_eq_getElem hi⟩
        rw [thK_ge hid] at ht
        cases hth : θ id' with
        | none => rw [hth] at ht; cases ht
        | some p =>
          rw [hth] at ht
          obtain ⟨b', o'⟩ := p
          simp at ht
          obtain ⟨rfl, _⟩ := ht
          obtain ⟨hn, hg⟩ := hk.kb.get hid
          refine ⟨id', o', ?_, hth, .inr ⟨by omega, hn, d, by rw [Nat.add_sub_cancel_left]; exact hid⟩⟩
          rcases hg with ⟨g, sz, vals, ys, h1, _⟩ | ⟨kd, es, fs, _, h1, _⟩
          · exact ⟨_, h1, rfl⟩
          · exact ⟨_, h1, rfl⟩
    obtain ⟨id1, o1, l1, t1, c1⟩ := src i b o hi h1
    obtain ⟨id2, o2, l2, t2, c2⟩ := src j b o' hj h2
    have := hc.inj id1 id2 b o1 o2 l1 l2 t1 t2
    subst this
    rcases c1 with ⟨c1, e1⟩ | ⟨c1, e1, d1, f1⟩ <;> rcases c2 with ⟨c2, e2⟩ | ⟨c2, e2, d2, f2⟩
    · omega
    · omega
    · omega
    · have := hk.inj f1 f2
      omega
  · obtain ⟨B', h1, h2⟩ := hg.ids id B hB
    have hlt : id < H.length := Nat.lt_of_lt_of_le (List.getElem?_eq_some_iff.1 hB).1 hC
    have h1' : (H ++ X)[id]? = some B' := h1
    refine ⟨B', ?_, ?_⟩
    · show (H ++ KB)[id]? = some B'
      rw [List.getElem?_append_left hlt] at h1' ⊢; exact h1'
    · show Later _ _ (thK _ _ _ _ _) _ _
      rw [thK_lt hlt]; exact h2
  · obtain ⟨id', o', h1, h2, h3⟩ := own_keep hk (⟨id, o, hl, ht⟩ : Cx.own ⟨thK θ (H ++ X) H.length ks, H ++ KB, w⟩ b)
    have hid : C.H[id']? = none := by
      rcases h3 with h3 | ⟨p, hp, h3⟩
      · -- below: then it is id itself
        obtain ⟨B, hB, hlv⟩ := hl
        by_cases hlt : id < H.length
        · have ht' : θ id = some (b, o) := by rw [← thK_lt (θ := θ) (ks := ks) (Hall := H ++ X) hlt]; exact ht
          have hB' : (H ++ X)[id]? = some B := by
            have hB0 : (H ++ KB)[id]? = some B := hB
            rw [List.getElem?_append_left hlt] at hB0 ⊢; exact hB0
          have := hc.inj id id' b o o' ⟨B, hB', hlv⟩ h1 ht' h2
          rw [← this]; exact hn
        · -- id is a kept one, whose block is that of id'
          obtain ⟨i, rfl⟩ : ∃ i, id = H.length + i := ⟨id - H.length, by omega⟩
          have hB0 : (H ++ KB)[H.length + i]? = some B := hB
          rw [List.getElem?_append_right (by omega), Nat.add_sub_cancel_left] at hB0
          have hi : i < ks.length := by rw [← hk.kb.length]; exact (List.getElem?_eq_some_iff.1 hB0).1
          obtain ⟨⟨id2, d⟩, hid⟩ : ∃ p, ks[i]? = some p := ⟨ks[i], List.getElem?_eq_getElem hi⟩
          have ht' : thK θ (H ++ X) H.length ks (H.length + i) = some (b, o) := ht
          rw [thK_ge hid] at ht'
          cases hth : θ id2 with
          | none => rw [hth] at ht'; cases ht'
          | some p =>
            rw [hth] at ht'
            obtain ⟨b', o2⟩ := p
            simp at ht'
            obtain ⟨rfl, _⟩ := ht'
            obtain ⟨hn2, hg2⟩ := hk.kb.get hid
            have hl2 : Cx.live ⟨θ, H ++ X, w⟩ id2 := by
              rcases hg2 with ⟨g, sz, vals, ys, q1, _⟩ | ⟨kd, es, fs, _, q1, _⟩
              · exact ⟨_, q1, rfl⟩
              · exact ⟨_, q1, rfl⟩
            have := hc.inj id2 id' b' o2 o' hl2 h1 hth h2
            omega
      · obtain ⟨i, hi⟩ := List.getElem?_of_mem hp
        obtain ⟨q, d⟩ := p
        simp only at h3
        subst h3
        have := (hk.kb.get hi).1
        exact List.getElem?_eq_none (by omega)
    exact hg.new id' b o' hid h1 h2
def subEnvF (H : List Blk) (n : Nat) (ks : Keep) : Env → Env → Prop
  | [], _ => True
  | (t, y) :: r, env => (∃ x, look env t = some x ∧ Frz H n ks x y) ∧ subEnvF H n ks r env
theorem subEnvF.look {H : List Blk} {n : Nat} : ∀ {env2 env : Env}, subEnvF H n ks env2 env → ∀ t y, look env2 t = some y → ∃ x, Go.Proofs.YtehfihnfeakmaaaGreatDoor.look env t = some x ∧ Frz H n ks x y
  | [], _, _, t, y, h => by cases h
  | (t', y') :: r, env, hs, t, y, h => by
    simp only [Go.Proofs.YtehfihnfeakmaaaGreatDoor.look] at h
    split at h
    · rename_i e; cases h; subst e; exact hs.1
    · exact hs.2.look t y h
theorem imm_defs {θ : Nat → Option (Nat × Nat)} {w : World} {a : Act} {B0 : Nat} (hk : KeepOK H X KB ks) (hd : DefOK B0 ⟨θ, H ++ X, w⟩ a.defers) : DefOK B0 ⟨thK θ (H ++ X) H.length ks, H ++ KB, w⟩ a.defers := by
  refine ⟨fun d hdd => ?_, hd.2⟩
  obtain ⟨r, q1, q2, q3, q4⟩ := hd.1 d hdd
  exact ⟨r, q1, q2, imm_keep hk q3, q4⟩
theorem Wk.keep (ks : Keep) (KB : List Blk) (hG : GClosed G) (hB : Based G H.length) (hC : C.H.length ≤ H.length) (hcl : closed H) (hk : KeepOK H X KB ks) (he : subEnvF (H ++ X) H.length ks env2 env) : Wk G nt C ⟨env, H ++ X⟩ ⟨env2, H ++ KB⟩ := by
  rintro ⟨θ, Hc, w⟩ a hc hi hg
  simp only at hc
  subst hc
  obtain ⟨h1, h2⟩ := Cx.keep hi.heap hk hcl
  refine ⟨⟨thK θ (H ++ X) H.length ks, H ++ KB, w⟩, rfl, rfl, ⟨h1, ⟨fun p hp => (Rep.keep_both hk).1 _ _ (hi.glob.1 p hp) ((SV.below_mono_both (Nat.zero_le _)).1 _ (hG p hp)), fun C0 h0 => h2 C0 (hB C0 h0) (hi.glob.2 C0 h0)⟩, hi.size, fun t x hx => ?_, imm_defs hk hi.defs⟩, h2 C hC hg⟩
  obtain ⟨y, e1, e2⟩ := he.look t x hx
  exact (Frz.rep hi.heap hk).1 e2 _ (hi.env t y e1)
theorem KeepOK.nil : KeepOK H X [] [] := ⟨.nil, List.nodup_nil⟩
theorem Wk.tell (hG : GClosed G) (hB : Based G H.length) (hC : C.H.length ≤ H.length) (hcl : closed H) (he : subEnvF (H ++ X) H.length [] env2 env) : Wk G nt C ⟨env, H ++ X⟩ ⟨env2, H⟩ := by
  have := Wk.keep (nt := nt) [] [] hG hB hC hcl (KeepOK.nil (H := H) (X := X)) he
  rwa [List.append_nil] at this
theorem Fin.keep {R0 : SV → List Blk → Prop} {H0 : List Blk} (ks : Keep) (KB : List Blk) (hR : Back (∀ y H', R0 y H' → R y H')) (hC : C.H = H0) (hl : H0.length = H.length) (hcl : closed H) (hk : KeepOK H X KB ks) {x y : SV} (hx : Frz (H ++ X) H.length ks x y) (h : R0 y (H ++ KB)) : Fin C (H ++ X) x R := by
  rintro ⟨θ, Hc, w⟩ v h1 h2 h3 h4
  simp only at h1
  subst h1
  obtain ⟨k1, k2⟩ := Cx.keep h2 hk hcl
  exact ⟨⟨thK θ (H ++ X) H.length ks, H ++ KB, w⟩, y, rfl, hR _ _ h, k1, (Frz.rep h2 hk).1 hx _ h3, k2 C (by rw [hC, hl]; exact Nat.le_refl _) h4⟩
theorem Fin.tell {R0 : SV → List Blk → Prop} {H0 : List Blk} (hR : Back (∀ y H', R0 y H' → R y H')) (hC : C.H = H0) (hl : H0.length = H.length) (hcl : closed H) {x y : SV} (hx : Frz (H ++ X) H.length [] x y) (h : R0 y H) : Fin C (H ++ X) x R :=
  Fin.keep [] [] hR hC hl hcl KeepOK.nil hx (by rw [List.append_nil]; exact h)
end
end Go.Proofs.YtehfihnfeakmaaaGreatDoor
namespace Go.Proofs.YtehfihnfeakmaaaGreatDoor
open Go
section
variable {P : Program} {G : Gl} {T : Tab} {own : List Nat} {nt B : Nat} {ρ : Option Nat} {C : Cx} {rs : List ResultVar} {R : SV → List Blk → Prop} {env env2 : Env} {H X KB : List Blk} {ks : Keep}
theorem Wk.keepN (ks : Keep) {n0 : Nat} (hG : GClosed G) (hB : Based G C.H.length) (hn : H.length = n0) (hC : C.H.length = n0) (hcl : closed H) (hk : KeepB (H ++ X) n0 ks ks KB) (hd : (ks.map (·.1)).Nodup) (he : subEnvF (H ++ X) n0 ks env2 env) : Wk G nt C ⟨env, H ++ X⟩ ⟨env2, H ++ KB⟩ := by
  subst hn
  exact Wk.keep ks KB hG (hC ▸ hB) (by rw [hC]; exact Nat.le_refl _) hcl ⟨hk, hd⟩ he
theorem Fin.keepN {R0 : SV → List Blk → Prop} (ks : Keep) {n0 : Nat} (hR : Back (∀ y H', R0 y H' → R y H')) (hn : H.length = n0) (hC : C.H.length = n0) (hcl : closed H) {x y : SV} (hk : KeepB (H ++ X) n0 ks ks KB) (hd : (ks.map (·.1)).Nodup) (hx : Frz (H ++ X) n0 ks x y) (h : R0 y (H ++ KB)) : Fin C (H ++ X) x R := by
  subst hn
  rintro ⟨θ, Hc, w⟩ v h1 h2 h3 h4
  simp only at h1
  subst h1
  obtain ⟨k1, k2⟩ := Cx.keep h2 ⟨hk, hd⟩ hcl
  exact ⟨⟨thK θ (H ++ X) H.length ks, H ++ KB, w⟩, y, rfl, hR _ _ h, k1, (Frz.rep h2 ⟨hk, hd⟩).1 hx _ h3, k2 C (by rw [hC]; exact Nat.le_refl _) h4⟩
theorem Fin.tellN {R0 : SV → List Blk → Prop} {n0 : Nat} (hR : Back (∀ y H', R0 y H' → R y H')) (hn : H.length = n0) (hC : C.H.length = n0) (hcl : closed H) {x y : SV} (hx : Frz (H ++ X) n0 [] x y) (h : R0 y H) : Fin C (H ++ X) x R :=
  Fin.keepN (KB := []) [] hR hn hC hcl .nil (by simp) hx (by rw [List.append_nil]; exact h)
end
end Go.Proofs.YtehfihnfeakmaaaGreatDoor
namespace Go.Proofs.YtehfihnfeakmaaaGreatDoor
open Go
section
variable {H : List Blk} {n : Nat} {kk : Keep}
theorem Frz.kp (i : Nat) {id d g j o sz id' j' : Nat} {vals : List SV} (hi : kk[i]? = some (id, d)) (hb : H[id]? = some (.cells g sz vals)) (hd : d ≤ j) (h1 : n + i = id') (h2 : j - d = j') : Frz H n kk (.ptr id g j o) (.ptr id' 0 j' o) := by
  subst h1; subst h2; exact .keepPtr _ _ _ _ _ _ _ _ hi hb hd
theorem Frz.int {k : IntKind} {a b : Int} (h : a = b) : Frz H n kk (.int k a) (.int k b) := h ▸ .same _ rfl
theorem Frz.ks (i : Nat) {id d g off len sz id' off' len' : Nat} {vals : List SV} (hi : kk[i]? = some (id, d)) (hb : H[id]? = some (.cells g sz vals)) (hd : d ≤ off) (h1 : n + i = id') (h2 : off - d = off') (h3 : len = len') : Frz H n kk (.sl id g off len) (.sl id' 0 off' len') := by
  subst h1; subst h2; subst h3; exact .keepSl _ _ _ _ _ _ _ _ hi hb hd
theorem Frz.km (i : Nat) {id d id' : Nat} {kd : Option IntKind} {es : List (SV × SV)} (hi : kk[i]? = some (id, d)) (hb : H[id]? = some (.map kd es)) (h1 : n + i = id') : Frz H n kk (.map id) (.map id') := by
  subst h1; exact .keepMap _ _ _ _ _ hi hb
theorem Frz.sf {id g off len sz : Nat} {vals ys : List SV} (hb : H[id]? = some (.cells g sz vals)) (hn : n ≤ id) (hk : ∀ p ∈ kk, p.1 ≠ id) (hy : (vals.drop off).take len = ys) (hu : SV.underL n ys = true) : Frz H n kk (.sl id g off len) (.list sz ys) := by
  subst hy; exact .sl _ _ _ _ _ _ _ hb hn hk (FrzL.same hu)
end
end Go.Proofs.YtehfihnfeakmaaaGreatDoor
namespace Go.Proofs.YtehfihnfeakmaaaGreatDoor
theorem get_oldS {H L : List Blk} {id : Nat} {x : Blk} (h : id < H.length) : (H.set id x ++ L)[id]? = some x := by
  rw [List.getElem?_append_left (by simpa using h), List.getElem?_set_self h]
theorem set_oldS {H L : List Blk} {id : Nat} {x y : Blk} (h : id < H.length) : (H.set id x ++ L).set id y = H.set id y ++ L := by
  rw [List.set_append, if_pos (by simpa using h), List.set_set]
end Go.Proofs.YtehfihnfeakmaaaGreatDoor
namespace Go.Proofs.YtehfihnfeakmaaaGreatDoor
open Go
theorem KeepB.c {H : List Blk} {n : Nat} {kk : Keep} {id d g sz : Nat} {vals ys : List SV} {r : Keep} {bs : List Blk} (hb : H[id]? = some (.cells g sz vals)) (hn : n ≤ id) (hd : d ≤ vals.length) (hv : FrzL H n kk (vals.drop d) ys) (t : KeepB H n kk r bs) : KeepB H n kk ((id, d) :: r) (.cells 0 sz ys :: bs) := .cells _ _ _ _ _ _ _ _ hb hn hd hv t
theorem KeepB.m {H : List Blk} {n : Nat} {kk : Keep} {id : Nat} {kd : Option IntKind} {es fs : List (SV × SV)} {r : Keep} {bs : List Blk} (hb : H[id]? = some (.map kd es)) (hn : n ≤ id) (hv : FrzE H n kk es fs) (t : KeepB H n kk r bs) : KeepB H n kk ((id, 0) :: r) (.map kd fs :: bs) := .map _ _ _ _ _ _ hb hn hv t
end Go.Proofs.YtehfihnfeakmaaaGreatDoor
namespace Go.Proofs.YtehfihnfeakmaaaGreatDoor
open Go
theorem SV.underL_append {n : Nat} : ∀ (xs ys : List SV), SV.underL n (xs ++ ys) = (SV.underL n xs && SV.underL n ys)
  | [], ys => by simp [SV.underL]
  | x :: xs, ys => by simp [SV.underL, SV.underL_append xs ys, Bool.and_assoc]
theorem SV.underL_map {α : Type} {n : Nat} {f : α → SV} : ∀ {l : List α}, (∀ a ∈ l, (f a).under n = true) → SV.underL n (l.map f) = true
  | [], _ => rfl
  | x :: xs, h => by
    have h1 := h x (List.mem_cons_self ..)
    have h2 := SV.underL_map (l := xs) (fun a ha => h a (List.mem_cons_of_mem _ ha))
    simp only [List.map, SV.underL, h1, h2, Bool.and_self]
theorem under_mstr {α : Type} {n : Nat} (f : α → Str) (l : List α) : SV.underL n (l.map fun a => .str (f a)) = true := SV.underL_map fun _ _ => rfl
theorem under_mint {α : Type} {n : Nat} {k : IntKind} (f : α → Int) (l : List α) : SV.underL n (l.map fun a => .int k (f a)) = true := SV.underL_map fun _ _ => rfl
theorem under_mbool {α : Type} {n : Nat} (f : α → Bool) (l : List α) : SV.underL n (l.map fun a => .bool (f a)) = true := SV.underL_map fun _ _ => rfl
end Go.Proofs.YtehfihnfeakmaaaGreatDoor
namespace Go.Proofs.YtehfihnfeakmaaaGreatDoor
section
variable {H L : List Blk} {id id2 : Nat} {x y z : Blk}
theorem get_app0S : (H.set id x ++ L)[H.length]? = L[0]? := by have := get_app0 (H.set id x) L; rwa [List.length_set] at this
theorem get_appS (k : Nat) : (H.set id x ++ L)[H.length + k]? = L[k]? := by have := get_app (H.set id x) L k; rwa [List.length_set] at this
theorem set_app0S : (H.set id x ++ L).set H.length z = H.set id x ++ L.set 0 z := by have := set_app0 (H.set id x) L z; rwa [List.length_set] at this
theorem set_appS (k : Nat) : (H.set id x ++ L).set (H.length + k) z = H.set id x ++ L.set k z := by have := set_app (H.set id x) L k z; rwa [List.length_set] at this
theorem get_app0SS : ((H.set id x).set id2 y ++ L)[H.length]? = L[0]? := by have := get_app0 ((H.set id x).set id2 y) L; rwa [List.length_set, List.length_set] at this
theorem get_appSS (k : Nat) : ((H.set id x).set id2 y ++ L)[H.length + k]? = L[k]? := by have := get_app ((H.set id x).set id2 y) L k; rwa [List.length_set, List.length_set] at this
theorem set_app0SS : ((H.set id x).set id2 y ++ L).set H.length z = (H.set id x).set id2 y ++ L.set 0 z := by have := set_app0 ((H.set id x).set id2 y) L z; rwa [List.length_set, List.length_set] at this
theorem set_appSS (k : Nat) : ((H.set id x).set id2 y ++ L).set (H.length + k) z = (H.set id x).set id2 y ++ L.set k z := by have := set_app ((H.set id x).set id2 y) L k z; rwa [List.length_set, List.length_set] at this
end
end Go.Proofs.YtehfihnfeakmaaaGreatDoor
end

section
/- Ranges over functions. -/
namespace Go.Proofs.YtehfihnfeakmaaaGreatDoor
open Go
def zipEnv : List Nat → List SV → Env → Env
  | t :: ts, x :: xs, env => zipEnv ts xs ((t, x) :: env)
  | _, _, env => env
section
variable {P : Program} {G : Gl} {T : Tab} {own : List Nat} {nt B : Nat} {ρ : Option Nat} {C c : Cx} {rs : List ResultVar} {R : SV → List Blk → Prop} {env env0 : Env} {H X : List Blk} {k : List It}
theorem zipEnv_ok : ∀ {ts : List Nat} {xs : List SV} {vs : List Value} {env : Env} {tm : Array Value}, RepL c xs vs → ts.length = xs.length → (∀ t ∈ ts, t < tm.size) → (∀ t x, look env t = some x → Rep c x (tm.getD t undef)) →
    ((ts.zip vs).foldl (fun tm (p : Nat × Value) => tm.setIfInBounds p.1 p.2) tm).size = tm.size ∧ ∀ t x, look (zipEnv ts xs env) t = some x → Rep c x (((ts.zip vs).foldl (fun tm (p : Nat × Value) => tm.setIfInBounds p.1 p.2) tm).getD t undef)
  | [], [], vs, env, tm, hv, _, _, he => by
    rw [RepL.nil_iff.1 hv]; exact ⟨rfl, he⟩
  | t :: ts, x :: xs, vs, env, tm, hv, hl, ht, he => by
    obtain ⟨u, us, h1, h2, rfl⟩ := RepL.cons_iff.1 hv
    have hts : t < tm.size := ht t (List.mem_cons_self ..)
    have := zipEnv_ok (ts := ts) (env := (t, x) :: env) (tm := tm.setIfInBounds t u) h2 (by simpa using hl) (fun t' h' => by simpa using ht t' (List.mem_cons_of_mem _ h')) (fun t' x' h' => by
      simp only [look] at h'
      rw [Array.getD_eq_getD_getElem?]
      split at h'
      · rename_i e; cases h'; subst e; simp [hts, h1]
      · rename_i e
        rw [Array.getElem?_setIfInBounds_ne (fun h => e h.symm), ← Array.getD_eq_getD_getElem?]
        exact he t' x' h')
    simpa [zipEnv] using this
  | [], _ :: _, _, _, _, _, h, _, _ => by cases h
  | _ :: _, [], _, _, _, _, h, _, _ => by cases h
theorem obj_at {c : Cx} (hc : HeapOK c) {id : Nat} {o : Obj} (h : c.H[id]? = some (.obj o)) : ∃ b, c.θ id = some (b, 0) ∧ c.w.heap[b]? = some o := by
  obtain ⟨b, h1, h2, _⟩ := hc.blk id _ h
  exact ⟨b, h1, h2⟩
theorem obj_turn {c : Cx} (hc : HeapOK c) {id b : Nat} {o o' : Obj} (h : c.H[id]? = some (.obj o)) (hb : c.θ id = some (b, 0)) (hlp : isLp o' = isLp o) (hnc : ∀ cs T fr, o ≠ .cells cs T fr) (hnd : ∀ ds, o' ≠ .deferred ds) :
    ∃ c', c'.H = c.H.set id (.obj o') ∧ c'.w = c.w.putObj b o' ∧ Grow c c' ∧ HeapOK c' := by
  obtain ⟨b', h1, h2⟩ := obj_at hc h
  rw [hb] at h1
  cases h1
  have hlt : b < c.w.heap.size := (Array.getElem?_eq_some_iff.1 h2).1
  obtain ⟨g1, g2⟩ := Cx.turn hc (w' := c.w.putObj b o') h rfl (c.θ id) (B' := .obj o') ⟨⟨o', rfl, hlp⟩, rfl⟩ (fun k hk hno => World.putObj_heap_other (fun e => hno 0 (e ▸ hb))) (by simp) rfl rfl rfl
    (fun b2 cs T fr hcs => ⟨cs, fr, by rw [World.putObj_heap_other (fun e => by rw [e, h2] at hcs; cases hcs; exact hnc _ _ _ rfl)]; exact hcs, rfl⟩)
    (fun hg => ⟨b, by simp [hb], World.putObj_heap_same hlt, hnd⟩)
  exact ⟨_, rfl, rfl, g1, g2⟩
def fal : SV → List Blk → Prop := fun _ _ => False
theorem out_nil {nt : Nat} {ρ : Option Nat} {e : Exit} {env : Env} {H : List Blk} {a : Act} {c : Cx} (h : Out P G T own nt ρ C [] fal [] e env H) (hc : c.H = H) (hh : HeapOK c) (hg : Grow C c) : False := by
  have key : RetG C T [] fal env H → False := fun ⟨xs, h1, h2⟩ => by
    simp only [resL, Option.some.injEq] at h1
    subst h1
    obtain ⟨c', y, _, h3, _⟩ := h2 c (.tuple #[]) hc hh (by simp only [resSV, Rep]; exact ⟨[], RepL.mk_nil, by simp⟩) hg
    exact h3
  cases e with
  | normal => exact key h
  | ret => exact key h
  | _ => exact h
theorem go_rangeFunc (hT : TabOK P T) {g : Operand} {ps : Array Tmp} {asn bd : Code} {gf : FuncId} {fst cap : List SV} {σ ξ : Type} (M : σ → List Blk) (n1 : Nat) (hM : ∀ s, (M s).length = n1) (s0 : σ) (env0 : Env)
    (args : ξ → List SV) (Pre : σ → ξ → Prop) (next : σ → ξ → σ) (Done : σ → Prop) (E1 : ξ → Env)
    (hf : ev G env0 g = some (.fn (.func gf) fst cap)) (hps : ps.toList.all (fun t => Nat.blt t nt) = true) (hargs : ∀ x, (args x).length = ps.size) (hE : ∀ x, zipEnv ps.toList (args x) env0 = E1 x)
    (hw : Wk G nt C ⟨env, H⟩ ⟨env0, M s0⟩)
    (hit : ∀ (G' : Gl) (LO : Blk), G'.l = G.l → LO.under (n1 + 1) = true → (∀ s x X, Pre s x → ACallV P G' (.it n1) (args x) (M s ++ LO :: X) (fun r H' => H' = M (next s x) ++ LO :: X ∧ r = .bool true)) →
      ACall P G' gf (fst ++ [.it n1] ++ cap) (M s0 ++ [LO]) (fun r H' => ∃ s, Done s ∧ H' = M s ++ [LO]))
    (hbody : ∀ (G' : Gl) (C' : Cx) (ρ' : Option Nat) (s : σ) (x : ξ) (X : List Blk) (LO LB : Blk) (K1 K : Env → List Blk → Prop), G'.l = G.l → Based G' C'.H.length → C'.H = M s ++ LO :: X → closed (M s ++ LO :: X) → LO.under 0 = true → LB.under 0 = true → Pre s x →
      Back (∀ env' H', H'[n1]? = some LO → Out P G' T own nt ρ' C' [] fal [.code bd, .pred K] .normal env' (H'.set n1 LB) → K1 env' H') →
      Back (∀ env' H', Wk G' nt C' ⟨env', H'⟩ ⟨[], M (next s x) ++ LB :: X⟩ → K env' H') →
      Out P G' T own nt ρ' C' [] fal [.code asn, .pred K1] .normal (E1 x) (M s ++ LO :: X))
    (hk : ∀ s (LO : Blk), Done s → LO.under 0 = true → Out P G T own nt none C rs R k .normal env0 (M s ++ [LO])) :
    Out P G T own nt none C rs R (.code (.rangeFunc g ps asn bd) :: k) .normal env H := by
  intro c a hc hi hg
  obtain ⟨c0, e1, e2, hi0, hg0⟩ := hw c a hc hi hg
  rw [← e2]
  clear hi hg hc
  refine wpIn_rangeFunc fun fn hfn => ?_
  -- what the call is of
  have hfv := ev_ok hi0 hf
  simp only [Rep] at hfv
  obtain ⟨us, cs, r1, r2, hfe⟩ := hfv
  generalize hr0 : ({ state := .ready, pending := none, fn := fn, tmps := a.tmps, params := ps, assign := asn, body := bd, defers := c0.w.heap.size } : Loop) = r0
  generalize hl : c0.w.heap.size + 1 = l
  -- the two new blocks
  have hwd := Cx.world hi0.heap (w' := c0.w.alloc (.deferred (some []))) (fun b hb => Go.RowKit.Below.heap_alloc c0.w _ b hb) (by simp) rfl rfl rfl
  have hfr := Cx.fresh hwd.2 (w' := (c0.w.alloc (.deferred (some []))).alloc (.loop r0)) l (by simp [← hl]) 0 (some (l, 0)) (.inr rfl) (.obj (.loop r0)) (fun b hb => Go.RowKit.Below.heap_alloc _ _ b hb) (by simp) rfl rfl rfl
    (fun _ => ⟨l, by simp, by have := World.alloc_heap_new (c0.w.alloc (.deferred (some []))) (.loop r0); rw [World.size_alloc] at this; rw [← hl]; exact this, fun ds e => by cases e⟩)
  obtain ⟨c1, hc1w, hc1H, hc1θ, hθo, hg1, hh1⟩ : ∃ c1 : Cx, c1.w = (c0.w.alloc (.deferred (some []))).alloc (.loop r0) ∧ c1.H = M s0 ++ [.obj (.loop r0)] ∧ c1.θ n1 = some (l, 0) ∧ (∀ id, id ≠ n1 → c1.θ id = c0.θ id) ∧ Grow c0 c1 ∧ HeapOK c1 := by
    refine ⟨_, rfl, ?_, ?_, ?_, hwd.1.trans hfr.1, hfr.2⟩
    · show c0.H ++ _ = _
      rw [e1]
    · show (if n1 = c0.H.length then _ else _) = _
      rw [if_pos]
      rw [e1]; exact (hM s0).symm
    · intro id hid
      show (if id = c0.H.length then _ else _) = _
      rw [if_neg]
      rw [e1]; show ¬ id = (M s0).length; rw [hM s0]; exact hid
  have hyv : Rep c1 (.it n1) (.func (.yield l) #[] #[]) := by
    simp only [Rep, hc1H]
    rw [show (M s0 ++ [Blk.obj (Obj.loop r0)])[n1]? = some (.obj (.loop r0)) by rw [← hM s0, List.getElem?_append_right (Nat.le_refl _), Nat.sub_self]; rfl]
    exact ⟨rfl, l, hc1θ, rfl⟩
  have hres : (resolve a.eval (rangeCall g l) 0).run P c1.w = .ok { target := .fn (.func gf) cs.toArray, args := us.toArray ++ #[.func (.yield l) #[] #[]] } c1.w := by
    show (Deferred.ofValue (a.eval g) _).run P c1.w = _
    rw [hfe]
    simp [Deferred.ofValue, Act.eval]
  -- the yield
  let G' : Gl := ⟨G.l, some c1⟩
  have hG1 : GOK G' c1 := ⟨fun p hp => ((hi0.glob.grow hg1).1 p hp), fun C0 h0 => by cases h0; exact Grow.refl _⟩
  have hdata : ∀ {cy : Cx} {s : σ} {X : List Blk}, cy.H = M s ++ .obj (.loop r0) :: X → HeapOK cy → GOK G' cy → cy.θ n1 = some (l, 0) ∧ cy.w.heap[l]? = some (.loop r0) := by
    intro cy s X hH hh hG
    have hgr := hG.2 c1 rfl
    have hn : cy.H[n1]? = some (.obj (.loop r0)) := by rw [hH, ← hM s, List.getElem?_append_right (Nat.le_refl _), Nat.sub_self]; rfl
    obtain ⟨b, q1, q2⟩ := obj_at hh hn
    have hn1 : c1.H[n1]? = some (.obj (.loop r0)) := by rw [hc1H, ← hM s0, List.getElem?_append_right (Nat.le_refl _), Nat.sub_self]; rfl
    obtain ⟨B', q3, q4⟩ := hgr.ids n1 _ hn1
    have hθ : cy.θ n1 = c1.θ n1 := q4.2
    rw [hc1θ] at hθ
    rw [hθ] at q1
    cases q1
    exact ⟨hθ, q2⟩
  have hyield : ∀ s x X, Pre s x → ACallV P G' (.it n1) (args x) (M s ++ .obj (.loop r0) :: X) (fun r H' => H' = M (next s x) ++ .obj (.loop r0) :: X ∧ r = .bool true) := by
    intro s x X hpre cy v vs hH hh hG hv hvs
    obtain ⟨d1, d2⟩ := hdata hH hh hG
    have hn : cy.H[n1]? = some (.obj (.loop r0)) := by rw [hH, ← hM s, List.getElem?_append_right (Nat.le_refl _), Nat.sub_self]; rfl
    simp only [Rep, hn] at hv
    obtain ⟨_, b, q1, q2⟩ := hv
    rw [d1] at q1
    cases q1
    subst q2
    have hlen : vs.length = ps.size := by rw [hvs.length, hargs]
    refine ⟨{ target := .fn (.yield l) #[], args := #[] ++ vs.toArray }, cy.w, rfl, .inr ⟨l, r0.fn, (r0.params.zip (#[] ++ vs.toArray)).foldl (fun tmps (t, a) => tmps.setIfInBounds t a) r0.tmps, r0.assign, r0.body, cy.w, ?_, ?_⟩⟩
    · have := run_yield (P := P) (args := #[] ++ vs.toArray) d2 (by rw [← hr0]; simp [hlen])
      simpa [invoke] using this
    · refine roundIn_of_wpIn trivial ?_
      have hgy := hG.2 c1 rfl
      have hlo : ∀ (o : Obj) (n : Nat), (Blk.obj o).under n = true := fun _ _ => rfl
      have hn1' : ∀ (H' : List Blk) (c' : Cx), c'.H = H' → HeapOK c' → Grow cy c' → ∀ o, H'[n1]? = some (.obj o) → c'.θ n1 = some (l, 0) ∧ c'.w.heap[l]? = some o := fun H' c' hH' hh' hg' o ho => by
        obtain ⟨B', q3, q4⟩ := hg'.ids n1 _ hn
        have hθ : c'.θ n1 = cy.θ n1 := q4.2
        rw [d1] at hθ
        obtain ⟨b, q1, q2⟩ := obj_at hh' (by rw [hH']; exact ho)
        rw [hθ] at q1
        cases q1
        exact ⟨hθ, q2⟩
      generalize hLB : (Blk.obj (.loop { r0 with state := .busy })) = LB
      have hO := hbody G' cy (some l) s x X (.obj (.loop r0)) LB (fun env' H' => H'[n1]? = some (.obj (.loop r0)) ∧ Out P G' T own nt (some l) cy [] fal [.code bd, .pred fun env' H' => Wk G' nt cy ⟨env', H'⟩ ⟨[], M (next s x) ++ LB :: X⟩] .normal env' (H'.set n1 LB))
        (fun env' H' => Wk G' nt cy ⟨env', H'⟩ ⟨[], M (next s x) ++ LB :: X⟩) rfl hG.based hH (hH ▸ hh.closed) rfl (by rw [← hLB]; rfl) hpre (fun env' H' q1 q2 => ⟨q1, q2⟩) (fun env' H' q => q)
      have hz := zipEnv_ok (c := cy) (ts := ps.toList) (env := env0) (tm := a.tmps) hvs (by simp [hargs]) (fun t ht => by
          have := List.all_eq_true.1 hps t ht
          rw [Nat.blt_eq] at this
          rw [hi0.size]; exact this) (fun t y hy => ((hi0.env t y hy).grow hg1).grow hgy)
      have htm : (r0.params.zip (#[] ++ vs.toArray)).foldl (fun tmps (t, a) => tmps.setIfInBounds t a) r0.tmps = (ps.toList.zip vs).foldl (fun tm (p : Nat × Value) => tm.setIfInBounds p.1 p.2) a.tmps := by
        rw [← hr0, ← Array.foldl_toList]
        simp
      rw [htm]
      have hinv : Inv G' nt cy.w.heap.size cy (E1 x) { tmps := (ps.toList.zip vs).foldl (fun tm (p : Nat × Value) => tm.setIfInBounds p.1 p.2) a.tmps, defers := [] } :=
        ⟨hh, hG, hz.1.trans hi0.size, by rw [← hE x]; exact hz.2, ⟨by simp, List.Pairwise.nil⟩⟩
      rw [← hr0]
      have hA := hO cy _ hH hinv (Grow.refl cy)
      refine wpIn_mono hA ?_
      rintro e a1 w1 ⟨s', c', p1, p2, rfl, p4, p5⟩
      have hbad : ∀ (e' : Exit) (env' : Env) (a' : Act) (c' : Cx), Out P G' T own nt (some l) cy [] fal [] e' env' c'.H → HeapOK c' → Grow cy c' → False := fun e' env' a' c' h1 h2 h3 => out_nil (a := a') h1 rfl h2 h3
      cases e with
      | normal =>
        obtain ⟨env2, he, k1, k2⟩ := p1
        obtain ⟨t1, t2⟩ := hn1' s'.H c' p2 p4.heap p5 _ k1
        obtain ⟨c2, u1, u2, u3, u4⟩ := obj_turn (o := .loop r0) (o' := .loop { r0 with state := .busy }) p4.heap (by rw [p2]; exact k1) t1 rfl (fun _ _ _ e => by cases e) (fun _ e => by cases e)
        refine ⟨c2.w, by rw [u2]; exact run_beginRound t2 (by rw [← hr0]), ?_⟩
        have hA2 := k2 c2 a1 (by rw [u1, p2, hLB]) ⟨u4, p4.glob.grow u3, p4.size, fun t y hy => (p4.env t y (by rw [← he t]; exact hy)).grow u3, p4.defs.grow u3⟩ (p5.trans u3)
        refine wpIn_mono hA2 ?_
        rintro e2 a2 w2 ⟨s2, c3, v1, v2, rfl, v4, v5⟩
        cases e2 with
        | normal =>
          obtain ⟨env3, he3, k3⟩ := v1
          obtain ⟨c4, x1, x2, x3, x4⟩ := k3 c3 a2 v2 ⟨v4.heap, v4.glob, v4.size, fun t y hy => v4.env t y (by rw [← he3 t]; exact hy), v4.defs⟩ v5
          have hnB : (M (next s x) ++ LB :: X)[n1]? = some (.obj (.loop { r0 with state := .busy })) := by rw [← hM (next s x), List.getElem?_append_right (Nat.le_refl _), Nat.sub_self, hLB]; rfl
          obtain ⟨t3, t4⟩ := hn1' _ c4 x1 x3.heap x4 _ hnB
          obtain ⟨c5, y1, y2, y3, y4⟩ := obj_turn (o := .loop { r0 with state := .busy }) (o' := .loop r0) x3.heap (by rw [x1]; exact hnB) t3 rfl (fun _ _ _ e => by cases e) (fun _ e => by cases e)
          have hrun := run_endRound (P := P) none t4
          rw [← x2]
          refine ⟨_, _, hrun, .bool true, .bool true, c5, rfl, ?_, ⟨?_, rfl⟩, y4, by simp only [Rep], x4.trans y3⟩
          · rw [y2, ← hr0]; rfl
          · rw [y1, x1, List.set_append, if_neg (by rw [hM]; omega), hM, Nat.sub_self, hr0]; rfl
        | ret => exact (hbad .ret s2.env a2 c3 (by rw [v2]; exact v1) v4.heap v5).elim
        | exit id => exact (hbad (.exit id) s2.env a2 c3 (by rw [v2]; exact v1) v4.heap v5).elim
        | goto t => exact (hbad (.goto t) s2.env a2 c3 (by rw [v2]; exact v1) v4.heap v5).elim
        | panic ch => exact (hbad (.panic ch) s2.env a2 c3 (by rw [v2]; exact v1) v4.heap v5).elim
        | outgrown => exact (hbad .outgrown s2.env a2 c3 (by rw [v2]; exact v1) v4.heap v5).elim
      | ret => exact (hbad .ret s'.env a1 c' (by rw [p2]; exact p1) p4.heap p5).elim
      | exit id => exact (hbad (.exit id) s'.env a1 c' (by rw [p2]; exact p1) p4.heap p5).elim
      | goto t => exact (hbad (.goto t) s'.env a1 c' (by rw [p2]; exact p1) p4.heap p5).elim
      | panic ch => exact (hbad (.panic ch) s'.env a1 c' (by rw [p2]; exact p1) p4.heap p5).elim
      | outgrown => exact (hbad .outgrown s'.env a1 c' (by rw [p2]; exact p1) p4.heap p5).elim
  -- the call
  have hcall := hit G' (.obj (.loop r0)) rfl rfl hyield
  obtain ⟨⟨fnn, f1, f2, f3⟩, hcall⟩ := hcall
  have hc' := hcall c1 (us ++ [.func (.yield l) #[] #[]] ++ cs) hc1H hh1 hG1 (((r1.grow hg1).append (RepL.mk_cons hyv RepL.mk_nil)).append (r2.grow hg1))
  have f2' : ¬ fnn.name = "runtime.NumGoroutine" := by simpa using f2
  have f3' : ¬ fnn.body = none := by cases hb : fnn.body <;> simp_all
  refine ⟨l, [{ target := .collected c0.w.heap.size, args := #[] }], c1.w, _, c1.w, gf, (us ++ [Value.func (.yield l) #[] #[]] ++ cs).toArray, c1.w, ?_, hres, fun _ _ => trivial, ?_, fun h => (by cases h), ?_⟩
  · rw [hc1w, ← hl, ← hr0]
    exact run_enterLoop_outer fn a.tmps ps asn bd
  · simp [invoke, callFunc, Sem.run_bind, f1, f2', f3']
  · refine hc'.mono ?_
    rintro e w' ⟨v, y, c2, rfl, rfl, ⟨s, hdone, hH2⟩, hh2, hy, hg2⟩
    have hn1 : c1.H[n1]? = some (.obj (.loop r0)) := by rw [hc1H, ← hM s0, List.getElem?_append_right (Nat.le_refl _), Nat.sub_self]; rfl
    have hn2 : c2.H[n1]? = some (.obj (.loop r0)) := by rw [hH2, ← hM s, List.getElem?_append_right (Nat.le_refl _), Nat.sub_self]; rfl
    obtain ⟨b, q1, q2⟩ := obj_at hh2 hn2
    obtain ⟨B', q3, q4⟩ := hg2.ids n1 _ hn1
    have hθ : c2.θ n1 = c1.θ n1 := q4.2
    rw [hc1θ] at hθ
    rw [hθ] at q1
    cases q1
    obtain ⟨c3, y1, y2, y3, y4⟩ := obj_turn (o := .loop r0) (o' := .loop { r0 with state := .exhausted }) hh2 hn2 hθ rfl (fun _ _ _ e => by cases e) (fun _ e => by cases e)
    refine ⟨none, c3.w, ?_, ?_⟩
    · rw [y2]
      have := run_endLoop (P := P) q2 (by rw [← hr0]; simp)
      rw [this, ← hr0]
    · have hgr : Grow c0 c3 := hg1.trans (hg2.trans y3)
      have hD : c1.imm c0.w.heap.size := by
        refine ⟨by rw [hc1w, World.size_alloc, World.size_alloc]; omega, fun ho => ?_⟩
        obtain ⟨id, o, ⟨B0, hB0, hlv⟩, ht⟩ := ho
        by_cases hid : id = n1
        · subst hid
          rw [hc1θ] at ht
          cases ht
          omega
        · rw [hθo id hid] at ht
          have hB0' : c0.H[id]? = some B0 := by
            rw [hc1H] at hB0
            rw [e1]
            have hlt := (List.getElem?_eq_some_iff.1 hB0).1
            simp only [List.length_append, List.length_cons, List.length_nil, hM s0] at hlt
            rw [List.getElem?_append_left (by rw [hM s0]; omega)] at hB0
            exact hB0
          have := BlkRep.lt (hi0.heap.blk id B0 hB0') hlv ht
          omega
      have hDat : c1.w.heap[c0.w.heap.size]? = some (.deferred (some [])) := by
        rw [hc1w, Go.RowKit.Below.heap_alloc _ _ _ (by simp)]
        exact World.alloc_heap_new _ _
      have hDim : c3.imm c0.w.heap.size := (hg2.trans y3).imm hD
      have hDat3 : c3.w.heap[c0.w.heap.size]? = some (.deferred (some [])) := by rw [(hg2.trans y3).keep hD]; exact hDat
      have hinv3 : Inv G nt C.w.heap.size c3 env0 { a with defers := [{ target := .collected c0.w.heap.size, args := #[] }] ++ a.defers } := by
        refine ⟨y4, hi0.glob.grow hgr, hi0.size, fun t x hx => (hi0.env t x hx).grow hgr, ⟨fun d hd => ?_, ?_⟩⟩
        · rcases List.mem_append.1 hd with hd | hd
          · rw [List.mem_singleton] at hd
            exact ⟨_, hd, hDat3, hDim, hg0.size⟩
          · exact (hi0.defs.grow hgr).1 d hd
        · rw [List.singleton_append, List.pairwise_cons]
          refine ⟨fun d hd r hr hdr => ?_, hi0.defs.2⟩
          obtain ⟨r', q1, q2, q3, q4⟩ := hi0.defs.1 d hd
          rw [q1] at hdr
          have := q3.1
          simp only [Deferred.mk.injEq, Target.collected.injEq] at hr hdr
          omega
      have hko := hk s (.obj (.loop { r0 with state := .exhausted })) hdone rfl
      have hout : Out P G T own nt none C rs R k .normal env0 c3.H := by
        rw [y1, hH2, List.set_append, if_neg (by rw [hM]; omega), hM, Nat.sub_self]
        exact hko
      exact ⟨⟨env0, c3.H⟩, c3, hout, rfl, rfl, hinv3, hg0.trans hgr⟩
end
end Go.Proofs.YtehfihnfeakmaaaGreatDoor
namespace Go.Proofs.YtehfihnfeakmaaaGreatDoor
theorem under_bde {n : Nat} (l : List Bd) : SV.underL n (l.map fun b => .agg b.e.cells) = true := SV.underL_map fun b _ => Ex.cells_under n b.e
theorem under_alb {n : Nat} (l : List Al) : SV.underL n (l.map fun a => .agg a.body.cells) = true := SV.underL_map fun a _ => Ex.cells_under n a.body
end Go.Proofs.YtehfihnfeakmaaaGreatDoor
end

section
/- The steps of a walk as implications; lemmas whose last hypothesis is met by a script of their own: the short words of my texts. Printed by mkwords.py. -/
namespace Go.Proofs.YtehfihnfeakmaaaGreatDoor
open Go
structure Imp (q p : Prop) : Prop where
  go : q → p
theorem Imp.refl (p : Prop) : Imp p p := ⟨id⟩
theorem Imp.via {q a b : Prop} (h : a → b) (k : Imp q a) : Imp q b := ⟨fun x => h (k.go x)⟩
structure Fork (c d : Prop) (A : c → Prop) (B : d → Prop) : Prop where
  l : ∀ x : c, A x
  r : ∀ x : d, B x
structure Two (A B : Prop) : Prop where
  l : A
  r : B
theorem Imp.fork {c d A B p : Prop} {qa : c → Prop} {qb : d → Prop} (h : (c → A) → (d → B) → p) (l : ∀ x : c, Imp (qa x) A) (r : ∀ x : d, Imp (qb x) B) : Imp (Fork c d qa qb) p := ⟨fun f => h (fun x => (l x).go (f.l x)) (fun x => (r x).go (f.r x))⟩
theorem Imp.two {A B qa qb p : Prop} (h : A → B → p) (l : Imp qa A) (r : Imp qb B) : Imp (Two qa qb) p := ⟨fun f => h (l.go f.l) (r.go f.r)⟩
theorem Imp.no {p : Prop} (h : False) : Imp True p := h.elim
def NoX : Prop := (1 = 0) = False
theorem noX : NoX := by unfold NoX; simp
theorem hsX {σ : Type} (Hs : σ → List Blk) (n0 : Nat) (hlen : ∀ i, (Hs i).length = n0) : (∀ i, (Hs i).length = n0) ∧ (∀ i L, (Hs i ++ L)[n0]? = L[0]?) ∧ (∀ i L k, (Hs i ++ L)[n0 + k]? = L[k]?) ∧ (∀ i L x, (Hs i ++ L).set n0 x = Hs i ++ L.set 0 x) ∧ (∀ i L k x, (Hs i ++ L).set (n0 + k) x = Hs i ++ L.set k x) :=
  ⟨hlen, fun i L => by rw [← hlen i]; exact get_app0 _ _, fun i L k => by rw [← hlen i]; exact get_app _ _ _, fun i L x => by rw [← hlen i]; exact set_app0 _ _ _, fun i L k x => by rw [← hlen i]; exact set_app _ _ _ _⟩
section
variable {qq qa qb : Prop}
variable {P : Program} {G : Gl} {T : Tab} {own : List Nat} {nt B : Nat} {ρ : Option Nat} {C : Cx} {rs : List ResultVar} {R : SV → List Blk → Prop} {env env2 : Env} {H H' : List Blk} {k : List It}
variable {all r : List Oper} {ty d j dj : Nat} {op : Op} {pos : String} {after : Array Edge} {v : SV} {want : Bool}
variable {R' : SV → List Blk → Prop} {xs : List SV} {f : Operand} {fv : SV} {args : Array Operand} {tys : Array Nat} {g : FuncId}
theorem im_go_seq {x y : Code} (kq : Imp qq ((Out P G T own nt ρ C rs R) (.code x :: .code y :: k) .normal env H)) : Imp qq ((Out P G T own nt ρ C rs R) (.code (.seq x y) :: k) .normal env H) := Imp.via (go_seq) kq
theorem im_go_q (h : qv G T own env H (some d) ty op = some v) (hd : Nat.blt d nt = true) (kq : Imp qq ((Out P G T own nt ρ C rs R) (.ops all r :: k) .normal ((d, v) :: env) H)) : Imp qq ((Out P G T own nt ρ C rs R) (.ops all (⟨some d, op, ty, pos, after, none⟩ :: r) :: k) .normal env H) := Imp.via (go_q h hd) kq
theorem im_go_q0 (h : qv G T own env H none ty op = some v) (kq : Imp qq ((Out P G T own nt ρ C rs R) (.ops all r :: k) .normal env H)) : Imp qq ((Out P G T own nt ρ C rs R) (.ops all (⟨none, op, ty, pos, after, none⟩ :: r) :: k) .normal env H) := Imp.via (go_q0 h) kq
theorem im_go_nil {all : List Oper} (kq : Imp qq ((Out P G T own nt ρ C rs R) k .normal env H)) : Imp qq ((Out P G T own nt ρ C rs R) (.ops all [] :: k) .normal env H) := Imp.via (go_nil) kq
theorem im_go_region (hT : TabOK P T) {id : Nat} {ops : Array Oper} {l : List Oper} (hl : ops = ⟨l⟩) (kq : Imp qq ((Out P G T own nt ρ C rs R) (.ops l l :: k) .normal env H)) : Imp qq ((Out P G T own nt ρ C rs R) (.code (.region id ops false) :: k) .normal env H) := Imp.via (go_region hT hl) kq
theorem im_go_skip  (kq : Imp qq ((Out P G T own nt ρ C rs R) k .normal env H)) : Imp qq ((Out P G T own nt ρ C rs R) (.code .skip :: k) .normal env H) := Imp.via (go_skip) kq
theorem im_go_label {l : Nat} (kq : Imp qq ((Out P G T own nt ρ C rs R) k .normal env H)) : Imp qq ((Out P G T own nt ρ C rs R) (.code (.label l) :: k) .normal env H) := Imp.via (go_label) kq
theorem im_go_condT {t : Nat} {p q : Code} (h1 : look env t = some (.bool true)) (kq : Imp qq ((Out P G T own nt ρ C rs R) (.code p :: k) .normal env H)) : Imp qq ((Out P G T own nt ρ C rs R) (.code (.cond (.tmp t) p q) :: k) .normal env H) := Imp.via (go_condT h1) kq
theorem im_go_condF {t : Nat} {p q : Code} (h1 : look env t = some (.bool false)) (kq : Imp qq ((Out P G T own nt ρ C rs R) (.code q :: k) .normal env H)) : Imp qq ((Out P G T own nt ρ C rs R) (.code (.cond (.tmp t) p q) :: k) .normal env H) := Imp.via (go_condF h1) kq
theorem im_go_condDT {t : Nat} {p q : Code} {a : Prop} {inst : Decidable a} (h1 : look env t = some (.bool (decide a))) (ha : a) (kq : Imp qq ((Out P G T own nt ρ C rs R) (.code p :: k) .normal ((t, .bool true) :: env) H)) : Imp qq ((Out P G T own nt ρ C rs R) (.code (.cond (.tmp t) p q) :: k) .normal env H) := Imp.via (go_condDT h1 ha) kq
theorem im_go_condDF {t : Nat} {p q : Code} {a : Prop} {inst : Decidable a} (h1 : look env t = some (.bool (decide a))) (ha : ¬ a) (kq : Imp qq ((Out P G T own nt ρ C rs R) (.code q :: k) .normal ((t, .bool false) :: env) H)) : Imp qq ((Out P G T own nt ρ C rs R) (.code (.cond (.tmp t) p q) :: k) .normal env H) := Imp.via (go_condDF h1 ha) kq
theorem im_go_block {id : Nat} {x : Code} (kq : Imp qq ((Out P G T own nt ρ C rs R) (.code x :: .blk id :: k) .normal env H)) : Imp qq ((Out P G T own nt ρ C rs R) (.code (.block id x) :: k) .normal env H) := Imp.via (go_block) kq
theorem im_go_blk {id : Nat} (kq : Imp qq ((Out P G T own nt ρ C rs R) k .normal env H)) : Imp qq ((Out P G T own nt ρ C rs R) (.blk id :: k) .normal env H) := Imp.via (go_blk) kq
theorem im_go_exit {id : Nat} {k' : List It} (hu : unw id k = some k') (kq : Imp qq ((Out P G T own nt ρ C rs R) k' .normal env H)) : Imp qq ((Out P G T own nt ρ C rs R) (.code (.exit id) :: k) .normal env H) := Imp.via (go_exit hu) kq
theorem im_go_l (h : lv G T own env H (some d) ty op = some (v, H')) (hd : Nat.blt d nt = true) (kq : Imp qq ((Out P G T own nt ρ C rs R) (.ops all r :: k) .normal ((d, v) :: env) H')) : Imp qq ((Out P G T own nt ρ C rs R) (.ops all (⟨some d, op, ty, pos, after, none⟩ :: r) :: k) .normal env H) := Imp.via (go_l h hd) kq
theorem im_go_l0 (h : lv G T own env H none ty op = some (v, H')) (kq : Imp qq ((Out P G T own nt ρ C rs R) (.ops all r :: k) .normal env H')) : Imp qq ((Out P G T own nt ρ C rs R) (.ops all (⟨none, op, ty, pos, after, none⟩ :: r) :: k) .normal env H) := Imp.via (go_l0 h) kq
theorem im_go_gRun {dst : Option Nat} (h1 : (all[j]?).bind (·.dst) = some dj) (h2 : look env dj = some (.bool want)) (kq : Imp qq ((Out P G T own nt ρ C rs R) (.ops all (⟨dst, op, ty, pos, after, none⟩ :: r) :: k) .normal env H)) : Imp qq ((Out P G T own nt ρ C rs R) (.ops all (⟨dst, op, ty, pos, after, some (j, want)⟩ :: r) :: k) .normal env H) := Imp.via (go_gRun h1 h2) kq
theorem im_go_gSkip {v : SV} {b : Option Bool} (h1 : (all[j]?).bind (·.dst) = some dj) (h2 : look env dj = some v) (h3 : asG v = some b) (hb : (b == some want) = false) (hd : Nat.blt d nt = true) (kq : Imp qq ((Out P G T own nt ρ C rs R) (.ops all r :: k) .normal ((d, .undef) :: env) H)) : Imp qq ((Out P G T own nt ρ C rs R) (.ops all (⟨some d, op, ty, pos, after, some (j, want)⟩ :: r) :: k) .normal env H) := Imp.via (go_gSkip h1 h2 h3 hb hd) kq
theorem im_go_gSkip0 {v : SV} {b : Option Bool} (h1 : (all[j]?).bind (·.dst) = some dj) (h2 : look env dj = some v) (h3 : asG v = some b) (hb : (b == some want) = false) (kq : Imp qq ((Out P G T own nt ρ C rs R) (.ops all r :: k) .normal env H)) : Imp qq ((Out P G T own nt ρ C rs R) (.ops all (⟨none, op, ty, pos, after, some (j, want)⟩ :: r) :: k) .normal env H) := Imp.via (go_gSkip0 h1 h2 h3 hb) kq
theorem im_go_gM1 {b : Bool} (h1 : (all[j]?).bind (·.dst) = some dj) (h2 : look env dj = some (.bool b)) (hv : b = want → qv G T own env H (some d) ty op = some v) (hd : Nat.blt d nt = true) (kq : Imp qq ((Out P G T own nt ρ C rs R) (.ops all r :: k) .normal ((d, gv b want v) :: env) H)) : Imp qq ((Out P G T own nt ρ C rs R) (.ops all (⟨some d, op, ty, pos, after, some (j, want)⟩ :: r) :: k) .normal env H) := Imp.via (go_gM1 h1 h2 hv hd) kq
theorem im_go_gM2 {b b1 w1 : Bool} (h1 : (all[j]?).bind (·.dst) = some dj) (h2 : look env dj = some (gv b1 w1 (.bool b))) (hv : b1 = w1 → b = want → qv G T own env H (some d) ty op = some v) (hd : Nat.blt d nt = true) (kq : Imp qq ((Out P G T own nt ρ C rs R) (.ops all r :: k) .normal ((d, gv b1 w1 (gv b want v)) :: env) H)) : Imp qq ((Out P G T own nt ρ C rs R) (.ops all (⟨some d, op, ty, pos, after, some (j, want)⟩ :: r) :: k) .normal env H) := Imp.via (go_gM2 h1 h2 hv hd) kq
theorem im_go_gM3 {b b1 w1 b2 w2 : Bool} (h1 : (all[j]?).bind (·.dst) = some dj) (h2 : look env dj = some (gv b1 w1 (gv b2 w2 (.bool b)))) (hv : b1 = w1 → b2 = w2 → b = want → qv G T own env H (some d) ty op = some v) (hd : Nat.blt d nt = true) (kq : Imp qq ((Out P G T own nt ρ C rs R) (.ops all r :: k) .normal ((d, gv b1 w1 (gv b2 w2 (gv b want v))) :: env) H)) : Imp qq ((Out P G T own nt ρ C rs R) (.ops all (⟨some d, op, ty, pos, after, some (j, want)⟩ :: r) :: k) .normal env H) := Imp.via (go_gM3 h1 h2 hv hd) kq
theorem im_go_pred {K : Env → List Blk → Prop} (kq : Imp qq (K env H)) : Imp qq ((Out P G T own nt ρ C rs R) (.pred K :: k) .normal env H) := Imp.via (go_pred) kq
theorem im_go_ret {xs : List SV} (h1 : resL T env H rs = some xs) (kq : Imp qq (Fin C H (resSV xs) R)) : Imp qq ((Out P G T own nt ρ C rs R) (.code .ret :: k) .normal env H) := Imp.via (go_ret h1) kq
theorem im_go_end {xs : List SV} (h1 : resL T env H rs = some xs) (kq : Imp qq (Fin C H (resSV xs) R)) : Imp qq ((Out P G T own nt ρ C rs R) [] .normal env H) := Imp.via (go_end h1) kq
theorem im_go_condB {t : Nat} {p q : Code} {b : Bool} (h1 : look env t = some (.bool b)) {qa : b = true → Prop} {qb : b = false → Prop} (lq : ∀ x : b = true, Imp (qa x) ((Out P G T own nt ρ C rs R) (.code p :: k) .normal ((t, .bool true) :: env) H)) (rq : ∀ x : b = false, Imp (qb x) ((Out P G T own nt ρ C rs R) (.code q :: k) .normal ((t, .bool false) :: env) H)) : Imp (Fork (b = true) (b = false) qa qb) ((Out P G T own nt ρ C rs R) (.code (.cond (.tmp t) p q) :: k) .normal env H) := Imp.fork (go_condB h1) lq rq
theorem im_go_condD {t : Nat} {p q : Code} {a : Prop} {inst : Decidable a} (h1 : look env t = some (.bool (decide a))) {qa : a → Prop} {qb : ¬ a → Prop} (lq : ∀ x : a, Imp (qa x) ((Out P G T own nt ρ C rs R) (.code p :: k) .normal ((t, .bool true) :: env) H)) (rq : ∀ x : ¬ a, Imp (qb x) ((Out P G T own nt ρ C rs R) (.code q :: k) .normal ((t, .bool false) :: env) H)) : Imp (Fork (a) (¬ a) qa qb) ((Out P G T own nt ρ C rs R) (.code (.cond (.tmp t) p q) :: k) .normal env H) := Imp.fork (go_condD h1) lq rq
theorem im_go_gB {o : Oper} {b : Bool} (hg : o.guard = some (j, want)) (h1 : (all[j]?).bind (·.dst) = some dj) (h2 : look env dj = some (.bool b)) {qa : b = true → Prop} {qb : b = false → Prop} (lq : ∀ x : b = true, Imp (qa x) ((Out P G T own nt ρ C rs R) (.ops all (o :: r) :: k) .normal ((dj, .bool true) :: env) H)) (rq : ∀ x : b = false, Imp (qb x) ((Out P G T own nt ρ C rs R) (.ops all (o :: r) :: k) .normal ((dj, .bool false) :: env) H)) : Imp (Fork (b = true) (b = false) qa qb) ((Out P G T own nt ρ C rs R) (.ops all (o :: r) :: k) .normal env H) := Imp.fork (go_gB hg h1 h2) lq rq
theorem im_go_gD {o : Oper} {a : Prop} {inst : Decidable a} (hg : o.guard = some (j, want)) (h1 : (all[j]?).bind (·.dst) = some dj) (h2 : look env dj = some (.bool (decide a))) {qa : a → Prop} {qb : ¬ a → Prop} (lq : ∀ x : a, Imp (qa x) ((Out P G T own nt ρ C rs R) (.ops all (o :: r) :: k) .normal ((dj, .bool true) :: env) H)) (rq : ∀ x : ¬ a, Imp (qb x) ((Out P G T own nt ρ C rs R) (.ops all (o :: r) :: k) .normal ((dj, .bool false) :: env) H)) : Imp (Fork (a) (¬ a) qa qb) ((Out P G T own nt ρ C rs R) (.ops all (o :: r) :: k) .normal env H) := Imp.fork (go_gD hg h1 h2) lq rq
theorem im_go_nilE {x y : Operand} {X : SV} {t yt n : Nat} (h1 : ev G env x = some X) (h2 : ev G env y = some .nil) (h3 : kindT T t = 2) (h4 : slLen H X = some n) (hd : Nat.blt d nt = true) {qa : n = 0 → Prop} {qb : True → Prop} (lq : ∀ x : n = 0, Imp (qa x) ((Out P G T own nt ρ C rs R) (.ops all r :: k) .normal ((d, .bool true) :: env) H)) (rq : ∀ x : True, Imp (qb x) ((Out P G T own nt ρ C rs R) (.ops all r :: k) .normal ((d, .bool false) :: env) H)) : Imp (Fork (n = 0) (True) qa qb) ((Out P G T own nt ρ C rs R) (.ops all (⟨some d, .binOp .eql t x y yt, ty, pos, after, none⟩ :: r) :: k) .normal env H) := Imp.fork (go_nilE h1 h2 h3 h4 hd) lq rq
theorem im_go_nilN {x y : Operand} {X : SV} {t yt n : Nat} (h1 : ev G env x = some X) (h2 : ev G env y = some .nil) (h3 : kindT T t = 2) (h4 : slLen H X = some n) (hd : Nat.blt d nt = true) {qa : n = 0 → Prop} {qb : True → Prop} (lq : ∀ x : n = 0, Imp (qa x) ((Out P G T own nt ρ C rs R) (.ops all r :: k) .normal ((d, .bool false) :: env) H)) (rq : ∀ x : True, Imp (qb x) ((Out P G T own nt ρ C rs R) (.ops all r :: k) .normal ((d, .bool true) :: env) H)) : Imp (Fork (n = 0) (True) qa qb) ((Out P G T own nt ρ C rs R) (.ops all (⟨some d, .binOp .neq t x y yt, ty, pos, after, none⟩ :: r) :: k) .normal env H) := Imp.fork (go_nilN h1 h2 h3 h4 hd) lq rq
theorem im_go_gX {o : Oper} {b1 w1 : Bool} {u : SV} (hg : o.guard = some (j, want)) (h1 : (all[j]?).bind (·.dst) = some dj) (h2 : look env dj = some (gv b1 w1 u)) {qa : b1 = true → Prop} {qb : b1 = false → Prop} (lq : ∀ x : b1 = true, Imp (qa x) ((Out P G T own nt ρ C rs R) (.ops all (o :: r) :: k) .normal env H)) (rq : ∀ x : b1 = false, Imp (qb x) ((Out P G T own nt ρ C rs R) (.ops all (o :: r) :: k) .normal env H)) : Imp (Fork (b1 = true) (b1 = false) qa qb) ((Out P G T own nt ρ C rs R) (.ops all (o :: r) :: k) .normal env H) := Imp.fork (fun l r => go_gX hg h1 h2 fun c e => by cases c with
  | true => exact l e
  | false => exact r e) lq rq
end
section
variable {qq qa qb : Prop}
variable {P : Program} {G : Gl} {T : Tab} {own : List Nat} {nt B : Nat} {ρ : Option Nat} {C : Cx} {rs : List ResultVar} {R : SV → List Blk → Prop} {env env2 : Env} {H H' : List Blk} {k : List It}
variable {all : List Oper} {L : List Nat} {n i j ty d : Nat} {op : Op} {pos : String} {after : Array Edge} {v : SV} {o : Oper} {K : Env → List Blk → Prop}
variable {m : Nat} {ex : List Nat} {kk : SV → List Blk → Prop} {dst : Option Nat} {want b : Bool} {dj i0 : Nat}
variable {R' : SV → List Blk → Prop} {xs : List SV} {f : Operand} {fv : SV} {args : Array Operand} {tys : Array Nat} {g : FuncId}
theorem im_go_draw (hT : TabOK P T) (hm : P.follows .mixedOrders = true) {id : Nat} {ops : Array Oper} {l : List Oper} (hl : ops = ⟨l⟩) (hok : drawOK nt l = true) (kq : Imp qq (DrP P G T own l 200 0 [] env H (fun env H => (Out P G T own nt ρ C rs R) k .normal env H))) : Imp qq ((Out P G T own nt ρ C rs R) (.code (.region id ops true) :: k) .normal env H) := Imp.via (go_draw hT hm hl hok) kq
theorem im_dr_s {m2 : Nat} (hs : stepQ own all m ex = some o) (hm : m + 1 = m2) (kq : Imp qq ((StG P G T own all) n m2 ex o env H K)) : Imp qq ((DrP P G T own all) (n + 1) m ex env H K) := Imp.via (dr_s hs hm) kq
theorem im_dr_adv2 {m2 : Nat} (hm : memN m ex = true) (h2 : m + 1 = m2) (kq : Imp qq ((DrP P G T own all) n m2 ex env H K)) : Imp qq ((DrP P G T own all) n m ex env H K) := Imp.via (dr_adv2 hm h2) kq
theorem im_dr_done (hm : Nat.ble all.length m = true) (kq : Imp qq ((Out P G T own nt ρ C rs R) k .normal env H)) : Imp qq ((DrP P G T own all) (n + 1) m ex env H (fun env H => (Out P G T own nt ρ C rs R) k .normal env H)) := Imp.via (dr_done hm) kq
theorem im_dr_so (hf : firstQP own m ex 0 all = some i) (ho : all[i]? = some o) (kq : Imp qq ((StG P G T own all) n m (i :: ex) o env H K)) : Imp qq ((DrP P G T own all) (n + 1) m ex env H K) := Imp.via (dr_so hf ho) kq
theorem im_dr_L1 (hf : firstQP own m ex 0 all = none) (hr : readyP m ex 0 all = [j]) (ho : all[j]? = some o) (kq : Imp qq ((Ld P G T own all) n m ex j o env H K)) : Imp qq ((DrP P G T own all) (n + 1) m ex env H K) := Imp.via (dr_L1 hf hr ho) kq
theorem im_sg_q (hv : qv G T own env H (some d) ty op = some v) (kq : Imp qq ((DrP P G T own all) n m ex ((d, v) :: env) H K)) : Imp qq ((StG P G T own all) n m ex ⟨some d, op, ty, pos, after, none⟩ env H K) := Imp.via (sg_q hv) kq
theorem im_sg_run {dj : Nat} {want : Bool} (h1 : (all[j]?).bind (·.dst) = some dj) (h2 : look env dj = some (.bool want)) (hv : qv G T own env H (some d) ty op = some v) (kq : Imp qq ((DrP P G T own all) n m ex ((d, v) :: env) H K)) : Imp qq ((StG P G T own all) n m ex ⟨some d, op, ty, pos, after, some (j, want)⟩ env H K) := Imp.via (sg_run h1 h2 hv) kq
theorem im_sg_skip {dj : Nat} {want : Bool} {u : SV} {b : Option Bool} (h1 : (all[j]?).bind (·.dst) = some dj) (h2 : look env dj = some u) (h3 : asG u = some b) (hb : (b == some want) = false) (kq : Imp qq ((DrP P G T own all) n m ex ((d, .undef) :: env) H K)) : Imp qq ((StG P G T own all) n m ex ⟨some d, op, ty, pos, after, some (j, want)⟩ env H K) := Imp.via (sg_skip h1 h2 h3 hb) kq
theorem im_sg_M1 {dj : Nat} {want b : Bool} (h1 : (all[j]?).bind (·.dst) = some dj) (h2 : look env dj = some (.bool b)) (hv : b = want → qv G T own env H (some d) ty op = some v) (kq : Imp qq ((DrP P G T own all) n m ex ((d, gv b want v) :: env) H K)) : Imp qq ((StG P G T own all) n m ex ⟨some d, op, ty, pos, after, some (j, want)⟩ env H K) := Imp.via (sg_M1 h1 h2 hv) kq
theorem im_sg_M2 {dj : Nat} {want b b1 w1 : Bool} (h1 : (all[j]?).bind (·.dst) = some dj) (h2 : look env dj = some (gv b1 w1 (.bool b))) (hv : b1 = w1 → b = want → qv G T own env H (some d) ty op = some v) (kq : Imp qq ((DrP P G T own all) n m ex ((d, gv b1 w1 (gv b want v)) :: env) H K)) : Imp qq ((StG P G T own all) n m ex ⟨some d, op, ty, pos, after, some (j, want)⟩ env H K) := Imp.via (sg_M2 h1 h2 hv) kq
theorem im_sg_M3 {dj : Nat} {want b b1 w1 b2 w2 : Bool} (h1 : (all[j]?).bind (·.dst) = some dj) (h2 : look env dj = some (gv b1 w1 (gv b2 w2 (.bool b)))) (hv : b1 = w1 → b2 = w2 → b = want → qv G T own env H (some d) ty op = some v) (kq : Imp qq ((DrP P G T own all) n m ex ((d, gv b1 w1 (gv b2 w2 (gv b want v))) :: env) H K)) : Imp qq ((StG P G T own all) n m ex ⟨some d, op, ty, pos, after, some (j, want)⟩ env H K) := Imp.via (sg_M3 h1 h2 hv) kq
theorem im_ld_go {dst : Option Nat} (kq : Imp qq (exG P G T own all ⟨dst, op, ty, pos, after, none⟩ env H fun x H' => AgP G T own all i0 m ex (putE dst x env) H' ∧ (DrP P G T own all) n m (i0 :: ex) (putE dst x env) H' K)) : Imp qq ((Ld P G T own all) n m ex i0 ⟨dst, op, ty, pos, after, none⟩ env H K) := Imp.via (ld_go) kq
theorem im_ld_run {dst : Option Nat} {dj : Nat} {want : Bool} (h1 : (all[j]?).bind (·.dst) = some dj) (h2 : look env dj = some (.bool want)) (kq : Imp qq (exG P G T own all ⟨dst, op, ty, pos, after, none⟩ env H fun x H' => AgP G T own all i0 m ex (putE dst x env) H' ∧ (DrP P G T own all) n m (i0 :: ex) (putE dst x env) H' K)) : Imp qq ((Ld P G T own all) n m ex i0 ⟨dst, op, ty, pos, after, some (j, want)⟩ env H K) := Imp.via (ld_run h1 h2) kq
theorem im_ld_skip {dst : Option Nat} {dj : Nat} {want : Bool} {u : SV} {bo : Option Bool} (h1 : (all[j]?).bind (·.dst) = some dj) (h2 : look env dj = some u) (h3 : asG u = some bo) (hb : (bo == some want) = false) (kq : Imp qq (AgP G T own all i0 m ex (putE dst .undef env) H ∧ (DrP P G T own all) n m (i0 :: ex) (putE dst .undef env) H K)) : Imp qq ((Ld P G T own all) n m ex i0 ⟨dst, op, ty, pos, after, some (j, want)⟩ env H K) := Imp.via (ld_skip h1 h2 h3 hb) kq
theorem im_xg_l (h : lv G T own env H dst ty op = some (v, H')) (kq : Imp qq (kk v H')) : Imp qq (exG P G T own all ⟨dst, op, ty, pos, after, none⟩ env H kk) := Imp.via (xg_l h) kq
theorem im_xg_q (h : qv G T own env H dst ty op = some v) (kq : Imp qq (kk v H)) : Imp qq (exG P G T own all ⟨dst, op, ty, pos, after, none⟩ env H kk) := Imp.via (xg_q h) kq
theorem im_ag_mkS {x : SV} {l : List Nat} (h1 : agR own all (getL (clo all) j) m ++ agL own all (getL (clo all) j) ex = l) (h2 : AgAll G T own all ((d, x) :: env) H l) (kq : Imp qq ((DrP P G T own all) n m (j :: ex) ((d, x) :: env) H K)) : Imp qq (AgP G T own all j m ex (putE (some d) x env) H ∧ (DrP P G T own all) n m (j :: ex) (putE (some d) x env) H K) := Imp.via (ag_mkS h1 h2) kq
theorem im_ag_mkN {x : SV} {l : List Nat} (h1 : agR own all (getL (clo all) j) m ++ agL own all (getL (clo all) j) ex = l) (h2 : AgAll G T own all env H l) (kq : Imp qq ((DrP P G T own all) n m (j :: ex) env H K)) : Imp qq (AgP G T own all j m ex (putE none x env) H ∧ (DrP P G T own all) n m (j :: ex) (putE none x env) H K) := Imp.via (ag_mkN h1 h2) kq
theorem im_sg_B {dj : Nat} {want b : Bool} (h1 : (all[j]?).bind (·.dst) = some dj) (h2 : look env dj = some (.bool b)) {qa : b = true → Prop} {qb : b = false → Prop} (lq : ∀ x : b = true, Imp (qa x) ((StG P G T own all) n m ex ⟨some d, op, ty, pos, after, some (j, want)⟩ ((dj, .bool true) :: env) H (fun env H => (Out P G T own nt ρ C rs R) k .normal env H))) (rq : ∀ x : b = false, Imp (qb x) ((StG P G T own all) n m ex ⟨some d, op, ty, pos, after, some (j, want)⟩ ((dj, .bool false) :: env) H (fun env H => (Out P G T own nt ρ C rs R) k .normal env H))) : Imp (Fork (b = true) (b = false) qa qb) ((StG P G T own all) n m ex ⟨some d, op, ty, pos, after, some (j, want)⟩ env H (fun env H => (Out P G T own nt ρ C rs R) k .normal env H)) := Imp.fork (sg_B h1 h2) lq rq
theorem im_sg_D {dj : Nat} {want : Bool} {a : Prop} {inst : Decidable a} (h1 : (all[j]?).bind (·.dst) = some dj) (h2 : look env dj = some (.bool (decide a))) {qa : a → Prop} {qb : ¬ a → Prop} (lq : ∀ x : a, Imp (qa x) ((StG P G T own all) n m ex ⟨some d, op, ty, pos, after, some (j, want)⟩ ((dj, .bool true) :: env) H (fun env H => (Out P G T own nt ρ C rs R) k .normal env H))) (rq : ∀ x : ¬ a, Imp (qb x) ((StG P G T own all) n m ex ⟨some d, op, ty, pos, after, some (j, want)⟩ ((dj, .bool false) :: env) H (fun env H => (Out P G T own nt ρ C rs R) k .normal env H))) : Imp (Fork (a) (¬ a) qa qb) ((StG P G T own all) n m ex ⟨some d, op, ty, pos, after, some (j, want)⟩ env H (fun env H => (Out P G T own nt ρ C rs R) k .normal env H)) := Imp.fork (sg_D h1 h2) lq rq
theorem im_ld_B {dst : Option Nat} {dj : Nat} {want b : Bool} (h1 : (all[j]?).bind (·.dst) = some dj) (h2 : look env dj = some (.bool b)) {qa : b = true → Prop} {qb : b = false → Prop} (lq : ∀ x : b = true, Imp (qa x) ((Ld P G T own all) n m ex i0 ⟨dst, op, ty, pos, after, some (j, want)⟩ ((dj, .bool true) :: env) H (fun env H => (Out P G T own nt ρ C rs R) k .normal env H))) (rq : ∀ x : b = false, Imp (qb x) ((Ld P G T own all) n m ex i0 ⟨dst, op, ty, pos, after, some (j, want)⟩ ((dj, .bool false) :: env) H (fun env H => (Out P G T own nt ρ C rs R) k .normal env H))) : Imp (Fork (b = true) (b = false) qa qb) ((Ld P G T own all) n m ex i0 ⟨dst, op, ty, pos, after, some (j, want)⟩ env H (fun env H => (Out P G T own nt ρ C rs R) k .normal env H)) := Imp.fork (ld_B h1 h2) lq rq
theorem im_ld_D {dst : Option Nat} {dj : Nat} {want : Bool} {a : Prop} {inst : Decidable a} (h1 : (all[j]?).bind (·.dst) = some dj) (h2 : look env dj = some (.bool (decide a))) {qa : a → Prop} {qb : ¬ a → Prop} (lq : ∀ x : a, Imp (qa x) ((Ld P G T own all) n m ex i0 ⟨dst, op, ty, pos, after, some (j, want)⟩ ((dj, .bool true) :: env) H (fun env H => (Out P G T own nt ρ C rs R) k .normal env H))) (rq : ∀ x : ¬ a, Imp (qb x) ((Ld P G T own all) n m ex i0 ⟨dst, op, ty, pos, after, some (j, want)⟩ ((dj, .bool false) :: env) H (fun env H => (Out P G T own nt ρ C rs R) k .normal env H))) : Imp (Fork (a) (¬ a) qa qb) ((Ld P G T own all) n m ex i0 ⟨dst, op, ty, pos, after, some (j, want)⟩ env H (fun env H => (Out P G T own nt ρ C rs R) k .normal env H)) := Imp.fork (ld_D h1 h2) lq rq
theorem im_ld_X {dst : Option Nat} {dj : Nat} {want b1 w1 : Bool} {u : SV} (h1 : (all[j]?).bind (·.dst) = some dj) (h2 : look env dj = some (gv b1 w1 u)) {qa : b1 = true → Prop} {qb : b1 = false → Prop} (lq : ∀ x : b1 = true, Imp (qa x) ((Ld P G T own all) n m ex i0 ⟨dst, op, ty, pos, after, some (j, want)⟩ env H K)) (rq : ∀ x : b1 = false, Imp (qb x) ((Ld P G T own all) n m ex i0 ⟨dst, op, ty, pos, after, some (j, want)⟩ env H K)) : Imp (Fork (b1 = true) (b1 = false) qa qb) ((Ld P G T own all) n m ex i0 ⟨dst, op, ty, pos, after, some (j, want)⟩ env H K) := Imp.fork (fun l r => ld_X h1 h2 fun c e => by cases c with
  | true => exact l e
  | false => exact r e) lq rq
theorem im_dr_L2 {j2 : Nat} {o2 : Oper} (hf : firstQP own m ex 0 all = none) (hr : readyP m ex 0 all = [j, j2]) (ho : all[j]? = some o) (ho2 : all[j2]? = some o2) (lq : Imp qa ((Ld P G T own all) n m ex j o env H K)) (rq : Imp qb ((Ld P G T own all) n m ex j2 o2 env H K)) : Imp (Two qa qb) ((DrP P G T own all) (n + 1) m ex env H K) := Imp.two (dr_L2 hf hr ho ho2) lq rq
theorem im_callE2 {vr : SV} {H2 : List Blk} {r : List Oper} (h2 : evs G env args.toList = some xs) (hc : ACall P G g xs H (fun x H' => H' = H2 ∧ x = vr)) (hd : Nat.blt d nt = true) (kq : Imp qq (Out P G T own nt ρ C rs R (.ops all r :: k) .normal ((d, vr) :: env) H2)) : Imp qq (Out P G T own nt ρ C rs R (.ops all (⟨some d, .call ⟨.value (.func g), args, tys⟩, ty, pos, after, none⟩ :: r) :: k) .normal env H) :=
  Imp.via (fun hk => go_call h2 hd hc fun x H' hx => by obtain ⟨rfl, rfl⟩ := hx; exact hk) kq
theorem im_xcallE2 {vr : SV} {H2 : List Blk} (h2 : evs G env args.toList = some xs) (hc : ACall P G g xs H (fun x H' => H' = H2 ∧ x = vr)) (kq : Imp qq (kk vr H2)) : Imp qq (exG P G T own all ⟨dst, .call ⟨.value (.func g), args, tys⟩, ty, pos, after, none⟩ env H kk) :=
  Imp.via (fun hk => xg_call h2 hc fun x H' hx => by obtain ⟨rfl, rfl⟩ := hx; exact hk) kq
theorem im_callE {vr : SV} {H2 : List Blk} {r : List Oper} (hc : ACall P G g xs H (fun x H' => H' = H2 ∧ x = vr)) (h2 : evs G env args.toList = some xs) (hd : Nat.blt d nt = true) (kq : Imp qq (Out P G T own nt ρ C rs R (.ops all r :: k) .normal ((d, vr) :: env) H2)) : Imp qq (Out P G T own nt ρ C rs R (.ops all (⟨some d, .call ⟨.value (.func g), args, tys⟩, ty, pos, after, none⟩ :: r) :: k) .normal env H) :=
  Imp.via (fun hk => go_call h2 hd hc fun x H' hx => by obtain ⟨rfl, rfl⟩ := hx; exact hk) kq
theorem im_xcallE {vr : SV} {H2 : List Blk} (hc : ACall P G g xs H (fun x H' => H' = H2 ∧ x = vr)) (h2 : evs G env args.toList = some xs) (kq : Imp qq (kk vr H2)) : Imp qq (exG P G T own all ⟨dst, .call ⟨.value (.func g), args, tys⟩, ty, pos, after, none⟩ env H kk) :=
  Imp.via (fun hk => xg_call h2 hc fun x H' hx => by obtain ⟨rfl, rfl⟩ := hx; exact hk) kq
theorem im_callC {vr : SV} {H2 : List Blk} {r : List Oper} (h1 : ev G env f = some fv) (h2 : evs G env args.toList = some xs) (hc : ACallV P G fv xs H (fun x H' => H' = H2 ∧ x = vr)) (hd : Nat.blt d nt = true) (kq : Imp qq (Out P G T own nt ρ C rs R (.ops all r :: k) .normal ((d, vr) :: env) H2)) : Imp qq (Out P G T own nt ρ C rs R (.ops all (⟨some d, .call ⟨.value f, args, tys⟩, ty, pos, after, none⟩ :: r) :: k) .normal env H) :=
  Imp.via (fun hk => go_callV h1 h2 hd hc fun x H' hx => by obtain ⟨rfl, rfl⟩ := hx; exact hk) kq
theorem im_xcallC {vr : SV} {H2 : List Blk} (h1 : ev G env f = some fv) (h2 : evs G env args.toList = some xs) (hc : ACallV P G fv xs H (fun x H' => H' = H2 ∧ x = vr)) (kq : Imp qq (kk vr H2)) : Imp qq (exG P G T own all ⟨dst, .call ⟨.value f, args, tys⟩, ty, pos, after, none⟩ env H kk) :=
  Imp.via (fun hk => xg_callV h1 h2 hc fun x H' hx => by obtain ⟨rfl, rfl⟩ := hx; exact hk) kq
end
attribute [go_sem ↓] gv_T
attribute [go_sem ↓] gv_F
attribute [go_sem ↓] gv_dT
attribute [go_sem ↓] gv_dF
attribute [go_sem] gv_tt
attribute [go_sem] gv_ff
attribute [go_sem] gv_tf
attribute [go_sem] gv_ft
attribute [go_sem] pk_true
attribute [go_sem] pk_false
attribute [go_sem] pk_gvT
attribute [go_sem] pk_gvF
attribute [go_sem] pk_bT
attribute [go_sem] pk_bF
attribute [go_sem] pk_bTr
attribute [go_sem] pk_bFl
attribute [go_sem] qv
attribute [go_sem] lv
attribute [go_sem ↓] ob_some
attribute [go_sem ↓] bb_true
attribute [go_sem ↓] bb_false
attribute [go_sem ↓] chk_true
attribute [go_sem] and_self
attribute [go_sem] and_true
attribute [go_sem] true_and
attribute [go_sem] beq_self_eq_true
attribute [go_sem] beq_true
attribute [go_sem] beq_false
attribute [go_sem] Bool.and_true
attribute [go_sem] Bool.true_and
attribute [go_sem] Bool.and_self
attribute [go_sem] Bool.and_false
attribute [go_sem] Bool.false_and
attribute [go_sem] Bool.or_true
attribute [go_sem] Bool.true_or
attribute [go_sem] Bool.or_false
attribute [go_sem] Bool.false_or
attribute [go_sem] Bool.not_true
attribute [go_sem] Bool.not_false
attribute [go_sem] Int.toNat_natCast
attribute [go_sem] decide_not'
attribute [go_sem] ne_eq
attribute [go_sem] not_true_eq_false
attribute [go_sem] not_false_eq_true
attribute [go_sem ↓] binV.eq_def
attribute [go_sem ↓] unV.eq_def
attribute [go_sem ↓] appV.eq_def
attribute [go_sem ↓] lenV.eq_def
attribute [go_sem ↓] putK.eq_def
attribute [go_sem ↓] copyV.eq_def
attribute [go_sem ↓] clearV.eq_def
attribute [go_sem ↓] evs.eq_1
attribute [go_sem ↓] evs.eq_2
attribute [go_sem ↓] look.eq_1
attribute [go_sem ↓] look.eq_2
attribute [go_sem ↓] isIn.eq_1
attribute [go_sem ↓] isIn.eq_2
attribute [go_sem ↓] initEnv.eq_1
attribute [go_sem ↓] initEnv.eq_2
attribute [go_sem ↓] putAll.eq_1
attribute [go_sem ↓] putAll.eq_2
attribute [go_sem ↓] fillAll.eq_1
attribute [go_sem ↓] fillAll.eq_2
attribute [go_sem ↓] findSV.eq_1
attribute [go_sem ↓] findSV.eq_2
attribute [go_sem ↓] setSV.eq_1
attribute [go_sem ↓] setSV.eq_2
attribute [go_sem ↓] resL.eq_1
attribute [go_sem ↓] resL.eq_2
attribute [go_sem ↓] codeT.eq_1
attribute [go_sem ↓] codeT.eq_2
attribute [go_sem ↓] codeSV.eq_1
attribute [go_sem ↓] codeSV.eq_2
attribute [go_sem ↓] eqSL.eq_1
attribute [go_sem ↓] eqSL.eq_2
attribute [go_sem ↓] resL.eq_3
attribute [go_sem ↓] ev.eq_def
attribute [go_sem ↓] asB.eq_def
attribute [go_sem ↓] asI.eq_def
attribute [go_sem ↓] loadSV.eq_def
attribute [go_sem ↓] storeSV.eq_def
attribute [go_sem ↓] sub.eq_def
attribute [go_sem ↓] fits.eq_def
attribute [go_sem ↓] seqOf.eq_def
attribute [go_sem ↓] elemOf.eq_def
attribute [go_sem ↓] arrOf.eq_def
attribute [go_sem ↓] isPtr.eq_def
attribute [go_sem ↓] fieldOf.eq_def
attribute [go_sem ↓] lenFits.eq_def
attribute [go_sem ↓] lenSV.eq_def
attribute [go_sem ↓] cutSV.eq_def
attribute [go_sem ↓] szOK.eq_def
attribute [go_sem ↓] okPtr.eq_def
attribute [go_sem ↓] fieldPtr.eq_def
attribute [go_sem ↓] boundOf.eq_def
attribute [go_sem ↓] kindT.eq_def
attribute [go_sem ↓] isMapB.eq_def
attribute [go_sem ↓] slLen.eq_def
attribute [go_sem ↓] nilH.eq_def
attribute [go_sem ↓] isNilC.eq_def
attribute [go_sem ↓] fieldsKnown.eq_def
attribute [go_sem ↓] partsOf.eq_def
attribute [go_sem ↓] subPut.eq_def
attribute [go_sem ↓] resSV.eq_def
attribute [go_sem ↓] SV.isAgg.eq_def
attribute [go_sem ↓] SV.leaf.eq_def
attribute [go_sem ↓] SV.size.eq_def
attribute [go_sem ↓] TD.agg.eq_def
attribute [go_sem ↓] blkOf.eq_def
attribute [go_sem ↓] mapOf.eq_def
attribute [go_sem ↓] mapTypes.eq_def
attribute [go_sem ↓] keyIs.eq_def
attribute [go_sem ↓] eqSV.eq_def
attribute [go_sem ↓] digSV.eq_def
attribute [go_sem ↓] digT.eq_def
attribute [go_sem ↓] capSV.eq_def
attribute [go_sem ↓] isU8.eq_def
attribute [go_sem ↓] sliceU8.eq_def
attribute [go_sem] constSV_i64
attribute [go_sem] constSV_u8
attribute [go_sem] constSV_bool
attribute [go_sem] constSV_nil
attribute [go_sem] constSV_nilptr
attribute [go_sem] constSV_nilmap
attribute [go_sem] Option.bind_some
attribute [go_sem] Option.isSome_some
attribute [go_sem] List.length_map
attribute [go_sem] List.length_cons
attribute [go_sem] List.length_nil
attribute [go_sem] List.getElem?_map
attribute [go_sem] List.getElem?_eq_getElem
attribute [go_sem] Int.natCast_nonneg
attribute [go_sem] List.getElem?_cons_zero
attribute [go_sem] List.getElem?_cons_succ
attribute [go_sem] Option.map_some
attribute [go_sem] wrap_i64
attribute [go_sem] get_app0
attribute [go_sem] get_app
attribute [go_sem] set_app0
attribute [go_sem] set_app
attribute [go_sem] get_app0S
attribute [go_sem] get_appS
attribute [go_sem] set_app0S
attribute [go_sem] set_appS
attribute [go_sem] get_app0SS
attribute [go_sem] get_appSS
attribute [go_sem] set_app0SS
attribute [go_sem] set_appSS
attribute [go_sem] get_oldS
attribute [go_sem] set_oldS
attribute [go_sem] get_old
attribute [go_sem] set_old
attribute [go_sem] List.set_set
attribute [go_sem] List.getElem?_set_self
attribute [go_sem] List.length_set
attribute [go_sem] List.append_assoc
attribute [go_sem] List.cons_append
attribute [go_sem] List.nil_append
attribute [go_sem] List.length_append
attribute [go_sem] Nat.add_assoc
attribute [go_sem] List.set_cons_zero
attribute [go_sem] List.set_cons_succ
attribute [go_sem] Ex.cells_len
attribute [go_sem] Bd.cells_len
attribute [go_sem] Al.cells_len
attribute [go_sem] Ex.cells_take
attribute [go_sem] Ex.sv
attribute [go_sem] Ex.cells.eq_1
attribute [go_sem] exCells_len
attribute [go_sem] bdCells_len
attribute [go_sem] alCells_len
attribute [go_sem] exCells_get
attribute [go_sem] bdCells_get
attribute [go_sem] alCells_get
attribute [go_sem] List.drop_zero
attribute [go_sem] List.drop_succ_cons
attribute [go_sem] int_le_true
attribute [go_sem] nat_le_true
attribute [go_sem] nat_lt_true
attribute [go_sem] List.take_succ_cons
attribute [go_sem] List.take_zero
attribute [go_sem] List.replicate_succ
attribute [go_sem] List.replicate_zero
attribute [go_sem] List.length_take
attribute [go_sem] Nat.zero_add
attribute [go_sem] Nat.lt_one_iff
attribute [go_sem] true_or
attribute [go_sem] or_true
attribute [go_sem] false_and
attribute [go_sem] and_false
attribute [go_sem] List.length_replicate
attribute [go_sem] strOf_bytes
theorem constSV_s0 : constSV (.string (ByteArray.mk #[])) = some (.str []) := by simp [constSV, constCell, maxLen]
attribute [go_sem] constSV_s0
theorem constSV_s1 (a0 : UInt8) : constSV (.string (ByteArray.mk #[a0])) = some (.str [a0]) := by simp [constSV, constCell, maxLen]
attribute [go_sem] constSV_s1
theorem constSV_s2 (a0 a1 : UInt8) : constSV (.string (ByteArray.mk #[a0, a1])) = some (.str [a0, a1]) := by simp [constSV, constCell, maxLen]
attribute [go_sem] constSV_s2
theorem constSV_s3 (a0 a1 a2 : UInt8) : constSV (.string (ByteArray.mk #[a0, a1, a2])) = some (.str [a0, a1, a2]) := by simp [constSV, constCell, maxLen]
attribute [go_sem] constSV_s3
theorem constSV_s4 (a0 a1 a2 a3 : UInt8) : constSV (.string (ByteArray.mk #[a0, a1, a2, a3])) = some (.str [a0, a1, a2, a3]) := by simp [constSV, constCell, maxLen]
attribute [go_sem] constSV_s4
theorem constSV_s5 (a0 a1 a2 a3 a4 : UInt8) : constSV (.string (ByteArray.mk #[a0, a1, a2, a3, a4])) = some (.str [a0, a1, a2, a3, a4]) := by simp [constSV, constCell, maxLen]
attribute [go_sem] constSV_s5
theorem constSV_s6 (a0 a1 a2 a3 a4 a5 : UInt8) : constSV (.string (ByteArray.mk #[a0, a1, a2, a3, a4, a5])) = some (.str [a0, a1, a2, a3, a4, a5]) := by simp [constSV, constCell, maxLen]
attribute [go_sem] constSV_s6
theorem constSV_s7 (a0 a1 a2 a3 a4 a5 a6 : UInt8) : constSV (.string (ByteArray.mk #[a0, a1, a2, a3, a4, a5, a6])) = some (.str [a0, a1, a2, a3, a4, a5, a6]) := by simp [constSV, constCell, maxLen]
attribute [go_sem] constSV_s7
theorem constSV_s8 (a0 a1 a2 a3 a4 a5 a6 a7 : UInt8) : constSV (.string (ByteArray.mk #[a0, a1, a2, a3, a4, a5, a6, a7])) = some (.str [a0, a1, a2, a3, a4, a5, a6, a7]) := by simp [constSV, constCell, maxLen]
attribute [go_sem] constSV_s8
theorem constSV_s9 (a0 a1 a2 a3 a4 a5 a6 a7 a8 : UInt8) : constSV (.string (ByteArray.mk #[a0, a1, a2, a3, a4, a5, a6, a7, a8])) = some (.str [a0, a1, a2, a3, a4, a5, a6, a7, a8]) := by simp [constSV, constCell, maxLen]
attribute [go_sem] constSV_s9
theorem constSV_s10 (a0 a1 a2 a3 a4 a5 a6 a7 a8 a9 : UInt8) : constSV (.string (ByteArray.mk #[a0, a1, a2, a3, a4, a5, a6, a7, a8, a9])) = some (.str [a0, a1, a2, a3, a4, a5, a6, a7, a8, a9]) := by simp [constSV, constCell, maxLen]
attribute [go_sem] constSV_s10
theorem constSV_s11 (a0 a1 a2 a3 a4 a5 a6 a7 a8 a9 a10 : UInt8) : constSV (.string (ByteArray.mk #[a0, a1, a2, a3, a4, a5, a6, a7, a8, a9, a10])) = some (.str [a0, a1, a2, a3, a4, a5, a6, a7, a8, a9, a10]) := by simp [constSV, constCell, maxLen]
attribute [go_sem] constSV_s11
theorem constSV_s12 (a0 a1 a2 a3 a4 a5 a6 a7 a8 a9 a10 a11 : UInt8) : constSV (.string (ByteArray.mk #[a0, a1, a2, a3, a4, a5, a6, a7, a8, a9, a10, a11])) = some (.str [a0, a1, a2, a3, a4, a5, a6, a7, a8, a9, a10, a11]) := by simp [constSV, constCell, maxLen]
attribute [go_sem] constSV_s12
theorem constSV_s13 (a0 a1 a2 a3 a4 a5 a6 a7 a8 a9 a10 a11 a12 : UInt8) : constSV (.string (ByteArray.mk #[a0, a1, a2, a3, a4, a5, a6, a7, a8, a9, a10, a11, a12])) = some (.str [a0, a1, a2, a3, a4, a5, a6, a7, a8, a9, a10, a11, a12]) := by simp [constSV, constCell, maxLen]
attribute [go_sem] constSV_s13
theorem constSV_s14 (a0 a1 a2 a3 a4 a5 a6 a7 a8 a9 a10 a11 a12 a13 : UInt8) : constSV (.string (ByteArray.mk #[a0, a1, a2, a3, a4, a5, a6, a7, a8, a9, a10, a11, a12, a13])) = some (.str [a0, a1, a2, a3, a4, a5, a6, a7, a8, a9, a10, a11, a12, a13]) := by simp [constSV, constCell, maxLen]
attribute [go_sem] constSV_s14
theorem constSV_s15 (a0 a1 a2 a3 a4 a5 a6 a7 a8 a9 a10 a11 a12 a13 a14 : UInt8) : constSV (.string (ByteArray.mk #[a0, a1, a2, a3, a4, a5, a6, a7, a8, a9, a10, a11, a12, a13, a14])) = some (.str [a0, a1, a2, a3, a4, a5, a6, a7, a8, a9, a10, a11, a12, a13, a14]) := by simp [constSV, constCell, maxLen]
attribute [go_sem] constSV_s15
theorem constSV_s16 (a0 a1 a2 a3 a4 a5 a6 a7 a8 a9 a10 a11 a12 a13 a14 a15 : UInt8) : constSV (.string (ByteArray.mk #[a0, a1, a2, a3, a4, a5, a6, a7, a8, a9, a10, a11, a12, a13, a14, a15])) = some (.str [a0, a1, a2, a3, a4, a5, a6, a7, a8, a9, a10, a11, a12, a13, a14, a15]) := by simp [constSV, constCell, maxLen]
attribute [go_sem] constSV_s16
theorem constSV_s17 (a0 a1 a2 a3 a4 a5 a6 a7 a8 a9 a10 a11 a12 a13 a14 a15 a16 : UInt8) : constSV (.string (ByteArray.mk #[a0, a1, a2, a3, a4, a5, a6, a7, a8, a9, a10, a11, a12, a13, a14, a15, a16])) = some (.str [a0, a1, a2, a3, a4, a5, a6, a7, a8, a9, a10, a11, a12, a13, a14, a15, a16]) := by simp [constSV, constCell, maxLen]
attribute [go_sem] constSV_s17
theorem constSV_s18 (a0 a1 a2 a3 a4 a5 a6 a7 a8 a9 a10 a11 a12 a13 a14 a15 a16 a17 : UInt8) : constSV (.string (ByteArray.mk #[a0, a1, a2, a3, a4, a5, a6, a7, a8, a9, a10, a11, a12, a13, a14, a15, a16, a17])) = some (.str [a0, a1, a2, a3, a4, a5, a6, a7, a8, a9, a10, a11, a12, a13, a14, a15, a16, a17]) := by simp [constSV, constCell, maxLen]
attribute [go_sem] constSV_s18
theorem constSV_s19 (a0 a1 a2 a3 a4 a5 a6 a7 a8 a9 a10 a11 a12 a13 a14 a15 a16 a17 a18 : UInt8) : constSV (.string (ByteArray.mk #[a0, a1, a2, a3, a4, a5, a6, a7, a8, a9, a10, a11, a12, a13, a14, a15, a16, a17, a18])) = some (.str [a0, a1, a2, a3, a4, a5, a6, a7, a8, a9, a10, a11, a12, a13, a14, a15, a16, a17, a18]) := by simp [constSV, constCell, maxLen]
attribute [go_sem] constSV_s19
theorem constSV_s20 (a0 a1 a2 a3 a4 a5 a6 a7 a8 a9 a10 a11 a12 a13 a14 a15 a16 a17 a18 a19 : UInt8) : constSV (.string (ByteArray.mk #[a0, a1, a2, a3, a4, a5, a6, a7, a8, a9, a10, a11, a12, a13, a14, a15, a16, a17, a18, a19])) = some (.str [a0, a1, a2, a3, a4, a5, a6, a7, a8, a9, a10, a11, a12, a13, a14, a15, a16, a17, a18, a19]) := by simp [constSV, constCell, maxLen]
attribute [go_sem] constSV_s20
theorem constSV_s21 (a0 a1 a2 a3 a4 a5 a6 a7 a8 a9 a10 a11 a12 a13 a14 a15 a16 a17 a18 a19 a20 : UInt8) : constSV (.string (ByteArray.mk #[a0, a1, a2, a3, a4, a5, a6, a7, a8, a9, a10, a11, a12, a13, a14, a15, a16, a17, a18, a19, a20])) = some (.str [a0, a1, a2, a3, a4, a5, a6, a7, a8, a9, a10, a11, a12, a13, a14, a15, a16, a17, a18, a19, a20]) := by simp [constSV, constCell, maxLen]
attribute [go_sem] constSV_s21
theorem constSV_s22 (a0 a1 a2 a3 a4 a5 a6 a7 a8 a9 a10 a11 a12 a13 a14 a15 a16 a17 a18 a19 a20 a21 : UInt8) : constSV (.string (ByteArray.mk #[a0, a1, a2, a3, a4, a5, a6, a7, a8, a9, a10, a11, a12, a13, a14, a15, a16, a17, a18, a19, a20, a21])) = some (.str [a0, a1, a2, a3, a4, a5, a6, a7, a8, a9, a10, a11, a12, a13, a14, a15, a16, a17, a18, a19, a20, a21]) := by simp [constSV, constCell, maxLen]
attribute [go_sem] constSV_s22
theorem constSV_s23 (a0 a1 a2 a3 a4 a5 a6 a7 a8 a9 a10 a11 a12 a13 a14 a15 a16 a17 a18 a19 a20 a21 a22 : UInt8) : constSV (.string (ByteArray.mk #[a0, a1, a2, a3, a4, a5, a6, a7, a8, a9, a10, a11, a12, a13, a14, a15, a16, a17, a18, a19, a20, a21, a22])) = some (.str [a0, a1, a2, a3, a4, a5, a6, a7, a8, a9, a10, a11, a12, a13, a14, a15, a16, a17, a18, a19, a20, a21, a22]) := by simp [constSV, constCell, maxLen]
attribute [go_sem] constSV_s23
theorem constSV_s24 (a0 a1 a2 a3 a4 a5 a6 a7 a8 a9 a10 a11 a12 a13 a14 a15 a16 a17 a18 a19 a20 a21 a22 a23 : UInt8) : constSV (.string (ByteArray.mk #[a0, a1, a2, a3, a4, a5, a6, a7, a8, a9, a10, a11, a12, a13, a14, a15, a16, a17, a18, a19, a20, a21, a22, a23])) = some (.str [a0, a1, a2, a3, a4, a5, a6, a7, a8, a9, a10, a11, a12, a13, a14, a15, a16, a17, a18, a19, a20, a21, a22, a23]) := by simp [constSV, constCell, maxLen]
attribute [go_sem] constSV_s24
theorem take_mapAll {α β : Type} (l : List α) (f : α → β) : (l.map f).take l.length = l.map f := List.take_of_length_le (by simp)
attribute [go_sem] take_mapAll List.getElem?_take_of_lt List.getElem?_drop
theorem constSV_nilI : constSV .nilIface = some (.ifc true) := rfl
attribute [go_sem] constSV_nilI
attribute [go_sem ↓] isNilI.eq_def
attribute [go_sem ↓] ifcV.eq_def
attribute [go_sem ↓] isIfc.eq_def
theorem evS {p : Prop} (h : p := by (simp -implicitDefEqProofs (disch := first | assumption | omega) only [go_sem, X, Int.reduceToNat, Nat.reduceAdd, Nat.reduceSub, Nat.reduceMul, Nat.reduceLT, Nat.reduceLeDiff, Nat.reduceEqDiff, Nat.reduceBEq, Nat.reduceBNe, ↓reduceIte, reduceCtorEq] <;> rfl)) : p := h
theorem evS1 {p : Prop} (h : p := by intro hw1; have hw1p := hw1; (try simp only [Bool.and_eq_true, Bool.or_eq_true, decide_eq_true_eq, decide_eq_false_iff_not, Bool.not_eq_true', Bool.and_eq_false_iff, Bool.or_eq_false_iff, Bool.not_eq_false'] at hw1p); exact evS) : p := h
theorem evS2 {p : Prop} (h : p := by intro hw1 hw2; have hw1p := hw1; (try simp only [Bool.and_eq_true, Bool.or_eq_true, decide_eq_true_eq, decide_eq_false_iff_not, Bool.not_eq_true', Bool.and_eq_false_iff, Bool.or_eq_false_iff, Bool.not_eq_false'] at hw1p); have hw2p := hw2; (try simp only [Bool.and_eq_true, Bool.or_eq_true, decide_eq_true_eq, decide_eq_false_iff_not, Bool.not_eq_true', Bool.and_eq_false_iff, Bool.or_eq_false_iff, Bool.not_eq_false'] at hw2p); exact evS) : p := h
theorem evS3 {p : Prop} (h : p := by intro hw1 hw2 hw3; have hw1p := hw1; (try simp only [Bool.and_eq_true, Bool.or_eq_true, decide_eq_true_eq, decide_eq_false_iff_not, Bool.not_eq_true', Bool.and_eq_false_iff, Bool.or_eq_false_iff, Bool.not_eq_false'] at hw1p); have hw2p := hw2; (try simp only [Bool.and_eq_true, Bool.or_eq_true, decide_eq_true_eq, decide_eq_false_iff_not, Bool.not_eq_true', Bool.and_eq_false_iff, Bool.or_eq_false_iff, Bool.not_eq_false'] at hw2p); have hw3p := hw3; (try simp only [Bool.and_eq_true, Bool.or_eq_true, decide_eq_true_eq, decide_eq_false_iff_not, Bool.not_eq_true', Bool.and_eq_false_iff, Bool.or_eq_false_iff, Bool.not_eq_false'] at hw3p); exact evS) : p := h
theorem agS {p : Prop} (h : p := by repeat' (first | exact ag_nil | ((with_reducible apply ag_c0); (· rfl); (· rfl); (· exact evS)) | ((with_reducible apply ag_cR); (· rfl); (· rfl); (· rfl); (· rfl); (· exact evS); (· first | rfl | (simp (disch := first | assumption | omega) only [gv_T, gv_F, gv_dT, gv_dF]; done))) | ((with_reducible apply ag_cS); (· rfl); (· rfl); (· rfl); (· rfl); (· rfl); (· rfl); (· first | rfl | (simp (disch := first | assumption | omega) only [gv_T, gv_F, gv_dT, gv_dF, gv_dTu, gv_dFu, gv_Tu, gv_Fu]; done))) | ((with_reducible apply ag_cM1); (· rfl); (· rfl); (· rfl); (· rfl); (· exact evS1)) | ((with_reducible apply ag_cM2); (· rfl); (· rfl); (· rfl); (· rfl); (· exact evS2)) | ((with_reducible apply ag_cM3); (· rfl); (· rfl); (· rfl); (· rfl); (· exact evS3)) | fail)) : p := h
theorem under_ints {n : Nat} {k : IntKind} (l : List Int) : SV.underL n (l.map (SV.int k)) = true := SV.underL_map fun _ _ => rfl
theorem under_bools {n : Nat} (l : List Bool) : SV.underL n (l.map SV.bool) = true := SV.underL_map fun _ _ => rfl
theorem hbS {p : Prop} (h : p := by (first | rfl | (simp only [X, get_app0, get_app, get_app0S, get_appS, get_app0SS, get_appSS, get_old, List.getElem?_cons_zero, List.getElem?_cons_succ, List.append_assoc, List.cons_append, List.nil_append, List.length_set] <;> rfl) | (simp only [get_app0, get_app, get_app0S, get_appS, get_app0SS, get_appSS, get_old, List.getElem?_cons_zero, List.getElem?_cons_succ, List.append_assoc, List.cons_append, List.nil_append, List.length_set] <;> rfl))) : p := h
theorem SV.underL_replicate {n m : Nat} {x : SV} (h : x.under n = true) : SV.underL n (List.replicate m x) = true := by
  induction m with
  | zero => rfl
  | succ m ih => rw [List.replicate_succ]; simp only [SV.underL, h, ih, Bool.and_self]
theorem undS {p : Prop} (h : p := by (first | rfl | assumption | (simp only [SV.under.eq_def, SV.underL.eq_1, SV.underL.eq_2, Ex.cells_under, exCells_under, bdCells_under, alCells_under, strs_under, Ex.sv_under, Bool.and_true, Bool.true_and, Bool.and_self, decide_eq_true_eq, Nat.zero_le, List.drop_zero, Function.comp_def, SV.underL_append, under_mstr, under_mint, under_mbool, under_bde, under_alb, under_ints, under_bools, List.drop_succ_cons] <;> omega) | exact SV.underL_map fun _ _ => rfl | ((try simp only [List.drop_zero, SV.underL_append, SV.underL.eq_2, SV.underL.eq_1, SV.under.eq_def, Bool.and_true, Bool.and_self, Bool.and_eq_true, decide_eq_true_eq]) <;> (repeat' (first | exact True.intro | refine And.intro ?_ ?_ | exact SV.underL_map fun _ _ => rfl | exact SV.underL_replicate rfl | rfl | omega)) <;> fail))) : p := h
theorem FrzE.same {H : List Blk} {n : Nat} {ks : Keep} : ∀ {es : List (SV × SV)}, belowE n es = true → FrzE H n ks es es
  | [], _ => .nil
  | (k, x) :: es, h => by
    simp only [belowE, Bool.and_eq_true] at h
    exact .cons _ _ _ _ _ h.1.1 (.same _ h.1.2) (FrzE.same h.2)
theorem frzLT {p : Prop} (h : p := by repeat' (first | exact FrzL.nil | (refine FrzL.cons _ _ _ _ ?_ ?_) | (first | (apply Frz.same; exact undS) | exact Frz.nil _ | (apply Frz.int; omega) | (apply Frz.kp 0 rfl; (· exact hbS); (· omega); (· omega); (· omega)) | (apply Frz.kp 1 rfl; (· exact hbS); (· omega); (· omega); (· omega)) | (apply Frz.kp 2 rfl; (· exact hbS); (· omega); (· omega); (· omega)) | (apply Frz.kp 3 rfl; (· exact hbS); (· omega); (· omega); (· omega)) | (apply Frz.kp 4 rfl; (· exact hbS); (· omega); (· omega); (· omega)) | (apply Frz.kp 5 rfl; (· exact hbS); (· omega); (· omega); (· omega)) | (apply Frz.kp 6 rfl; (· exact hbS); (· omega); (· omega); (· omega)) | (apply Frz.kp 7 rfl; (· exact hbS); (· omega); (· omega); (· omega)) | (apply Frz.ks 0 rfl; (· exact hbS); (· omega); (· omega); (· omega); (· omega)) | (apply Frz.ks 1 rfl; (· exact hbS); (· omega); (· omega); (· omega); (· omega)) | (apply Frz.ks 2 rfl; (· exact hbS); (· omega); (· omega); (· omega); (· omega)) | (apply Frz.ks 3 rfl; (· exact hbS); (· omega); (· omega); (· omega); (· omega)) | (apply Frz.ks 4 rfl; (· exact hbS); (· omega); (· omega); (· omega); (· omega)) | (apply Frz.ks 5 rfl; (· exact hbS); (· omega); (· omega); (· omega); (· omega)) | (apply Frz.ks 6 rfl; (· exact hbS); (· omega); (· omega); (· omega); (· omega)) | (apply Frz.ks 7 rfl; (· exact hbS); (· omega); (· omega); (· omega); (· omega)) | (apply Frz.km 0 rfl; (· exact hbS); (· omega)) | (apply Frz.km 1 rfl; (· exact hbS); (· omega)) | (apply Frz.km 2 rfl; (· exact hbS); (· omega)) | (apply Frz.km 3 rfl; (· exact hbS); (· omega)) | (apply Frz.km 4 rfl; (· exact hbS); (· omega)) | (apply Frz.km 5 rfl; (· exact hbS); (· omega)) | (apply Frz.km 6 rfl; (· exact hbS); (· omega)) | (apply Frz.km 7 rfl; (· exact hbS); (· omega)) | (apply Frz.sf; (· exact hbS); (· omega); (· simp <;> omega); (· first | rfl | (simp [Function.comp_def, List.take_of_length_le]; done)); (· exact undS)) | fail))) : p := h
theorem frzLS {p : Prop} (h : p := by repeat' (first | exact FrzL.nil | (refine FrzL.cons _ _ _ _ ?_ ?_) | (first | (apply Frz.same; exact undS) | exact Frz.nil _ | (apply Frz.int; omega) | (apply Frz.kp 0 rfl; (· exact hbS); (· omega); (· omega); (· omega)) | (apply Frz.kp 1 rfl; (· exact hbS); (· omega); (· omega); (· omega)) | (apply Frz.kp 2 rfl; (· exact hbS); (· omega); (· omega); (· omega)) | (apply Frz.kp 3 rfl; (· exact hbS); (· omega); (· omega); (· omega)) | (apply Frz.kp 4 rfl; (· exact hbS); (· omega); (· omega); (· omega)) | (apply Frz.kp 5 rfl; (· exact hbS); (· omega); (· omega); (· omega)) | (apply Frz.kp 6 rfl; (· exact hbS); (· omega); (· omega); (· omega)) | (apply Frz.kp 7 rfl; (· exact hbS); (· omega); (· omega); (· omega)) | (apply Frz.ks 0 rfl; (· exact hbS); (· omega); (· omega); (· omega); (· omega)) | (apply Frz.ks 1 rfl; (· exact hbS); (· omega); (· omega); (· omega); (· omega)) | (apply Frz.ks 2 rfl; (· exact hbS); (· omega); (· omega); (· omega); (· omega)) | (apply Frz.ks 3 rfl; (· exact hbS); (· omega); (· omega); (· omega); (· omega)) | (apply Frz.ks 4 rfl; (· exact hbS); (· omega); (· omega); (· omega); (· omega)) | (apply Frz.ks 5 rfl; (· exact hbS); (· omega); (· omega); (· omega); (· omega)) | (apply Frz.ks 6 rfl; (· exact hbS); (· omega); (· omega); (· omega); (· omega)) | (apply Frz.ks 7 rfl; (· exact hbS); (· omega); (· omega); (· omega); (· omega)) | (apply Frz.km 0 rfl; (· exact hbS); (· omega)) | (apply Frz.km 1 rfl; (· exact hbS); (· omega)) | (apply Frz.km 2 rfl; (· exact hbS); (· omega)) | (apply Frz.km 3 rfl; (· exact hbS); (· omega)) | (apply Frz.km 4 rfl; (· exact hbS); (· omega)) | (apply Frz.km 5 rfl; (· exact hbS); (· omega)) | (apply Frz.km 6 rfl; (· exact hbS); (· omega)) | (apply Frz.km 7 rfl; (· exact hbS); (· omega)) | (apply Frz.sf; (· exact hbS); (· omega); (· simp <;> omega); (· first | rfl | (simp [Function.comp_def, List.take_of_length_le]; done)); (· exact undS)) | (apply Frz.agg; exact frzLT) | fail))) : p := h
theorem frzS {p : Prop} (h : p := by repeat' (first | exact True.intro | exact KeepB.nil | (refine And.intro ⟨_, rfl, ?_⟩ ?_) | (apply KeepB.c; (· exact hbS); (· omega); (· first | omega | (simp <;> omega)); (· first | (apply FrzL.same; exact undS) | exact frzLS)) | (apply KeepB.m; (· exact hbS); (· omega); (· first | exact FrzE.same (esB_under _ _) | exact FrzE.same (esO_under _ _) | (apply FrzE.same; rfl))) | (first | (apply Frz.same; exact undS) | exact Frz.nil _ | (apply Frz.int; omega) | (apply Frz.kp 0 rfl; (· exact hbS); (· omega); (· omega); (· omega)) | (apply Frz.kp 1 rfl; (· exact hbS); (· omega); (· omega); (· omega)) | (apply Frz.kp 2 rfl; (· exact hbS); (· omega); (· omega); (· omega)) | (apply Frz.kp 3 rfl; (· exact hbS); (· omega); (· omega); (· omega)) | (apply Frz.kp 4 rfl; (· exact hbS); (· omega); (· omega); (· omega)) | (apply Frz.kp 5 rfl; (· exact hbS); (· omega); (· omega); (· omega)) | (apply Frz.kp 6 rfl; (· exact hbS); (· omega); (· omega); (· omega)) | (apply Frz.kp 7 rfl; (· exact hbS); (· omega); (· omega); (· omega)) | (apply Frz.ks 0 rfl; (· exact hbS); (· omega); (· omega); (· omega); (· omega)) | (apply Frz.ks 1 rfl; (· exact hbS); (· omega); (· omega); (· omega); (· omega)) | (apply Frz.ks 2 rfl; (· exact hbS); (· omega); (· omega); (· omega); (· omega)) | (apply Frz.ks 3 rfl; (· exact hbS); (· omega); (· omega); (· omega); (· omega)) | (apply Frz.ks 4 rfl; (· exact hbS); (· omega); (· omega); (· omega); (· omega)) | (apply Frz.ks 5 rfl; (· exact hbS); (· omega); (· omega); (· omega); (· omega)) | (apply Frz.ks 6 rfl; (· exact hbS); (· omega); (· omega); (· omega); (· omega)) | (apply Frz.ks 7 rfl; (· exact hbS); (· omega); (· omega); (· omega); (· omega)) | (apply Frz.km 0 rfl; (· exact hbS); (· omega)) | (apply Frz.km 1 rfl; (· exact hbS); (· omega)) | (apply Frz.km 2 rfl; (· exact hbS); (· omega)) | (apply Frz.km 3 rfl; (· exact hbS); (· omega)) | (apply Frz.km 4 rfl; (· exact hbS); (· omega)) | (apply Frz.km 5 rfl; (· exact hbS); (· omega)) | (apply Frz.km 6 rfl; (· exact hbS); (· omega)) | (apply Frz.km 7 rfl; (· exact hbS); (· omega)) | (apply Frz.sf; (· exact hbS); (· omega); (· simp <;> omega); (· first | rfl | (simp [Function.comp_def, List.take_of_length_le]; done)); (· exact undS)) | (apply Frz.agg; exact frzLS) | fail) | fail)) : p := h
theorem run {qq p : Prop} (k : qq) (h : Imp qq p := by
  repeat' (first
    | ((with_reducible apply im_go_seq))
    | ((with_reducible apply im_go_q); (· exact evS); (· rfl))
    | ((with_reducible apply im_go_nil))
    | ((with_reducible apply im_go_region); (· exact tabOK); (· first | (simp only [List.append_eq, List.cons_append, List.nil_append]; rfl) | rfl))
    | ((with_reducible apply im_go_skip))
    | ((with_reducible apply im_go_condT); (· rfl))
    | ((with_reducible apply im_go_condF); (· rfl))
    | ((with_reducible apply im_go_condDT); (· rfl); (· assumption))
    | ((with_reducible apply im_go_condDF); (· rfl); (· assumption))
    | ((with_reducible apply im_go_condD); (· rfl); (intro hb); (rotate_left); (intro hb); (rotate_right))
    | ((with_reducible apply im_go_condB); (· rfl); (intro hb); (rotate_left); (intro hb); (rotate_right))
    | ((with_reducible apply im_go_block))
    | ((with_reducible apply im_go_blk))
    | ((with_reducible apply im_go_exit); (· rfl))
    | ((with_reducible apply im_go_l); (· exact evS); (· rfl))
    | ((with_reducible apply im_go_l0); (· exact evS))
    | ((with_reducible apply im_go_gRun); (· rfl); (· rfl))
    | ((with_reducible apply im_go_gSkip); (· rfl); (· rfl); (· rfl); (· rfl); (· rfl))
    | ((with_reducible apply im_go_gSkip0); (· rfl); (· rfl); (· rfl); (· rfl))
    | ((with_reducible apply im_go_gM1); (· rfl); (· rfl); (· exact evS1); (· rfl))
    | ((with_reducible apply im_go_gM2); (· rfl); (· rfl); (· exact evS2); (· rfl))
    | ((with_reducible apply im_go_gM3); (· rfl); (· rfl); (· exact evS3); (· rfl))
    | ((with_reducible apply im_go_gX); (· rfl); (· rfl); (· rfl); (intro hb); (try simp only [hb]); (try simp only [gv_tt, gv_ff, gv_tf, gv_ft, Bool.true_and, Bool.false_and, Bool.true_or, Bool.false_or, pk_true, pk_false]); (rotate_left); (intro hb); (try simp only [hb]); (try simp only [gv_tt, gv_ff, gv_tf, gv_ft, Bool.true_and, Bool.false_and, Bool.true_or, Bool.false_or, pk_true, pk_false]); (rotate_right))
    | ((with_reducible apply im_go_gD); (· rfl); (· rfl); (· rfl); (intro hb); (rotate_left); (intro hb); (rotate_right))
    | ((with_reducible apply im_go_gB); (· rfl); (· rfl); (· rfl); (intro hb); (rotate_left); (intro hb); (rotate_right))
    | ((with_reducible apply im_go_q0); (· exact evS))
    | ((with_reducible apply im_go_nilE); (· exact evS); (· exact evS); (· exact evS); (· exact evS); (· rfl); (intro hb); (rotate_left); (intro hb); (rotate_right))
    | ((with_reducible apply im_go_nilN); (· exact evS); (· exact evS); (· exact evS); (· exact evS); (· rfl); (intro hb); (rotate_left); (intro hb); (rotate_right))
    | ((with_reducible apply im_go_draw); (· exact tabOK); (· exact mixOK); (· first | (simp only [List.append_eq, List.cons_append, List.nil_append]; rfl) | rfl); (· kernel_rfl))
    | ((with_reducible apply im_dr_s); (· rfl); (· simp only [Nat.reduceAdd]; rfl))
    | ((with_reducible apply im_sg_q); (· exact evS))
    | ((with_reducible apply im_sg_run); (· rfl); (· rfl); (· exact evS))
    | ((with_reducible apply im_sg_skip); (· rfl); (· rfl); (· rfl); (· rfl))
    | ((with_reducible apply im_sg_M1); (· rfl); (· rfl); (· exact evS1))
    | ((with_reducible apply im_sg_M2); (· rfl); (· rfl); (· exact evS2))
    | ((with_reducible apply im_sg_M3); (· rfl); (· rfl); (· exact evS3))
    | ((with_reducible apply im_sg_D); (· rfl); (· rfl); (intro hb); (rotate_left); (intro hb); (rotate_right))
    | ((with_reducible apply im_sg_B); (· rfl); (· rfl); (intro hb); (rotate_left); (intro hb); (rotate_right))
    | ((with_reducible apply im_dr_adv2); (· rfl); (· simp only [Nat.reduceAdd]; rfl))
    | ((with_reducible apply im_dr_done); (· rfl))
    | ((with_reducible apply im_dr_so); (· rfl); (· rfl))
    | ((with_reducible apply im_dr_L1); (· rfl); (· rfl); (· rfl))
    | ((with_reducible apply im_dr_L2); (· rfl); (· rfl); (· rfl); (· rfl))
    | ((with_reducible apply im_ld_go))
    | ((with_reducible apply im_ld_run); (· rfl); (· rfl))
    | ((with_reducible apply im_ld_skip); (· rfl); (· rfl); (· rfl); (· rfl))
    | ((with_reducible apply im_ld_X); (· rfl); (· rfl); (intro hb); (try simp only [hb]); (try simp only [gv_tt, gv_ff, gv_tf, gv_ft, Bool.true_and, Bool.false_and, Bool.true_or, Bool.false_or, pk_true, pk_false]); (rotate_left); (intro hb); (try simp only [hb]); (try simp only [gv_tt, gv_ff, gv_tf, gv_ft, Bool.true_and, Bool.false_and, Bool.true_or, Bool.false_or, pk_true, pk_false]); (rotate_right))
    | ((with_reducible apply im_ld_D); (· rfl); (· rfl); (intro hb); (rotate_left); (intro hb); (rotate_right))
    | ((with_reducible apply im_ld_B); (· rfl); (· rfl); (intro hb); (rotate_left); (intro hb); (rotate_right))
    | ((with_reducible apply im_xg_l); (· exact evS))
    | ((with_reducible apply im_xg_q); (· exact evS))
    | ((with_reducible apply im_ag_mkS); (· conv => lhs; reduce); (· exact agS))
    | ((with_reducible apply im_ag_mkN); (· conv => lhs; reduce); (· exact agS))
    | ((with_reducible apply im_go_label))
    | ((with_reducible apply im_go_pred))
    | ((with_reducible apply im_go_ret); (· exact evS))
    | ((with_reducible apply im_go_end); (· exact evS))
    | ((with_reducible apply im_callE); (· first | exact c1 | exact c1 _ | exact c2 | exact c2 _ | exact c3 | exact c3 _ | exact c4 | exact c4 _ | exact c5 | exact c5 _ | exact c6 | exact c6 _); (· exact evS); (· rfl))
    | ((with_reducible apply im_callE2); (· exact evS); (· first | exact c1 | exact c1 _ | exact c1 _ _ | exact c1 _ _ _ | exact c2 | exact c2 _ | exact c2 _ _ | exact c2 _ _ _ | exact c3 | exact c3 _ | exact c3 _ _ | exact c3 _ _ _ | exact c4 | exact c4 _ | exact c4 _ _ | exact c4 _ _ _ | exact c5 | exact c5 _ | exact c5 _ _ | exact c5 _ _ _ | exact c6 | exact c6 _ | exact c6 _ _ | exact c6 _ _ _); (· rfl))
    | ((with_reducible apply im_xcallE2); (· exact evS); (· first | exact c1 | exact c1 _ | exact c1 _ _ | exact c1 _ _ _ | exact c2 | exact c2 _ | exact c2 _ _ | exact c2 _ _ _ | exact c3 | exact c3 _ | exact c3 _ _ | exact c3 _ _ _ | exact c4 | exact c4 _ | exact c4 _ _ | exact c4 _ _ _ | exact c5 | exact c5 _ | exact c5 _ _ | exact c5 _ _ _ | exact c6 | exact c6 _ | exact c6 _ _ | exact c6 _ _ _))
    | ((with_reducible apply im_xcallE); (· first | exact c1 | exact c1 _ | exact c2 | exact c2 _ | exact c3 | exact c3 _ | exact c4 | exact c4 _ | exact c5 | exact c5 _ | exact c6 | exact c6 _); (· exact evS))
    | ((with_reducible apply im_callC); (· exact evS); (· exact evS); (· first | exact v1 | exact v1 _ | exact v1 _ _ | exact v2 | exact v2 _ | exact v2 _ _ | exact v3 | exact v3 _ | exact v3 _ _); (· rfl))
    | ((with_reducible apply im_xcallC); (· exact evS); (· exact evS); (· first | exact v1 | exact v1 _ | exact v1 _ _ | exact v2 | exact v2 _ | exact v2 _ _ | exact v3 | exact v3 _ | exact v3 _ _))
    | (refine Imp.no ?_; omega)
    | exact Imp.refl _)) : p := h.go k
theorem runO {qq p : Prop} (k : qq) (h : Imp qq p := by
  repeat' (first
    | ((with_reducible apply im_go_seq))
    | ((with_reducible apply im_go_q); (· exact evS); (· rfl))
    | ((with_reducible apply im_go_nil))
    | ((with_reducible apply im_go_region); (· exact tabOK); (· first | (simp only [List.append_eq, List.cons_append, List.nil_append]; rfl) | rfl))
    | ((with_reducible apply im_go_skip))
    | ((with_reducible apply im_go_condT); (· rfl))
    | ((with_reducible apply im_go_condF); (· rfl))
    | ((with_reducible apply im_go_condDT); (· rfl); (· assumption))
    | ((with_reducible apply im_go_condDF); (· rfl); (· assumption))
    | ((with_reducible apply im_go_condD); (· rfl); (intro hb); (rotate_left); (intro hb); (rotate_right))
    | ((with_reducible apply im_go_condB); (· rfl); (intro hb); (rotate_left); (intro hb); (rotate_right))
    | ((with_reducible apply im_go_block))
    | ((with_reducible apply im_go_blk))
    | ((with_reducible apply im_go_exit); (· rfl))
    | ((with_reducible apply im_go_l); (· exact evS); (· rfl))
    | ((with_reducible apply im_go_l0); (· exact evS))
    | ((with_reducible apply im_go_gRun); (· rfl); (· rfl))
    | ((with_reducible apply im_go_gSkip); (· rfl); (· rfl); (· rfl); (· rfl); (· rfl))
    | ((with_reducible apply im_go_gSkip0); (· rfl); (· rfl); (· rfl); (· rfl))
    | ((with_reducible apply im_go_gD); (· rfl); (· rfl); (· rfl); (intro hb); (rotate_left); (intro hb); (rotate_right))
    | ((with_reducible apply im_go_gB); (· rfl); (· rfl); (· rfl); (intro hb); (rotate_left); (intro hb); (rotate_right))
    | ((with_reducible apply im_go_q0); (· exact evS))
    | ((with_reducible apply im_go_nilE); (· exact evS); (· exact evS); (· exact evS); (· exact evS); (· rfl); (intro hb); (rotate_left); (intro hb); (rotate_right))
    | ((with_reducible apply im_go_nilN); (· exact evS); (· exact evS); (· exact evS); (· exact evS); (· rfl); (intro hb); (rotate_left); (intro hb); (rotate_right))
    | ((with_reducible apply im_go_draw); (· exact tabOK); (· exact mixOK); (· first | (simp only [List.append_eq, List.cons_append, List.nil_append]; rfl) | rfl); (· kernel_rfl))
    | ((with_reducible apply im_dr_s); (· rfl); (· simp only [Nat.reduceAdd]; rfl))
    | ((with_reducible apply im_sg_q); (· exact evS))
    | ((with_reducible apply im_sg_run); (· rfl); (· rfl); (· exact evS))
    | ((with_reducible apply im_sg_skip); (· rfl); (· rfl); (· rfl); (· rfl))
    | ((with_reducible apply im_sg_D); (· rfl); (· rfl); (intro hb); (rotate_left); (intro hb); (rotate_right))
    | ((with_reducible apply im_sg_B); (· rfl); (· rfl); (intro hb); (rotate_left); (intro hb); (rotate_right))
    | ((with_reducible apply im_dr_adv2); (· rfl); (· simp only [Nat.reduceAdd]; rfl))
    | ((with_reducible apply im_dr_done); (· rfl))
    | ((with_reducible apply im_dr_so); (· rfl); (· rfl))
    | ((with_reducible apply im_dr_L1); (· rfl); (· rfl); (· rfl))
    | ((with_reducible apply im_dr_L2); (· rfl); (· rfl); (· rfl); (· rfl))
    | ((with_reducible apply im_ld_go))
    | ((with_reducible apply im_ld_run); (· rfl); (· rfl))
    | ((with_reducible apply im_ld_skip); (· rfl); (· rfl); (· rfl); (· rfl))
    | ((with_reducible apply im_ld_D); (· rfl); (· rfl); (intro hb); (rotate_left); (intro hb); (rotate_right))
    | ((with_reducible apply im_ld_B); (· rfl); (· rfl); (intro hb); (rotate_left); (intro hb); (rotate_right))
    | ((with_reducible apply im_xg_l); (· exact evS))
    | ((with_reducible apply im_xg_q); (· exact evS))
    | ((with_reducible apply im_ag_mkS); (· conv => lhs; reduce); (· exact agS))
    | ((with_reducible apply im_ag_mkN); (· conv => lhs; reduce); (· exact agS))
    | ((with_reducible apply im_go_label))
    | ((with_reducible apply im_go_pred))
    | ((with_reducible apply im_go_ret); (· exact evS))
    | ((with_reducible apply im_go_end); (· exact evS))
    | ((with_reducible apply im_callE); (· first | exact c1 | exact c1 _ | exact c2 | exact c2 _ | exact c3 | exact c3 _ | exact c4 | exact c4 _ | exact c5 | exact c5 _ | exact c6 | exact c6 _); (· exact evS); (· rfl))
    | ((with_reducible apply im_callE2); (· exact evS); (· first | exact c1 | exact c1 _ | exact c1 _ _ | exact c1 _ _ _ | exact c2 | exact c2 _ | exact c2 _ _ | exact c2 _ _ _ | exact c3 | exact c3 _ | exact c3 _ _ | exact c3 _ _ _ | exact c4 | exact c4 _ | exact c4 _ _ | exact c4 _ _ _ | exact c5 | exact c5 _ | exact c5 _ _ | exact c5 _ _ _ | exact c6 | exact c6 _ | exact c6 _ _ | exact c6 _ _ _); (· rfl))
    | ((with_reducible apply im_xcallE2); (· exact evS); (· first | exact c1 | exact c1 _ | exact c1 _ _ | exact c1 _ _ _ | exact c2 | exact c2 _ | exact c2 _ _ | exact c2 _ _ _ | exact c3 | exact c3 _ | exact c3 _ _ | exact c3 _ _ _ | exact c4 | exact c4 _ | exact c4 _ _ | exact c4 _ _ _ | exact c5 | exact c5 _ | exact c5 _ _ | exact c5 _ _ _ | exact c6 | exact c6 _ | exact c6 _ _ | exact c6 _ _ _))
    | ((with_reducible apply im_xcallE); (· first | exact c1 | exact c1 _ | exact c2 | exact c2 _ | exact c3 | exact c3 _ | exact c4 | exact c4 _ | exact c5 | exact c5 _ | exact c6 | exact c6 _); (· exact evS))
    | ((with_reducible apply im_callC); (· exact evS); (· exact evS); (· first | exact v1 | exact v1 _ | exact v1 _ _ | exact v2 | exact v2 _ | exact v2 _ _ | exact v3 | exact v3 _ | exact v3 _ _); (· rfl))
    | ((with_reducible apply im_xcallC); (· exact evS); (· exact evS); (· first | exact v1 | exact v1 _ | exact v1 _ _ | exact v2 | exact v2 _ | exact v2 _ _ | exact v3 | exact v3 _ | exact v3 _ _))
    | (refine Imp.no ?_; omega)
    | exact Imp.refl _)) : p := h.go k
theorem runB {qq p : Prop} (k : qq) (h : Imp qq p := by
  repeat' (first
    | ((with_reducible apply im_go_seq))
    | ((with_reducible apply im_go_q); (· exact evS); (· rfl))
    | ((with_reducible apply im_go_nil))
    | ((with_reducible apply im_go_region); (· exact tabOK); (· first | (simp only [List.append_eq, List.cons_append, List.nil_append]; rfl) | rfl))
    | ((with_reducible apply im_go_skip))
    | ((with_reducible apply im_go_condT); (· rfl))
    | ((with_reducible apply im_go_condF); (· rfl))
    | ((with_reducible apply im_go_condDT); (· rfl); (· assumption))
    | ((with_reducible apply im_go_condDF); (· rfl); (· assumption))
    | ((with_reducible apply im_go_condD); (· rfl); (intro hb); (rotate_left); (intro hb); (rotate_right))
    | ((with_reducible apply im_go_condB); (· rfl); (intro hb); (rotate_left); (intro hb); (rotate_right))
    | ((with_reducible apply im_go_blk))
    | ((with_reducible apply im_go_exit); (· rfl))
    | ((with_reducible apply im_go_l); (· exact evS); (· rfl))
    | ((with_reducible apply im_go_l0); (· exact evS))
    | ((with_reducible apply im_go_gRun); (· rfl); (· rfl))
    | ((with_reducible apply im_go_gSkip); (· rfl); (· rfl); (· rfl); (· rfl); (· rfl))
    | ((with_reducible apply im_go_gSkip0); (· rfl); (· rfl); (· rfl); (· rfl))
    | ((with_reducible apply im_go_gD); (· rfl); (· rfl); (· rfl); (intro hb); (rotate_left); (intro hb); (rotate_right))
    | ((with_reducible apply im_go_gB); (· rfl); (· rfl); (· rfl); (intro hb); (rotate_left); (intro hb); (rotate_right))
    | ((with_reducible apply im_go_q0); (· exact evS))
    | ((with_reducible apply im_go_nilE); (· exact evS); (· exact evS); (· exact evS); (· exact evS); (· rfl); (intro hb); (rotate_left); (intro hb); (rotate_right))
    | ((with_reducible apply im_go_nilN); (· exact evS); (· exact evS); (· exact evS); (· exact evS); (· rfl); (intro hb); (rotate_left); (intro hb); (rotate_right))
    | ((with_reducible apply im_go_draw); (· exact tabOK); (· exact mixOK); (· first | (simp only [List.append_eq, List.cons_append, List.nil_append]; rfl) | rfl); (· kernel_rfl))
    | ((with_reducible apply im_dr_s); (· rfl); (· simp only [Nat.reduceAdd]; rfl))
    | ((with_reducible apply im_sg_q); (· exact evS))
    | ((with_reducible apply im_sg_run); (· rfl); (· rfl); (· exact evS))
    | ((with_reducible apply im_sg_skip); (· rfl); (· rfl); (· rfl); (· rfl))
    | ((with_reducible apply im_sg_D); (· rfl); (· rfl); (intro hb); (rotate_left); (intro hb); (rotate_right))
    | ((with_reducible apply im_sg_B); (· rfl); (· rfl); (intro hb); (rotate_left); (intro hb); (rotate_right))
    | ((with_reducible apply im_dr_adv2); (· rfl); (· simp only [Nat.reduceAdd]; rfl))
    | ((with_reducible apply im_dr_done); (· rfl))
    | ((with_reducible apply im_dr_so); (· rfl); (· rfl))
    | ((with_reducible apply im_dr_L1); (· rfl); (· rfl); (· rfl))
    | ((with_reducible apply im_dr_L2); (· rfl); (· rfl); (· rfl); (· rfl))
    | ((with_reducible apply im_ld_go))
    | ((with_reducible apply im_ld_run); (· rfl); (· rfl))
    | ((with_reducible apply im_ld_skip); (· rfl); (· rfl); (· rfl); (· rfl))
    | ((with_reducible apply im_ld_D); (· rfl); (· rfl); (intro hb); (rotate_left); (intro hb); (rotate_right))
    | ((with_reducible apply im_ld_B); (· rfl); (· rfl); (intro hb); (rotate_left); (intro hb); (rotate_right))
    | ((with_reducible apply im_xg_l); (· exact evS))
    | ((with_reducible apply im_xg_q); (· exact evS))
    | ((with_reducible apply im_ag_mkS); (· conv => lhs; reduce); (· exact agS))
    | ((with_reducible apply im_ag_mkN); (· conv => lhs; reduce); (· exact agS))
    | ((with_reducible apply im_go_label))
    | ((with_reducible apply im_go_pred))
    | ((with_reducible apply im_go_ret); (· exact evS))
    | ((with_reducible apply im_go_end); (· exact evS))
    | ((with_reducible apply im_callE); (· first | exact c1 | exact c1 _ | exact c2 | exact c2 _ | exact c3 | exact c3 _ | exact c4 | exact c4 _ | exact c5 | exact c5 _ | exact c6 | exact c6 _); (· exact evS); (· rfl))
    | ((with_reducible apply im_callE2); (· exact evS); (· first | exact c1 | exact c1 _ | exact c1 _ _ | exact c1 _ _ _ | exact c2 | exact c2 _ | exact c2 _ _ | exact c2 _ _ _ | exact c3 | exact c3 _ | exact c3 _ _ | exact c3 _ _ _ | exact c4 | exact c4 _ | exact c4 _ _ | exact c4 _ _ _ | exact c5 | exact c5 _ | exact c5 _ _ | exact c5 _ _ _ | exact c6 | exact c6 _ | exact c6 _ _ | exact c6 _ _ _); (· rfl))
    | ((with_reducible apply im_xcallE2); (· exact evS); (· first | exact c1 | exact c1 _ | exact c1 _ _ | exact c1 _ _ _ | exact c2 | exact c2 _ | exact c2 _ _ | exact c2 _ _ _ | exact c3 | exact c3 _ | exact c3 _ _ | exact c3 _ _ _ | exact c4 | exact c4 _ | exact c4 _ _ | exact c4 _ _ _ | exact c5 | exact c5 _ | exact c5 _ _ | exact c5 _ _ _ | exact c6 | exact c6 _ | exact c6 _ _ | exact c6 _ _ _))
    | ((with_reducible apply im_xcallE); (· first | exact c1 | exact c1 _ | exact c2 | exact c2 _ | exact c3 | exact c3 _ | exact c4 | exact c4 _ | exact c5 | exact c5 _ | exact c6 | exact c6 _); (· exact evS))
    | ((with_reducible apply im_callC); (· exact evS); (· exact evS); (· first | exact v1 | exact v1 _ | exact v1 _ _ | exact v2 | exact v2 _ | exact v2 _ _ | exact v3 | exact v3 _ | exact v3 _ _); (· rfl))
    | ((with_reducible apply im_xcallC); (· exact evS); (· exact evS); (· first | exact v1 | exact v1 _ | exact v1 _ _ | exact v2 | exact v2 _ | exact v2 _ _ | exact v3 | exact v3 _ | exact v3 _ _))
    | (refine Imp.no ?_; omega)
    | exact Imp.refl _)) : p := h.go k
theorem runC {qq p : Prop} (k : qq) (h : Imp qq p := by
  repeat' (first
    | ((with_reducible apply im_go_seq))
    | ((with_reducible apply im_go_q); (· exact evS); (· rfl))
    | ((with_reducible apply im_go_nil))
    | ((with_reducible apply im_go_region); (· exact tabOK); (· first | (simp only [List.append_eq, List.cons_append, List.nil_append]; rfl) | rfl))
    | ((with_reducible apply im_go_skip))
    | ((with_reducible apply im_go_block))
    | ((with_reducible apply im_go_blk))
    | ((with_reducible apply im_go_exit); (· rfl))
    | ((with_reducible apply im_go_l); (· exact evS); (· rfl))
    | ((with_reducible apply im_go_l0); (· exact evS))
    | ((with_reducible apply im_go_gRun); (· rfl); (· rfl))
    | ((with_reducible apply im_go_gSkip); (· rfl); (· rfl); (· rfl); (· rfl); (· rfl))
    | ((with_reducible apply im_go_gSkip0); (· rfl); (· rfl); (· rfl); (· rfl))
    | ((with_reducible apply im_go_gM1); (· rfl); (· rfl); (· exact evS1); (· rfl))
    | ((with_reducible apply im_go_gM2); (· rfl); (· rfl); (· exact evS2); (· rfl))
    | ((with_reducible apply im_go_gM3); (· rfl); (· rfl); (· exact evS3); (· rfl))
    | ((with_reducible apply im_go_gX); (· rfl); (· rfl); (· rfl); (intro hb); (try simp only [hb]); (try simp only [gv_tt, gv_ff, gv_tf, gv_ft, Bool.true_and, Bool.false_and, Bool.true_or, Bool.false_or, pk_true, pk_false]); (rotate_left); (intro hb); (try simp only [hb]); (try simp only [gv_tt, gv_ff, gv_tf, gv_ft, Bool.true_and, Bool.false_and, Bool.true_or, Bool.false_or, pk_true, pk_false]); (rotate_right))
    | ((with_reducible apply im_go_gD); (· rfl); (· rfl); (· rfl); (intro hb); (rotate_left); (intro hb); (rotate_right))
    | ((with_reducible apply im_go_gB); (· rfl); (· rfl); (· rfl); (intro hb); (rotate_left); (intro hb); (rotate_right))
    | ((with_reducible apply im_go_q0); (· exact evS))
    | ((with_reducible apply im_go_nilE); (· exact evS); (· exact evS); (· exact evS); (· exact evS); (· rfl); (intro hb); (rotate_left); (intro hb); (rotate_right))
    | ((with_reducible apply im_go_nilN); (· exact evS); (· exact evS); (· exact evS); (· exact evS); (· rfl); (intro hb); (rotate_left); (intro hb); (rotate_right))
    | ((with_reducible apply im_go_draw); (· exact tabOK); (· exact mixOK); (· first | (simp only [List.append_eq, List.cons_append, List.nil_append]; rfl) | rfl); (· kernel_rfl))
    | ((with_reducible apply im_dr_s); (· rfl); (· simp only [Nat.reduceAdd]; rfl))
    | ((with_reducible apply im_sg_q); (· exact evS))
    | ((with_reducible apply im_sg_run); (· rfl); (· rfl); (· exact evS))
    | ((with_reducible apply im_sg_skip); (· rfl); (· rfl); (· rfl); (· rfl))
    | ((with_reducible apply im_sg_M1); (· rfl); (· rfl); (· exact evS1))
    | ((with_reducible apply im_sg_M2); (· rfl); (· rfl); (· exact evS2))
    | ((with_reducible apply im_sg_M3); (· rfl); (· rfl); (· exact evS3))
    | ((with_reducible apply im_sg_D); (· rfl); (· rfl); (intro hb); (rotate_left); (intro hb); (rotate_right))
    | ((with_reducible apply im_sg_B); (· rfl); (· rfl); (intro hb); (rotate_left); (intro hb); (rotate_right))
    | ((with_reducible apply im_dr_adv2); (· rfl); (· simp only [Nat.reduceAdd]; rfl))
    | ((with_reducible apply im_dr_done); (· rfl))
    | ((with_reducible apply im_dr_so); (· rfl); (· rfl))
    | ((with_reducible apply im_dr_L1); (· rfl); (· rfl); (· rfl))
    | ((with_reducible apply im_dr_L2); (· rfl); (· rfl); (· rfl); (· rfl))
    | ((with_reducible apply im_ld_go))
    | ((with_reducible apply im_ld_run); (· rfl); (· rfl))
    | ((with_reducible apply im_ld_skip); (· rfl); (· rfl); (· rfl); (· rfl))
    | ((with_reducible apply im_ld_X); (· rfl); (· rfl); (intro hb); (try simp only [hb]); (try simp only [gv_tt, gv_ff, gv_tf, gv_ft, Bool.true_and, Bool.false_and, Bool.true_or, Bool.false_or, pk_true, pk_false]); (rotate_left); (intro hb); (try simp only [hb]); (try simp only [gv_tt, gv_ff, gv_tf, gv_ft, Bool.true_and, Bool.false_and, Bool.true_or, Bool.false_or, pk_true, pk_false]); (rotate_right))
    | ((with_reducible apply im_ld_D); (· rfl); (· rfl); (intro hb); (rotate_left); (intro hb); (rotate_right))
    | ((with_reducible apply im_ld_B); (· rfl); (· rfl); (intro hb); (rotate_left); (intro hb); (rotate_right))
    | ((with_reducible apply im_xg_l); (· exact evS))
    | ((with_reducible apply im_xg_q); (· exact evS))
    | ((with_reducible apply im_ag_mkS); (· conv => lhs; reduce); (· exact agS))
    | ((with_reducible apply im_ag_mkN); (· conv => lhs; reduce); (· exact agS))
    | ((with_reducible apply im_go_label))
    | ((with_reducible apply im_go_pred))
    | ((with_reducible apply im_go_ret); (· exact evS))
    | ((with_reducible apply im_go_end); (· exact evS))
    | ((with_reducible apply im_callE); (· first | exact c1 | exact c1 _ | exact c2 | exact c2 _ | exact c3 | exact c3 _ | exact c4 | exact c4 _ | exact c5 | exact c5 _ | exact c6 | exact c6 _); (· exact evS); (· rfl))
    | ((with_reducible apply im_callE2); (· exact evS); (· first | exact c1 | exact c1 _ | exact c1 _ _ | exact c1 _ _ _ | exact c2 | exact c2 _ | exact c2 _ _ | exact c2 _ _ _ | exact c3 | exact c3 _ | exact c3 _ _ | exact c3 _ _ _ | exact c4 | exact c4 _ | exact c4 _ _ | exact c4 _ _ _ | exact c5 | exact c5 _ | exact c5 _ _ | exact c5 _ _ _ | exact c6 | exact c6 _ | exact c6 _ _ | exact c6 _ _ _); (· rfl))
    | ((with_reducible apply im_xcallE2); (· exact evS); (· first | exact c1 | exact c1 _ | exact c1 _ _ | exact c1 _ _ _ | exact c2 | exact c2 _ | exact c2 _ _ | exact c2 _ _ _ | exact c3 | exact c3 _ | exact c3 _ _ | exact c3 _ _ _ | exact c4 | exact c4 _ | exact c4 _ _ | exact c4 _ _ _ | exact c5 | exact c5 _ | exact c5 _ _ | exact c5 _ _ _ | exact c6 | exact c6 _ | exact c6 _ _ | exact c6 _ _ _))
    | ((with_reducible apply im_xcallE); (· first | exact c1 | exact c1 _ | exact c2 | exact c2 _ | exact c3 | exact c3 _ | exact c4 | exact c4 _ | exact c5 | exact c5 _ | exact c6 | exact c6 _); (· exact evS))
    | ((with_reducible apply im_callC); (· exact evS); (· exact evS); (· first | exact v1 | exact v1 _ | exact v1 _ _ | exact v2 | exact v2 _ | exact v2 _ _ | exact v3 | exact v3 _ | exact v3 _ _); (· rfl))
    | ((with_reducible apply im_xcallC); (· exact evS); (· exact evS); (· first | exact v1 | exact v1 _ | exact v1 _ _ | exact v2 | exact v2 _ | exact v2 _ _ | exact v3 | exact v3 _ | exact v3 _ _))
    | (refine Imp.no ?_; omega)
    | exact Imp.refl _)) : p := h.go k
section
variable {P : Program} {G : Gl} {T : Tab} {own : List Nat} {nt B : Nat} {ρ : Option Nat} {C : Cx} {rs : List ResultVar} {R : SV → List Blk → Prop} {env env2 : Env} {H X KB : List Blk} {k : List It}
theorem wkS (ks : Keep) {n0 : Nat} (hG : GClosed G) (hB : Based G C.H.length) (hC : C.H.length = n0) (hcl : closed H) (hn : H.length = n0 := by first | rfl | (simp; done) | exact hlen _) (hk : KeepB (H ++ X) n0 ks ks KB := by exact frzS) (hd : (ks.map (·.1)).Nodup := by first | rfl | decide | simp) (he : subEnvF (H ++ X) n0 ks env2 env := by exact frzS) : Wk G nt C ⟨env, H ++ X⟩ ⟨env2, H ++ KB⟩ := Wk.keepN ks hG hB hn hC hcl hk hd he
variable {all r : List Oper} {ty d j dj : Nat} {op : Op} {pos : String} {after : Array Edge} {v : SV} {want : Bool} {dst : Option Nat} {kk : SV → List Blk → Prop}
variable {R' : SV → List Blk → Prop} {xs : List SV} {f : Operand} {fv : SV} {args : Array Operand} {tys : Array Nat} {g : FuncId}
theorem callS (hc : ACall P G g xs H R') (hk : ∀ x H', R' x H' → (Out P G T own nt ρ C rs R) (.ops all r :: k) .normal ((d, x) :: env) H') (h2 : evs G env args.toList = some xs := by exact evS) (hd : Nat.blt d nt = true := by rfl) : (Out P G T own nt ρ C rs R) (.ops all (⟨some d, .call ⟨.value (.func g), args, tys⟩, ty, pos, after, none⟩ :: r) :: k) .normal env H := go_call h2 hd hc hk
theorem callV (hc : ACallV P G fv xs H R') (hk : ∀ x H', R' x H' → (Out P G T own nt ρ C rs R) (.ops all r :: k) .normal ((d, x) :: env) H') (h1 : ev G env f = some fv := by exact evS) (h2 : evs G env args.toList = some xs := by exact evS) (hd : Nat.blt d nt = true := by rfl) : (Out P G T own nt ρ C rs R) (.ops all (⟨some d, .call ⟨.value f, args, tys⟩, ty, pos, after, none⟩ :: r) :: k) .normal env H := go_callV h1 h2 hd hc hk
theorem xcallS (hc : ACall P G g xs H R') (hk : ∀ x H', R' x H' → kk x H') (h2 : evs G env args.toList = some xs := by exact evS) : exG P G T own all ⟨dst, .call ⟨.value (.func g), args, tys⟩, ty, pos, after, none⟩ env H kk := xg_call h2 hc hk
theorem finS {R0 : SV → List Blk → Prop} {n0 : Nat} (hR : Back (∀ y H', R0 y H' → R y H')) (hC : C.H.length = n0) (hcl : closed H) {x y : SV} (hx : Frz (H ++ X) n0 [] x y) (h : R0 y H) (hn : H.length = n0 := by first | rfl | (simp; done) | exact hlen _) : Fin C (H ++ X) x R := Fin.tellN hR hn hC hcl hx h
theorem finK (ks : Keep) {R0 : SV → List Blk → Prop} {n0 : Nat} (y : SV) (KB : List Blk) (hR : Back (∀ y H', R0 y H' → R y H')) (hC : C.H.length = n0) (hcl : closed H) {x : SV} (h : R0 y (H ++ KB)) (hk : KeepB (H ++ X) n0 ks ks KB := by exact frzS) (hd : (ks.map (·.1)).Nodup := by first | rfl | decide | simp) (hx : Frz (H ++ X) n0 ks x y := by exact frzS) (hn : H.length = n0 := by first | rfl | (simp; done) | exact hlen _) : Fin C (H ++ X) x R := Fin.keepN ks hR hn hC hcl hk hd hx h
end
end Go.Proofs.YtehfihnfeakmaaaGreatDoor
end

section
/- The table of this translation's data types (printed by gentab.py). -/
namespace Go.Proofs.YtehfihnfeakmaaaGreatDoor
open Go
def t2 : TI := ⟨.int .i64, 1, 8, .int .i64 0⟩
def t3 : TI := ⟨.int .i64, 1, 8, .int .i64 0⟩
def t4 : TI := ⟨.bool, 1, 1, .bool false⟩
def t5 : TI := ⟨.int .u8, 1, 1, .int .u8 0⟩
def t9 : TI := ⟨.str, 1, 16, .str []⟩
def t20 : TI := ⟨.ifc, 1, 16, .ifc true⟩
def t21 : TI := ⟨.int .i32, 1, 4, .int .i32 0⟩
def t22 : TI := ⟨.slice 76, 1, 24, .nil⟩
def t23 : TI := ⟨.slice 54, 1, 24, .nil⟩
def t24 : TI := ⟨.struct [(0, 22), (1, 23)] false, 2, 48, .agg [.nil, .nil]⟩
def t25 : TI := ⟨.struct [(0, 22), (1, 23)] false, 2, 48, .agg [.nil, .nil]⟩
def t26 : TI := ⟨.func, 1, 8, .nilfn⟩
def t27 : TI := ⟨.func, 1, 8, .nilfn⟩
def t28 : TI := ⟨.slice 50, 1, 24, .nil⟩
def t29 : TI := ⟨.int .i64, 1, 8, .int .i64 0⟩
def t31 : TI := ⟨.func, 1, 8, .nilfn⟩
def t33 : TI := ⟨.func, 1, 8, .nilfn⟩
def t34 : TI := ⟨.func, 1, 8, .nilfn⟩
def t35 : TI := ⟨.func, 1, 8, .nilfn⟩
def t36 : TI := ⟨.slice 9, 1, 24, .nil⟩
def t37 : TI := ⟨.slice 40, 1, 24, .nil⟩
def t38 : TI := ⟨.slice 60, 1, 24, .nil⟩
def t39 : TI := ⟨.struct [(0, 3), (1, 9), (2, 3), (3, 3), (4, 36), (5, 37), (6, 23), (7, 38)] false, 8, 136, .agg [.int .i64 0, .str [], .int .i64 0, .int .i64 0, .nil, .nil, .nil, .nil]⟩
def t40 : TI := ⟨.struct [(0, 3), (1, 9), (2, 3), (3, 3), (4, 36), (5, 37), (6, 23), (7, 38)] false, 8, 136, .agg [.int .i64 0, .str [], .int .i64 0, .int .i64 0, .list 1 [], .list 8 [], .list 9 [], .list 12 []]⟩
def t42 : TI := ⟨.func, 1, 8, .nilfn⟩
def t43 : TI := ⟨.func, 1, 8, .nilfn⟩
def t44 : TI := ⟨.func, 1, 8, .nilfn⟩
def t45 : TI := ⟨.func, 1, 8, .nilfn⟩
def t46 : TI := ⟨.func, 1, 8, .nilfn⟩
def t47 : TI := ⟨.func, 1, 8, .nilfn⟩
def t48 : TI := ⟨.slice 3, 1, 24, .nil⟩
def t49 : TI := ⟨.struct [(0, 9), (1, 3), (2, 48)] false, 3, 48, .agg [.str [], .int .i64 0, .nil]⟩
def t50 : TI := ⟨.struct [(0, 9), (1, 3), (2, 48)] false, 3, 48, .agg [.str [], .int .i64 0, .list 1 []]⟩
def t51 : TI := ⟨.func, 1, 8, .nilfn⟩
def t52 : TI := ⟨.func, 1, 8, .nilfn⟩
def t53 : TI := ⟨.struct [(0, 9), (1, 40)] false, 9, 152, .agg [.str [], .int .i64 0, .str [], .int .i64 0, .int .i64 0, .nil, .nil, .nil, .nil]⟩
def t54 : TI := ⟨.struct [(0, 9), (1, 40)] false, 9, 152, .agg [.str [], .int .i64 0, .str [], .int .i64 0, .int .i64 0, .list 1 [], .list 8 [], .list 9 [], .list 12 []]⟩
def t55 : TI := ⟨.func, 1, 8, .nilfn⟩
def t56 : TI := ⟨.func, 1, 8, .nilfn⟩
def t57 : TI := ⟨.func, 1, 8, .nilfn⟩
def t58 : TI := ⟨.func, 1, 8, .nilfn⟩
def t59 : TI := ⟨.struct [(0, 3), (1, 9), (2, 3), (3, 36), (4, 40)] false, 12, 192, .agg [.int .i64 0, .str [], .int .i64 0, .nil, .int .i64 0, .str [], .int .i64 0, .int .i64 0, .nil, .nil, .nil, .nil]⟩
def t60 : TI := ⟨.struct [(0, 3), (1, 9), (2, 3), (3, 36), (4, 40)] false, 12, 192, .agg [.int .i64 0, .str [], .int .i64 0, .list 1 [], .int .i64 0, .str [], .int .i64 0, .int .i64 0, .list 1 [], .list 8 [], .list 9 [], .list 12 []]⟩
def t61 : TI := ⟨.func, 1, 8, .nilfn⟩
def t62 : TI := ⟨.map 9 40, 1, 8, .nilmap⟩
def t63 : TI := ⟨.map 9 50, 1, 8, .nilmap⟩
def t64 : TI := ⟨.map 9 50, 1, 8, .nilmap⟩
def t65 : TI := ⟨.func, 1, 8, .nilfn⟩
def t66 : TI := ⟨.slice 9, 1, 24, .nil⟩
def t67 : TI := ⟨.func, 1, 8, .nilfn⟩
def t68 : TI := ⟨.func, 1, 8, .nilfn⟩
def t69 : TI := ⟨.func, 1, 8, .nilfn⟩
def t70 : TI := ⟨.func, 1, 8, .nilfn⟩
def t71 : TI := ⟨.ptr 73, 1, 8, .nilptr⟩
def t72 : TI := ⟨.struct [(0, 64), (1, 3)] false, 2, 16, .agg [.nilmap, .int .i64 0]⟩
def t73 : TI := ⟨.struct [(0, 64), (1, 3)] false, 2, 16, .agg [.nilmap, .int .i64 0]⟩
def t74 : TI := ⟨.func, 1, 8, .nilfn⟩
def t75 : TI := ⟨.struct [(0, 9), (1, 3), (2, 3), (3, 3)] true, 4, 40, .agg [.str [], .int .i64 0, .int .i64 0, .int .i64 0]⟩
def t76 : TI := ⟨.struct [(0, 9), (1, 3), (2, 3), (3, 3)] true, 4, 40, .agg [.str [], .int .i64 0, .int .i64 0, .int .i64 0]⟩
def t77 : TI := ⟨.func, 1, 8, .nilfn⟩
def t78 : TI := ⟨.ptr 80, 1, 8, .nilptr⟩
def t79 : TI := ⟨.struct [(0, 3), (1, 28)] false, 2, 32, .agg [.int .i64 0, .nil]⟩
def t80 : TI := ⟨.struct [(0, 3), (1, 28)] false, 2, 32, .agg [.int .i64 0, .nil]⟩
def t81 : TI := ⟨.func, 1, 8, .nilfn⟩
def t82 : TI := ⟨.func, 1, 8, .nilfn⟩
def t83 : TI := ⟨.map 9 4, 1, 8, .nilmap⟩
def t84 : TI := ⟨.func, 1, 8, .nilfn⟩
def t85 : TI := ⟨.map 9 3, 1, 8, .nilmap⟩
def t86 : TI := ⟨.func, 1, 8, .nilfn⟩
def t87 : TI := ⟨.func, 1, 8, .nilfn⟩
def t88 : TI := ⟨.func, 1, 8, .nilfn⟩
def t89 : TI := ⟨.func, 1, 8, .nilfn⟩
def t90 : TI := ⟨.func, 1, 8, .nilfn⟩
def t91 : TI := ⟨.func, 1, 8, .nilfn⟩
def t92 : TI := ⟨.func, 1, 8, .nilfn⟩
def t93 : TI := ⟨.func, 1, 8, .nilfn⟩
def t94 : TI := ⟨.func, 1, 8, .nilfn⟩
def t95 : TI := ⟨.ptr 98, 1, 8, .nilptr⟩
def t96 : TI := ⟨.map 9 76, 1, 8, .nilmap⟩
def t97 : TI := ⟨.struct [(0, 96)] false, 1, 8, .agg [.nilmap]⟩
def t98 : TI := ⟨.struct [(0, 96)] false, 1, 8, .agg [.nilmap]⟩
def t99 : TI := ⟨.func, 1, 8, .nilfn⟩
def t100 : TI := ⟨.func, 1, 8, .nilfn⟩
def t101 : TI := ⟨.array 4 76, 16, 160, .agg [.str [], .int .i64 0, .int .i64 0, .int .i64 0, .str [], .int .i64 0, .int .i64 0, .int .i64 0, .str [], .int .i64 0, .int .i64 0, .int .i64 0, .str [], .int .i64 0, .int .i64 0, .int .i64 0]⟩
def t102 : TI := ⟨.func, 1, 8, .nilfn⟩
def t103 : TI := ⟨.func, 1, 8, .nilfn⟩
def t104 : TI := ⟨.func, 1, 8, .nilfn⟩
def t106 : TI := ⟨.func, 1, 8, .nilfn⟩
def t107 : TI := ⟨.func, 1, 8, .nilfn⟩
def t108 : TI := ⟨.func, 1, 8, .nilfn⟩
def t109 : TI := ⟨.func, 1, 8, .nilfn⟩
def t110 : TI := ⟨.func, 1, 8, .nilfn⟩
def t111 : TI := ⟨.func, 1, 8, .nilfn⟩
def t112 : TI := ⟨.func, 1, 8, .nilfn⟩
def t114 : TI := ⟨.func, 1, 8, .nilfn⟩
def t115 : TI := ⟨.ifc, 1, 16, .ifc true⟩
def t116 : TI := ⟨.ifc, 1, 16, .ifc true⟩
def t118 : TI := ⟨.func, 1, 8, .nilfn⟩
def t119 : TI := ⟨.func, 1, 8, .nilfn⟩
def t120 : TI := ⟨.func, 1, 8, .nilfn⟩
def t121 : TI := ⟨.func, 1, 8, .nilfn⟩
def t122 : TI := ⟨.func, 1, 8, .nilfn⟩
def t123 : TI := ⟨.func, 1, 8, .nilfn⟩
def t124 : TI := ⟨.func, 1, 8, .nilfn⟩
def t125 : TI := ⟨.func, 1, 8, .nilfn⟩
def t126 : TI := ⟨.func, 1, 8, .nilfn⟩
def t127 : TI := ⟨.func, 1, 8, .nilfn⟩
def t128 : TI := ⟨.func, 1, 8, .nilfn⟩
def t129 : TI := ⟨.func, 1, 8, .nilfn⟩
def t130 : TI := ⟨.func, 1, 8, .nilfn⟩
def t131 : TI := ⟨.func, 1, 8, .nilfn⟩
def t132 : TI := ⟨.func, 1, 8, .nilfn⟩
def t133 : TI := ⟨.func, 1, 8, .nilfn⟩
def t134 : TI := ⟨.func, 1, 8, .nilfn⟩
def t135 : TI := ⟨.int .u64, 1, 8, .int .u64 0⟩
def t136 : TI := ⟨.func, 1, 8, .nilfn⟩
def t137 : TI := ⟨.func, 1, 8, .nilfn⟩
def t138 : TI := ⟨.func, 1, 8, .nilfn⟩
def t140 : TI := ⟨.func, 1, 8, .nilfn⟩
def t141 : TI := ⟨.map 3 4, 1, 8, .nilmap⟩
def t142 : TI := ⟨.func, 1, 8, .nilfn⟩
def t143 : TI := ⟨.func, 1, 8, .nilfn⟩
def t144 : TI := ⟨.func, 1, 8, .nilfn⟩
def t146 : TI := ⟨.func, 1, 8, .nilfn⟩
def t147 : TI := ⟨.func, 1, 8, .nilfn⟩
def t148 : TI := ⟨.func, 1, 8, .nilfn⟩
def t149 : TI := ⟨.func, 1, 8, .nilfn⟩
def t150 : TI := ⟨.func, 1, 8, .nilfn⟩
def t151 : TI := ⟨.func, 1, 8, .nilfn⟩
def t152 : TI := ⟨.func, 1, 8, .nilfn⟩
def t153 : TI := ⟨.func, 1, 8, .nilfn⟩
def t154 : TI := ⟨.func, 1, 8, .nilfn⟩
def t155 : TI := ⟨.int .i64, 1, 8, .int .i64 0⟩
def t157 : TI := ⟨.func, 1, 8, .nilfn⟩
def t158 : TI := ⟨.func, 1, 8, .nilfn⟩
def t159 : TI := ⟨.func, 1, 8, .nilfn⟩
def t160 : TI := ⟨.func, 1, 8, .nilfn⟩
def t161 : TI := ⟨.func, 1, 8, .nilfn⟩
def t162 : TI := ⟨.func, 1, 8, .nilfn⟩
def t163 : TI := ⟨.int .u32, 1, 4, .int .u32 0⟩
def t164 : TI := ⟨.func, 1, 8, .nilfn⟩
def t165 : TI := ⟨.int .u64, 1, 8, .int .u64 0⟩
def t166 : TI := ⟨.func, 1, 8, .nilfn⟩
def t167 : TI := ⟨.func, 1, 8, .nilfn⟩
def t168 : TI := ⟨.func, 1, 8, .nilfn⟩
def t169 : TI := ⟨.func, 1, 8, .nilfn⟩
def t170 : TI := ⟨.int .i64, 1, 8, .int .i64 0⟩
def t171 : TI := ⟨.slice 5, 1, 24, .nil⟩
def t173 : TI := ⟨.func, 1, 8, .nilfn⟩
def t174 : TI := ⟨.ptr 190, 1, 8, .nilptr⟩
def t175 : TI := ⟨.func, 1, 8, .nilfn⟩
def t176 : TI := ⟨.func, 1, 8, .nilfn⟩
def t177 : TI := ⟨.func, 1, 8, .nilfn⟩
def t178 : TI := ⟨.func, 1, 8, .nilfn⟩
def t179 : TI := ⟨.int .u64, 1, 8, .int .u64 0⟩
def t180 : TI := ⟨.func, 1, 8, .nilfn⟩
def t181 : TI := ⟨.func, 1, 8, .nilfn⟩
def t182 : TI := ⟨.func, 1, 8, .nilfn⟩
def t183 : TI := ⟨.ptr 3, 1, 8, .nilptr⟩
def t184 : TI := ⟨.func, 1, 8, .nilfn⟩
def t185 : TI := ⟨.func, 1, 8, .nilfn⟩
def t187 : TI := ⟨.func, 1, 8, .nilfn⟩
def t188 : TI := ⟨.func, 1, 8, .nilfn⟩
def t189 : TI := ⟨.struct [(0, 9), (1, 9), (2, 116)] false, 3, 48, .agg [.str [], .str [], .ifc true]⟩
def t190 : TI := ⟨.struct [(0, 9), (1, 9), (2, 116)] false, 3, 48, .agg [.str [], .str [], .ifc true]⟩
def t191 : TI := ⟨.func, 1, 8, .nilfn⟩
def t192 : TI := ⟨.array 24 5, 24, 24, .agg [.int .u8 0, .int .u8 0, .int .u8 0, .int .u8 0, .int .u8 0, .int .u8 0, .int .u8 0, .int .u8 0, .int .u8 0, .int .u8 0, .int .u8 0, .int .u8 0, .int .u8 0, .int .u8 0, .int .u8 0, .int .u8 0, .int .u8 0, .int .u8 0, .int .u8 0, .int .u8 0, .int .u8 0, .int .u8 0, .int .u8 0, .int .u8 0]⟩
def t193 : TI := ⟨.func, 1, 8, .nilfn⟩
def t195 : TI := ⟨.func, 1, 8, .nilfn⟩
def t196 : TI := ⟨.ptr 179, 1, 8, .nilptr⟩
def t197 : TI := ⟨.func, 1, 8, .nilfn⟩
def t198 : TI := ⟨.func, 1, 8, .nilfn⟩
def t199 : TI := ⟨.ptr 5, 1, 8, .nilptr⟩
def t200 : TI := ⟨.ptr 202, 1, 8, .nilptr⟩
def t201 : TI := ⟨.struct [(0, 9)] true, 1, 16, .agg [.str []]⟩
def t202 : TI := ⟨.struct [(0, 9)] true, 1, 16, .agg [.str []]⟩
def t203 : TI := ⟨.func, 1, 8, .nilfn⟩
def t204 : TI := ⟨.array 20 165, 20, 160, .agg [.int .u64 0, .int .u64 0, .int .u64 0, .int .u64 0, .int .u64 0, .int .u64 0, .int .u64 0, .int .u64 0, .int .u64 0, .int .u64 0, .int .u64 0, .int .u64 0, .int .u64 0, .int .u64 0, .int .u64 0, .int .u64 0, .int .u64 0, .int .u64 0, .int .u64 0, .int .u64 0]⟩
def t205 : TI := ⟨.array 65 5, 65, 65, .agg [.int .u8 0, .int .u8 0, .int .u8 0, .int .u8 0, .int .u8 0, .int .u8 0, .int .u8 0, .int .u8 0, .int .u8 0, .int .u8 0, .int .u8 0, .int .u8 0, .int .u8 0, .int .u8 0, .int .u8 0, .int .u8 0, .int .u8 0, .int .u8 0, .int .u8 0, .int .u8 0, .int .u8 0, .int .u8 0, .int .u8 0, .int .u8 0, .int .u8 0, .int .u8 0, .int .u8 0, .int .u8 0, .int .u8 0, .int .u8 0, .int .u8 0, .int .u8 0, .int .u8 0, .int .u8 0, .int .u8 0, .int .u8 0, .int .u8 0, .int .u8 0, .int .u8 0, .int .u8 0, .int .u8 0, .int .u8 0, .int .u8 0, .int .u8 0, .int .u8 0, .int .u8 0, .int .u8 0, .int .u8 0, .int .u8 0, .int .u8 0, .int .u8 0, .int .u8 0, .int .u8 0, .int .u8 0, .int .u8 0, .int .u8 0, .int .u8 0, .int .u8 0, .int .u8 0, .int .u8 0, .int .u8 0, .int .u8 0, .int .u8 0, .int .u8 0, .int .u8 0]⟩
def t206 : TI := ⟨.array 32 5, 32, 32, .agg [.int .u8 0, .int .u8 0, .int .u8 0, .int .u8 0, .int .u8 0, .int .u8 0, .int .u8 0, .int .u8 0, .int .u8 0, .int .u8 0, .int .u8 0, .int .u8 0, .int .u8 0, .int .u8 0, .int .u8 0, .int .u8 0, .int .u8 0, .int .u8 0, .int .u8 0, .int .u8 0, .int .u8 0, .int .u8 0, .int .u8 0, .int .u8 0, .int .u8 0, .int .u8 0, .int .u8 0, .int .u8 0, .int .u8 0, .int .u8 0, .int .u8 0, .int .u8 0]⟩
def t207 : TI := ⟨.array 64 5, 64, 64, .agg [.int .u8 0, .int .u8 0, .int .u8 0, .int .u8 0, .int .u8 0, .int .u8 0, .int .u8 0, .int .u8 0, .int .u8 0, .int .u8 0, .int .u8 0, .int .u8 0, .int .u8 0, .int .u8 0, .int .u8 0, .int .u8 0, .int .u8 0, .int .u8 0, .int .u8 0, .int .u8 0, .int .u8 0, .int .u8 0, .int .u8 0, .int .u8 0, .int .u8 0, .int .u8 0, .int .u8 0, .int .u8 0, .int .u8 0, .int .u8 0, .int .u8 0, .int .u8 0, .int .u8 0, .int .u8 0, .int .u8 0, .int .u8 0, .int .u8 0, .int .u8 0, .int .u8 0, .int .u8 0, .int .u8 0, .int .u8 0, .int .u8 0, .int .u8 0, .int .u8 0, .int .u8 0, .int .u8 0, .int .u8 0, .int .u8 0, .int .u8 0, .int .u8 0, .int .u8 0, .int .u8 0, .int .u8 0, .int .u8 0, .int .u8 0, .int .u8 0, .int .u8 0, .int .u8 0, .int .u8 0, .int .u8 0, .int .u8 0, .int .u8 0, .int .u8 0]⟩
def t208 : TI := ⟨.func, 1, 8, .nilfn⟩
def t209 : TI := ⟨.struct [(0, 17), (1, 17), (2, 17), (3, 9)] false, 4, 40, .agg [.nilptr, .nilptr, .nilptr, .str []]⟩
def t210 : TI := ⟨.struct [(0, 17), (1, 17), (2, 17), (3, 9)] false, 4, 40, .agg [.nilptr, .nilptr, .nilptr, .str []]⟩
def t211 : TI := ⟨.array 0 16, 0, 0, .agg []⟩
def t212 : TI := ⟨.struct [(0, 211)] false, 0, 0, .agg []⟩
def t213 : TI := ⟨.struct [(0, 211)] false, 0, 0, .agg []⟩
def t214 : TI := ⟨.func, 1, 8, .nilfn⟩
def t215 : TI := ⟨.int .u8, 1, 1, .int .u8 0⟩
def t216 : TI := ⟨.int .u8, 1, 1, .int .u8 0⟩
def t217 : TI := ⟨.func, 1, 8, .nilfn⟩
def t218 : TI := ⟨.int .i32, 1, 4, .int .i32 0⟩
def t219 : TI := ⟨.int .i32, 1, 4, .int .i32 0⟩
def t220 : TI := ⟨.struct [(0, 12), (1, 12), (2, 163), (3, 215), (4, 5), (5, 5), (6, 216), (7, 217), (8, 199), (9, 218), (10, 219)] false, 11, 48, .agg [.int .u64 0, .int .u64 0, .int .u32 0, .int .u8 0, .int .u8 0, .int .u8 0, .int .u8 0, .nilfn, .nilptr, .int .i32 0, .int .i32 0]⟩
def t221 : TI := ⟨.struct [(0, 12), (1, 12), (2, 163), (3, 215), (4, 5), (5, 5), (6, 216), (7, 217), (8, 199), (9, 218), (10, 219)] false, 11, 48, .agg [.int .u64 0, .int .u64 0, .int .u32 0, .int .u8 0, .int .u8 0, .int .u8 0, .int .u8 0, .nilfn, .nilptr, .int .i32 0, .int .i32 0]⟩
def TB : Tab := [(2, t2), (3, t3), (4, t4), (5, t5), (9, t9), (20, t20), (21, t21), (22, t22), (23, t23), (24, t24), (25, t25), (26, t26), (27, t27), (28, t28), (29, t29), (31, t31), (33, t33), (34, t34), (35, t35), (36, t36), (37, t37), (38, t38), (39, t39), (40, t40), (42, t42), (43, t43), (44, t44), (45, t45), (46, t46), (47, t47), (48, t48), (49, t49), (50, t50), (51, t51), (52, t52), (53, t53), (54, t54), (55, t55), (56, t56), (57, t57), (58, t58), (59, t59), (60, t60), (61, t61), (62, t62), (63, t63), (64, t64), (65, t65), (66, t66), (67, t67), (68, t68), (69, t69), (70, t70), (71, t71), (72, t72), (73, t73), (74, t74), (75, t75), (76, t76), (77, t77), (78, t78), (79, t79), (80, t80), (81, t81), (82, t82), (83, t83), (84, t84), (85, t85), (86, t86), (87, t87), (88, t88), (89, t89), (90, t90), (91, t91), (92, t92), (93, t93), (94, t94), (95, t95), (96, t96), (97, t97), (98, t98), (99, t99), (100, t100), (101, t101), (102, t102), (103, t103), (104, t104), (106, t106), (107, t107), (108, t108), (109, t109), (110, t110), (111, t111), (112, t112), (114, t114), (115, t115), (116, t116), (118, t118), (119, t119), (120, t120), (121, t121), (122, t122), (123, t123), (124, t124), (125, t125), (126, t126), (127, t127), (128, t128), (129, t129), (130, t130), (131, t131), (132, t132), (133, t133), (134, t134), (135, t135), (136, t136), (137, t137), (138, t138), (140, t140), (141, t141), (142, t142), (143, t143), (144, t144), (146, t146), (147, t147), (148, t148), (149, t149), (150, t150), (151, t151), (152, t152), (153, t153), (154, t154), (155, t155), (157, t157), (158, t158), (159, t159), (160, t160), (161, t161), (162, t162), (163, t163), (164, t164), (165, t165), (166, t166), (167, t167), (168, t168), (169, t169), (170, t170), (171, t171), (173, t173), (174, t174), (175, t175), (176, t176), (177, t177), (178, t178), (179, t179), (180, t180), (181, t181), (182, t182), (183, t183), (184, t184), (185, t185), (187, t187), (188, t188), (189, t189), (190, t190), (191, t191), (192, t192), (193, t193), (195, t195), (196, t196), (197, t197), (198, t198), (199, t199), (200, t200), (201, t201), (202, t202), (203, t203), (204, t204), (205, t205), (206, t206), (207, t207), (208, t208), (209, t209), (210, t210), (211, t211), (212, t212), (213, t213), (214, t214), (215, t215), (216, t216), (217, t217), (218, t218), (219, t219), (220, t220), (221, t221)]
set_option maxRecDepth 10000 in
theorem TBg : Tab.get TB 2 = some ⟨.int .i64, 1, 8, .int .i64 0⟩ ∧
  Tab.get TB 3 = some ⟨.int .i64, 1, 8, .int .i64 0⟩ ∧
  Tab.get TB 4 = some ⟨.bool, 1, 1, .bool false⟩ ∧
  Tab.get TB 5 = some ⟨.int .u8, 1, 1, .int .u8 0⟩ ∧
  Tab.get TB 9 = some ⟨.str, 1, 16, .str []⟩ ∧
  Tab.get TB 20 = some ⟨.ifc, 1, 16, .ifc true⟩ ∧
  Tab.get TB 21 = some ⟨.int .i32, 1, 4, .int .i32 0⟩ ∧
  Tab.get TB 22 = some ⟨.slice 76, 1, 24, .nil⟩ ∧
  Tab.get TB 23 = some ⟨.slice 54, 1, 24, .nil⟩ ∧
  Tab.get TB 24 = some ⟨.struct [(0, 22), (1, 23)] false, 2, 48, .agg [.nil, .nil]⟩ ∧
  Tab.get TB 25 = some ⟨.struct [(0, 22), (1, 23)] false, 2, 48, .agg [.nil, .nil]⟩ ∧
  Tab.get TB 26 = some ⟨.func, 1, 8, .nilfn⟩ ∧
  Tab.get TB 27 = some ⟨.func, 1, 8, .nilfn⟩ ∧
  Tab.get TB 28 = some ⟨.slice 50, 1, 24, .nil⟩ ∧
  Tab.get TB 29 = some ⟨.int .i64, 1, 8, .int .i64 0⟩ ∧
  Tab.get TB 31 = some ⟨.func, 1, 8, .nilfn⟩ ∧
  Tab.get TB 33 = some ⟨.func, 1, 8, .nilfn⟩ ∧
  Tab.get TB 34 = some ⟨.func, 1, 8, .nilfn⟩ ∧
  Tab.get TB 35 = some ⟨.func, 1, 8, .nilfn⟩ ∧
  Tab.get TB 36 = some ⟨.slice 9, 1, 24, .nil⟩ ∧
  Tab.get TB 37 = some ⟨.slice 40, 1, 24, .nil⟩ ∧
  Tab.get TB 38 = some ⟨.slice 60, 1, 24, .nil⟩ ∧
  Tab.get TB 39 = some ⟨.struct [(0, 3), (1, 9), (2, 3), (3, 3), (4, 36), (5, 37), (6, 23), (7, 38)] false, 8, 136, .agg [.int .i64 0, .str [], .int .i64 0, .int .i64 0, .nil, .nil, .nil, .nil]⟩ ∧
  Tab.get TB 40 = some ⟨.struct [(0, 3), (1, 9), (2, 3), (3, 3), (4, 36), (5, 37), (6, 23), (7, 38)] false, 8, 136, .agg [.int .i64 0, .str [], .int .i64 0, .int .i64 0, .list 1 [], .list 8 [], .list 9 [], .list 12 []]⟩ ∧
  Tab.get TB 42 = some ⟨.func, 1, 8, .nilfn⟩ ∧
  Tab.get TB 43 = some ⟨.func, 1, 8, .nilfn⟩ ∧
  Tab.get TB 44 = some ⟨.func, 1, 8, .nilfn⟩ ∧
  Tab.get TB 45 = some ⟨.func, 1, 8, .nilfn⟩ ∧
  Tab.get TB 46 = some ⟨.func, 1, 8, .nilfn⟩ ∧
  Tab.get TB 47 = some ⟨.func, 1, 8, .nilfn⟩ ∧
  Tab.get TB 48 = some ⟨.slice 3, 1, 24, .nil⟩ ∧
  Tab.get TB 49 = some ⟨.struct [(0, 9), (1, 3), (2, 48)] false, 3, 48, .agg [.str [], .int .i64 0, .nil]⟩ ∧
  Tab.get TB 50 = some ⟨.struct [(0, 9), (1, 3), (2, 48)] false, 3, 48, .agg [.str [], .int .i64 0, .list 1 []]⟩ ∧
  Tab.get TB 51 = some ⟨.func, 1, 8, .nilfn⟩ ∧
  Tab.get TB 52 = some ⟨.func, 1, 8, .nilfn⟩ ∧
  Tab.get TB 53 = some ⟨.struct [(0, 9), (1, 40)] false, 9, 152, .agg [.str [], .int .i64 0, .str [], .int .i64 0, .int .i64 0, .nil, .nil, .nil, .nil]⟩ ∧
  Tab.get TB 54 = some ⟨.struct [(0, 9), (1, 40)] false, 9, 152, .agg [.str [], .int .i64 0, .str [], .int .i64 0, .int .i64 0, .list 1 [], .list 8 [], .list 9 [], .list 12 []]⟩ ∧
  Tab.get TB 55 = some ⟨.func, 1, 8, .nilfn⟩ ∧
  Tab.get TB 56 = some ⟨.func, 1, 8, .nilfn⟩ ∧
  Tab.get TB 57 = some ⟨.func, 1, 8, .nilfn⟩ ∧
  Tab.get TB 58 = some ⟨.func, 1, 8, .nilfn⟩ ∧
  Tab.get TB 59 = some ⟨.struct [(0, 3), (1, 9), (2, 3), (3, 36), (4, 40)] false, 12, 192, .agg [.int .i64 0, .str [], .int .i64 0, .nil, .int .i64 0, .str [], .int .i64 0, .int .i64 0, .nil, .nil, .nil, .nil]⟩ ∧
  Tab.get TB 60 = some ⟨.struct [(0, 3), (1, 9), (2, 3), (3, 36), (4, 40)] false, 12, 192, .agg [.int .i64 0, .str [], .int .i64 0, .list 1 [], .int .i64 0, .str [], .int .i64 0, .int .i64 0, .list 1 [], .list 8 [], .list 9 [], .list 12 []]⟩ ∧
  Tab.get TB 61 = some ⟨.func, 1, 8, .nilfn⟩ ∧
  Tab.get TB 62 = some ⟨.map 9 40, 1, 8, .nilmap⟩ ∧
  Tab.get TB 63 = some ⟨.map 9 50, 1, 8, .nilmap⟩ ∧
  Tab.get TB 64 = some ⟨.map 9 50, 1, 8, .nilmap⟩ ∧
  Tab.get TB 65 = some ⟨.func, 1, 8, .nilfn⟩ ∧
  Tab.get TB 66 = some ⟨.slice 9, 1, 24, .nil⟩ ∧
  Tab.get TB 67 = some ⟨.func, 1, 8, .nilfn⟩ ∧
  Tab.get TB 68 = some ⟨.func, 1, 8, .nilfn⟩ ∧
  Tab.get TB 69 = some ⟨.func, 1, 8, .nilfn⟩ ∧
  Tab.get TB 70 = some ⟨.func, 1, 8, .nilfn⟩ ∧
  Tab.get TB 71 = some ⟨.ptr 73, 1, 8, .nilptr⟩ ∧
  Tab.get TB 72 = some ⟨.struct [(0, 64), (1, 3)] false, 2, 16, .agg [.nilmap, .int .i64 0]⟩ ∧
  Tab.get TB 73 = some ⟨.struct [(0, 64), (1, 3)] false, 2, 16, .agg [.nilmap, .int .i64 0]⟩ ∧
  Tab.get TB 74 = some ⟨.func, 1, 8, .nilfn⟩ ∧
  Tab.get TB 75 = some ⟨.struct [(0, 9), (1, 3), (2, 3), (3, 3)] true, 4, 40, .agg [.str [], .int .i64 0, .int .i64 0, .int .i64 0]⟩ ∧
  Tab.get TB 76 = some ⟨.struct [(0, 9), (1, 3), (2, 3), (3, 3)] true, 4, 40, .agg [.str [], .int .i64 0, .int .i64 0, .int .i64 0]⟩ ∧
  Tab.get TB 77 = some ⟨.func, 1, 8, .nilfn⟩ ∧
  Tab.get TB 78 = some ⟨.ptr 80, 1, 8, .nilptr⟩ ∧
  Tab.get TB 79 = some ⟨.struct [(0, 3), (1, 28)] false, 2, 32, .agg [.int .i64 0, .nil]⟩ ∧
  Tab.get TB 80 = some ⟨.struct [(0, 3), (1, 28)] false, 2, 32, .agg [.int .i64 0, .nil]⟩ ∧
  Tab.get TB 81 = some ⟨.func, 1, 8, .nilfn⟩ ∧
  Tab.get TB 82 = some ⟨.func, 1, 8, .nilfn⟩ ∧
  Tab.get TB 83 = some ⟨.map 9 4, 1, 8, .nilmap⟩ ∧
  Tab.get TB 84 = some ⟨.func, 1, 8, .nilfn⟩ ∧
  Tab.get TB 85 = some ⟨.map 9 3, 1, 8, .nilmap⟩ ∧
  Tab.get TB 86 = some ⟨.func, 1, 8, .nilfn⟩ ∧
  Tab.get TB 87 = some ⟨.func, 1, 8, .nilfn⟩ ∧
  Tab.get TB 88 = some ⟨.func, 1, 8, .nilfn⟩ ∧
  Tab.get TB 89 = some ⟨.func, 1, 8, .nilfn⟩ ∧
  Tab.get TB 90 = some ⟨.func, 1, 8, .nilfn⟩ ∧
  Tab.get TB 91 = some ⟨.func, 1, 8, .nilfn⟩ ∧
  Tab.get TB 92 = some ⟨.func, 1, 8, .nilfn⟩ ∧
  Tab.get TB 93 = some ⟨.func, 1, 8, .nilfn⟩ ∧
  Tab.get TB 94 = some ⟨.func, 1, 8, .nilfn⟩ ∧
  Tab.get TB 95 = some ⟨.ptr 98, 1, 8, .nilptr⟩ ∧
  Tab.get TB 96 = some ⟨.map 9 76, 1, 8, .nilmap⟩ ∧
  Tab.get TB 97 = some ⟨.struct [(0, 96)] false, 1, 8, .agg [.nilmap]⟩ ∧
  Tab.get TB 98 = some ⟨.struct [(0, 96)] false, 1, 8, .agg [.nilmap]⟩ ∧
  Tab.get TB 99 = some ⟨.func, 1, 8, .nilfn⟩ ∧
  Tab.get TB 100 = some ⟨.func, 1, 8, .nilfn⟩ ∧
  Tab.get TB 101 = some ⟨.array 4 76, 16, 160, .agg [.str [], .int .i64 0, .int .i64 0, .int .i64 0, .str [], .int .i64 0, .int .i64 0, .int .i64 0, .str [], .int .i64 0, .int .i64 0, .int .i64 0, .str [], .int .i64 0, .int .i64 0, .int .i64 0]⟩ ∧
  Tab.get TB 102 = some ⟨.func, 1, 8, .nilfn⟩ ∧
  Tab.get TB 103 = some ⟨.func, 1, 8, .nilfn⟩ ∧
  Tab.get TB 104 = some ⟨.func, 1, 8, .nilfn⟩ ∧
  Tab.get TB 106 = some ⟨.func, 1, 8, .nilfn⟩ ∧
  Tab.get TB 107 = some ⟨.func, 1, 8, .nilfn⟩ ∧
  Tab.get TB 108 = some ⟨.func, 1, 8, .nilfn⟩ ∧
  Tab.get TB 109 = some ⟨.func, 1, 8, .nilfn⟩ ∧
  Tab.get TB 110 = some ⟨.func, 1, 8, .nilfn⟩ ∧
  Tab.get TB 111 = some ⟨.func, 1, 8, .nilfn⟩ ∧
  Tab.get TB 112 = some ⟨.func, 1, 8, .nilfn⟩ ∧
  Tab.get TB 114 = some ⟨.func, 1, 8, .nilfn⟩ ∧
  Tab.get TB 115 = some ⟨.ifc, 1, 16, .ifc true⟩ ∧
  Tab.get TB 116 = some ⟨.ifc, 1, 16, .ifc true⟩ ∧
  Tab.get TB 118 = some ⟨.func, 1, 8, .nilfn⟩ ∧
  Tab.get TB 119 = some ⟨.func, 1, 8, .nilfn⟩ ∧
  Tab.get TB 120 = some ⟨.func, 1, 8, .nilfn⟩ ∧
  Tab.get TB 121 = some ⟨.func, 1, 8, .nilfn⟩ ∧
  Tab.get TB 122 = some ⟨.func, 1, 8, .nilfn⟩ ∧
  Tab.get TB 123 = some ⟨.func, 1, 8, .nilfn⟩ ∧
  Tab.get TB 124 = some ⟨.func, 1, 8, .nilfn⟩ ∧
  Tab.get TB 125 = some ⟨.func, 1, 8, .nilfn⟩ ∧
  Tab.get TB 126 = some ⟨.func, 1, 8, .nilfn⟩ ∧
  Tab.get TB 127 = some ⟨.func, 1, 8, .nilfn⟩ ∧
  Tab.get TB 128 = some ⟨.func, 1, 8, .nilfn⟩ ∧
  Tab.get TB 129 = some ⟨.func, 1, 8, .nilfn⟩ ∧
  Tab.get TB 130 = some ⟨.func, 1, 8, .nilfn⟩ ∧
  Tab.get TB 131 = some ⟨.func, 1, 8, .nilfn⟩ ∧
  Tab.get TB 132 = some ⟨.func, 1, 8, .nilfn⟩ ∧
  Tab.get TB 133 = some ⟨.func, 1, 8, .nilfn⟩ ∧
  Tab.get TB 134 = some ⟨.func, 1, 8, .nilfn⟩ ∧
  Tab.get TB 135 = some ⟨.int .u64, 1, 8, .int .u64 0⟩ ∧
  Tab.get TB 136 = some ⟨.func, 1, 8, .nilfn⟩ ∧
  Tab.get TB 137 = some ⟨.func, 1, 8, .nilfn⟩ ∧
  Tab.get TB 138 = some ⟨.func, 1, 8, .nilfn⟩ ∧
  Tab.get TB 140 = some ⟨.func, 1, 8, .nilfn⟩ ∧
  Tab.get TB 141 = some ⟨.map 3 4, 1, 8, .nilmap⟩ ∧
  Tab.get TB 142 = some ⟨.func, 1, 8, .nilfn⟩ ∧
  Tab.get TB 143 = some ⟨.func, 1, 8, .nilfn⟩ ∧
  Tab.get TB 144 = some ⟨.func, 1, 8, .nilfn⟩ ∧
  Tab.get TB 146 = some ⟨.func, 1, 8, .nilfn⟩ ∧
  Tab.get TB 147 = some ⟨.func, 1, 8, .nilfn⟩ ∧
  Tab.get TB 148 = some ⟨.func, 1, 8, .nilfn⟩ ∧
  Tab.get TB 149 = some ⟨.func, 1, 8, .nilfn⟩ ∧
  Tab.get TB 150 = some ⟨.func, 1, 8, .nilfn⟩ ∧
  Tab.get TB 151 = some ⟨.func, 1, 8, .nilfn⟩ ∧
  Tab.get TB 152 = some ⟨.func, 1, 8, .nilfn⟩ ∧
  Tab.get TB 153 = some ⟨.func, 1, 8, .nilfn⟩ ∧
  Tab.get TB 154 = some ⟨.func, 1, 8, .nilfn⟩ ∧
  Tab.get TB 155 = some ⟨.int .i64, 1, 8, .int .i64 0⟩ ∧
  Tab.get TB 157 = some ⟨.func, 1, 8, .nilfn⟩ ∧
  Tab.get TB 158 = some ⟨.func, 1, 8, .nilfn⟩ ∧
  Tab.get TB 159 = some ⟨.func, 1, 8, .nilfn⟩ ∧
  Tab.get TB 160 = some ⟨.func, 1, 8, .nilfn⟩ ∧
  Tab.get TB 161 = some ⟨.func, 1, 8, .nilfn⟩ ∧
  Tab.get TB 162 = some ⟨.func, 1, 8, .nilfn⟩ ∧
  Tab.get TB 163 = some ⟨.int .u32, 1, 4, .int .u32 0⟩ ∧
  Tab.get TB 164 = some ⟨.func, 1, 8, .nilfn⟩ ∧
  Tab.get TB 165 = some ⟨.int .u64, 1, 8, .int .u64 0⟩ ∧
  Tab.get TB 166 = some ⟨.func, 1, 8, .nilfn⟩ ∧
  Tab.get TB 167 = some ⟨.func, 1, 8, .nilfn⟩ ∧
  Tab.get TB 168 = some ⟨.func, 1, 8, .nilfn⟩ ∧
  Tab.get TB 169 = some ⟨.func, 1, 8, .nilfn⟩ ∧
  Tab.get TB 170 = some ⟨.int .i64, 1, 8, .int .i64 0⟩ ∧
  Tab.get TB 171 = some ⟨.slice 5, 1, 24, .nil⟩ ∧
  Tab.get TB 173 = some ⟨.func, 1, 8, .nilfn⟩ ∧
  Tab.get TB 174 = some ⟨.ptr 190, 1, 8, .nilptr⟩ ∧
  Tab.get TB 175 = some ⟨.func, 1, 8, .nilfn⟩ ∧
  Tab.get TB 176 = some ⟨.func, 1, 8, .nilfn⟩ ∧
  Tab.get TB 177 = some ⟨.func, 1, 8, .nilfn⟩ ∧
  Tab.get TB 178 = some ⟨.func, 1, 8, .nilfn⟩ ∧
  Tab.get TB 179 = some ⟨.int .u64, 1, 8, .int .u64 0⟩ ∧
  Tab.get TB 180 = some ⟨.func, 1, 8, .nilfn⟩ ∧
  Tab.get TB 181 = some ⟨.func, 1, 8, .nilfn⟩ ∧
  Tab.get TB 182 = some ⟨.func, 1, 8, .nilfn⟩ ∧
  Tab.get TB 183 = some ⟨.ptr 3, 1, 8, .nilptr⟩ ∧
  Tab.get TB 184 = some ⟨.func, 1, 8, .nilfn⟩ ∧
  Tab.get TB 185 = some ⟨.func, 1, 8, .nilfn⟩ ∧
  Tab.get TB 187 = some ⟨.func, 1, 8, .nilfn⟩ ∧
  Tab.get TB 188 = some ⟨.func, 1, 8, .nilfn⟩ ∧
  Tab.get TB 189 = some ⟨.struct [(0, 9), (1, 9), (2, 116)] false, 3, 48, .agg [.str [], .str [], .ifc true]⟩ ∧
  Tab.get TB 190 = some ⟨.struct [(0, 9), (1, 9), (2, 116)] false, 3, 48, .agg [.str [], .str [], .ifc true]⟩ ∧
  Tab.get TB 191 = some ⟨.func, 1, 8, .nilfn⟩ ∧
  Tab.get TB 192 = some ⟨.array 24 5, 24, 24, .agg [.int .u8 0, .int .u8 0, .int .u8 0, .int .u8 0, .int .u8 0, .int .u8 0, .int .u8 0, .int .u8 0, .int .u8 0, .int .u8 0, .int .u8 0, .int .u8 0, .int .u8 0, .int .u8 0, .int .u8 0, .int .u8 0, .int .u8 0, .int .u8 0, .int .u8 0, .int .u8 0, .int .u8 0, .int .u8 0, .int .u8 0, .int .u8 0]⟩ ∧
  Tab.get TB 193 = some ⟨.func, 1, 8, .nilfn⟩ ∧
  Tab.get TB 195 = some ⟨.func, 1, 8, .nilfn⟩ ∧
  Tab.get TB 196 = some ⟨.ptr 179, 1, 8, .nilptr⟩ ∧
  Tab.get TB 197 = some ⟨.func, 1, 8, .nilfn⟩ ∧
  Tab.get TB 198 = some ⟨.func, 1, 8, .nilfn⟩ ∧
  Tab.get TB 199 = some ⟨.ptr 5, 1, 8, .nilptr⟩ ∧
  Tab.get TB 200 = some ⟨.ptr 202, 1, 8, .nilptr⟩ ∧
  Tab.get TB 201 = some ⟨.struct [(0, 9)] true, 1, 16, .agg [.str []]⟩ ∧
  Tab.get TB 202 = some ⟨.struct [(0, 9)] true, 1, 16, .agg [.str []]⟩ ∧
  Tab.get TB 203 = some ⟨.func, 1, 8, .nilfn⟩ ∧
  Tab.get TB 204 = some ⟨.array 20 165, 20, 160, .agg [.int .u64 0, .int .u64 0, .int .u64 0, .int .u64 0, .int .u64 0, .int .u64 0, .int .u64 0, .int .u64 0, .int .u64 0, .int .u64 0, .int .u64 0, .int .u64 0, .int .u64 0, .int .u64 0, .int .u64 0, .int .u64 0, .int .u64 0, .int .u64 0, .int .u64 0, .int .u64 0]⟩ ∧
  Tab.get TB 205 = some ⟨.array 65 5, 65, 65, .agg [.int .u8 0, .int .u8 0, .int .u8 0, .int .u8 0, .int .u8 0, .int .u8 0, .int .u8 0, .int .u8 0, .int .u8 0, .int .u8 0, .int .u8 0, .int .u8 0, .int .u8 0, .int .u8 0, .int .u8 0, .int .u8 0, .int .u8 0, .int .u8 0, .int .u8 0, .int .u8 0, .int .u8 0, .int .u8 0, .int .u8 0, .int .u8 0, .int .u8 0, .int .u8 0, .int .u8 0, .int .u8 0, .int .u8 0, .int .u8 0, .int .u8 0, .int .u8 0, .int .u8 0, .int .u8 0, .int .u8 0, .int .u8 0, .int .u8 0, .int .u8 0, .int .u8 0, .int .u8 0, .int .u8 0, .int .u8 0, .int .u8 0, .int .u8 0, .int .u8 0, .int .u8 0, .int .u8 0, .int .u8 0, .int .u8 0, .int .u8 0, .int .u8 0, .int .u8 0, .int .u8 0, .int .u8 0, .int .u8 0, .int .u8 0, .int .u8 0, .int .u8 0, .int .u8 0, .int .u8 0, .int .u8 0, .int .u8 0, .int .u8 0, .int .u8 0, .int .u8 0]⟩ ∧
  Tab.get TB 206 = some ⟨.array 32 5, 32, 32, .agg [.int .u8 0, .int .u8 0, .int .u8 0, .int .u8 0, .int .u8 0, .int .u8 0, .int .u8 0, .int .u8 0, .int .u8 0, .int .u8 0, .int .u8 0, .int .u8 0, .int .u8 0, .int .u8 0, .int .u8 0, .int .u8 0, .int .u8 0, .int .u8 0, .int .u8 0, .int .u8 0, .int .u8 0, .int .u8 0, .int .u8 0, .int .u8 0, .int .u8 0, .int .u8 0, .int .u8 0, .int .u8 0, .int .u8 0, .int .u8 0, .int .u8 0, .int .u8 0]⟩ ∧
  Tab.get TB 207 = some ⟨.array 64 5, 64, 64, .agg [.int .u8 0, .int .u8 0, .int .u8 0, .int .u8 0, .int .u8 0, .int .u8 0, .int .u8 0, .int .u8 0, .int .u8 0, .int .u8 0, .int .u8 0, .int .u8 0, .int .u8 0, .int .u8 0, .int .u8 0, .int .u8 0, .int .u8 0, .int .u8 0, .int .u8 0, .int .u8 0, .int .u8 0, .int .u8 0, .int .u8 0, .int .u8 0, .int .u8 0, .int .u8 0, .int .u8 0, .int .u8 0, .int .u8 0, .int .u8 0, .int .u8 0, .int .u8 0, .int .u8 0, .int .u8 0, .int .u8 0, .int .u8 0, .int .u8 0, .int .u8 0, .int .u8 0, .int .u8 0, .int .u8 0, .int .u8 0, .int .u8 0, .int .u8 0, .int .u8 0, .int .u8 0, .int .u8 0, .int .u8 0, .int .u8 0, .int .u8 0, .int .u8 0, .int .u8 0, .int .u8 0, .int .u8 0, .int .u8 0, .int .u8 0, .int .u8 0, .int .u8 0, .int .u8 0, .int .u8 0, .int .u8 0, .int .u8 0, .int .u8 0, .int .u8 0]⟩ ∧
  Tab.get TB 208 = some ⟨.func, 1, 8, .nilfn⟩ ∧
  Tab.get TB 209 = some ⟨.struct [(0, 17), (1, 17), (2, 17), (3, 9)] false, 4, 40, .agg [.nilptr, .nilptr, .nilptr, .str []]⟩ ∧
  Tab.get TB 210 = some ⟨.struct [(0, 17), (1, 17), (2, 17), (3, 9)] false, 4, 40, .agg [.nilptr, .nilptr, .nilptr, .str []]⟩ ∧
  Tab.get TB 211 = some ⟨.array 0 16, 0, 0, .agg []⟩ ∧
  Tab.get TB 212 = some ⟨.struct [(0, 211)] false, 0, 0, .agg []⟩ ∧
  Tab.get TB 213 = some ⟨.struct [(0, 211)] false, 0, 0, .agg []⟩ ∧
  Tab.get TB 214 = some ⟨.func, 1, 8, .nilfn⟩ ∧
  Tab.get TB 215 = some ⟨.int .u8, 1, 1, .int .u8 0⟩ ∧
  Tab.get TB 216 = some ⟨.int .u8, 1, 1, .int .u8 0⟩ ∧
  Tab.get TB 217 = some ⟨.func, 1, 8, .nilfn⟩ ∧
  Tab.get TB 218 = some ⟨.int .i32, 1, 4, .int .i32 0⟩ ∧
  Tab.get TB 219 = some ⟨.int .i32, 1, 4, .int .i32 0⟩ ∧
  Tab.get TB 220 = some ⟨.struct [(0, 12), (1, 12), (2, 163), (3, 215), (4, 5), (5, 5), (6, 216), (7, 217), (8, 199), (9, 218), (10, 219)] false, 11, 48, .agg [.int .u64 0, .int .u64 0, .int .u32 0, .int .u8 0, .int .u8 0, .int .u8 0, .int .u8 0, .nilfn, .nilptr, .int .i32 0, .int .i32 0]⟩ ∧
  Tab.get TB 221 = some ⟨.struct [(0, 12), (1, 12), (2, 163), (3, 215), (4, 5), (5, 5), (6, 216), (7, 217), (8, 199), (9, 218), (10, 219)] false, 11, 48, .agg [.int .u64 0, .int .u64 0, .int .u32 0, .int .u8 0, .int .u8 0, .int .u8 0, .int .u8 0, .nilfn, .nilptr, .int .i32 0, .int .i32 0]⟩ :=
  ⟨rfl, rfl, rfl, rfl, rfl, rfl, rfl, rfl, rfl, rfl, rfl, rfl, rfl, rfl, rfl, rfl, rfl, rfl, rfl, rfl, rfl, rfl, rfl, rfl, rfl, rfl, rfl, rfl, rfl, rfl, rfl, rfl, rfl, rfl, rfl, rfl, rfl, rfl, rfl, rfl, rfl, rfl, rfl, rfl, rfl, rfl, rfl, rfl, rfl, rfl, rfl, rfl, rfl, rfl, rfl, rfl, rfl, rfl, rfl, rfl, rfl, rfl, rfl, rfl, rfl, rfl, rfl, rfl, rfl, rfl, rfl, rfl, rfl, rfl, rfl, rfl, rfl, rfl, rfl, rfl, rfl, rfl, rfl, rfl, rfl, rfl, rfl, rfl, rfl, rfl, rfl, rfl, rfl, rfl, rfl, rfl, rfl, rfl, rfl, rfl, rfl, rfl, rfl, rfl, rfl, rfl, rfl, rfl, rfl, rfl, rfl, rfl, rfl, rfl, rfl, rfl, rfl, rfl, rfl, rfl, rfl, rfl, rfl, rfl, rfl, rfl, rfl, rfl, rfl, rfl, rfl, rfl, rfl, rfl, rfl, rfl, rfl, rfl, rfl, rfl, rfl, rfl, rfl, rfl, rfl, rfl, rfl, rfl, rfl, rfl, rfl, rfl, rfl, rfl, rfl, rfl, rfl, rfl, rfl, rfl, rfl, rfl, rfl, rfl, rfl, rfl, rfl, rfl, rfl, rfl, rfl, rfl, rfl, rfl, rfl, rfl, rfl, rfl, rfl, rfl, rfl, rfl, rfl, rfl, rfl, rfl, rfl, rfl, rfl, rfl, rfl, rfl, rfl, rfl, rfl⟩
theorem ok2 : tiOK Tryz.prog 2 t2 := tiOK_of (.int .i64 0) (Told2.refl _) Tryz.underlying2 (by kernel_rfl)
theorem ok3 : tiOK Tryz.prog 3 t3 := tiOK_of (.int .i64 0) (Told2.refl _) Tryz.underlying3 (by kernel_rfl)
theorem ok4 : tiOK Tryz.prog 4 t4 := tiOK_of (.bool false) (Told2.refl _) Tryz.underlying4 (by kernel_rfl)
theorem ok5 : tiOK Tryz.prog 5 t5 := tiOK_of (.int .u8 0) (Told2.refl _) Tryz.underlying5 (by kernel_rfl)
theorem ok9 : tiOK Tryz.prog 9 t9 := tiOK_of (.str []) (Told2.refl _) Tryz.underlying9 (by kernel_rfl)
theorem ok20 : tiOK Tryz.prog 20 t20 := tiOK_of (.ifc true) (Told2.refl _) ⟨_, Tryz.underlying20⟩ (by kernel_rfl)
theorem ok21 : tiOK Tryz.prog 21 t21 := tiOK_of (.int .i32 0) (Told2.refl _) Tryz.underlying21 (by kernel_rfl)
theorem ok22 : tiOK Tryz.prog 22 t22 := tiOK_of (.nil) (Told2.refl _) Tryz.underlying22 (by kernel_rfl)
theorem ok23 : tiOK Tryz.prog 23 t23 := tiOK_of (.nil) (Told2.refl _) Tryz.underlying23 (by kernel_rfl)
theorem ok24 : tiOK Tryz.prog 24 t24 := tiOK_of (.agg [.nil, .nil]) (Told2.refl _) ⟨⟨_, Tryz.underlying24, rfl⟩, fun h => by cases h⟩ (by kernel_rfl)
theorem ok25 : tiOK Tryz.prog 25 t25 := tiOK_of (.agg [.nil, .nil]) (Told2.refl _) ⟨⟨_, Tryz.underlying25, rfl⟩, fun h => by cases h⟩ (by kernel_rfl)
theorem ok26 : tiOK Tryz.prog 26 t26 := tiOK_of (.nilfn) (Told2.refl _) ⟨_, _, _, Tryz.underlying26⟩ (by kernel_rfl)
theorem ok27 : tiOK Tryz.prog 27 t27 := tiOK_of (.nilfn) (Told2.refl _) ⟨_, _, _, Tryz.underlying27⟩ (by kernel_rfl)
theorem ok28 : tiOK Tryz.prog 28 t28 := tiOK_of (.nil) (Told2.refl _) Tryz.underlying28 (by kernel_rfl)
theorem ok29 : tiOK Tryz.prog 29 t29 := tiOK_of (.int .i64 0) (Told2.refl _) Tryz.underlying29 (by kernel_rfl)
theorem ok31 : tiOK Tryz.prog 31 t31 := tiOK_of (.nilfn) (Told2.refl _) ⟨_, _, _, Tryz.underlying31⟩ (by kernel_rfl)
theorem ok33 : tiOK Tryz.prog 33 t33 := tiOK_of (.nilfn) (Told2.refl _) ⟨_, _, _, Tryz.underlying33⟩ (by kernel_rfl)
theorem ok34 : tiOK Tryz.prog 34 t34 := tiOK_of (.nilfn) (Told2.refl _) ⟨_, _, _, Tryz.underlying34⟩ (by kernel_rfl)
theorem ok35 : tiOK Tryz.prog 35 t35 := tiOK_of (.nilfn) (Told2.refl _) ⟨_, _, _, Tryz.underlying35⟩ (by kernel_rfl)
theorem ok36 : tiOK Tryz.prog 36 t36 := tiOK_of (.nil) (Told2.refl _) Tryz.underlying36 (by kernel_rfl)
theorem ok37 : tiOK Tryz.prog 37 t37 := tiOK_of (.nil) (Told2.refl _) Tryz.underlying37 (by kernel_rfl)
theorem ok38 : tiOK Tryz.prog 38 t38 := tiOK_of (.nil) (Told2.refl _) Tryz.underlying38 (by kernel_rfl)
theorem ok39 : tiOK Tryz.prog 39 t39 := tiOK_of (.agg [.int .i64 0, .str [], .int .i64 0, .int .i64 0, .nil, .nil, .nil, .nil]) (Told2.refl _) ⟨⟨_, Tryz.underlying39, rfl⟩, fun h => by cases h⟩ (by kernel_rfl)
theorem ok40 : tiOK Tryz.prog 40 t40 := tiOK_of (.agg [.int .i64 0, .str [], .int .i64 0, .int .i64 0, .nil, .nil, .nil, .nil]) (by simp [Told2, ToldL, Told, t40]) ⟨⟨_, Tryz.underlying40, rfl⟩, fun h => by cases h⟩ (by kernel_rfl)
theorem ok42 : tiOK Tryz.prog 42 t42 := tiOK_of (.nilfn) (Told2.refl _) ⟨_, _, _, Tryz.underlying42⟩ (by kernel_rfl)
theorem ok43 : tiOK Tryz.prog 43 t43 := tiOK_of (.nilfn) (Told2.refl _) ⟨_, _, _, Tryz.underlying43⟩ (by kernel_rfl)
theorem ok44 : tiOK Tryz.prog 44 t44 := tiOK_of (.nilfn) (Told2.refl _) ⟨_, _, _, Tryz.underlying44⟩ (by kernel_rfl)
theorem ok45 : tiOK Tryz.prog 45 t45 := tiOK_of (.nilfn) (Told2.refl _) ⟨_, _, _, Tryz.underlying45⟩ (by kernel_rfl)
theorem ok46 : tiOK Tryz.prog 46 t46 := tiOK_of (.nilfn) (Told2.refl _) ⟨_, _, _, Tryz.underlying46⟩ (by kernel_rfl)
theorem ok47 : tiOK Tryz.prog 47 t47 := tiOK_of (.nilfn) (Told2.refl _) ⟨_, _, _, Tryz.underlying47⟩ (by kernel_rfl)
theorem ok48 : tiOK Tryz.prog 48 t48 := tiOK_of (.nil) (Told2.refl _) Tryz.underlying48 (by kernel_rfl)
theorem ok49 : tiOK Tryz.prog 49 t49 := tiOK_of (.agg [.str [], .int .i64 0, .nil]) (Told2.refl _) ⟨⟨_, Tryz.underlying49, rfl⟩, fun h => by cases h⟩ (by kernel_rfl)
theorem ok50 : tiOK Tryz.prog 50 t50 := tiOK_of (.agg [.str [], .int .i64 0, .nil]) (by simp [Told2, ToldL, Told, t50]) ⟨⟨_, Tryz.underlying50, rfl⟩, fun h => by cases h⟩ (by kernel_rfl)
theorem ok51 : tiOK Tryz.prog 51 t51 := tiOK_of (.nilfn) (Told2.refl _) ⟨_, _, _, Tryz.underlying51⟩ (by kernel_rfl)
theorem ok52 : tiOK Tryz.prog 52 t52 := tiOK_of (.nilfn) (Told2.refl _) ⟨_, _, _, Tryz.underlying52⟩ (by kernel_rfl)
theorem ok53 : tiOK Tryz.prog 53 t53 := tiOK_of (.agg [.str [], .int .i64 0, .str [], .int .i64 0, .int .i64 0, .nil, .nil, .nil, .nil]) (Told2.refl _) ⟨⟨_, Tryz.underlying53, rfl⟩, fun h => by cases h⟩ (by kernel_rfl)
theorem ok54 : tiOK Tryz.prog 54 t54 := tiOK_of (.agg [.str [], .int .i64 0, .str [], .int .i64 0, .int .i64 0, .nil, .nil, .nil, .nil]) (by simp [Told2, ToldL, Told, t54]) ⟨⟨_, Tryz.underlying54, rfl⟩, fun h => by cases h⟩ (by kernel_rfl)
theorem ok55 : tiOK Tryz.prog 55 t55 := tiOK_of (.nilfn) (Told2.refl _) ⟨_, _, _, Tryz.underlying55⟩ (by kernel_rfl)
theorem ok56 : tiOK Tryz.prog 56 t56 := tiOK_of (.nilfn) (Told2.refl _) ⟨_, _, _, Tryz.underlying56⟩ (by kernel_rfl)
theorem ok57 : tiOK Tryz.prog 57 t57 := tiOK_of (.nilfn) (Told2.refl _) ⟨_, _, _, Tryz.underlying57⟩ (by kernel_rfl)
theorem ok58 : tiOK Tryz.prog 58 t58 := tiOK_of (.nilfn) (Told2.refl _) ⟨_, _, _, Tryz.underlying58⟩ (by kernel_rfl)
theorem ok59 : tiOK Tryz.prog 59 t59 := tiOK_of (.agg [.int .i64 0, .str [], .int .i64 0, .nil, .int .i64 0, .str [], .int .i64 0, .int .i64 0, .nil, .nil, .nil, .nil]) (Told2.refl _) ⟨⟨_, Tryz.underlying59, rfl⟩, fun h => by cases h⟩ (by kernel_rfl)
theorem ok60 : tiOK Tryz.prog 60 t60 := tiOK_of (.agg [.int .i64 0, .str [], .int .i64 0, .nil, .int .i64 0, .str [], .int .i64 0, .int .i64 0, .nil, .nil, .nil, .nil]) (by simp [Told2, ToldL, Told, t60]) ⟨⟨_, Tryz.underlying60, rfl⟩, fun h => by cases h⟩ (by kernel_rfl)
theorem ok61 : tiOK Tryz.prog 61 t61 := tiOK_of (.nilfn) (Told2.refl _) ⟨_, _, _, Tryz.underlying61⟩ (by kernel_rfl)
theorem ok62 : tiOK Tryz.prog 62 t62 := tiOK_of (.nilmap) (Told2.refl _) Tryz.underlying62 (by kernel_rfl)
theorem ok63 : tiOK Tryz.prog 63 t63 := tiOK_of (.nilmap) (Told2.refl _) Tryz.underlying63 (by kernel_rfl)
theorem ok64 : tiOK Tryz.prog 64 t64 := tiOK_of (.nilmap) (Told2.refl _) Tryz.underlying64 (by kernel_rfl)
theorem ok65 : tiOK Tryz.prog 65 t65 := tiOK_of (.nilfn) (Told2.refl _) ⟨_, _, _, Tryz.underlying65⟩ (by kernel_rfl)
theorem ok66 : tiOK Tryz.prog 66 t66 := tiOK_of (.nil) (Told2.refl _) Tryz.underlying66 (by kernel_rfl)
theorem ok67 : tiOK Tryz.prog 67 t67 := tiOK_of (.nilfn) (Told2.refl _) ⟨_, _, _, Tryz.underlying67⟩ (by kernel_rfl)
theorem ok68 : tiOK Tryz.prog 68 t68 := tiOK_of (.nilfn) (Told2.refl _) ⟨_, _, _, Tryz.underlying68⟩ (by kernel_rfl)
theorem ok69 : tiOK Tryz.prog 69 t69 := tiOK_of (.nilfn) (Told2.refl _) ⟨_, _, _, Tryz.underlying69⟩ (by kernel_rfl)
theorem ok70 : tiOK Tryz.prog 70 t70 := tiOK_of (.nilfn) (Told2.refl _) ⟨_, _, _, Tryz.underlying70⟩ (by kernel_rfl)
theorem ok71 : tiOK Tryz.prog 71 t71 := tiOK_of (.nilptr) (Told2.refl _) Tryz.underlying71 (by kernel_rfl)
theorem ok72 : tiOK Tryz.prog 72 t72 := tiOK_of (.agg [.nilmap, .int .i64 0]) (Told2.refl _) ⟨⟨_, Tryz.underlying72, rfl⟩, fun h => by cases h⟩ (by kernel_rfl)
theorem ok73 : tiOK Tryz.prog 73 t73 := tiOK_of (.agg [.nilmap, .int .i64 0]) (Told2.refl _) ⟨⟨_, Tryz.underlying73, rfl⟩, fun h => by cases h⟩ (by kernel_rfl)
theorem ok74 : tiOK Tryz.prog 74 t74 := tiOK_of (.nilfn) (Told2.refl _) ⟨_, _, _, Tryz.underlying74⟩ (by kernel_rfl)
theorem ok75 : tiOK Tryz.prog 75 t75 := tiOK_of (.agg [.str [], .int .i64 0, .int .i64 0, .int .i64 0]) (Told2.refl _) ⟨⟨_, Tryz.underlying75, rfl⟩, fun _ => eqPlain_of (by kernel_rfl)⟩ (by kernel_rfl)
theorem ok76 : tiOK Tryz.prog 76 t76 := tiOK_of (.agg [.str [], .int .i64 0, .int .i64 0, .int .i64 0]) (Told2.refl _) ⟨⟨_, Tryz.underlying76, rfl⟩, fun _ => eqPlain_of (by kernel_rfl)⟩ (by kernel_rfl)
theorem ok77 : tiOK Tryz.prog 77 t77 := tiOK_of (.nilfn) (Told2.refl _) ⟨_, _, _, Tryz.underlying77⟩ (by kernel_rfl)
theorem ok78 : tiOK Tryz.prog 78 t78 := tiOK_of (.nilptr) (Told2.refl _) Tryz.underlying78 (by kernel_rfl)
theorem ok79 : tiOK Tryz.prog 79 t79 := tiOK_of (.agg [.int .i64 0, .nil]) (Told2.refl _) ⟨⟨_, Tryz.underlying79, rfl⟩, fun h => by cases h⟩ (by kernel_rfl)
theorem ok80 : tiOK Tryz.prog 80 t80 := tiOK_of (.agg [.int .i64 0, .nil]) (Told2.refl _) ⟨⟨_, Tryz.underlying80, rfl⟩, fun h => by cases h⟩ (by kernel_rfl)
theorem ok81 : tiOK Tryz.prog 81 t81 := tiOK_of (.nilfn) (Told2.refl _) ⟨_, _, _, Tryz.underlying81⟩ (by kernel_rfl)
theorem ok82 : tiOK Tryz.prog 82 t82 := tiOK_of (.nilfn) (Told2.refl _) ⟨_, _, _, Tryz.underlying82⟩ (by kernel_rfl)
theorem ok83 : tiOK Tryz.prog 83 t83 := tiOK_of (.nilmap) (Told2.refl _) Tryz.underlying83 (by kernel_rfl)
theorem ok84 : tiOK Tryz.prog 84 t84 := tiOK_of (.nilfn) (Told2.refl _) ⟨_, _, _, Tryz.underlying84⟩ (by kernel_rfl)
theorem ok85 : tiOK Tryz.prog 85 t85 := tiOK_of (.nilmap) (Told2.refl _) Tryz.underlying85 (by kernel_rfl)
theorem ok86 : tiOK Tryz.prog 86 t86 := tiOK_of (.nilfn) (Told2.refl _) ⟨_, _, _, Tryz.underlying86⟩ (by kernel_rfl)
theorem ok87 : tiOK Tryz.prog 87 t87 := tiOK_of (.nilfn) (Told2.refl _) ⟨_, _, _, Tryz.underlying87⟩ (by kernel_rfl)
theorem ok88 : tiOK Tryz.prog 88 t88 := tiOK_of (.nilfn) (Told2.refl _) ⟨_, _, _, Tryz.underlying88⟩ (by kernel_rfl)
theorem ok89 : tiOK Tryz.prog 89 t89 := tiOK_of (.nilfn) (Told2.refl _) ⟨_, _, _, Tryz.underlying89⟩ (by kernel_rfl)
theorem ok90 : tiOK Tryz.prog 90 t90 := tiOK_of (.nilfn) (Told2.refl _) ⟨_, _, _, Tryz.underlying90⟩ (by kernel_rfl)
theorem ok91 : tiOK Tryz.prog 91 t91 := tiOK_of (.nilfn) (Told2.refl _) ⟨_, _, _, Tryz.underlying91⟩ (by kernel_rfl)
theorem ok92 : tiOK Tryz.prog 92 t92 := tiOK_of (.nilfn) (Told2.refl _) ⟨_, _, _, Tryz.underlying92⟩ (by kernel_rfl)
theorem ok93 : tiOK Tryz.prog 93 t93 := tiOK_of (.nilfn) (Told2.refl _) ⟨_, _, _, Tryz.underlying93⟩ (by kernel_rfl)
theorem ok94 : tiOK Tryz.prog 94 t94 := tiOK_of (.nilfn) (Told2.refl _) ⟨_, _, _, Tryz.underlying94⟩ (by kernel_rfl)
theorem ok95 : tiOK Tryz.prog 95 t95 := tiOK_of (.nilptr) (Told2.refl _) Tryz.underlying95 (by kernel_rfl)
theorem ok96 : tiOK Tryz.prog 96 t96 := tiOK_of (.nilmap) (Told2.refl _) Tryz.underlying96 (by kernel_rfl)
theorem ok97 : tiOK Tryz.prog 97 t97 := tiOK_of (.agg [.nilmap]) (Told2.refl _) ⟨⟨_, Tryz.underlying97, rfl⟩, fun h => by cases h⟩ (by kernel_rfl)
theorem ok98 : tiOK Tryz.prog 98 t98 := tiOK_of (.agg [.nilmap]) (Told2.refl _) ⟨⟨_, Tryz.underlying98, rfl⟩, fun h => by cases h⟩ (by kernel_rfl)
theorem ok99 : tiOK Tryz.prog 99 t99 := tiOK_of (.nilfn) (Told2.refl _) ⟨_, _, _, Tryz.underlying99⟩ (by kernel_rfl)
theorem ok100 : tiOK Tryz.prog 100 t100 := tiOK_of (.nilfn) (Told2.refl _) ⟨_, _, _, Tryz.underlying100⟩ (by kernel_rfl)
theorem ok101 : tiOK Tryz.prog 101 t101 := tiOK_of (.agg [.str [], .int .i64 0, .int .i64 0, .int .i64 0, .str [], .int .i64 0, .int .i64 0, .int .i64 0, .str [], .int .i64 0, .int .i64 0, .int .i64 0, .str [], .int .i64 0, .int .i64 0, .int .i64 0]) (Told2.refl _) Tryz.underlying101 (by kernel_rfl)
theorem ok102 : tiOK Tryz.prog 102 t102 := tiOK_of (.nilfn) (Told2.refl _) ⟨_, _, _, Tryz.underlying102⟩ (by kernel_rfl)
theorem ok103 : tiOK Tryz.prog 103 t103 := tiOK_of (.nilfn) (Told2.refl _) ⟨_, _, _, Tryz.underlying103⟩ (by kernel_rfl)
theorem ok104 : tiOK Tryz.prog 104 t104 := tiOK_of (.nilfn) (Told2.refl _) ⟨_, _, _, Tryz.underlying104⟩ (by kernel_rfl)
theorem ok106 : tiOK Tryz.prog 106 t106 := tiOK_of (.nilfn) (Told2.refl _) ⟨_, _, _, Tryz.underlying106⟩ (by kernel_rfl)
theorem ok107 : tiOK Tryz.prog 107 t107 := tiOK_of (.nilfn) (Told2.refl _) ⟨_, _, _, Tryz.underlying107⟩ (by kernel_rfl)
theorem ok108 : tiOK Tryz.prog 108 t108 := tiOK_of (.nilfn) (Told2.refl _) ⟨_, _, _, Tryz.underlying108⟩ (by kernel_rfl)
theorem ok109 : tiOK Tryz.prog 109 t109 := tiOK_of (.nilfn) (Told2.refl _) ⟨_, _, _, Tryz.underlying109⟩ (by kernel_rfl)
theorem ok110 : tiOK Tryz.prog 110 t110 := tiOK_of (.nilfn) (Told2.refl _) ⟨_, _, _, Tryz.underlying110⟩ (by kernel_rfl)
theorem ok111 : tiOK Tryz.prog 111 t111 := tiOK_of (.nilfn) (Told2.refl _) ⟨_, _, _, Tryz.underlying111⟩ (by kernel_rfl)
theorem ok112 : tiOK Tryz.prog 112 t112 := tiOK_of (.nilfn) (Told2.refl _) ⟨_, _, _, Tryz.underlying112⟩ (by kernel_rfl)
theorem ok114 : tiOK Tryz.prog 114 t114 := tiOK_of (.nilfn) (Told2.refl _) ⟨_, _, _, Tryz.underlying114⟩ (by kernel_rfl)
theorem ok115 : tiOK Tryz.prog 115 t115 := tiOK_of (.ifc true) (Told2.refl _) ⟨_, Tryz.underlying115⟩ (by kernel_rfl)
theorem ok116 : tiOK Tryz.prog 116 t116 := tiOK_of (.ifc true) (Told2.refl _) ⟨_, Tryz.underlying116⟩ (by kernel_rfl)
theorem ok118 : tiOK Tryz.prog 118 t118 := tiOK_of (.nilfn) (Told2.refl _) ⟨_, _, _, Tryz.underlying118⟩ (by kernel_rfl)
theorem ok119 : tiOK Tryz.prog 119 t119 := tiOK_of (.nilfn) (Told2.refl _) ⟨_, _, _, Tryz.underlying119⟩ (by kernel_rfl)
theorem ok120 : tiOK Tryz.prog 120 t120 := tiOK_of (.nilfn) (Told2.refl _) ⟨_, _, _, Tryz.underlying120⟩ (by kernel_rfl)
theorem ok121 : tiOK Tryz.prog 121 t121 := tiOK_of (.nilfn) (Told2.refl _) ⟨_, _, _, Tryz.underlying121⟩ (by kernel_rfl)
theorem ok122 : tiOK Tryz.prog 122 t122 := tiOK_of (.nilfn) (Told2.refl _) ⟨_, _, _, Tryz.underlying122⟩ (by kernel_rfl)
theorem ok123 : tiOK Tryz.prog 123 t123 := tiOK_of (.nilfn) (Told2.refl _) ⟨_, _, _, Tryz.underlying123⟩ (by kernel_rfl)
theorem ok124 : tiOK Tryz.prog 124 t124 := tiOK_of (.nilfn) (Told2.refl _) ⟨_, _, _, Tryz.underlying124⟩ (by kernel_rfl)
theorem ok125 : tiOK Tryz.prog 125 t125 := tiOK_of (.nilfn) (Told2.refl _) ⟨_, _, _, Tryz.underlying125⟩ (by kernel_rfl)
theorem ok126 : tiOK Tryz.prog 126 t126 := tiOK_of (.nilfn) (Told2.refl _) ⟨_, _, _, Tryz.underlying126⟩ (by kernel_rfl)
theorem ok127 : tiOK Tryz.prog 127 t127 := tiOK_of (.nilfn) (Told2.refl _) ⟨_, _, _, Tryz.underlying127⟩ (by kernel_rfl)
theorem ok128 : tiOK Tryz.prog 128 t128 := tiOK_of (.nilfn) (Told2.refl _) ⟨_, _, _, Tryz.underlying128⟩ (by kernel_rfl)
theorem ok129 : tiOK Tryz.prog 129 t129 := tiOK_of (.nilfn) (Told2.refl _) ⟨_, _, _, Tryz.underlying129⟩ (by kernel_rfl)
theorem ok130 : tiOK Tryz.prog 130 t130 := tiOK_of (.nilfn) (Told2.refl _) ⟨_, _, _, Tryz.underlying130⟩ (by kernel_rfl)
theorem ok131 : tiOK Tryz.prog 131 t131 := tiOK_of (.nilfn) (Told2.refl _) ⟨_, _, _, Tryz.underlying131⟩ (by kernel_rfl)
theorem ok132 : tiOK Tryz.prog 132 t132 := tiOK_of (.nilfn) (Told2.refl _) ⟨_, _, _, Tryz.underlying132⟩ (by kernel_rfl)
theorem ok133 : tiOK Tryz.prog 133 t133 := tiOK_of (.nilfn) (Told2.refl _) ⟨_, _, _, Tryz.underlying133⟩ (by kernel_rfl)
theorem ok134 : tiOK Tryz.prog 134 t134 := tiOK_of (.nilfn) (Told2.refl _) ⟨_, _, _, Tryz.underlying134⟩ (by kernel_rfl)
theorem ok135 : tiOK Tryz.prog 135 t135 := tiOK_of (.int .u64 0) (Told2.refl _) Tryz.underlying135 (by kernel_rfl)
theorem ok136 : tiOK Tryz.prog 136 t136 := tiOK_of (.nilfn) (Told2.refl _) ⟨_, _, _, Tryz.underlying136⟩ (by kernel_rfl)
theorem ok137 : tiOK Tryz.prog 137 t137 := tiOK_of (.nilfn) (Told2.refl _) ⟨_, _, _, Tryz.underlying137⟩ (by kernel_rfl)
theorem ok138 : tiOK Tryz.prog 138 t138 := tiOK_of (.nilfn) (Told2.refl _) ⟨_, _, _, Tryz.underlying138⟩ (by kernel_rfl)
theorem ok140 : tiOK Tryz.prog 140 t140 := tiOK_of (.nilfn) (Told2.refl _) ⟨_, _, _, Tryz.underlying140⟩ (by kernel_rfl)
theorem ok141 : tiOK Tryz.prog 141 t141 := tiOK_of (.nilmap) (Told2.refl _) Tryz.underlying141 (by kernel_rfl)
theorem ok142 : tiOK Tryz.prog 142 t142 := tiOK_of (.nilfn) (Told2.refl _) ⟨_, _, _, Tryz.underlying142⟩ (by kernel_rfl)
theorem ok143 : tiOK Tryz.prog 143 t143 := tiOK_of (.nilfn) (Told2.refl _) ⟨_, _, _, Tryz.underlying143⟩ (by kernel_rfl)
theorem ok144 : tiOK Tryz.prog 144 t144 := tiOK_of (.nilfn) (Told2.refl _) ⟨_, _, _, Tryz.underlying144⟩ (by kernel_rfl)
theorem ok146 : tiOK Tryz.prog 146 t146 := tiOK_of (.nilfn) (Told2.refl _) ⟨_, _, _, Tryz.underlying146⟩ (by kernel_rfl)
theorem ok147 : tiOK Tryz.prog 147 t147 := tiOK_of (.nilfn) (Told2.refl _) ⟨_, _, _, Tryz.underlying147⟩ (by kernel_rfl)
theorem ok148 : tiOK Tryz.prog 148 t148 := tiOK_of (.nilfn) (Told2.refl _) ⟨_, _, _, Tryz.underlying148⟩ (by kernel_rfl)
theorem ok149 : tiOK Tryz.prog 149 t149 := tiOK_of (.nilfn) (Told2.refl _) ⟨_, _, _, Tryz.underlying149⟩ (by kernel_rfl)
theorem ok150 : tiOK Tryz.prog 150 t150 := tiOK_of (.nilfn) (Told2.refl _) ⟨_, _, _, Tryz.underlying150⟩ (by kernel_rfl)
theorem ok151 : tiOK Tryz.prog 151 t151 := tiOK_of (.nilfn) (Told2.refl _) ⟨_, _, _, Tryz.underlying151⟩ (by kernel_rfl)
theorem ok152 : tiOK Tryz.prog 152 t152 := tiOK_of (.nilfn) (Told2.refl _) ⟨_, _, _, Tryz.underlying152⟩ (by kernel_rfl)
theorem ok153 : tiOK Tryz.prog 153 t153 := tiOK_of (.nilfn) (Told2.refl _) ⟨_, _, _, Tryz.underlying153⟩ (by kernel_rfl)
theorem ok154 : tiOK Tryz.prog 154 t154 := tiOK_of (.nilfn) (Told2.refl _) ⟨_, _, _, Tryz.underlying154⟩ (by kernel_rfl)
theorem ok155 : tiOK Tryz.prog 155 t155 := tiOK_of (.int .i64 0) (Told2.refl _) Tryz.underlying155 (by kernel_rfl)
theorem ok157 : tiOK Tryz.prog 157 t157 := tiOK_of (.nilfn) (Told2.refl _) ⟨_, _, _, Tryz.underlying157⟩ (by kernel_rfl)
theorem ok158 : tiOK Tryz.prog 158 t158 := tiOK_of (.nilfn) (Told2.refl _) ⟨_, _, _, Tryz.underlying158⟩ (by kernel_rfl)
theorem ok159 : tiOK Tryz.prog 159 t159 := tiOK_of (.nilfn) (Told2.refl _) ⟨_, _, _, Tryz.underlying159⟩ (by kernel_rfl)
theorem ok160 : tiOK Tryz.prog 160 t160 := tiOK_of (.nilfn) (Told2.refl _) ⟨_, _, _, Tryz.underlying160⟩ (by kernel_rfl)
theorem ok161 : tiOK Tryz.prog 161 t161 := tiOK_of (.nilfn) (Told2.refl _) ⟨_, _, _, Tryz.underlying161⟩ (by kernel_rfl)
theorem ok162 : tiOK Tryz.prog 162 t162 := tiOK_of (.nilfn) (Told2.refl _) ⟨_, _, _, Tryz.underlying162⟩ (by kernel_rfl)
theorem ok163 : tiOK Tryz.prog 163 t163 := tiOK_of (.int .u32 0) (Told2.refl _) Tryz.underlying163 (by kernel_rfl)
theorem ok164 : tiOK Tryz.prog 164 t164 := tiOK_of (.nilfn) (Told2.refl _) ⟨_, _, _, Tryz.underlying164⟩ (by kernel_rfl)
theorem ok165 : tiOK Tryz.prog 165 t165 := tiOK_of (.int .u64 0) (Told2.refl _) Tryz.underlying165 (by kernel_rfl)
theorem ok166 : tiOK Tryz.prog 166 t166 := tiOK_of (.nilfn) (Told2.refl _) ⟨_, _, _, Tryz.underlying166⟩ (by kernel_rfl)
theorem ok167 : tiOK Tryz.prog 167 t167 := tiOK_of (.nilfn) (Told2.refl _) ⟨_, _, _, Tryz.underlying167⟩ (by kernel_rfl)
theorem ok168 : tiOK Tryz.prog 168 t168 := tiOK_of (.nilfn) (Told2.refl _) ⟨_, _, _, Tryz.underlying168⟩ (by kernel_rfl)
theorem ok169 : tiOK Tryz.prog 169 t169 := tiOK_of (.nilfn) (Told2.refl _) ⟨_, _, _, Tryz.underlying169⟩ (by kernel_rfl)
theorem ok170 : tiOK Tryz.prog 170 t170 := tiOK_of (.int .i64 0) (Told2.refl _) Tryz.underlying170 (by kernel_rfl)
theorem ok171 : tiOK Tryz.prog 171 t171 := tiOK_of (.nil) (Told2.refl _) Tryz.underlying171 (by kernel_rfl)
theorem ok173 : tiOK Tryz.prog 173 t173 := tiOK_of (.nilfn) (Told2.refl _) ⟨_, _, _, Tryz.underlying173⟩ (by kernel_rfl)
theorem ok174 : tiOK Tryz.prog 174 t174 := tiOK_of (.nilptr) (Told2.refl _) Tryz.underlying174 (by kernel_rfl)
theorem ok175 : tiOK Tryz.prog 175 t175 := tiOK_of (.nilfn) (Told2.refl _) ⟨_, _, _, Tryz.underlying175⟩ (by kernel_rfl)
theorem ok176 : tiOK Tryz.prog 176 t176 := tiOK_of (.nilfn) (Told2.refl _) ⟨_, _, _, Tryz.underlying176⟩ (by kernel_rfl)
theorem ok177 : tiOK Tryz.prog 177 t177 := tiOK_of (.nilfn) (Told2.refl _) ⟨_, _, _, Tryz.underlying177⟩ (by kernel_rfl)
theorem ok178 : tiOK Tryz.prog 178 t178 := tiOK_of (.nilfn) (Told2.refl _) ⟨_, _, _, Tryz.underlying178⟩ (by kernel_rfl)
theorem ok179 : tiOK Tryz.prog 179 t179 := tiOK_of (.int .u64 0) (Told2.refl _) Tryz.underlying179 (by kernel_rfl)
theorem ok180 : tiOK Tryz.prog 180 t180 := tiOK_of (.nilfn) (Told2.refl _) ⟨_, _, _, Tryz.underlying180⟩ (by kernel_rfl)
theorem ok181 : tiOK Tryz.prog 181 t181 := tiOK_of (.nilfn) (Told2.refl _) ⟨_, _, _, Tryz.underlying181⟩ (by kernel_rfl)
theorem ok182 : tiOK Tryz.prog 182 t182 := tiOK_of (.nilfn) (Told2.refl _) ⟨_, _, _, Tryz.underlying182⟩ (by kernel_rfl)
theorem ok183 : tiOK Tryz.prog 183 t183 := tiOK_of (.nilptr) (Told2.refl _) Tryz.underlying183 (by kernel_rfl)
theorem ok184 : tiOK Tryz.prog 184 t184 := tiOK_of (.nilfn) (Told2.refl _) ⟨_, _, _, Tryz.underlying184⟩ (by kernel_rfl)
theorem ok185 : tiOK Tryz.prog 185 t185 := tiOK_of (.nilfn) (Told2.refl _) ⟨_, _, _, Tryz.underlying185⟩ (by kernel_rfl)
theorem ok187 : tiOK Tryz.prog 187 t187 := tiOK_of (.nilfn) (Told2.refl _) ⟨_, _, _, Tryz.underlying187⟩ (by kernel_rfl)
theorem ok188 : tiOK Tryz.prog 188 t188 := tiOK_of (.nilfn) (Told2.refl _) ⟨_, _, _, Tryz.underlying188⟩ (by kernel_rfl)
theorem ok189 : tiOK Tryz.prog 189 t189 := tiOK_of (.agg [.str [], .str [], .ifc true]) (Told2.refl _) ⟨⟨_, Tryz.underlying189, rfl⟩, fun h => by cases h⟩ (by kernel_rfl)
theorem ok190 : tiOK Tryz.prog 190 t190 := tiOK_of (.agg [.str [], .str [], .ifc true]) (Told2.refl _) ⟨⟨_, Tryz.underlying190, rfl⟩, fun h => by cases h⟩ (by kernel_rfl)
theorem ok191 : tiOK Tryz.prog 191 t191 := tiOK_of (.nilfn) (Told2.refl _) ⟨_, _, _, Tryz.underlying191⟩ (by kernel_rfl)
theorem ok192 : tiOK Tryz.prog 192 t192 := tiOK_of (.agg [.int .u8 0, .int .u8 0, .int .u8 0, .int .u8 0, .int .u8 0, .int .u8 0, .int .u8 0, .int .u8 0, .int .u8 0, .int .u8 0, .int .u8 0, .int .u8 0, .int .u8 0, .int .u8 0, .int .u8 0, .int .u8 0, .int .u8 0, .int .u8 0, .int .u8 0, .int .u8 0, .int .u8 0, .int .u8 0, .int .u8 0, .int .u8 0]) (Told2.refl _) Tryz.underlying192 (by kernel_rfl)
theorem ok193 : tiOK Tryz.prog 193 t193 := tiOK_of (.nilfn) (Told2.refl _) ⟨_, _, _, Tryz.underlying193⟩ (by kernel_rfl)
theorem ok195 : tiOK Tryz.prog 195 t195 := tiOK_of (.nilfn) (Told2.refl _) ⟨_, _, _, Tryz.underlying195⟩ (by kernel_rfl)
theorem ok196 : tiOK Tryz.prog 196 t196 := tiOK_of (.nilptr) (Told2.refl _) Tryz.underlying196 (by kernel_rfl)
theorem ok197 : tiOK Tryz.prog 197 t197 := tiOK_of (.nilfn) (Told2.refl _) ⟨_, _, _, Tryz.underlying197⟩ (by kernel_rfl)
theorem ok198 : tiOK Tryz.prog 198 t198 := tiOK_of (.nilfn) (Told2.refl _) ⟨_, _, _, Tryz.underlying198⟩ (by kernel_rfl)
theorem ok199 : tiOK Tryz.prog 199 t199 := tiOK_of (.nilptr) (Told2.refl _) Tryz.underlying199 (by kernel_rfl)
theorem ok200 : tiOK Tryz.prog 200 t200 := tiOK_of (.nilptr) (Told2.refl _) Tryz.underlying200 (by kernel_rfl)
theorem ok201 : tiOK Tryz.prog 201 t201 := tiOK_of (.agg [.str []]) (Told2.refl _) ⟨⟨_, Tryz.underlying201, rfl⟩, fun _ => eqPlain_of (by kernel_rfl)⟩ (by kernel_rfl)
theorem ok202 : tiOK Tryz.prog 202 t202 := tiOK_of (.agg [.str []]) (Told2.refl _) ⟨⟨_, Tryz.underlying202, rfl⟩, fun _ => eqPlain_of (by kernel_rfl)⟩ (by kernel_rfl)
theorem ok203 : tiOK Tryz.prog 203 t203 := tiOK_of (.nilfn) (Told2.refl _) ⟨_, _, _, Tryz.underlying203⟩ (by kernel_rfl)
theorem ok204 : tiOK Tryz.prog 204 t204 := tiOK_of (.agg [.int .u64 0, .int .u64 0, .int .u64 0, .int .u64 0, .int .u64 0, .int .u64 0, .int .u64 0, .int .u64 0, .int .u64 0, .int .u64 0, .int .u64 0, .int .u64 0, .int .u64 0, .int .u64 0, .int .u64 0, .int .u64 0, .int .u64 0, .int .u64 0, .int .u64 0, .int .u64 0]) (Told2.refl _) Tryz.underlying204 (by kernel_rfl)
theorem ok205 : tiOK Tryz.prog 205 t205 := tiOK_of (.agg [.int .u8 0, .int .u8 0, .int .u8 0, .int .u8 0, .int .u8 0, .int .u8 0, .int .u8 0, .int .u8 0, .int .u8 0, .int .u8 0, .int .u8 0, .int .u8 0, .int .u8 0, .int .u8 0, .int .u8 0, .int .u8 0, .int .u8 0, .int .u8 0, .int .u8 0, .int .u8 0, .int .u8 0, .int .u8 0, .int .u8 0, .int .u8 0, .int .u8 0, .int .u8 0, .int .u8 0, .int .u8 0, .int .u8 0, .int .u8 0, .int .u8 0, .int .u8 0, .int .u8 0, .int .u8 0, .int .u8 0, .int .u8 0, .int .u8 0, .int .u8 0, .int .u8 0, .int .u8 0, .int .u8 0, .int .u8 0, .int .u8 0, .int .u8 0, .int .u8 0, .int .u8 0, .int .u8 0, .int .u8 0, .int .u8 0, .int .u8 0, .int .u8 0, .int .u8 0, .int .u8 0, .int .u8 0, .int .u8 0, .int .u8 0, .int .u8 0, .int .u8 0, .int .u8 0, .int .u8 0, .int .u8 0, .int .u8 0, .int .u8 0, .int .u8 0, .int .u8 0]) (Told2.refl _) Tryz.underlying205 (by kernel_rfl)
theorem ok206 : tiOK Tryz.prog 206 t206 := tiOK_of (.agg [.int .u8 0, .int .u8 0, .int .u8 0, .int .u8 0, .int .u8 0, .int .u8 0, .int .u8 0, .int .u8 0, .int .u8 0, .int .u8 0, .int .u8 0, .int .u8 0, .int .u8 0, .int .u8 0, .int .u8 0, .int .u8 0, .int .u8 0, .int .u8 0, .int .u8 0, .int .u8 0, .int .u8 0, .int .u8 0, .int .u8 0, .int .u8 0, .int .u8 0, .int .u8 0, .int .u8 0, .int .u8 0, .int .u8 0, .int .u8 0, .int .u8 0, .int .u8 0]) (Told2.refl _) Tryz.underlying206 (by kernel_rfl)
theorem ok207 : tiOK Tryz.prog 207 t207 := tiOK_of (.agg [.int .u8 0, .int .u8 0, .int .u8 0, .int .u8 0, .int .u8 0, .int .u8 0, .int .u8 0, .int .u8 0, .int .u8 0, .int .u8 0, .int .u8 0, .int .u8 0, .int .u8 0, .int .u8 0, .int .u8 0, .int .u8 0, .int .u8 0, .int .u8 0, .int .u8 0, .int .u8 0, .int .u8 0, .int .u8 0, .int .u8 0, .int .u8 0, .int .u8 0, .int .u8 0, .int .u8 0, .int .u8 0, .int .u8 0, .int .u8 0, .int .u8 0, .int .u8 0, .int .u8 0, .int .u8 0, .int .u8 0, .int .u8 0, .int .u8 0, .int .u8 0, .int .u8 0, .int .u8 0, .int .u8 0, .int .u8 0, .int .u8 0, .int .u8 0, .int .u8 0, .int .u8 0, .int .u8 0, .int .u8 0, .int .u8 0, .int .u8 0, .int .u8 0, .int .u8 0, .int .u8 0, .int .u8 0, .int .u8 0, .int .u8 0, .int .u8 0, .int .u8 0, .int .u8 0, .int .u8 0, .int .u8 0, .int .u8 0, .int .u8 0, .int .u8 0]) (Told2.refl _) Tryz.underlying207 (by kernel_rfl)
theorem ok208 : tiOK Tryz.prog 208 t208 := tiOK_of (.nilfn) (Told2.refl _) ⟨_, _, _, Tryz.underlying208⟩ (by kernel_rfl)
theorem ok209 : tiOK Tryz.prog 209 t209 := tiOK_of (.agg [.nilptr, .nilptr, .nilptr, .str []]) (Told2.refl _) ⟨⟨_, Tryz.underlying209, rfl⟩, fun h => by cases h⟩ (by kernel_rfl)
theorem ok210 : tiOK Tryz.prog 210 t210 := tiOK_of (.agg [.nilptr, .nilptr, .nilptr, .str []]) (Told2.refl _) ⟨⟨_, Tryz.underlying210, rfl⟩, fun h => by cases h⟩ (by kernel_rfl)
theorem ok211 : tiOK Tryz.prog 211 t211 := tiOK_of (.agg []) (Told2.refl _) Tryz.underlying211 (by kernel_rfl)
theorem ok212 : tiOK Tryz.prog 212 t212 := tiOK_of (.agg []) (Told2.refl _) ⟨⟨_, Tryz.underlying212, rfl⟩, fun h => by cases h⟩ (by kernel_rfl)
theorem ok213 : tiOK Tryz.prog 213 t213 := tiOK_of (.agg []) (Told2.refl _) ⟨⟨_, Tryz.underlying213, rfl⟩, fun h => by cases h⟩ (by kernel_rfl)
theorem ok214 : tiOK Tryz.prog 214 t214 := tiOK_of (.nilfn) (Told2.refl _) ⟨_, _, _, Tryz.underlying214⟩ (by kernel_rfl)
theorem ok215 : tiOK Tryz.prog 215 t215 := tiOK_of (.int .u8 0) (Told2.refl _) Tryz.underlying215 (by kernel_rfl)
theorem ok216 : tiOK Tryz.prog 216 t216 := tiOK_of (.int .u8 0) (Told2.refl _) Tryz.underlying216 (by kernel_rfl)
theorem ok217 : tiOK Tryz.prog 217 t217 := tiOK_of (.nilfn) (Told2.refl _) ⟨_, _, _, Tryz.underlying217⟩ (by kernel_rfl)
theorem ok218 : tiOK Tryz.prog 218 t218 := tiOK_of (.int .i32 0) (Told2.refl _) Tryz.underlying218 (by kernel_rfl)
theorem ok219 : tiOK Tryz.prog 219 t219 := tiOK_of (.int .i32 0) (Told2.refl _) Tryz.underlying219 (by kernel_rfl)
theorem ok220 : tiOK Tryz.prog 220 t220 := tiOK_of (.agg [.int .u64 0, .int .u64 0, .int .u32 0, .int .u8 0, .int .u8 0, .int .u8 0, .int .u8 0, .nilfn, .nilptr, .int .i32 0, .int .i32 0]) (Told2.refl _) ⟨⟨_, Tryz.underlying220, rfl⟩, fun h => by cases h⟩ (by kernel_rfl)
theorem ok221 : tiOK Tryz.prog 221 t221 := tiOK_of (.agg [.int .u64 0, .int .u64 0, .int .u32 0, .int .u8 0, .int .u8 0, .int .u8 0, .int .u8 0, .nilfn, .nilptr, .int .i32 0, .int .i32 0]) (Told2.refl _) ⟨⟨_, Tryz.underlying221, rfl⟩, fun h => by cases h⟩ (by kernel_rfl)
attribute [go_sem] TBg
theorem mixOK : Tryz.prog.follows .mixedOrders = true := by kernel_rfl
theorem tabOK : TabOK Tryz.prog TB :=
  TabOK.cons ok2 <|
  TabOK.cons ok3 <|
  TabOK.cons ok4 <|
  TabOK.cons ok5 <|
  TabOK.cons ok9 <|
  TabOK.cons ok20 <|
  TabOK.cons ok21 <|
  TabOK.cons ok22 <|
  TabOK.cons ok23 <|
  TabOK.cons ok24 <|
  TabOK.cons ok25 <|
  TabOK.cons ok26 <|
  TabOK.cons ok27 <|
  TabOK.cons ok28 <|
  TabOK.cons ok29 <|
  TabOK.cons ok31 <|
  TabOK.cons ok33 <|
  TabOK.cons ok34 <|
  TabOK.cons ok35 <|
  TabOK.cons ok36 <|
  TabOK.cons ok37 <|
  TabOK.cons ok38 <|
  TabOK.cons ok39 <|
  TabOK.cons ok40 <|
  TabOK.cons ok42 <|
  TabOK.cons ok43 <|
  TabOK.cons ok44 <|
  TabOK.cons ok45 <|
  TabOK.cons ok46 <|
  TabOK.cons ok47 <|
  TabOK.cons ok48 <|
  TabOK.cons ok49 <|
  TabOK.cons ok50 <|
  TabOK.cons ok51 <|
  TabOK.cons ok52 <|
  TabOK.cons ok53 <|
  TabOK.cons ok54 <|
  TabOK.cons ok55 <|
  TabOK.cons ok56 <|
  TabOK.cons ok57 <|
  TabOK.cons ok58 <|
  TabOK.cons ok59 <|
  TabOK.cons ok60 <|
  TabOK.cons ok61 <|
  TabOK.cons ok62 <|
  TabOK.cons ok63 <|
  TabOK.cons ok64 <|
  TabOK.cons ok65 <|
  TabOK.cons ok66 <|
  TabOK.cons ok67 <|
  TabOK.cons ok68 <|
  TabOK.cons ok69 <|
  TabOK.cons ok70 <|
  TabOK.cons ok71 <|
  TabOK.cons ok72 <|
  TabOK.cons ok73 <|
  TabOK.cons ok74 <|
  TabOK.cons ok75 <|
  TabOK.cons ok76 <|
  TabOK.cons ok77 <|
  TabOK.cons ok78 <|
  TabOK.cons ok79 <|
  TabOK.cons ok80 <|
  TabOK.cons ok81 <|
  TabOK.cons ok82 <|
  TabOK.cons ok83 <|
  TabOK.cons ok84 <|
  TabOK.cons ok85 <|
  TabOK.cons ok86 <|
  TabOK.cons ok87 <|
  TabOK.cons ok88 <|
  TabOK.cons ok89 <|
  TabOK.cons ok90 <|
  TabOK.cons ok91 <|
  TabOK.cons ok92 <|
  TabOK.cons ok93 <|
  TabOK.cons ok94 <|
  TabOK.cons ok95 <|
  TabOK.cons ok96 <|
  TabOK.cons ok97 <|
  TabOK.cons ok98 <|
  TabOK.cons ok99 <|
  TabOK.cons ok100 <|
  TabOK.cons ok101 <|
  TabOK.cons ok102 <|
  TabOK.cons ok103 <|
  TabOK.cons ok104 <|
  TabOK.cons ok106 <|
  TabOK.cons ok107 <|
  TabOK.cons ok108 <|
  TabOK.cons ok109 <|
  TabOK.cons ok110 <|
  TabOK.cons ok111 <|
  TabOK.cons ok112 <|
  TabOK.cons ok114 <|
  TabOK.cons ok115 <|
  TabOK.cons ok116 <|
  TabOK.cons ok118 <|
  TabOK.cons ok119 <|
  TabOK.cons ok120 <|
  TabOK.cons ok121 <|
  TabOK.cons ok122 <|
  TabOK.cons ok123 <|
  TabOK.cons ok124 <|
  TabOK.cons ok125 <|
  TabOK.cons ok126 <|
  TabOK.cons ok127 <|
  TabOK.cons ok128 <|
  TabOK.cons ok129 <|
  TabOK.cons ok130 <|
  TabOK.cons ok131 <|
  TabOK.cons ok132 <|
  TabOK.cons ok133 <|
  TabOK.cons ok134 <|
  TabOK.cons ok135 <|
  TabOK.cons ok136 <|
  TabOK.cons ok137 <|
  TabOK.cons ok138 <|
  TabOK.cons ok140 <|
  TabOK.cons ok141 <|
  TabOK.cons ok142 <|
  TabOK.cons ok143 <|
  TabOK.cons ok144 <|
  TabOK.cons ok146 <|
  TabOK.cons ok147 <|
  TabOK.cons ok148 <|
  TabOK.cons ok149 <|
  TabOK.cons ok150 <|
  TabOK.cons ok151 <|
  TabOK.cons ok152 <|
  TabOK.cons ok153 <|
  TabOK.cons ok154 <|
  TabOK.cons ok155 <|
  TabOK.cons ok157 <|
  TabOK.cons ok158 <|
  TabOK.cons ok159 <|
  TabOK.cons ok160 <|
  TabOK.cons ok161 <|
  TabOK.cons ok162 <|
  TabOK.cons ok163 <|
  TabOK.cons ok164 <|
  TabOK.cons ok165 <|
  TabOK.cons ok166 <|
  TabOK.cons ok167 <|
  TabOK.cons ok168 <|
  TabOK.cons ok169 <|
  TabOK.cons ok170 <|
  TabOK.cons ok171 <|
  TabOK.cons ok173 <|
  TabOK.cons ok174 <|
  TabOK.cons ok175 <|
  TabOK.cons ok176 <|
  TabOK.cons ok177 <|
  TabOK.cons ok178 <|
  TabOK.cons ok179 <|
  TabOK.cons ok180 <|
  TabOK.cons ok181 <|
  TabOK.cons ok182 <|
  TabOK.cons ok183 <|
  TabOK.cons ok184 <|
  TabOK.cons ok185 <|
  TabOK.cons ok187 <|
  TabOK.cons ok188 <|
  TabOK.cons ok189 <|
  TabOK.cons ok190 <|
  TabOK.cons ok191 <|
  TabOK.cons ok192 <|
  TabOK.cons ok193 <|
  TabOK.cons ok195 <|
  TabOK.cons ok196 <|
  TabOK.cons ok197 <|
  TabOK.cons ok198 <|
  TabOK.cons ok199 <|
  TabOK.cons ok200 <|
  TabOK.cons ok201 <|
  TabOK.cons ok202 <|
  TabOK.cons ok203 <|
  TabOK.cons ok204 <|
  TabOK.cons ok205 <|
  TabOK.cons ok206 <|
  TabOK.cons ok207 <|
  TabOK.cons ok208 <|
  TabOK.cons ok209 <|
  TabOK.cons ok210 <|
  TabOK.cons ok211 <|
  TabOK.cons ok212 <|
  TabOK.cons ok213 <|
  TabOK.cons ok214 <|
  TabOK.cons ok215 <|
  TabOK.cons ok216 <|
  TabOK.cons ok217 <|
  TabOK.cons ok218 <|
  TabOK.cons ok219 <|
  TabOK.cons ok220 <|
  TabOK.cons ok221 <| TabOK.nil
end Go.Proofs.YtehfihnfeakmaaaGreatDoor
end
