/- A part of the proof: Y1, Y2, Y3, Y4, Y5, Y6, Y7, Y8, Y9. -/
import Derived.Test.YtcopfafknmpneaaGreatDoorMg

section
namespace Go.Proofs.YtcopfafknmpneaaGreatDoor
open Go
set_option linter.unusedSimpArgs false
set_option linter.unusedVariables false
set_option maxRecDepth 10000
set_option maxHeartbeats 4000000

theorem clone_exs (G : Gl) (hG : GClosed G) (l : List Ex) (H : List Blk) (hl : l.length < 4294967296) : ACall Tryz.prog G 43 [.list 8 (exCells l)] H (fun r H' => H' = H ++ [.cells 0 8 (exCells l)] ∧ r = .sl H.length 0 0 l.length) := by
  refine ACall.of_go TB [2,5] tabOK _ Tryz.func43 rfl (by decide) Tryz.ntmps43 (by simp) rfl (by simp only [initEnv, Nat.reduceAdd]; rfl) fun C R' hR hC hcl hB => ?_; have X := noX; have hC' := congrArg List.length hC
  (refine runO ?_; repeat' (first | with_reducible exact trivial | ((with_reducible apply Fork.mk) <;> intro hb) | with_reducible apply Two.mk))
  · obtain rfl : l = [] := List.length_eq_zero_iff.1 hb
    exact finK [(H.length + 1, 0)] (.sl H.length 0 0 0) [.cells 0 8 []] hR hC' hcl ⟨rfl, rfl⟩
  · exact finK [(H.length + 1, 0)] (.sl H.length 0 0 l.length) [.cells 0 8 (exCells l)] hR hC' hcl ⟨rfl, rfl⟩
theorem clone_bds (G : Gl) (hG : GClosed G) (l : List Bd) (H : List Blk) (hl : l.length < 4294967296) : ACall Tryz.prog G 44 [.list 9 (bdCells l)] H (fun r H' => H' = H ++ [.cells 0 9 (bdCells l)] ∧ r = .sl H.length 0 0 l.length) := by
  refine ACall.of_go TB [2,5] tabOK _ Tryz.func44 rfl (by decide) Tryz.ntmps44 (by simp) rfl (by simp only [initEnv, Nat.reduceAdd]; rfl) fun C R' hR hC hcl hB => ?_; have X := noX; have hC' := congrArg List.length hC
  (refine runO ?_; repeat' (first | with_reducible exact trivial | ((with_reducible apply Fork.mk) <;> intro hb) | with_reducible apply Two.mk))
  · obtain rfl : l = [] := List.length_eq_zero_iff.1 hb
    exact finK [(H.length + 1, 0)] (.sl H.length 0 0 0) [.cells 0 9 []] hR hC' hcl ⟨rfl, rfl⟩
  · exact finK [(H.length + 1, 0)] (.sl H.length 0 0 l.length) [.cells 0 9 (bdCells l)] hR hC' hcl ⟨rfl, rfl⟩
theorem clone_als (G : Gl) (hG : GClosed G) (l : List Al) (H : List Blk) (hl : l.length < 4294967296) : ACall Tryz.prog G 45 [.list 12 (alCells l)] H (fun r H' => H' = H ++ [.cells 0 12 (alCells l)] ∧ r = .sl H.length 0 0 l.length) := by
  refine ACall.of_go TB [2,5] tabOK _ Tryz.func45 rfl (by decide) Tryz.ntmps45 (by simp) rfl (by simp only [initEnv, Nat.reduceAdd]; rfl) fun C R' hR hC hcl hB => ?_; have X := noX; have hC' := congrArg List.length hC
  (refine runO ?_; repeat' (first | with_reducible exact trivial | ((with_reducible apply Fork.mk) <;> intro hb) | with_reducible apply Two.mk))
  · obtain rfl : l = [] := List.length_eq_zero_iff.1 hb
    exact finK [(H.length + 1, 0)] (.sl H.length 0 0 0) [.cells 0 12 []] hR hC' hcl ⟨rfl, rfl⟩
  · exact finK [(H.length + 1, 0)] (.sl H.length 0 0 l.length) [.cells 0 12 (alCells l)] hR hC' hcl ⟨rfl, rfl⟩

/-- has no name any parts? -/
def bareF : Nat → Ex → Bool
  | 0, _ => true
  | m + 1, e => if e.kind = 1 then decide (e.parts.length = 0) else e.parts.all (bareF m)

theorem bare_ok (G : Gl) (hG : GClosed G) : ∀ (m : Nat) (e : Ex) (H : List Blk), e.wt ≤ m → m < 4294967296 → ACall Tryz.prog G 24 [e.sv] H (fun r H' => H' = H ∧ r = .bool (bareF m e))
  | 0, e, H, h, _ => absurd e.wt_pos (by omega)
  | m + 1, e, H, hm, hm2 => by
    obtain ⟨k, s, n, o, l, subs, binds, alts⟩ := e
    have hlen := Ex.wt_lens k s n o l subs binds alts
    have hP : (Ex.mk k s n o l subs binds alts).parts = subs ++ (binds.map Bd.e ++ alts.map Al.body) := Ex.parts_mk ..
    have hwp : ∀ p ∈ (Ex.mk k s n o l subs binds alts).parts, p.wt ≤ m := fun p hp => by have := Ex.wt_parts hp; omega
    rw [hP] at hwp
    have hbf : bareF (m + 1) (Ex.mk k s n o l subs binds alts) = if k = 1 then decide (subs.length + binds.length + alts.length = 0) else subs.all (bareF m) && ((binds.map Bd.e).all (bareF m) && (alts.map Al.body).all (bareF m)) := by
      rw [bareF, hP]
      simp only [Ex.kind, List.length_append, List.length_map, List.all_append, Nat.add_assoc]
    refine ACall.of_go TB [] tabOK _ Tryz.func24 rfl (by decide) Tryz.ntmps24 (by simp) rfl (by simp only [initEnv, Nat.reduceAdd]; rfl) fun C R' hR hC hcl hB => ?_; have X := noX; have hC' := congrArg List.length hC
    rw [hbf] at hR
    (refine runO ?_; repeat' (first | with_reducible exact trivial | ((with_reducible apply Fork.mk) <;> intro hb) | with_reducible apply Two.mk))
    · rw [if_pos ‹k = 1›] at hR
      refine Fin.tellN (n0 := H.length) hR rfl hC' hcl (.same _ rfl) ⟨rfl, ?_⟩
      simp only [resSV]
      rw [show decide ((subs.length : Int) + binds.length + alts.length = 0) = decide (subs.length + binds.length + alts.length = 0) from decide_eq_decide.2 (by omega)]
    rw [if_neg ‹¬ k = 1›] at hR
    refine go_loop (fun i : Nat => [(1, .ptr H.length 0 0 0), (4, .int .i64 i)]) (fun _ => H ++ [.cells 0 8 [.agg [.int .i64 k, .str s, .int .i64 n, .int .i64 o, .list 1 (l.map .str), .list 8 (exCells subs), .list 9 (bdCells binds), .list 12 (alCells alts)]]]) (fun i => subs.length - i) (fun i => i ≤ subs.length ∧ (subs.take i).all (bareF m) = true) 0 ⟨Nat.zero_le _, rfl⟩ ?_ ?_
    · exact wkS (n0 := H.length) [(H.length, 0)] hG hB hC' hcl
    rintro K i ⟨hi, hi2⟩ hK
    (refine runO ?_; repeat' (first | with_reducible exact trivial | ((with_reducible apply Fork.mk) <;> intro hb) | with_reducible apply Two.mk))
    · have hlt : i < subs.length := by omega
      refine callS (bare_ok G hG m subs[i] _ (hwp _ (by simp)) (by omega)) ?_
      rintro r H' ⟨rfl, rfl⟩
      cases hbb : bareF m subs[i]
      · (refine runO ?_; repeat' (first | with_reducible exact trivial | ((with_reducible apply Fork.mk) <;> intro hb) | with_reducible apply Two.mk))
        refine Fin.tellN (n0 := H.length) hR rfl hC' hcl (.same _ rfl) ⟨rfl, ?_⟩
        have : subs.all (bareF m) = false := List.all_eq_false.2 ⟨_, List.getElem_mem hlt, by simp [hbb]⟩
        rw [this]; rfl
      · (refine runO ?_; repeat' (first | with_reducible exact trivial | ((with_reducible apply Fork.mk) <;> intro hb) | with_reducible apply Two.mk))
        refine hK _ _ (i + 1) (by omega) ⟨by omega, ?_⟩ ?_
        · rw [List.take_succ_eq_append_getElem hlt, List.all_append, hi2]; simp [hbb]
        · exact wkS (n0 := H.length) [(H.length, 0)] hG hB hC' hcl
    have hs : subs.all (bareF m) = true := by rwa [show i = subs.length by omega, List.take_length] at hi2
    rw [hs, Bool.true_and] at hR
    clear hK
    refine go_loop (fun i : Nat => [(1, .ptr H.length 0 0 0), (5, .int .i64 i)]) (fun _ => H ++ [.cells 0 8 [.agg [.int .i64 k, .str s, .int .i64 n, .int .i64 o, .list 1 (l.map .str), .list 8 (exCells subs), .list 9 (bdCells binds), .list 12 (alCells alts)]]]) (fun i => binds.length - i) (fun i => i ≤ binds.length ∧ ((binds.map Bd.e).take i).all (bareF m) = true) 0 ⟨Nat.zero_le _, rfl⟩ ?_ ?_
    · exact wkS (n0 := H.length) [(H.length, 0)] hG hB hC' hcl
    rintro K i ⟨hi, hi2⟩ hK
    (refine runO ?_; repeat' (first | with_reducible exact trivial | ((with_reducible apply Fork.mk) <;> intro hb) | with_reducible apply Two.mk))
    · have hlt : i < binds.length := by omega
      have hlt2 : i < (binds.map Bd.e).length := by simpa using hlt
      refine callS (bare_ok G hG m binds[i].e _ (hwp _ (List.mem_append_right _ (List.mem_append_left _ (List.mem_map_of_mem (List.getElem_mem hlt))))) (by omega)) ?_
      rintro r H' ⟨rfl, rfl⟩
      cases hbb : bareF m binds[i].e
      · (refine runO ?_; repeat' (first | with_reducible exact trivial | ((with_reducible apply Fork.mk) <;> intro hb) | with_reducible apply Two.mk))
        refine Fin.tellN (n0 := H.length) hR rfl hC' hcl (.same _ rfl) ⟨rfl, ?_⟩
        have : (binds.map Bd.e).all (bareF m) = false := List.all_eq_false.2 ⟨_, List.getElem_mem hlt2, by simp [hbb]⟩
        rw [this]; rfl
      · (refine runO ?_; repeat' (first | with_reducible exact trivial | ((with_reducible apply Fork.mk) <;> intro hb) | with_reducible apply Two.mk))
        refine hK _ _ (i + 1) (by omega) ⟨by omega, ?_⟩ ?_
        · rw [List.take_succ_eq_append_getElem hlt2, List.all_append, hi2]; simp [hbb]
        · exact wkS (n0 := H.length) [(H.length, 0)] hG hB hC' hcl
    have hs : (binds.map Bd.e).all (bareF m) = true := by rwa [show i = (binds.map Bd.e).length by rw [List.length_map]; omega, List.take_length] at hi2
    rw [hs, Bool.true_and] at hR
    clear hK
    refine go_loop (fun i : Nat => [(1, .ptr H.length 0 0 0), (6, .int .i64 i)]) (fun _ => H ++ [.cells 0 8 [.agg [.int .i64 k, .str s, .int .i64 n, .int .i64 o, .list 1 (l.map .str), .list 8 (exCells subs), .list 9 (bdCells binds), .list 12 (alCells alts)]]]) (fun i => alts.length - i) (fun i => i ≤ alts.length ∧ ((alts.map Al.body).take i).all (bareF m) = true) 0 ⟨Nat.zero_le _, rfl⟩ ?_ ?_
    · exact wkS (n0 := H.length) [(H.length, 0)] hG hB hC' hcl
    rintro K i ⟨hi, hi2⟩ hK
    (refine runO ?_; repeat' (first | with_reducible exact trivial | ((with_reducible apply Fork.mk) <;> intro hb) | with_reducible apply Two.mk))
    · have hlt : i < alts.length := by omega
      have hlt2 : i < (alts.map Al.body).length := by simpa using hlt
      refine callS (bare_ok G hG m alts[i].body _ (hwp _ (List.mem_append_right _ (List.mem_append_right _ (List.mem_map_of_mem (List.getElem_mem hlt))))) (by omega)) ?_
      rintro r H' ⟨rfl, rfl⟩
      cases hbb : bareF m alts[i].body
      · (refine runO ?_; repeat' (first | with_reducible exact trivial | ((with_reducible apply Fork.mk) <;> intro hb) | with_reducible apply Two.mk))
        refine Fin.tellN (n0 := H.length) hR rfl hC' hcl (.same _ rfl) ⟨rfl, ?_⟩
        have : (alts.map Al.body).all (bareF m) = false := List.all_eq_false.2 ⟨_, List.getElem_mem hlt2, by simp [hbb]⟩
        rw [this]; rfl
      · (refine runO ?_; repeat' (first | with_reducible exact trivial | ((with_reducible apply Fork.mk) <;> intro hb) | with_reducible apply Two.mk))
        refine hK _ _ (i + 1) (by omega) ⟨by omega, ?_⟩ ?_
        · rw [List.take_succ_eq_append_getElem hlt2, List.all_append, hi2]; simp [hbb]
        · exact wkS (n0 := H.length) [(H.length, 0)] hG hB hC' hcl
    have hs : (alts.map Al.body).all (bareF m) = true := by rwa [show i = (alts.map Al.body).length by rw [List.length_map]; omega, List.take_length] at hi2
    refine Fin.tellN (n0 := H.length) hR rfl hC' hcl (.same _ rfl) ⟨rfl, ?_⟩
    rw [hs]; rfl
end Go.Proofs.YtcopfafknmpneaaGreatDoor
end

section
namespace Go.Proofs.YtcopfafknmpneaaGreatDoor
open Go
set_option linter.unusedSimpArgs false
set_option linter.unusedVariables false
set_option maxRecDepth 10000
set_option maxHeartbeats 4000000

/-- an expression with another one in a name's place -/
def altOwn (kd : Int) (nm : Str) (names : List Str) : List Str := names ++ if kd = 6 then [nm] else []
def repF (s : Str) (r : Ex) : Nat → Ex → Ex
  | 0, e => e
  | m + 1, .mk kd nm nn op names subs binds alts =>
    if kd = 1 then (if nm = s then r else .mk kd nm nn op names subs binds alts) else
    .mk kd nm nn op names (subs.map fun x => if s ∈ ownOf kd names binds then x else repF s r m x)
      (binds.map fun b => .mk b.name (if s ∈ ownOf kd names binds then b.e else repF s r m b.e))
      (alts.map fun a => .mk a.kind a.name a.n a.names (if s ∈ altOwn kd nm a.names then a.body else repF s r m a.body))

/-- a list of which the first have been turned -/
def mix {α : Type} (f : α → α) (l : List α) (i : Nat) : List α := (l.take i).map f ++ l.drop i
theorem mix_len {α : Type} (f : α → α) (l : List α) (i : Nat) (h : i ≤ l.length) : (mix f l i).length = l.length := by simp [mix]; omega
theorem mix_zero {α : Type} (f : α → α) (l : List α) : mix f l 0 = l := by simp [mix]
theorem mix_all {α : Type} (f : α → α) (l : List α) : mix f l l.length = l.map f := by simp [mix]
theorem mix_get {α : Type} (f : α → α) (l : List α) (i : Nat) (h : i < l.length) : (mix f l i)[i]? = some l[i] := by
  rw [mix, List.getElem?_append_right (by rw [List.length_map, List.length_take]; omega), List.length_map, List.length_take, Nat.min_eq_left (by omega), Nat.sub_self, List.getElem?_drop, Nat.add_zero, List.getElem?_eq_getElem h]
theorem mix_set {α : Type} (f : α → α) (l : List α) (i : Nat) (h : i < l.length) : (mix f l i).set i (f l[i]) = mix f l (i + 1) := by
  rw [mix, mix, List.set_append, if_neg (by rw [List.length_map, List.length_take]; omega), List.length_map, List.length_take, Nat.min_eq_left (by omega), Nat.sub_self, List.take_succ_eq_append_getElem h, List.map_append, List.append_assoc, List.drop_eq_getElem_cons h]
  rfl
theorem exCells_mix (f : Ex → Ex) (l : List Ex) (i : Nat) (h : i < l.length) : (exCells (mix f l i))[i]? = some (.agg l[i].cells) := by rw [exCells_map, List.getElem?_map, mix_get f l i h]; rfl
theorem bdCells_mix (f : Bd → Bd) (l : List Bd) (i : Nat) (h : i < l.length) : (bdCells (mix f l i))[i]? = some (.agg (.str l[i].name :: l[i].e.cells)) := by rw [bdCells_map, List.getElem?_map, mix_get f l i h, Option.map_some, Bd.sv, Bd.cells_eq]
theorem alCells_mix (f : Al → Al) (l : List Al) (i : Nat) (h : i < l.length) : (alCells (mix f l i))[i]? = some (.agg (.int .i64 l[i].kind :: .str l[i].name :: .int .i64 l[i].n :: .list 1 (l[i].names.map .str) :: l[i].body.cells)) := by
  rw [alCells_map, List.getElem?_map, mix_get f l i h, Option.map_some, Al.sv, Al.cells_eq]
theorem exCells_mixset (f : Ex → Ex) (l : List Ex) (i : Nat) (h : i < l.length) : (exCells (mix f l i)).set i (.agg (f l[i]).cells) = exCells (mix f l (i + 1)) := by
  rw [exCells_map, exCells_map, ← mix_set f l i h, List.map_set]; rfl
theorem bdCells_mixset (f : Bd → Bd) (l : List Bd) (i : Nat) (h : i < l.length) : (bdCells (mix f l i)).set i (.agg (.str (f l[i]).name :: (f l[i]).e.cells)) = bdCells (mix f l (i + 1)) := by
  rw [bdCells_map, bdCells_map, ← mix_set f l i h, List.map_set, Bd.sv, Bd.cells_eq]
theorem alCells_mixset (f : Al → Al) (l : List Al) (i : Nat) (h : i < l.length) :
    (alCells (mix f l i)).set i (.agg (.int .i64 (f l[i]).kind :: .str (f l[i]).name :: .int .i64 (f l[i]).n :: .list 1 ((f l[i]).names.map .str) :: (f l[i]).body.cells)) = alCells (mix f l (i + 1)) := by
  rw [alCells_map, alCells_map, ← mix_set f l i h, List.map_set, Al.sv, Al.cells_eq]
theorem exCells_mixT (f : Ex → Ex) (l : List Ex) (i : Nat) (h : i ≤ l.length) : (exCells (mix f l i)).take l.length = exCells (mix f l i) := List.take_of_length_le (by simp [exCells_map, mix_len f l i h])
theorem bdCells_mixT (f : Bd → Bd) (l : List Bd) (i : Nat) (h : i ≤ l.length) : (bdCells (mix f l i)).take l.length = bdCells (mix f l i) := List.take_of_length_le (by simp [bdCells_map, mix_len f l i h])
theorem alCells_mixT (f : Al → Al) (l : List Al) (i : Nat) (h : i ≤ l.length) : (alCells (mix f l i)).take l.length = alCells (mix f l i) := List.take_of_length_le (by simp [alCells_map, mix_len f l i h])

section
variable {P : Program} {G : Gl} {T : Tab} {own : List Nat} {nt B : Nat} {ρ : Option Nat} {C : Cx} {rs : List ResultVar} {R : SV → List Blk → Prop} {env env2 : Env} {H X KB : List Blk} {k : List It}
theorem frzG {p : Prop} (h : p := by repeat' (first | exact FrzL.nil | (refine FrzL.cons _ _ _ _ ?_ ?_) | (apply Frz.same; exact undS) | (apply Frz.ks 3 rfl; (· exact hbS); (· omega); (· omega); (· omega); (· omega)) | (apply Frz.ks 4 rfl; (· exact hbS); (· omega); (· omega); (· omega); (· omega)) | (apply Frz.ks 5 rfl; (· exact hbS); (· omega); (· omega); (· omega); (· omega)) | (apply Frz.ks 6 rfl; (· exact hbS); (· omega); (· omega); (· omega); (· omega)) | (apply Frz.ks 7 rfl; (· exact hbS); (· omega); (· omega); (· omega); (· omega)) | fail)) : p := h
theorem wkF (ks : Keep) {n0 : Nat} (hG : GClosed G) (hB : Based G C.H.length) (hC : C.H.length = n0) (hcl : closed H) (hn : H.length = n0 := by first | rfl | (simp; done) | exact hlen _)
    (hk : KeepB (H ++ X) n0 ks ks KB := by
      repeat' (first | exact KeepB.nil | (apply KeepB.c; (· exact hbS); (· omega); (· first | omega | (simp <;> omega)); (· first | (apply FrzL.same; exact undS) | (refine FrzL.cons _ _ _ _ ?_ FrzL.nil; apply Frz.agg; exact frzG) | exact frzLS)) | exact frzS))
    (hd : (ks.map (·.1)).Nodup := by first | rfl | decide | simp)
    (he : subEnvF (H ++ X) n0 ks env2 env := by
      repeat' (first | exact True.intro | (refine And.intro ⟨_, rfl, ?_⟩ ?_) | (apply Frz.fn; (· exact frzLS); (· exact frzLS)) | (apply Frz.kp 5 rfl; (· exact hbS); (· omega); (· omega); (· omega)) | (apply Frz.kp 6 rfl; (· exact hbS); (· omega); (· omega); (· omega)) | (apply Frz.kp 7 rfl; (· exact hbS); (· omega); (· omega); (· omega)) | exact frzS)) : Wk G nt C ⟨env, H ++ X⟩ ⟨env2, H ++ KB⟩ := Wk.keepN ks hG hB hn hC hcl hk hd he
end

theorem repl1_ok (G : Gl) (hG : GClosed G) (s : Str) (r : Ex) (m : Nat) (hrec : ∀ (e : Ex) (H : List Blk), e.wt ≤ m → ACall Tryz.prog G 15 [e.sv, .str s, r.sv] H (fun v H' => H' = H ∧ v = (repF s r m e).sv))
    (x : Ex) (hx : x.wt ≤ m) (names : List Str) (hn : names.length < 4611686018427387904) (H : List Blk) (nb rb : Nat) (h1 : H[nb]? = some (.cells 0 1 [.str s])) (h2 : H[rb]? = some (.cells 0 8 [.agg r.cells])) :
    ACall Tryz.prog G 40 [x.sv, .list 1 (names.map .str), .ptr nb 0 0 0, .ptr rb 0 0 0] H (fun v H' => H' = H ∧ v = (if s ∈ names then x else repF s r m x).sv) := by
  have hl1 : nb < H.length := (List.getElem?_eq_some_iff.1 h1).1
  have hl2 : rb < H.length := (List.getElem?_eq_some_iff.1 h2).1
  refine ACall.of_go TB [] tabOK _ Tryz.func40 rfl (by decide) Tryz.ntmps40 (by simp) rfl (by simp only [initEnv, Nat.reduceAdd]; rfl) fun C R' hR hC hcl hB => ?_; have X := noX; have hC' := congrArg List.length hC
  have X := And.intro h1 h2
  (refine run ?_; repeat' (first | with_reducible exact trivial | ((with_reducible apply Fork.mk) <;> intro hb) | with_reducible apply Two.mk))
  refine callS (contains_list G names s _ hn) ?_
  rintro v H' ⟨rfl, rfl⟩
  (refine run ?_; repeat' (first | with_reducible exact trivial | ((with_reducible apply Fork.mk) <;> intro hb) | with_reducible apply Two.mk))
  · rw [if_pos hb] at hR
    exact Fin.tellN (n0 := H.length) hR rfl hC' hcl (.same _ (Ex.sv_under _ _)) ⟨rfl, rfl⟩
  · rw [if_neg hb] at hR
    refine callS (hrec x _ hx) ?_
    rintro v H' ⟨rfl, rfl⟩
    (refine run ?_; repeat' (first | with_reducible exact trivial | ((with_reducible apply Fork.mk) <;> intro hb) | with_reducible apply Two.mk))
    exact Fin.tellN (n0 := H.length) hR rfl hC' hcl (.same _ (Ex.sv_under _ _)) ⟨rfl, rfl⟩
end Go.Proofs.YtcopfafknmpneaaGreatDoor
end

section
namespace Go.Proofs.YtcopfafknmpneaaGreatDoor
open Go
set_option linter.unusedSimpArgs false
set_option linter.unusedVariables false
set_option maxRecDepth 10000
set_option maxHeartbeats 4000000

theorem Ex.cells_drop (e : Ex) : List.drop 8 e.cells = [] := List.drop_eq_nil_of_le (by rw [e.cells_len]; exact Nat.le_refl _)

theorem replace_ok (G : Gl) (hG : GClosed G) (s : Str) (r : Ex) : ∀ (m : Nat) (e : Ex) (H : List Blk), e.wt ≤ m → m < 4294967296 → ACall Tryz.prog G 15 [e.sv, .str s, r.sv] H (fun v H' => H' = H ∧ v = (repF s r m e).sv)
  | 0, e, H, h, _ => absurd e.wt_pos (by omega)
  | m + 1, e, H, hm, hm2 => by
    obtain ⟨kd, nm, nn, op, names, subs, binds, alts⟩ := e
    have hlen := Ex.wt_lens kd nm nn op names subs binds alts
    have hP : (Ex.mk kd nm nn op names subs binds alts).parts = subs ++ (binds.map Bd.e ++ alts.map Al.body) := Ex.parts_mk ..
    have hwp : ∀ p ∈ (Ex.mk kd nm nn op names subs binds alts).parts, p.wt ≤ m := fun p hp => by have := Ex.wt_parts hp; omega
    rw [hP] at hwp
    have hrec := fun e H h => replace_ok G hG s r m e H h (by omega)
    have hin : ∀ (x : Ex) (nms : List Str) (H2 : List Blk), x.wt ≤ m → nms.length < 4611686018427387904 → H2[H.length + 1]? = some (.cells 0 1 [.str s]) → H2[H.length + 2]? = some (.cells 0 8 [.agg r.cells]) →
        ACallV Tryz.prog G (.fn (.func 40) [] [.ptr (H.length + 1) 0 0 0, .ptr (H.length + 2) 0 0 0]) [x.sv, .list 1 (nms.map .str)] H2 (fun v H' => H' = H2 ∧ v = (if s ∈ nms then x else repF s r m x).sv) := fun x nms H2 h1 h2 h3 h4 =>
      ACallV.of (first := []) (args := [x.sv, .list 1 (nms.map .str)]) (cap := [.ptr (H.length + 1) 0 0 0, .ptr (H.length + 2) 0 0 0]) (repl1_ok G hG s r m hrec x h1 nms h2 H2 _ _ h3 h4)
    refine ACall.of_go TB [8,14] tabOK _ Tryz.func15 rfl (by decide) Tryz.ntmps15 (by simp) rfl (by simp only [initEnv, Nat.reduceAdd]; rfl) fun C R' hR hC hcl hB => ?_; have X := noX; have hC' := congrArg List.length hC
    rw [repF] at hR
    by_cases hk1 : kd = 1
    · subst hk1
      rw [if_pos rfl] at hR
      (refine runO ?_; repeat' (first | with_reducible exact trivial | ((with_reducible apply Fork.mk) <;> intro hb) | with_reducible apply Two.mk))
      · rw [if_pos hb] at hR
        exact Fin.tellN (n0 := H.length) hR rfl hC' hcl (.same _ (Ex.sv_under _ r)) ⟨rfl, rfl⟩
      · rw [if_neg hb] at hR
        exact Fin.tellN (n0 := H.length) hR rfl hC' hcl (.same _ (Ex.sv_under _ (.mk 1 nm nn op names subs binds alts))) ⟨rfl, rfl⟩
    rw [if_neg hk1] at hR
    clear X
    have X := decide_eq_false hk1
    (refine runC ?_; repeat' (first | with_reducible exact trivial | ((with_reducible apply Fork.mk) <;> intro hb) | with_reducible apply Two.mk))
    refine go_condF rfl ?_
    (refine runC ?_; repeat' (first | with_reducible exact trivial | ((with_reducible apply Fork.mk) <;> intro hb) | with_reducible apply Two.mk))
    refine go_cut (fun _ : Unit => [(3, .ptr H.length 0 0 0), (4, .ptr (H.length + 1) 0 0 0), (5, .ptr (H.length + 2) 0 0 0), (6, .ptr (H.length + 3) 0 0 0), (7, .fn (.func 40) [] [.ptr (H.length + 1) 0 0 0, .ptr (H.length + 2) 0 0 0]), (8, .sl (H.length + 4) 0 0 (if kd = 3 then names else []).length)]) (fun _ => H ++ [.cells 0 8 [.agg [.int .i64 kd, .str nm, .int .i64 nn, .int .i64 op, .list 1 (names.map .str), .list 8 (exCells subs), .list 9 (bdCells binds), .list 12 (alCells alts)]], .cells 0 1 [.str s], .cells 0 8 [.agg r.cells], .cells 0 8 [.agg [.int .i64 0, .str [], .int .i64 0, .int .i64 0, .list 1 [], .list 8 [], .list 9 [], .list 12 []]], .cells 0 1 ((if kd = 3 then names else []).map .str)]) (fun _ => True) (fun K hK => ?_) (fun _ _ => ?_)
    · (refine run ?_; repeat' (first | with_reducible exact trivial | ((with_reducible apply Fork.mk) <;> intro hb) | with_reducible apply Two.mk))
      · refine callS (clone_strs G hG names _ (by omega)) ?_
        rintro v H' ⟨rfl, rfl⟩
        simp only [List.append_assoc, List.cons_append, List.nil_append, List.length_append, List.length_cons, List.length_nil, List.length_set, X, Nat.reduceAdd]
        (refine run ?_; repeat' (first | with_reducible exact trivial | ((with_reducible apply Fork.mk) <;> intro hb) | with_reducible apply Two.mk))
        refine hK _ _ () trivial ?_
        simp only [if_pos hb]
        exact wkF (n0 := H.length) [(H.length, 0), (H.length + 1, 0), (H.length + 2, 0), (H.length + 3, 0), (H.length + 5, 0)] hG hB hC' hcl
      · refine hK _ _ () trivial ?_
        simp only [if_neg hb, List.length_nil, List.map_nil]
        exact wkF (n0 := H.length) [(H.length, 0), (H.length + 1, 0), (H.length + 2, 0), (H.length + 3, 0), (H.length + 4, 0)] hG hB hC' hcl
    (refine runC ?_; repeat' (first | with_reducible exact trivial | ((with_reducible apply Fork.mk) <;> intro hb) | with_reducible apply Two.mk))
    refine go_cut (fun _ : Unit => [(3, .ptr H.length 0 0 0), (4, .ptr (H.length + 1) 0 0 0), (5, .ptr (H.length + 2) 0 0 0), (6, .ptr (H.length + 3) 0 0 0), (7, .fn (.func 40) [] [.ptr (H.length + 1) 0 0 0, .ptr (H.length + 2) 0 0 0]), (8, .list 1 ((ownOf kd names binds).map .str))]) (fun _ => H ++ [.cells 0 8 [.agg [.int .i64 kd, .str nm, .int .i64 nn, .int .i64 op, .list 1 (names.map .str), .list 8 (exCells subs), .list 9 (bdCells binds), .list 12 (alCells alts)]], .cells 0 1 [.str s], .cells 0 8 [.agg r.cells], .cells 0 8 [.agg [.int .i64 0, .str [], .int .i64 0, .int .i64 0, .list 1 [], .list 8 [], .list 9 [], .list 12 []]]]) (fun _ => True) (fun K hK => ?_) (fun _ _ => ?_)
    · by_cases hk5 : kd = 5
      · have hk3 : ¬ kd = 3 := by omega
        have hown : ownOf kd names binds = binds.map Bd.name := by simp only [ownOf, if_neg hk3, if_pos hk5]
        simp only [if_neg hk3, List.length_nil, List.map_nil]
        (refine run ?_; repeat' (first | with_reducible exact trivial | ((with_reducible apply Fork.mk) <;> intro hb) | with_reducible apply Two.mk))
        refine go_loop (fun i : Nat => [(3, .ptr H.length 0 0 0), (4, .ptr (H.length + 1) 0 0 0), (5, .ptr (H.length + 2) 0 0 0), (6, .ptr (H.length + 3) 0 0 0), (7, .fn (.func 40) [] [.ptr (H.length + 1) 0 0 0, .ptr (H.length + 2) 0 0 0]), (35, .list 9 (bdCells binds)), (36, .int .i64 binds.length), (37, .int .i64 i), (8, .sl (H.length + 4) 0 0 i)])
            (fun i => H ++ [.cells 0 8 [.agg [.int .i64 kd, .str nm, .int .i64 nn, .int .i64 op, .list 1 (names.map .str), .list 8 (exCells subs), .list 9 (bdCells binds), .list 12 (alCells alts)]], .cells 0 1 [.str s], .cells 0 8 [.agg r.cells], .cells 0 8 [.agg [.int .i64 0, .str [], .int .i64 0, .int .i64 0, .list 1 [], .list 8 [], .list 9 [], .list 12 []]], .cells 0 1 ((binds.take i).map fun b => .str b.name)]) (fun i => binds.length - i) (fun i => i ≤ binds.length) 0 (Nat.zero_le _) ?_ ?_
        · exact wkF (n0 := H.length) [(H.length, 0), (H.length + 1, 0), (H.length + 2, 0), (H.length + 3, 0), (H.length + 4, 0)] hG hB hC' hcl
        rintro K2 i hi hK2
        (refine run ?_; repeat' (first | with_reducible exact trivial | ((with_reducible apply Fork.mk) <;> intro hb) | with_reducible apply Two.mk))
        · refine hK2 _ _ (i + 1) (by omega) (by omega) ?_
          simp only [List.take_succ_eq_append_getElem (show i < binds.length by omega), List.map_append, List.map_cons, List.map_nil]
          exact wkF (n0 := H.length) [(H.length, 0), (H.length + 1, 0), (H.length + 2, 0), (H.length + 3, 0), (H.length + 4, 0)] hG hB hC' hcl
        · refine hK _ _ () trivial ?_
          obtain rfl : i = binds.length := by omega
          simp only [hown, List.take_length, List.map_map]
          exact wkF (n0 := H.length) [(H.length, 0), (H.length + 1, 0), (H.length + 2, 0), (H.length + 3, 0)] hG hB hC' hcl
      · have hown : ownOf kd names binds = if kd = 3 then names else [] := by simp only [ownOf, if_neg hk5]
        (refine run ?_; repeat' (first | with_reducible exact trivial | ((with_reducible apply Fork.mk) <;> intro hb) | with_reducible apply Two.mk))
        refine hK _ _ () trivial ?_
        rw [hown]
        exact wkF (n0 := H.length) [(H.length, 0), (H.length + 1, 0), (H.length + 2, 0), (H.length + 3, 0)] hG hB hC' hcl
    · (refine run ?_; repeat' (first | with_reducible exact trivial | ((with_reducible apply Fork.mk) <;> intro hb) | with_reducible apply Two.mk))
      refine xcallS (clone_exs G hG subs _ (by omega)) ?_
      rintro v H' ⟨rfl, rfl⟩
      simp only [List.append_assoc, List.cons_append, List.nil_append, List.length_append, List.length_cons, List.length_nil, List.length_set, X, Nat.reduceAdd]
      (refine run ?_; repeat' (first | with_reducible exact trivial | ((with_reducible apply Fork.mk) <;> intro hb) | with_reducible apply Two.mk))
      refine xcallS (clone_bds G hG binds _ (by omega)) ?_
      rintro v H' ⟨rfl, rfl⟩
      simp only [List.append_assoc, List.cons_append, List.nil_append, List.length_append, List.length_cons, List.length_nil, List.length_set, X, Nat.reduceAdd]
      (refine run ?_; repeat' (first | with_reducible exact trivial | ((with_reducible apply Fork.mk) <;> intro hb) | with_reducible apply Two.mk))
      refine xcallS (clone_als G hG alts _ (by omega)) ?_
      rintro v H' ⟨rfl, rfl⟩
      simp only [List.append_assoc, List.cons_append, List.nil_append, List.length_append, List.length_cons, List.length_nil, List.length_set, X, Nat.reduceAdd]
      (refine run ?_; repeat' (first | with_reducible exact trivial | ((with_reducible apply Fork.mk) <;> intro hb) | with_reducible apply Two.mk))
      have hol : (ownOf kd names binds).length < 4611686018427387904 := by
        simp only [ownOf]; split
        · omega
        · split
          · rw [List.length_map]; omega
          · exact Nat.zero_lt_succ _
      generalize hOW : ownOf kd names binds = ow at hR hol ⊢
      generalize hf : (fun x => if s ∈ ow then x else repF s r m x) = f at hR
      have hfx : ∀ x, (if s ∈ ow then x else repF s r m x) = f x := fun x => by rw [← hf]
      refine go_loop (fun i : Nat => [(3, .ptr H.length 0 0 0), (4, .ptr (H.length + 1) 0 0 0), (5, .ptr (H.length + 2) 0 0 0), (6, .ptr (H.length + 3) 0 0 0), (7, .fn (.func 40) [] [.ptr (H.length + 1) 0 0 0, .ptr (H.length + 2) 0 0 0]), (8, .list 1 (ow.map .str)), (61, .int .i64 subs.length), (62, .int .i64 i)])
        (fun i => H ++ [.cells 0 8 [.agg [.int .i64 kd, .str nm, .int .i64 nn, .int .i64 op, .list 1 (names.map .str), .sl (H.length + 4) 0 0 subs.length, .sl (H.length + 5) 0 0 binds.length, .sl (H.length + 6) 0 0 alts.length]], .cells 0 1 [.str s], .cells 0 8 [.agg r.cells], .cells 0 8 [.agg [.int .i64 0, .str [], .int .i64 0, .int .i64 0, .list 1 [], .list 8 [], .list 9 [], .list 12 []]], .cells 0 8 (exCells (mix f subs i)), .cells 0 9 (bdCells binds), .cells 0 12 (alCells alts)]) (fun i => subs.length - i) (fun i => i ≤ subs.length) 0 (Nat.zero_le _) ?_ ?_
      · rw [mix_zero]
        exact wkF (n0 := H.length) [(H.length, 0), (H.length + 1, 0), (H.length + 2, 0), (H.length + 3, 0), (H.length + 4, 0), (H.length + 5, 0), (H.length + 6, 0)] hG hB hC' hcl
      rintro K i hi hK
      rcases Nat.lt_or_ge i subs.length with hlt | hge
      · have X := And.intro noX (And.intro (exCells_mix f subs i hlt) (exCells_mixT f subs i (by omega)))
        (refine run ?_; repeat' (first | with_reducible exact trivial | ((with_reducible apply Fork.mk) <;> intro hb) | with_reducible apply Two.mk))
        refine xg_callV (by exact evS) (by exact evS) (hin subs[i] ow _ (hwp _ (by simp)) hol (by rw [get_app]; rfl) (by rw [get_app]; rfl)) ?_
        rintro v H' ⟨rfl, rfl⟩
        rw [hfx]
        (refine run ?_; repeat' (first | with_reducible exact trivial | ((with_reducible apply Fork.mk) <;> intro hb) | with_reducible apply Two.mk))
        refine hK _ _ (i + 1) (by omega) (by omega) ?_
        rw [exCells_mixset f subs i hlt]
        exact wkF (n0 := H.length) [(H.length, 0), (H.length + 1, 0), (H.length + 2, 0), (H.length + 3, 0), (H.length + 4, 0), (H.length + 5, 0), (H.length + 6, 0)] hG hB hC' hcl
      have hi2 : i = subs.length := by omega
      subst hi2
      rw [mix_all]
      clear hK
      (refine run ?_; repeat' (first | with_reducible exact trivial | ((with_reducible apply Fork.mk) <;> intro hb) | with_reducible apply Two.mk))
      generalize hg : (fun b : Bd => Bd.mk b.name (f b.e)) = g
      have hgx : ∀ b : Bd, g b = .mk b.name (f b.e) := fun b => by rw [← hg]
      refine go_loop (fun i : Nat => [(3, .ptr H.length 0 0 0), (4, .ptr (H.length + 1) 0 0 0), (5, .ptr (H.length + 2) 0 0 0), (6, .ptr (H.length + 3) 0 0 0), (7, .fn (.func 40) [] [.ptr (H.length + 1) 0 0 0, .ptr (H.length + 2) 0 0 0]), (8, .list 1 (ow.map .str)), (80, .int .i64 binds.length), (81, .int .i64 i)])
        (fun i => H ++ [.cells 0 8 [.agg [.int .i64 kd, .str nm, .int .i64 nn, .int .i64 op, .list 1 (names.map .str), .sl (H.length + 4) 0 0 subs.length, .sl (H.length + 5) 0 0 binds.length, .sl (H.length + 6) 0 0 alts.length]], .cells 0 1 [.str s], .cells 0 8 [.agg r.cells], .cells 0 8 [.agg [.int .i64 0, .str [], .int .i64 0, .int .i64 0, .list 1 [], .list 8 [], .list 9 [], .list 12 []]], .cells 0 8 (exCells (subs.map f)), .cells 0 9 (bdCells (mix g binds i)), .cells 0 12 (alCells alts)]) (fun i => binds.length - i) (fun i => i ≤ binds.length) 0 (Nat.zero_le _) ?_ ?_
      · rw [mix_zero]
        exact wkF (n0 := H.length) [(H.length, 0), (H.length + 1, 0), (H.length + 2, 0), (H.length + 3, 0), (H.length + 4, 0), (H.length + 5, 0), (H.length + 6, 0)] hG hB hC' hcl
      rintro K i hi hK
      rcases Nat.lt_or_ge i binds.length with hlt | hge
      · have X := And.intro noX (And.intro (bdCells_mix g binds i hlt) (bdCells_mixT g binds i (by omega)))
        (refine run ?_; repeat' (first | with_reducible exact trivial | ((with_reducible apply Fork.mk) <;> intro hb) | with_reducible apply Two.mk))
        refine xg_callV (by exact evS) (by exact evS) (hin binds[i].e ow _ (hwp _ (List.mem_append_right _ (List.mem_append_left _ (List.mem_map_of_mem (List.getElem_mem hlt))))) hol (by rw [get_app]; rfl) (by rw [get_app]; rfl)) ?_
        rintro v H' ⟨rfl, rfl⟩
        rw [hfx]
        have hset : (bdCells (mix g binds i)).set i (.agg (.str binds[i].name :: ((f binds[i].e).cells ++ List.drop 8 binds[i].e.cells))) = bdCells (mix g binds (i + 1)) := by
          rw [Ex.cells_drop, List.append_nil, ← bdCells_mixset g binds i hlt, hgx]; rfl
        (refine run ?_; repeat' (first | with_reducible exact trivial | ((with_reducible apply Fork.mk) <;> intro hb) | with_reducible apply Two.mk))
        refine hK _ _ (i + 1) (by omega) (by omega) ?_
        rw [hset]
        exact wkF (n0 := H.length) [(H.length, 0), (H.length + 1, 0), (H.length + 2, 0), (H.length + 3, 0), (H.length + 4, 0), (H.length + 5, 0), (H.length + 6, 0)] hG hB hC' hcl
      have hi2 : i = binds.length := by omega
      subst hi2
      rw [mix_all]
      clear hK
      (refine run ?_; repeat' (first | with_reducible exact trivial | ((with_reducible apply Fork.mk) <;> intro hb) | with_reducible apply Two.mk))
      generalize hq : (fun a : Al => Al.mk a.kind a.name a.n a.names (if s ∈ altOwn kd nm a.names then a.body else repF s r m a.body)) = q at hR
      have hqx : ∀ a : Al, q a = .mk a.kind a.name a.n a.names (if s ∈ altOwn kd nm a.names then a.body else repF s r m a.body) := fun a => by rw [← hq]
      refine go_loop (fun i : Nat => [(3, .ptr H.length 0 0 0), (4, .ptr (H.length + 1) 0 0 0), (5, .ptr (H.length + 2) 0 0 0), (6, .ptr (H.length + 3) 0 0 0), (7, .fn (.func 40) [] [.ptr (H.length + 1) 0 0 0, .ptr (H.length + 2) 0 0 0]), (101, .int .i64 alts.length), (102, .int .i64 i)])
        (fun i => H ++ [.cells 0 8 [.agg [.int .i64 kd, .str nm, .int .i64 nn, .int .i64 op, .list 1 (names.map .str), .sl (H.length + 4) 0 0 subs.length, .sl (H.length + 5) 0 0 binds.length, .sl (H.length + 6) 0 0 alts.length]], .cells 0 1 [.str s], .cells 0 8 [.agg r.cells], .cells 0 8 [.agg [.int .i64 0, .str [], .int .i64 0, .int .i64 0, .list 1 [], .list 8 [], .list 9 [], .list 12 []]], .cells 0 8 (exCells (subs.map f)), .cells 0 9 (bdCells (binds.map g)), .cells 0 12 (alCells (mix q alts i))]) (fun i => alts.length - i) (fun i => i ≤ alts.length) 0 (Nat.zero_le _) ?_ ?_
      · rw [mix_zero]
        exact wkF (n0 := H.length) [(H.length, 0), (H.length + 1, 0), (H.length + 2, 0), (H.length + 3, 0), (H.length + 4, 0), (H.length + 5, 0), (H.length + 6, 0)] hG hB hC' hcl
      rintro K i hi hK
      rcases Nat.lt_or_ge i alts.length with hlt | hge
      · have hnl := Al.names_lt (kd := kd) (nm := nm) (nn := nn) (op := op) (names := names) (subs := subs) (binds := binds) hlt
        have X := And.intro noX (And.intro (alCells_mix q alts i hlt) (alCells_mixT q alts i (by omega)))
        (refine run ?_; repeat' (first | with_reducible exact trivial | ((with_reducible apply Fork.mk) <;> intro hb) | with_reducible apply Two.mk))
        refine callS (clone_strs G hG alts[i].names _ (by omega)) ?_
        rintro v H' ⟨rfl, rfl⟩
        simp only [List.append_assoc, List.cons_append, List.nil_append, List.length_append, List.length_cons, List.length_nil, List.length_set, X, Nat.reduceAdd]
        (refine runC ?_; repeat' (first | with_reducible exact trivial | ((with_reducible apply Fork.mk) <;> intro hb) | with_reducible apply Two.mk))
        refine go_cut (fun _ : Unit => [(3, .ptr H.length 0 0 0), (4, .ptr (H.length + 1) 0 0 0), (5, .ptr (H.length + 2) 0 0 0), (6, .ptr (H.length + 3) 0 0 0), (7, .fn (.func 40) [] [.ptr (H.length + 1) 0 0 0, .ptr (H.length + 2) 0 0 0]), (101, .int .i64 alts.length), (102, .int .i64 i), (13, .int .i64 i), (14, .list 1 ((altOwn kd nm alts[i].names).map .str))])
          (fun _ => H ++ [.cells 0 8 [.agg [.int .i64 kd, .str nm, .int .i64 nn, .int .i64 op, .list 1 (names.map .str), .sl (H.length + 4) 0 0 subs.length, .sl (H.length + 5) 0 0 binds.length, .sl (H.length + 6) 0 0 alts.length]], .cells 0 1 [.str s], .cells 0 8 [.agg r.cells], .cells 0 8 [.agg [.int .i64 0, .str [], .int .i64 0, .int .i64 0, .list 1 [], .list 8 [], .list 9 [], .list 12 []]], .cells 0 8 (exCells (subs.map f)), .cells 0 9 (bdCells (binds.map g)), .cells 0 12 (alCells (mix q alts i))]) (fun _ => True) (fun K3 hK3 => ?_) (fun _ _ => ?_)
        · (refine run ?_; repeat' (first | with_reducible exact trivial | ((with_reducible apply Fork.mk) <;> intro hb) | with_reducible apply Two.mk))
          · refine hK3 _ _ () trivial ?_
            simp only [altOwn, if_pos hb, List.map_append, List.map_cons, List.map_nil]
            exact wkF (n0 := H.length) [(H.length, 0), (H.length + 1, 0), (H.length + 2, 0), (H.length + 3, 0), (H.length + 4, 0), (H.length + 5, 0), (H.length + 6, 0)] hG hB hC' hcl
          · refine hK3 _ _ () trivial ?_
            simp only [altOwn, if_neg hb, List.append_nil]
            exact wkF (n0 := H.length) [(H.length, 0), (H.length + 1, 0), (H.length + 2, 0), (H.length + 3, 0), (H.length + 4, 0), (H.length + 5, 0), (H.length + 6, 0)] hG hB hC' hcl
        · have hset : (alCells (mix q alts i)).set i (.agg (.int .i64 alts[i].kind :: .str alts[i].name :: .int .i64 alts[i].n :: .list 1 (alts[i].names.map .str) :: ((if s ∈ altOwn kd nm alts[i].names then alts[i].body else repF s r m alts[i].body).cells ++ List.drop 8 alts[i].body.cells))) = alCells (mix q alts (i + 1)) := by
            rw [Ex.cells_drop, List.append_nil, ← alCells_mixset q alts i hlt, hqx]; rfl
          have hao : (altOwn kd nm alts[i].names).length < 4611686018427387904 := by
            simp only [altOwn, List.length_append]; split <;> simp <;> omega
          (refine run ?_; repeat' (first | with_reducible exact trivial | ((with_reducible apply Fork.mk) <;> intro hb) | with_reducible apply Two.mk))
          refine xg_callV (by exact evS) (by exact evS) (hin alts[i].body (altOwn kd nm alts[i].names) _ (hwp _ (List.mem_append_right _ (List.mem_append_right _ (List.mem_map_of_mem (List.getElem_mem hlt))))) hao (by rw [get_app]; rfl) (by rw [get_app]; rfl)) ?_
          rintro v H' ⟨rfl, rfl⟩
          (refine run ?_; repeat' (first | with_reducible exact trivial | ((with_reducible apply Fork.mk) <;> intro hb) | with_reducible apply Two.mk))
          refine hK _ _ (i + 1) (by omega) (by omega) ?_
          rw [hset]
          exact wkF (n0 := H.length) [(H.length, 0), (H.length + 1, 0), (H.length + 2, 0), (H.length + 3, 0), (H.length + 4, 0), (H.length + 5, 0), (H.length + 6, 0)] hG hB hC' hcl
      have hi2 : i = alts.length := by omega
      subst hi2
      rw [mix_all]
      clear hK
      (refine run ?_; repeat' (first | with_reducible exact trivial | ((with_reducible apply Fork.mk) <;> intro hb) | with_reducible apply Two.mk))
      refine Fin.tellN (n0 := H.length) (y := (Ex.mk kd nm nn op names (subs.map f) (binds.map g) (alts.map q)).sv) hR rfl hC' hcl ?_ ⟨rfl, ?_⟩
      · refine Frz.agg _ _ (.cons _ _ _ _ (.same _ rfl) (.cons _ _ _ _ (.same _ rfl) (.cons _ _ _ _ (.same _ rfl) (.cons _ _ _ _ (.same _ rfl) (.cons _ _ _ _ (.same _ undS) (.cons _ _ _ _ ?_ (.cons _ _ _ _ ?_ (.cons _ _ _ _ ?_ .nil))))))))
        · exact Frz.sf (by rw [get_app]; rfl) (by omega) (by simp) (by rw [List.drop_zero, List.take_of_length_le (by simp [exCells_map])]) (exCells_under _ _)
        · exact Frz.sf (by rw [get_app]; rfl) (by omega) (by simp) (by rw [List.drop_zero, List.take_of_length_le (by simp [bdCells_map])]) (bdCells_under _ _)
        · exact Frz.sf (by rw [get_app]; rfl) (by omega) (by simp) (by rw [List.drop_zero, List.take_of_length_le (by simp [alCells_map])]) (alCells_under _ _)
      · have hgq : (fun b : Bd => Bd.mk b.name (if s ∈ ow then b.e else repF s r m b.e)) = g := by
          rw [← hg]; funext b; rw [hfx]
        rw [hgq]
end Go.Proofs.YtcopfafknmpneaaGreatDoor
end

section
namespace Go.Proofs.YtcopfafknmpneaaGreatDoor
open Go
set_option linter.unusedSimpArgs false
set_option linter.unusedVariables false
set_option maxRecDepth 10000
set_option maxHeartbeats 4000000

theorem each_ok (G : Gl) (hG : GClosed G) (e : Ex) (hw : e.wt < 549755813888) (fv : SV) (Hs : Nat → List Blk) (n0 : Nat) (hlen : ∀ i, (Hs i).length = n0) (hfu : fv.under n0 = true) (hcls : closed (Hs 0) → ∀ i, closed (Hs i))
    (hy : ∀ i p X, e.parts[i]? = some p → ACallV Tryz.prog G fv [p.sv] (Hs i ++ X) (fun r H' => H' = Hs (i + 1) ++ X ∧ r = .bool true)) :
    ACall Tryz.prog G 35 [e.sv, fv] (Hs 0) (fun r H' => H' = Hs e.parts.length ∧ r = .bool true) := by
  obtain ⟨kd, nm, nn, op, names, subs, binds, alts⟩ := e
  have hle := Ex.wt_lens kd nm nn op names subs binds alts
  rw [Ex.parts_mk] at hy ⊢
  have hpl : (subs ++ (binds.map Bd.e ++ alts.map Al.body)).length = subs.length + binds.length + alts.length := by simp; omega
  have p1 : ∀ i (h : i < subs.length), (subs ++ (binds.map Bd.e ++ alts.map Al.body))[i]? = some subs[i] := fun i h => by
    rw [List.getElem?_append_left h, List.getElem?_eq_getElem h]
  have p2 : ∀ i (h : i < binds.length), (subs ++ (binds.map Bd.e ++ alts.map Al.body))[subs.length + i]? = some binds[i].e := fun i h => by
    rw [List.getElem?_append_right (by omega), Nat.add_sub_cancel_left, List.getElem?_append_left (by simpa using h), List.getElem?_map, List.getElem?_eq_getElem h]; rfl
  have p3 : ∀ i (h : i < alts.length), (subs ++ (binds.map Bd.e ++ alts.map Al.body))[subs.length + (binds.length + i)]? = some alts[i].body := fun i h => by
    rw [List.getElem?_append_right (by omega), Nat.add_sub_cancel_left, List.getElem?_append_right (by simp), List.length_map, Nat.add_sub_cancel_left, List.getElem?_map, List.getElem?_eq_getElem h]; rfl
  refine ACall.of_go TB [] tabOK _ Tryz.func35 rfl (by decide) Tryz.ntmps35 (by simp) rfl (by simp only [initEnv, Nat.reduceAdd]; rfl) fun C R' hR hC hcl hB => ?_; have X := noX; have hC' := congrArg List.length hC
  have hcl := hcls hcl
  have hC' := hC'.trans (hlen 0)
  have X := hsX Hs n0 hlen
  (refine runO ?_; repeat' (first | with_reducible exact trivial | ((with_reducible apply Fork.mk) <;> intro hb) | with_reducible apply Two.mk))
  refine go_loop (fun i : Nat => [(1, fv), (2, .ptr n0 0 0 0), (12, .list 8 (exCells subs)), (13, .int .i64 subs.length), (14, .int .i64 i)])
    (fun i => Hs i ++ [.cells 0 8 [.agg [.int .i64 kd, .str nm, .int .i64 nn, .int .i64 op, .list 1 (names.map .str), .list 8 (exCells subs), .list 9 (bdCells binds), .list 12 (alCells alts)]]]) (fun i => subs.length - i) (fun i => i ≤ subs.length) 0 (Nat.zero_le _) ?_ ?_
  · exact wkS (n0 := n0) [(n0, 0)] hG hB hC' (hcl 0)
  rintro K i hi hK
  (refine runO ?_; repeat' (first | with_reducible exact trivial | ((with_reducible apply Fork.mk) <;> intro hb) | with_reducible apply Two.mk))
  · refine callV (hy i _ _ (p1 i (by omega))) ?_
    rintro r H' ⟨rfl, rfl⟩
    (refine runO ?_; repeat' (first | with_reducible exact trivial | ((with_reducible apply Fork.mk) <;> intro hb) | with_reducible apply Two.mk))
    refine hK _ _ (i + 1) (by omega) (by omega) ?_
    exact wkS (n0 := n0) [(n0, 0)] hG hB hC' (hcl (i + 1))
  obtain rfl : i = subs.length := by omega
  clear hK
  refine go_loop (fun i : Nat => [(1, fv), (2, .ptr n0 0 0 0), (24, .list 9 (bdCells binds)), (25, .int .i64 binds.length), (26, .int .i64 i)])
    (fun i => Hs (subs.length + i) ++ [.cells 0 8 [.agg [.int .i64 kd, .str nm, .int .i64 nn, .int .i64 op, .list 1 (names.map .str), .list 8 (exCells subs), .list 9 (bdCells binds), .list 12 (alCells alts)]]]) (fun i => binds.length - i) (fun i => i ≤ binds.length) 0 (Nat.zero_le _) ?_ ?_
  · exact wkS (n0 := n0) [(n0, 0)] hG hB hC' (hcl _)
  rintro K i hi hK
  (refine runO ?_; repeat' (first | with_reducible exact trivial | ((with_reducible apply Fork.mk) <;> intro hb) | with_reducible apply Two.mk))
  · refine callV (hy (subs.length + i) _ _ (p2 i (by omega))) ?_
    rintro r H' ⟨rfl, rfl⟩
    (refine runO ?_; repeat' (first | with_reducible exact trivial | ((with_reducible apply Fork.mk) <;> intro hb) | with_reducible apply Two.mk))
    refine hK _ _ (i + 1) (by omega) (by omega) ?_
    exact wkS (n0 := n0) [(n0, 0)] hG hB hC' (hcl _)
  obtain rfl : i = binds.length := by omega
  clear hK
  refine go_loop (fun i : Nat => [(1, fv), (2, .ptr n0 0 0 0), (37, .list 12 (alCells alts)), (38, .int .i64 alts.length), (39, .int .i64 i)])
    (fun i => Hs (subs.length + (binds.length + i)) ++ [.cells 0 8 [.agg [.int .i64 kd, .str nm, .int .i64 nn, .int .i64 op, .list 1 (names.map .str), .list 8 (exCells subs), .list 9 (bdCells binds), .list 12 (alCells alts)]]]) (fun i => alts.length - i) (fun i => i ≤ alts.length) 0 (Nat.zero_le _) ?_ ?_
  · exact wkS (n0 := n0) [(n0, 0)] hG hB hC' (hcl _)
  rintro K i hi hK
  (refine runO ?_; repeat' (first | with_reducible exact trivial | ((with_reducible apply Fork.mk) <;> intro hb) | with_reducible apply Two.mk))
  · refine callV (hy (subs.length + (binds.length + i)) _ _ (p3 i (by omega))) ?_
    rintro r H' ⟨rfl, rfl⟩
    (refine runO ?_; repeat' (first | with_reducible exact trivial | ((with_reducible apply Fork.mk) <;> intro hb) | with_reducible apply Two.mk))
    refine hK _ _ (i + 1) (by omega) (by omega) ?_
    exact wkS (n0 := n0) [(n0, 0)] hG hB hC' (hcl _)
  obtain rfl : i = alts.length := by omega
  refine Fin.tellN (n0 := n0) hR (hlen _) hC' (hcl _) (.same _ rfl) ⟨?_, rfl⟩
  rw [hpl, Nat.add_assoc]
end Go.Proofs.YtcopfafknmpneaaGreatDoor
end

section
namespace Go.Proofs.YtcopfafknmpneaaGreatDoor
open Go
set_option linter.unusedSimpArgs false
set_option linter.unusedVariables false
set_option maxRecDepth 10000
set_option maxHeartbeats 4000000

def szC (n : Int) : Blk := .cells 0 1 [.int .i64 n]
theorem size1_ok (G : Gl) (hG : GClosed G) (x : Ex) (H : List Blk) (n : Int) (nb : Nat) (h1 : H[nb]? = some (szC n)) (h2 : 0 ≤ n) (h3 : n + 1 < 4611686018427387904) :
    ACall Tryz.prog G 34 [x.sv, .ptr nb 0 0 0] H (fun r H' => H' = H.set nb (szC (n + 1)) ∧ r = .bool true) := by
  have hlt : nb < H.length := (List.getElem?_eq_some_iff.1 h1).1
  refine ACall.of_go TB [] tabOK _ Tryz.func34 rfl (by decide) Tryz.ntmps34 (by simp) rfl (by simp only [initEnv, Nat.reduceAdd]; rfl) fun C R' hR hC hcl hB => ?_; have X := noX; have hC' := congrArg List.length hC
  have X := h1
  unfold szC at X
  (refine run ?_; repeat' (first | with_reducible exact trivial | ((with_reducible apply Fork.mk) <;> intro hb) | with_reducible apply Two.mk))
  exact Fin.tellN (n0 := H.length) hR (by simp) hC' (hcl.set rfl) (.same _ rfl) ⟨rfl, rfl⟩

theorem sum_wtE {α : Type} (f : List α → Nat) (g : α → Nat) (h0 : f [] = 0) (h1 : ∀ x l, f (x :: l) = g x + f l) : ∀ l, f l = (l.map g).sum
  | [] => by simp [h0]
  | x :: l => by rw [h1, sum_wtE f g h0 h1 l]; simp
theorem exsSize_sum (l : List Ex) : exsSize l = (l.map Ex.size).sum := sum_wtE exsSize _ (by simp [exsSize]) (fun x l => by simp only [exsSize]) l
theorem bdsSize_sum (l : List Bd) : bdsSize l = ((l.map Bd.e).map Ex.size).sum := by
  rw [List.map_map]; exact sum_wtE bdsSize _ (by simp [bdsSize]) (fun x l => by cases x; simp only [bdsSize, Bd.size, Function.comp_def, Bd.e]) l
theorem alsSize_sum (l : List Al) : alsSize l = ((l.map Al.body).map Ex.size).sum := by
  rw [List.map_map]; exact sum_wtE alsSize _ (by simp [alsSize]) (fun x l => by cases x; simp only [alsSize, Al.size, Function.comp_def, Al.body]) l
theorem Ex.size_parts (e : Ex) : e.size = 1 + (e.parts.map Ex.size).sum := by
  obtain ⟨kd, nm, nn, op, names, subs, binds, alts⟩ := e
  rw [Ex.parts_mk, Ex.size, exsSize_sum, bdsSize_sum, alsSize_sum, List.map_append, List.map_append, List.sum_append, List.sum_append]
  omega
theorem sum_take_le {l : List Nat} : ∀ (i : Nat), (l.take i).sum ≤ l.sum := by
  induction l with
  | nil => intro i; simp
  | cons x r ih =>
    intro i
    cases i with
    | zero => simp
    | succ i => simp only [List.take_succ_cons, List.sum_cons]; have := ih i; omega

def AllC (G : Gl) (m : Nat) : Prop := ∀ (e : Ex) (H : List Blk) (n : Int) (nb : Nat), e.wt ≤ m → H[nb]? = some (szC n) → 0 ≤ n → n + e.size < 4611686018427387904 →
  ACall Tryz.prog G 33 [e.sv, .fn (.func 34) [] [.ptr nb 0 0 0]] H (fun r H' => H' = H.set nb (szC (n + e.size)) ∧ r = .bool true)

theorem all1_ok (G : Gl) (hG : GClosed G) (m : Nat) (hrec : AllC G m) (p : Ex) (H : List Blk) (n : Int) (nb ib : Nat) (hp : p.wt ≤ m) (h1 : H[nb]? = some (szC n)) (hib : H[ib]? = some (.cells 0 1 [.fn (.func 34) [] [.ptr nb 0 0 0]])) (h2 : 0 ≤ n) (h3 : n + p.size < 4611686018427387904) :
    ACall Tryz.prog G 79 [p.sv, .ptr ib 0 0 0] H (fun r H' => H' = H.set nb (szC (n + p.size)) ∧ r = .bool true) := by
  have hlt : nb < H.length := (List.getElem?_eq_some_iff.1 h1).1
  have hlt2 : ib < H.length := (List.getElem?_eq_some_iff.1 hib).1
  refine ACall.of_go TB [] tabOK _ Tryz.func79 rfl (by decide) Tryz.ntmps79 (by simp) rfl (by simp only [initEnv, Nat.reduceAdd]; rfl) fun C R' hR hC hcl hB => ?_; have X := noX; have hC' := congrArg List.length hC
  have X := And.intro h1 hib
  (refine run ?_; repeat' (first | with_reducible exact trivial | ((with_reducible apply Fork.mk) <;> intro hb) | with_reducible apply Two.mk))
  refine callS (hrec p _ n nb hp (by rw [get_old hlt]; exact h1) h2 h3) ?_
  rintro r H' ⟨rfl, rfl⟩
  rw [set_old hlt]
  (refine run ?_; repeat' (first | with_reducible exact trivial | ((with_reducible apply Fork.mk) <;> intro hb) | with_reducible apply Two.mk))
  exact Fin.tellN (n0 := H.length) hR (by simp) hC' (hcl.set rfl) (.same _ rfl) ⟨rfl, rfl⟩

theorem all_ok (G : Gl) (hG : GClosed G) : ∀ m, m < 549755813888 → AllC G m
  | 0, _, e, _, _, _, h, _, _, _ => absurd e.wt_pos (by omega)
  | m + 1, hm2, e, H, n, nb, hm, h1, h2, h3 => by
    have hlt : nb < H.length := (List.getElem?_eq_some_iff.1 h1).1
    have hsz := e.size_parts
    have hrec := all_ok G hG m (by omega)
    have hs0 := e.size_pos
    refine ACall.of_go TB [] tabOK _ Tryz.func33 rfl (by decide) Tryz.ntmps33 (by simp) rfl (by simp only [initEnv, Nat.reduceAdd]; rfl) fun C R' hR hC hcl hB => ?_; have X := noX; have hC' := congrArg List.length hC
    (refine run ?_; repeat' (first | with_reducible exact trivial | ((with_reducible apply Fork.mk) <;> intro hb) | with_reducible apply Two.mk))
    refine callV (ACallV.of (first := []) (args := [e.sv]) (cap := [.ptr nb 0 0 0]) (size1_ok G hG e _ n nb (by rw [get_old hlt]; exact h1) h2 (by omega))) ?_
    rintro r H' ⟨rfl, rfl⟩
    rw [set_old hlt]
    (refine run ?_; repeat' (first | with_reducible exact trivial | ((with_reducible apply Fork.mk) <;> intro hb) | with_reducible apply Two.mk))
    have hw : ∀ i, n + 1 + (((e.parts.take i).map Ex.size).sum : Nat) ≤ n + e.size := fun i => by
      have := sum_take_le (l := e.parts.map Ex.size) i
      rw [← List.map_take] at this
      omega
    have hk : ∀ (i : Nat) (L : List Blk), ((H.set nb (szC (n + 1 + (((e.parts.take i).map Ex.size).sum : Nat))) ++ L))[nb]? = some (szC (n + 1 + (((e.parts.take i).map Ex.size).sum : Nat))) := fun i L => get_oldS hlt
    have heach := each_ok G hG e (by omega) (.fn (.func 79) [] [.ptr (H.length + 1) 0 0 0]) (fun i => H.set nb (szC (n + 1 + (((e.parts.take i).map Ex.size).sum : Nat))) ++ [.cells 0 8 [.agg e.cells], .cells 0 1 [.fn (.func 34) [] [.ptr nb 0 0 0]]]) (H.length + 2) (fun i => by simp) (by simp [SV.under, SV.underL])
      (fun h i => by have := h.set (id := nb) (b := szC (n + 1 + (((e.parts.take i).map Ex.size).sum : Nat))) rfl; rwa [set_oldS hlt] at this) (fun i p X hp => by
        have hpw := Ex.wt_parts (List.mem_of_getElem? hp)
        have hlp := (List.getElem?_eq_some_iff.1 hp)
        have hnx : ((e.parts.take (i + 1)).map Ex.size).sum = ((e.parts.take i).map Ex.size).sum + p.size := by
          rw [List.take_succ_eq_append_getElem hlp.1, hlp.2]; simp
        have hwi := hw (i + 1)
        refine ACallV.of (first := []) (args := [p.sv]) (cap := [.ptr (H.length + 1) 0 0 0]) ((all1_ok G hG m hrec p _ (n + 1 + (((e.parts.take i).map Ex.size).sum : Nat)) nb (H.length + 1) (by omega) (by rw [List.append_assoc]; exact hk i _) (by rw [List.append_assoc]; simp) (by omega) (by omega)).mono ?_)
        rintro r H' ⟨rfl, rfl⟩
        refine ⟨?_, rfl⟩
        rw [List.append_assoc, set_oldS hlt, hnx, List.append_assoc]
        congr 3
        omega)
    rw [show n + 1 + ((((e.parts.take 0).map Ex.size).sum : Nat) : Int) = n + 1 by simp] at heach
    refine callS heach ?_
    rintro r H' ⟨rfl, rfl⟩
    rw [List.take_length, show n + 1 + (((e.parts.map Ex.size).sum : Nat) : Int) = n + e.size by omega]
    (refine run ?_; repeat' (first | with_reducible exact trivial | ((with_reducible apply Fork.mk) <;> intro hb) | with_reducible apply Two.mk))
    exact Fin.tellN (n0 := H.length) hR (by simp) hC' (hcl.set rfl) (.same _ rfl) ⟨rfl, rfl⟩

theorem size_ok (G : Gl) (hG : GClosed G) (e : Ex) (H : List Blk) (hw : e.wt < 549755813887) (hs : e.size < 4611686018427387904) : ACall Tryz.prog G 11 [e.sv] H (fun r H' => H' = H ∧ r = .int .i64 e.size) := by
  refine ACall.of_go TB [] tabOK _ Tryz.func11 rfl (by decide) Tryz.ntmps11 (by simp) rfl (by simp only [initEnv, Nat.reduceAdd]; rfl) fun C R' hR hC hcl hB => ?_; have X := noX; have hC' := congrArg List.length hC
  (refine run ?_; repeat' (first | with_reducible exact trivial | ((with_reducible apply Fork.mk) <;> intro hb) | with_reducible apply Two.mk))
  refine callS (all_ok G hG e.wt (by omega) e _ 0 (H.length + 1) (Nat.le_refl _) (by rw [get_app]; rfl) (by omega) (by omega)) ?_
  rintro r H' ⟨rfl, rfl⟩
  rw [set_app, szC, Int.zero_add]
  simp only [List.set_cons_succ, List.set_cons_zero]
  (refine run ?_; repeat' (first | with_reducible exact trivial | ((with_reducible apply Fork.mk) <;> intro hb) | with_reducible apply Two.mk))
  exact Fin.tellN (n0 := H.length) hR (by simp) hC' hcl (.same _ rfl) ⟨rfl, rfl⟩
end Go.Proofs.YtcopfafknmpneaaGreatDoor
end

section
namespace Go.Proofs.YtcopfafknmpneaaGreatDoor
open Go
set_option linter.unusedSimpArgs false
set_option linter.unusedVariables false
set_option maxRecDepth 10000
set_option maxHeartbeats 4000000

/-- has it no alts, no binds, but where they belong? -/
def shp : Nat → Ex → Prop
  | 0, _ => True
  | m + 1, e => (e.kind ≠ 6 → e.alts = []) ∧ (e.kind ≠ 5 → e.binds = []) ∧ ∀ p ∈ e.parts, shp m p
def someS (H : List Blk) (p : Prop) : SV → List Blk → Prop := fun r H' => H' = H ∧ ∃ b, r = .bool b ∧ (b = true → p)

theorem shape2_ok (G : Gl) (hG : GClosed G) : ∀ (m : Nat) (e : Ex) (H : List Blk), e.wt ≤ m → e.wt < 4294967296 → ACall Tryz.prog G 59 [e.sv] H (someS H (shp m e))
  | 0, e, H, hw, _ => by have := e.wt_pos; omega
  | m + 1, e, H, hw, hw0 => by
    obtain ⟨kd, nm, nn, op, names, subs, binds, alts⟩ := e
    have hlen := Ex.wt_lens kd nm nn op names subs binds alts
    generalize hp : (Ex.mk kd nm nn op names subs binds alts).parts = pp
    have hpl : pp.length ≤ (Ex.mk kd nm nn op names subs binds alts).wt := by rw [← hp, Ex.parts_mk]; simp; omega
    refine ACall.of_go TB [] tabOK _ Tryz.func59 rfl (by decide) Tryz.ntmps59 (by simp) rfl (by simp only [initEnv, Nat.reduceAdd]; rfl) fun C R' hR hC hcl hB => ?_; have X := noX; have hC' := congrArg List.length hC
    (refine run ?_; repeat' (first | with_reducible exact trivial | ((with_reducible apply Fork.mk) <;> intro hb) | with_reducible apply Two.mk))
    all_goals first | exact Fin.tellN (n0 := H.length) hR rfl hC' hcl (.same _ rfl) ⟨rfl, _, rfl, fun h => by cases h⟩ | skip
    all_goals
      rename_i c1 c2
      have hq : (kd ≠ 6 → alts = []) ∧ (kd ≠ 5 → binds = []) := by
        simp only [Bool.or_eq_false_iff, Bool.and_eq_false_iff, decide_eq_false_iff_not, Decidable.not_not] at c1
        obtain ⟨⟨_, h5⟩, h6⟩ := c1
        exact ⟨fun h => List.length_eq_zero_iff.1 (by omega), fun h => List.length_eq_zero_iff.1 (by omega)⟩
      clear c1 c2
    · refine callS (args_ok G hG op _) ?_
      rintro r H' ⟨rfl, rfl⟩
      (refine run ?_; repeat' (first | with_reducible exact trivial | ((with_reducible apply Fork.mk) <;> intro hb) | with_reducible apply Two.mk))
      all_goals first | exact Fin.tellN (n0 := H.length) hR rfl hC' hcl (.same _ rfl) ⟨rfl, _, rfl, fun h => by cases h⟩ | skip
      refine go_loop (fun i : Nat => [(1, .ptr H.length 0 0 0), (6, .int .i64 i)]) (fun i => H ++ [.cells 0 8 [.agg [.int .i64 kd, .str nm, .int .i64 nn, .int .i64 op, .list 1 (names.map .str), .list 8 (exCells subs), .list 9 (bdCells binds), .list 12 (alCells alts)]]]) (fun i => alts.length - i) (fun i => i ≤ alts.length) 0 (Nat.zero_le _) ?_ ?_
      · exact wkS (n0 := H.length) [(H.length, 0)] hG hB hC' hcl
      intro K i hi hK
      (refine run ?_; repeat' (first | with_reducible exact trivial | ((with_reducible apply Fork.mk) <;> intro hb) | with_reducible apply Two.mk))
      · exact Fin.tellN (n0 := H.length) hR rfl hC' hcl (.same _ rfl) ⟨rfl, _, rfl, fun h => by cases h⟩
      · refine hK _ _ (i + 1) (by omega) (by omega) ?_
        exact wkS (n0 := H.length) [(H.length, 0)] hG hB hC' hcl
      refine callS (parts_ok G hG (Ex.mk kd nm nn op names subs binds alts) _ hw0) ?_
      rintro r H' ⟨rfl, rfl⟩
      rw [hp]
      (refine run ?_; repeat' (first | with_reducible exact trivial | ((with_reducible apply Fork.mk) <;> intro hb) | with_reducible apply Two.mk))
      refine go_loop (fun i : Nat => [(8, .list 8 (exCells pp)), (9, .int .i64 i)]) (fun i => H ++ []) (fun i => pp.length - i) (fun i => i ≤ pp.length ∧ ∀ p ∈ pp.take i, shp m p) 0 ⟨Nat.zero_le _, by simp⟩ ?_ ?_
      · exact wkS (n0 := H.length) [] hG hB hC' hcl
      rintro K2 i ⟨hi, hi2⟩ hK2
      (refine run ?_; repeat' (first | with_reducible exact trivial | ((with_reducible apply Fork.mk) <;> intro hb) | with_reducible apply Two.mk))
      · have hlt : i < pp.length := by omega
        have hpi : pp[i].wt < (Ex.mk kd nm nn op names subs binds alts).wt := by
          subst hp
          exact Ex.wt_parts (List.getElem_mem _)
        refine callS (shape2_ok G hG m pp[i] _ (by omega) (by omega)) ?_
        rintro r H' ⟨rfl, bb, rfl, hbb⟩
        cases bb
        · (refine run ?_; repeat' (first | with_reducible exact trivial | ((with_reducible apply Fork.mk) <;> intro hb) | with_reducible apply Two.mk))
          exact Fin.tellN (n0 := H.length) hR rfl hC' hcl (.same _ rfl) ⟨rfl, _, rfl, fun h => by cases h⟩
        · (refine run ?_; repeat' (first | with_reducible exact trivial | ((with_reducible apply Fork.mk) <;> intro hb) | with_reducible apply Two.mk))
          refine hK2 _ _ (i + 1) (by omega) ⟨by omega, ?_⟩ ?_
          · rw [List.take_succ_eq_append_getElem hlt]
            intro p hpm
            rcases List.mem_append.1 hpm with h | h
            · exact hi2 p h
            · rw [List.mem_singleton.1 h]; exact hbb rfl
          · exact wkS (n0 := H.length) [] hG hB hC' hcl
      · refine Fin.tellN (n0 := H.length) hR rfl hC' hcl (.same _ rfl) ⟨rfl, _, rfl, fun _ => ⟨hq.1, hq.2, ?_⟩⟩
        rw [hp]
        rwa [show i = pp.length by omega, List.take_length] at hi2
    · refine go_loop (fun i : Nat => [(1, .ptr H.length 0 0 0), (6, .int .i64 i)]) (fun i => H ++ [.cells 0 8 [.agg [.int .i64 kd, .str nm, .int .i64 nn, .int .i64 op, .list 1 (names.map .str), .list 8 (exCells subs), .list 9 (bdCells binds), .list 12 (alCells alts)]]]) (fun i => alts.length - i) (fun i => i ≤ alts.length) 0 (Nat.zero_le _) ?_ ?_
      · exact wkS (n0 := H.length) [(H.length, 0)] hG hB hC' hcl
      intro K i hi hK
      (refine run ?_; repeat' (first | with_reducible exact trivial | ((with_reducible apply Fork.mk) <;> intro hb) | with_reducible apply Two.mk))
      · exact Fin.tellN (n0 := H.length) hR rfl hC' hcl (.same _ rfl) ⟨rfl, _, rfl, fun h => by cases h⟩
      · refine hK _ _ (i + 1) (by omega) (by omega) ?_
        exact wkS (n0 := H.length) [(H.length, 0)] hG hB hC' hcl
      refine callS (parts_ok G hG (Ex.mk kd nm nn op names subs binds alts) _ hw0) ?_
      rintro r H' ⟨rfl, rfl⟩
      rw [hp]
      (refine run ?_; repeat' (first | with_reducible exact trivial | ((with_reducible apply Fork.mk) <;> intro hb) | with_reducible apply Two.mk))
      refine go_loop (fun i : Nat => [(8, .list 8 (exCells pp)), (9, .int .i64 i)]) (fun i => H ++ []) (fun i => pp.length - i) (fun i => i ≤ pp.length ∧ ∀ p ∈ pp.take i, shp m p) 0 ⟨Nat.zero_le _, by simp⟩ ?_ ?_
      · exact wkS (n0 := H.length) [] hG hB hC' hcl
      rintro K2 i ⟨hi, hi2⟩ hK2
      (refine run ?_; repeat' (first | with_reducible exact trivial | ((with_reducible apply Fork.mk) <;> intro hb) | with_reducible apply Two.mk))
      · have hlt : i < pp.length := by omega
        have hpi : pp[i].wt < (Ex.mk kd nm nn op names subs binds alts).wt := by
          subst hp
          exact Ex.wt_parts (List.getElem_mem _)
        refine callS (shape2_ok G hG m pp[i] _ (by omega) (by omega)) ?_
        rintro r H' ⟨rfl, bb, rfl, hbb⟩
        cases bb
        · (refine run ?_; repeat' (first | with_reducible exact trivial | ((with_reducible apply Fork.mk) <;> intro hb) | with_reducible apply Two.mk))
          exact Fin.tellN (n0 := H.length) hR rfl hC' hcl (.same _ rfl) ⟨rfl, _, rfl, fun h => by cases h⟩
        · (refine run ?_; repeat' (first | with_reducible exact trivial | ((with_reducible apply Fork.mk) <;> intro hb) | with_reducible apply Two.mk))
          refine hK2 _ _ (i + 1) (by omega) ⟨by omega, ?_⟩ ?_
          · rw [List.take_succ_eq_append_getElem hlt]
            intro p hpm
            rcases List.mem_append.1 hpm with h | h
            · exact hi2 p h
            · rw [List.mem_singleton.1 h]; exact hbb rfl
          · exact wkS (n0 := H.length) [] hG hB hC' hcl
      · refine Fin.tellN (n0 := H.length) hR rfl hC' hcl (.same _ rfl) ⟨rfl, _, rfl, fun _ => ⟨hq.1, hq.2, ?_⟩⟩
        rw [hp]
        rwa [show i = pp.length by omega, List.take_length] at hi2

theorem right2_ok (G : Gl) (hG : GClosed G) (e : Ex) (H : List Blk) (hw0 : e.wt < 4294967296) : ACall Tryz.prog G 28 [e.sv] H (someS H (shp e.wt e)) := by
  refine ACall.of_go TB [] tabOK _ Tryz.func28 rfl (by decide) Tryz.ntmps28 (by simp) rfl (by simp only [initEnv, Nat.reduceAdd]; rfl) fun C R' hR hC hcl hB => ?_; have X := noX; have hC' := congrArg List.length hC
  (refine run ?_; repeat' (first | with_reducible exact trivial | ((with_reducible apply Fork.mk) <;> intro hb) | with_reducible apply Two.mk))
  refine callS (shape2_ok G hG _ e _ (Nat.le_refl _) hw0) ?_
  rintro r H' ⟨rfl, bb, rfl, hbb⟩
  cases bb
  · (refine run ?_; repeat' (first | with_reducible exact trivial | ((with_reducible apply Fork.mk) <;> intro hb) | with_reducible apply Two.mk))
    exact Fin.tellN (n0 := H.length) hR rfl hC' hcl (.same _ rfl) ⟨rfl, _, rfl, fun h => by cases h⟩
  (refine run ?_; repeat' (first | with_reducible exact trivial | ((with_reducible apply Fork.mk) <;> intro hb) | with_reducible apply Two.mk))
  refine callS (whole_ok G hG _ e _ (Nat.le_refl _) hw0) ?_
  rintro r H' ⟨rfl, b2, rfl⟩
  (refine run ?_; repeat' (first | with_reducible exact trivial | ((with_reducible apply Fork.mk) <;> intro hb) | with_reducible apply Two.mk))
  exact Fin.tellN (n0 := H.length) hR rfl hC' hcl (.same _ rfl) ⟨rfl, _, rfl, fun _ => hbb rfl⟩

theorem few2_ok (G : Gl) (hG : GClosed G) (e : Ex) (H : List Blk) (hw0 : e.wt < 4294967296) : ACall Tryz.prog G 8 [e.sv] H (someS H (shp e.wt e)) := by
  refine ACall.of_go TB [] tabOK _ Tryz.func8 rfl (by decide) Tryz.ntmps8 (by simp) rfl (by simp only [initEnv, Nat.reduceAdd]; rfl) fun C R' hR hC hcl hB => ?_; have X := noX; have hC' := congrArg List.length hC
  have hbd := bounded_ok G hG 2001 e (H ++ [.cells 0 8 [.agg e.cells]]) (by omega) (Nat.le_refl _)
  rw [show ((2001 : Int) - ((2001 : Nat) : Int)) = 0 from rfl] at hbd
  (refine run ?_; repeat' (first | with_reducible exact trivial | ((with_reducible apply Fork.mk) <;> intro hb) | with_reducible apply Two.mk))
  refine callS hbd ?_
  rintro r H' ⟨rfl, rfl⟩
  (refine run ?_; repeat' (first | with_reducible exact trivial | ((with_reducible apply Fork.mk) <;> intro hb) | with_reducible apply Two.mk))
  refine callS (right2_ok G hG e _ hw0) ?_
  rintro r H' ⟨rfl, b2, rfl, hb2⟩
  (refine run ?_; repeat' (first | with_reducible exact trivial | ((with_reducible apply Fork.mk) <;> intro hb) | with_reducible apply Two.mk))
  · exact Fin.tellN (n0 := H.length) hR rfl hC' hcl (.same _ rfl) ⟨rfl, _, rfl, hb2⟩
  · exact Fin.tellN (n0 := H.length) hR rfl hC' hcl (.same _ rfl) ⟨rfl, _, rfl, fun h => by cases h⟩
end Go.Proofs.YtcopfafknmpneaaGreatDoor
end

section
namespace Go.Proofs.YtcopfafknmpneaaGreatDoor
open Go
set_option linter.unusedSimpArgs false
set_option linter.unusedVariables false
set_option maxRecDepth 10000
set_option maxHeartbeats 4000000

/-- how often in a part, past the names that are bound in it -/
def occP (s : Str) (p : Ex × List Str) : Nat := if s ∈ p.2 then 0 else occ s p.1
theorem occB_sum (s : Str) : ∀ l : List Bd, occB s l = (l.map fun b => occ s b.e).sum
  | [] => rfl
  | b :: r => by simp only [occB, List.map_cons, List.sum_cons, occB_sum s r, occBd_eq]
theorem occL_sum (s : Str) : ∀ l : List Ex, occL s l = (l.map (occ s)).sum
  | [] => rfl
  | e :: r => by simp only [occL, List.map_cons, List.sum_cons, occL_sum s r]
theorem occA_sum (s : Str) (c : Prop) [Decidable c] : ∀ l : List Al, occA s c l = (l.map fun a => if s ∈ a.names ∨ c then 0 else occ s a.body).sum
  | [] => rfl
  | e :: r => by simp only [occA, List.map_cons, List.sum_cons, occA_sum s c r, occAl_eq]
theorem sum_zero {α : Type} {f : α → Nat} : ∀ {l : List α}, (∀ x ∈ l, f x = 0) → (l.map f).sum = 0
  | [], _ => rfl
  | x :: l, h => by rw [List.map_cons, List.sum_cons, h x (List.mem_cons_self ..), sum_zero fun y hy => h y (List.mem_cons_of_mem _ hy)]
theorem sum_congr {α : Type} {f g : α → Nat} : ∀ {l : List α}, (∀ x ∈ l, f x = g x) → (l.map f).sum = (l.map g).sum
  | [], _ => rfl
  | x :: l, h => by rw [List.map_cons, List.sum_cons, List.map_cons, List.sum_cons, h x (List.mem_cons_self ..), sum_congr fun y hy => h y (List.mem_cons_of_mem _ hy)]

theorem occ_scope (s : Str) {kd : Int} {nm : Str} {nn op : Int} {names : List Str} {subs : List Ex} {binds : List Bd} {alts : List Al} (hk : kd ≠ 1) (h6 : kd ≠ 6 → alts = []) :
    occ s (.mk kd nm nn op names subs binds alts) = ((scopeParts (.mk kd nm nn op names subs binds alts)).map (occP s)).sum := by
  rw [scopeParts, List.map_append, List.map_append, List.sum_append, List.sum_append, List.map_map, List.map_map, List.map_map]
  by_cases ho : s ∈ ownOf kd names binds
  · have hk6 : kd ≠ 6 := fun e => by subst e; simp [ownOf] at ho
    rw [h6 hk6, occ, if_neg hk, if_pos ho, sum_zero (fun x _ => by simp [occP, ho]), sum_zero (fun x _ => by simp [occP, ho])]
    rfl
  · rw [occ, if_neg hk, if_neg ho, occL_sum, occB_sum, occA_sum, Nat.add_assoc]
    congr 1
    · exact sum_congr fun x _ => by simp [occP, ho]
    · congr 1
      · exact sum_congr fun x _ => by simp [occP, ho]
      · refine sum_congr fun a _ => ?_
        by_cases h : kd = 6
        · simp [occP, h, eq_comm]
        · simp [occP, h]

theorem parts_scope (e : Ex) : e.parts = (scopeParts e).map Prod.fst := by
  obtain ⟨kd, nm, nn, op, names, subs, binds, alts⟩ := e
  rw [Ex.parts_mk, scopeParts]
  simp [Function.comp_def]

/-- what is free is used -/
theorem unb_free (s : Str) : ∀ (m : Nat) (e : Ex) (st : BO), e.wt ≤ m → shp m e → (∀ t, 0 ≤ cntB st.1 t) → (s ∈ (unbF m e st).2 ↔ s ∈ st.2 ∨ (cntB st.1 s = 0 ∧ 0 < occ s e))
  | 0, e, st, h, _, _ => absurd e.wt_pos (by omega)
  | m + 1, e, st, hm, hs, hc => by
    obtain ⟨h6, _, hp⟩ := hs
    rw [unbF]
    by_cases hk : e.kind = 1
    · rw [if_pos hk]
      obtain ⟨kd, nm, nn, op, names, subs, binds, alts⟩ := e
      rw [occ, if_pos (show kd = 1 from hk)]
      by_cases hz : cntB st.1 nm = 0
      · rw [if_pos (show cntB st.1 (Ex.mk kd nm nn op names subs binds alts).name = 0 from hz)]
        show s ∈ putO st.2 nm ↔ _
        simp only [putO]
        by_cases hns : nm = s
        · subst hns
          simp only [if_true]
          split <;> simp_all
        · simp only [if_neg hns, Nat.lt_irrefl, and_false, or_false]
          split
          · rfl
          · simp [show s ≠ nm from fun e => hns e.symm]
      · rw [if_neg (show ¬ cntB st.1 (Ex.mk kd nm nn op names subs binds alts).name = 0 from hz)]
        by_cases hns : nm = s
        · subst hns; simp [hz]
        · simp [hns]
    · rw [if_neg hk]
      have ho : occ s e = ((scopeParts e).map (occP s)).sum := by
        obtain ⟨kd, nm, nn, op, names, subs, binds, alts⟩ := e
        exact occ_scope s hk h6
      have hw : ∀ p ∈ scopeParts e, p.1.wt ≤ m ∧ shp m p.1 := fun p h => by
        have := scope_wt h
        exact ⟨by omega, hp _ (by rw [parts_scope]; exact List.mem_map_of_mem h)⟩
      rw [ho]
      clear ho hm hp h6 hk
      generalize scopeParts e = l at hw
      induction l generalizing st with
      | nil => simp
      | cons p l ih =>
        have hpw := hw p (List.mem_cons_self ..)
        have hci : ∀ t, 0 ≤ cntB (incB st.1 p.2) t := fun t => by rw [cnt_inc]; have := hc t; omega
        have h1 := unb_free s m p.1 (incB st.1 p.2, st.2) hpw.1 hpw.2 hci
        have h3 : s ∈ (l.foldl (cstep (unbF m)) (cstep (unbF m) st p)).2 ↔ (s ∈ (cstep (unbF m) st p).2 ∨ (cntB (cstep (unbF m) st p).1 s = 0 ∧ 0 < (l.map (occP s)).sum)) := ih (cstep (unbF m) st p) (fun t => by rw [cstep_cnt]; exact hc t) (fun q hq => hw q (List.mem_cons_of_mem _ hq))
        rw [List.foldl_cons, h3, cstep_cnt, List.map_cons, List.sum_cons]
        have h2 : (cstep (unbF m) st p).2 = (unbF m p.1 (incB st.1 p.2, st.2)).2 := rfl
        rw [h2, h1]
        simp only
        rw [cnt_inc, occP]
        have hcs := hc s
        by_cases hsn : s ∈ p.2
        · have := List.count_pos_iff.2 hsn
          rw [if_pos hsn]
          constructor
          · rintro ((h | h) | h)
            · exact .inl h
            · omega
            · exact .inr ⟨h.1, by omega⟩
          · rintro (h | h)
            · exact .inl (.inl h)
            · exact .inr ⟨h.1, by omega⟩
        · have := List.count_eq_zero.2 hsn
          rw [if_neg hsn, this]
          constructor
          · rintro ((h | h) | h)
            · exact .inl h
            · exact .inr ⟨by omega, by omega⟩
            · exact .inr ⟨h.1, by omega⟩
          · rintro (h | h)
            · exact .inl (.inl h)
            · by_cases h0 : 0 < occ s p.1
              · exact .inl (.inr ⟨by omega, h0⟩)
              · exact .inr ⟨h.1, by omega⟩
theorem free_used (s : Str) (e : Ex) (hs : shp e.wt e) : s ∈ freeS e ↔ 0 < occ s e := by
  rw [freeS, (sortS_perm _).mem_iff, unb_free s e.wt e ([], []) (Nat.le_refl _) hs (fun t => by simp [cntB])]
  simp [cntB]
end Go.Proofs.YtcopfafknmpneaaGreatDoor
end

section
namespace Go.Proofs.YtcopfafknmpneaaGreatDoor
open Go
set_option linter.unusedSimpArgs false
set_option linter.unusedVariables false
set_option maxRecDepth 10000
set_option maxHeartbeats 4000000

theorem ownOf_names (kd : Int) (names : List Str) (b1 b2 : List Bd) (h : b1.map Bd.name = b2.map Bd.name) : ownOf kd names b1 = ownOf kd names b2 := by simp only [ownOf, h]

/-- what stands in the parts of an expression in which a name was replaced -/
theorem rep_scope (s : Str) (r : Ex) (m : Nat) {kd : Int} {nm : Str} {nn op : Int} {names : List Str} {subs : List Ex} {binds : List Bd} {alts : List Al} (hk : kd ≠ 1) :
    scopeParts (repF s r (m + 1) (.mk kd nm nn op names subs binds alts)) = (scopeParts (.mk kd nm nn op names subs binds alts)).map fun p => (if s ∈ p.2 then p.1 else repF s r m p.1, p.2) := by
  rw [repF, if_neg hk]
  have ho : ownOf kd names (binds.map fun b => Bd.mk b.name (if s ∈ ownOf kd names binds then b.e else repF s r m b.e)) = ownOf kd names binds := ownOf_names _ _ _ _ (by rw [List.map_map]; rfl)
  simp only [scopeParts]
  rw [ho]
  simp only [List.map_append, List.map_map, Function.comp_def]
  rfl

/-- a name that was replaced is used no more -/
theorem occ_rep (s : Str) (r : Ex) (hr : occ s r = 0) : ∀ (m : Nat) (e : Ex), e.wt ≤ m → shp m e → occ s (repF s r m e) = 0
  | 0, e, h, _ => absurd e.wt_pos (by omega)
  | m + 1, e, hm, hs => by
    obtain ⟨h6, _, hp⟩ := hs
    have hw : ∀ p ∈ scopeParts e, p.1.wt ≤ m ∧ shp m p.1 := fun p h => by
      have := scope_wt h
      exact ⟨by omega, hp _ (by rw [parts_scope]; exact List.mem_map_of_mem h)⟩
    obtain ⟨kd, nm, nn, op, names, subs, binds, alts⟩ := e
    by_cases hk : kd = 1
    · rw [repF, if_pos hk]
      by_cases hn : nm = s
      · rw [if_pos hn, hr]
      · rw [if_neg hn, occ, if_pos hk, if_neg hn]
    · have ho : occ s (repF s r (m + 1) (.mk kd nm nn op names subs binds alts)) = ((scopeParts (repF s r (m + 1) (.mk kd nm nn op names subs binds alts))).map (occP s)).sum := by
        rw [repF, if_neg hk]
        exact occ_scope s hk fun h => by rw [show alts = [] from h6 h]; rfl
      rw [ho, rep_scope s r m hk, List.map_map]
      refine sum_zero fun p hpm => ?_
      simp only [Function.comp_def, occP]
      by_cases hsn : s ∈ p.2
      · rw [if_pos hsn]
      · rw [if_neg hsn, if_neg hsn]
        exact occ_rep s r hr m p.1 (hw p hpm).1 (hw p hpm).2

theorem sum_add {α : Type} {f g h : α → Nat} : ∀ {l : List α}, (∀ x ∈ l, f x + g x = h x) → (l.map f).sum + (l.map g).sum = (l.map h).sum
  | [], _ => rfl
  | x :: l, hh => by
    have h1 := hh x (List.mem_cons_self ..)
    have h2 := sum_add fun y hy => hh y (List.mem_cons_of_mem _ hy)
    simp only [List.map_cons, List.sum_cons]; omega
theorem sum_mul {α : Type} (k : Nat) (f : α → Nat) : ∀ l : List α, k * (l.map f).sum = (l.map fun x => k * f x).sum
  | [] => rfl
  | x :: l => by simp only [List.map_cons, List.sum_cons, Nat.mul_add, sum_mul k f l]

/-- how great it is then -/
theorem size_rep (s : Str) (r : Ex) : ∀ (m : Nat) (e : Ex), e.wt ≤ m → shp m e → bareF m e = true → (repF s r m e).size + occ s e = e.size + r.size * occ s e
  | 0, e, h, _, _ => absurd e.wt_pos (by omega)
  | m + 1, e, hm, hs, hb => by
    obtain ⟨h6, _, hp⟩ := hs
    have hw : ∀ p ∈ scopeParts e, p.1.wt ≤ m ∧ shp m p.1 := fun p h => by
      have := scope_wt h
      exact ⟨by omega, hp _ (by rw [parts_scope]; exact List.mem_map_of_mem h)⟩
    have hsz := e.size_parts
    rw [bareF] at hb
    by_cases hk : e.kind = 1
    · rw [if_pos hk, decide_eq_true_eq] at hb
      have h1 : e.size = 1 := by rw [hsz, List.length_eq_zero_iff.1 hb]; rfl
      obtain ⟨kd, nm, nn, op, names, subs, binds, alts⟩ := e
      have hk' : kd = 1 := hk
      rw [repF, if_pos hk', occ, if_pos hk']
      by_cases hn : nm = s
      · rw [if_pos hn, if_pos hn]; omega
      · rw [if_neg hn, if_neg hn]; omega
    · rw [if_neg hk] at hb
      have hbp : ∀ p ∈ scopeParts e, bareF m p.1 = true := fun p h => List.all_eq_true.1 hb _ (by rw [parts_scope]; exact List.mem_map_of_mem h)
      rw [hsz, parts_scope, (repF s r (m + 1) e).size_parts, parts_scope (repF s r (m + 1) e)]
      obtain ⟨kd, nm, nn, op, names, subs, binds, alts⟩ := e
      have hk' : kd ≠ 1 := hk
      have h6' : kd ≠ 6 → alts = [] := h6
      rw [rep_scope s r m hk', occ_scope s hk' h6', List.map_map, List.map_map, List.map_map]
      rw [sum_mul, Nat.add_assoc, Nat.add_assoc, Nat.add_left_cancel_iff]
      refine (sum_add (h := fun p => p.1.size + r.size * occP s p) (fun p hpm => ?_)).trans (sum_add (f := Ex.size ∘ Prod.fst) (g := fun p => r.size * occP s p) (fun p _ => rfl)).symm
      simp only [Function.comp_def, occP]
      by_cases hsn : s ∈ p.2
      · rw [if_pos hsn, if_pos hsn]; omega
      · rw [if_neg hsn, if_neg hsn]
        exact size_rep s r m p.1 (hw p hpm).1 (hw p hpm).2 (hbp p hpm)
end Go.Proofs.YtcopfafknmpneaaGreatDoor
end

section
namespace Go.Proofs.YtcopfafknmpneaaGreatDoor
open Go
set_option linter.unusedSimpArgs false
set_option linter.unusedVariables false
set_option maxRecDepth 10000
set_option maxHeartbeats 4000000

theorem le_mulk {k : Nat} (hk : 0 < k) (n : Nat) : n ≤ k * n := Nat.le_mul_of_pos_left n hk
theorem exsWt_mul {k : Nat} {f : Ex → Ex} : ∀ {l : List Ex}, (∀ x ∈ l, (f x).wt ≤ k * x.wt) → exsWt (l.map f) ≤ k * exsWt l
  | [], _ => by simp [exsWt]
  | x :: l, h => by
    have h1 := h x (List.mem_cons_self ..)
    have h2 := exsWt_mul fun y hy => h y (List.mem_cons_of_mem _ hy)
    simp only [List.map_cons, exsWt, Nat.mul_add]; omega
theorem bdsWt_mul {k : Nat} (hk : 0 < k) {f : Bd → Ex} : ∀ {l : List Bd}, (∀ b ∈ l, (f b).wt ≤ k * b.e.wt) → bdsWt (l.map fun b => Bd.mk b.name (f b)) ≤ k * bdsWt l
  | [], _ => by simp [bdsWt]
  | x :: l, h => by
    have h1 := h x (List.mem_cons_self ..)
    have h2 := bdsWt_mul hk fun y hy => h y (List.mem_cons_of_mem _ hy)
    obtain ⟨nm, e⟩ := x
    have h3 := le_mulk hk (1 + nm.length)
    simp only [List.map_cons, bdsWt, Bd.wt, Bd.name, Bd.e, Nat.mul_add, Nat.mul_one] at h1 h2 h3 ⊢
    omega
theorem alsWt_mul {k : Nat} (hk : 0 < k) {f : Al → Ex} : ∀ {l : List Al}, (∀ a ∈ l, (f a).wt ≤ k * a.body.wt) → alsWt (l.map fun a => Al.mk a.kind a.name a.n a.names (f a)) ≤ k * alsWt l
  | [], _ => by simp [alsWt]
  | x :: l, h => by
    have h1 := h x (List.mem_cons_self ..)
    have h2 := alsWt_mul hk fun y hy => h y (List.mem_cons_of_mem _ hy)
    obtain ⟨kd, nm, n, names, e⟩ := x
    have h3 := le_mulk hk (1 + nm.length + strsWt names)
    simp only [List.map_cons, alsWt, Al.wt, Al.kind, Al.name, Al.n, Al.names, Al.body, Nat.mul_add, Nat.mul_one] at h1 h2 h3 ⊢
    omega
theorem rep_wt (s : Str) (r : Ex) : ∀ (m : Nat) (e : Ex), (repF s r m e).wt ≤ r.wt * e.wt
  | 0, e => by rw [repF]; exact le_mulk r.wt_pos _
  | m + 1, .mk kd nm nn op names subs binds alts => by
    have hk := r.wt_pos
    rw [repF]
    split
    · split
      · have := (Ex.mk kd nm nn op names subs binds alts).wt_pos
        exact Nat.le_mul_of_pos_right _ this
      · exact le_mulk hk _
    · have h1 : exsWt (subs.map fun x => if s ∈ ownOf kd names binds then x else repF s r m x) ≤ r.wt * exsWt subs := exsWt_mul fun x _ => by
        split
        · exact le_mulk hk _
        · exact rep_wt s r m x
      have h2 : bdsWt (binds.map fun b => Bd.mk b.name (if s ∈ ownOf kd names binds then b.e else repF s r m b.e)) ≤ r.wt * bdsWt binds := bdsWt_mul hk fun b _ => by
        split
        · exact le_mulk hk _
        · exact rep_wt s r m b.e
      have h3 : alsWt (alts.map fun a => Al.mk a.kind a.name a.n a.names (if s ∈ altOwn kd nm a.names then a.body else repF s r m a.body)) ≤ r.wt * alsWt alts := alsWt_mul hk fun a _ => by
        split
        · exact le_mulk hk _
        · exact rep_wt s r m a.body
      have h4 := le_mulk hk (1 + nm.length + strsWt names)
      simp only [Ex.wt, Nat.mul_add, Nat.mul_one] at h1 h2 h3 h4 ⊢
      omega

theorem exs_le : ∀ l : List Ex, (l.map Ex.wt).sum ≤ exsWt l
  | [] => Nat.le_refl _
  | x :: l => by simp only [List.map_cons, List.sum_cons, exsWt]; have := exs_le l; omega
theorem bds_le : ∀ l : List Bd, ((l.map Bd.e).map Ex.wt).sum ≤ bdsWt l
  | [] => Nat.le_refl _
  | x :: l => by simp only [List.map_cons, List.sum_cons, bdsWt]; have := bds_le l; have := x.wt_gt; omega
theorem als_le : ∀ l : List Al, ((l.map Al.body).map Ex.wt).sum ≤ alsWt l
  | [] => Nat.le_refl _
  | x :: l => by simp only [List.map_cons, List.sum_cons, alsWt]; have := als_le l; have := x.wt_gt; omega
theorem parts_wt (e : Ex) : 1 + (e.parts.map Ex.wt).sum ≤ e.wt := by
  obtain ⟨kd, nm, nn, op, names, subs, binds, alts⟩ := e
  rw [Ex.parts_mk, List.map_append, List.map_append, List.sum_append, List.sum_append, Ex.wt]
  have := exs_le subs
  have := bds_le binds
  have := als_le alts
  omega
theorem sum_le {α : Type} {f g : α → Nat} : ∀ {l : List α}, (∀ x ∈ l, f x ≤ g x) → (l.map f).sum ≤ (l.map g).sum
  | [], _ => Nat.le_refl _
  | x :: l, h => by
    have h1 := h x (List.mem_cons_self ..)
    have h2 := sum_le fun y hy => h y (List.mem_cons_of_mem _ hy)
    simp only [List.map_cons, List.sum_cons]; omega
theorem size_le_wt : ∀ (m : Nat) (e : Ex), e.wt ≤ m → e.size ≤ e.wt
  | 0, e, h => absurd e.wt_pos (by omega)
  | m + 1, e, h => by
    rw [e.size_parts]
    have h1 := parts_wt e
    have h2 := sum_le (f := Ex.size) (g := Ex.wt) (l := e.parts) fun p hp => size_le_wt m p (by have := Ex.wt_parts hp; omega)
    omega
end Go.Proofs.YtcopfafknmpneaaGreatDoor
end
