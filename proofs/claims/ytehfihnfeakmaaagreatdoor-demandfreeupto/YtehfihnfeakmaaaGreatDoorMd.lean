/- A part of the proof: SwH, Tab. -/
import Derived.Test.YtehfihnfeakmaaaGreatDoorMc
import Derived.KernelRfl
import Derived.Test.YtehfihnfeakmaaaGreatDoorChecked

section
/- The steps of a walk as implications; lemmas whose last hypothesis is met by a script of their own: the short words of my texts. Printed by mkwords.py. -/
namespace Go.Proofs.YtehfihnfeakmaaaGreatDoor
open Go
set_option linter.unusedVariables false
set_option linter.unusedSimpArgs false

structure Imp (q p : Prop) : Prop where
  go : q → p
theorem Imp.refl (p : Prop) : Imp p p := ⟨id⟩
theorem Imp.via {q a b : Prop} (h : a → b) (k : Imp q a) : Imp q b := ⟨fun x => h (k.go x)⟩
structure Fork (c d : Prop) (A : c → Prop) (B : d → Prop) : Prop where
  l : ∀ x : c, A x
  r : ∀ x : d, B x
structure Two (A B : Prop) : Prop where
  l : A
  r : B
theorem Imp.fork {c d A B p : Prop} {qa : c → Prop} {qb : d → Prop} (h : (c → A) → (d → B) → p) (l : ∀ x : c, Imp (qa x) A) (r : ∀ x : d, Imp (qb x) B) : Imp (Fork c d qa qb) p := ⟨fun f => h (fun x => (l x).go (f.l x)) (fun x => (r x).go (f.r x))⟩
theorem Imp.two {A B qa qb p : Prop} (h : A → B → p) (l : Imp qa A) (r : Imp qb B) : Imp (Two qa qb) p := ⟨fun f => h (l.go f.l) (r.go f.r)⟩
theorem Imp.no {p : Prop} (h : False) : Imp True p := h.elim
/-- facts of one's own for the reckoning: a walk takes the hypothesis X -/
def NoX : Prop := (1 = 0) = False
theorem noX : NoX := by unfold NoX; simp
/-- heaps of one length -/
theorem hsX {σ : Type} (Hs : σ → List Blk) (n0 : Nat) (hlen : ∀ i, (Hs i).length = n0) : (∀ i, (Hs i).length = n0) ∧ (∀ i L, (Hs i ++ L)[n0]? = L[0]?) ∧ (∀ i L k, (Hs i ++ L)[n0 + k]? = L[k]?) ∧ (∀ i L x, (Hs i ++ L).set n0 x = Hs i ++ L.set 0 x) ∧ (∀ i L k x, (Hs i ++ L).set (n0 + k) x = Hs i ++ L.set k x) :=
  ⟨hlen, fun i L => by rw [← hlen i]; exact get_app0 _ _, fun i L k => by rw [← hlen i]; exact get_app _ _ _, fun i L x => by rw [← hlen i]; exact set_app0 _ _ _, fun i L k x => by rw [← hlen i]; exact set_app _ _ _ _⟩

section
variable {qq qa qb : Prop}
variable {P : Program} {G : Gl} {T : Tab} {own : List Nat} {nt B : Nat} {ρ : Option Nat} {C : Cx} {rs : List ResultVar} {R : SV → List Blk → Prop} {env env2 : Env} {H H' : List Blk} {k : List It}
variable {all r : List Oper} {ty d j dj : Nat} {op : Op} {pos : String} {after : Array Edge} {v : SV} {want : Bool}
variable {R' : SV → List Blk → Prop} {xs : List SV} {f : Operand} {fv : SV} {args : Array Operand} {tys : Array Nat} {g : FuncId}
theorem im_go_seq {x y : Code} (kq : Imp qq ((Out P G T own nt ρ C rs R) (.code x :: .code y :: k) .normal env H)) : Imp qq ((Out P G T own nt ρ C rs R) (.code (.seq x y) :: k) .normal env H) := Imp.via (go_seq) kq
theorem im_go_q (h : qv G T own env H (some d) ty op = some v) (hd : Nat.blt d nt = true) (kq : Imp qq ((Out P G T own nt ρ C rs R) (.ops all r :: k) .normal ((d, v) :: env) H)) : Imp qq ((Out P G T own nt ρ C rs R) (.ops all (⟨some d, op, ty, pos, after, none⟩ :: r) :: k) .normal env H) := Imp.via (go_q h hd) kq
theorem im_go_q0 (h : qv G T own env H none ty op = some v) (kq : Imp qq ((Out P G T own nt ρ C rs R) (.ops all r :: k) .normal env H)) : Imp qq ((Out P G T own nt ρ C rs R) (.ops all (⟨none, op, ty, pos, after, none⟩ :: r) :: k) .normal env H) := Imp.via (go_q0 h) kq
theorem im_go_nil {all : List Oper} (kq : Imp qq ((Out P G T own nt ρ C rs R) k .normal env H)) : Imp qq ((Out P G T own nt ρ C rs R) (.ops all [] :: k) .normal env H) := Imp.via (go_nil) kq
theorem im_go_region (hT : TabOK P T) {id : Nat} {ops : Array Oper} {l : List Oper} (hl : ops = ⟨l⟩) (kq : Imp qq ((Out P G T own nt ρ C rs R) (.ops l l :: k) .normal env H)) : Imp qq ((Out P G T own nt ρ C rs R) (.code (.region id ops false) :: k) .normal env H) := Imp.via (go_region hT hl) kq
theorem im_go_skip  (kq : Imp qq ((Out P G T own nt ρ C rs R) k .normal env H)) : Imp qq ((Out P G T own nt ρ C rs R) (.code .skip :: k) .normal env H) := Imp.via (go_skip) kq
theorem im_go_label {l : Nat} (kq : Imp qq ((Out P G T own nt ρ C rs R) k .normal env H)) : Imp qq ((Out P G T own nt ρ C rs R) (.code (.label l) :: k) .normal env H) := Imp.via (go_label) kq
theorem im_go_condT {t : Nat} {p q : Code} (h1 : look env t = some (.bool true)) (kq : Imp qq ((Out P G T own nt ρ C rs R) (.code p :: k) .normal env H)) : Imp qq ((Out P G T own nt ρ C rs R) (.code (.cond (.tmp t) p q) :: k) .normal env H) := Imp.via (go_condT h1) kq
theorem im_go_condF {t : Nat} {p q : Code} (h1 : look env t = some (.bool false)) (kq : Imp qq ((Out P G T own nt ρ C rs R) (.code q :: k) .normal env H)) : Imp qq ((Out P G T own nt ρ C rs R) (.code (.cond (.tmp t) p q) :: k) .normal env H) := Imp.via (go_condF h1) kq
theorem im_go_condDT {t : Nat} {p q : Code} {a : Prop} {inst : Decidable a} (h1 : look env t = some (.bool (decide a))) (ha : a) (kq : Imp qq ((Out P G T own nt ρ C rs R) (.code p :: k) .normal ((t, .bool true) :: env) H)) : Imp qq ((Out P G T own nt ρ C rs R) (.code (.cond (.tmp t) p q) :: k) .normal env H) := Imp.via (go_condDT h1 ha) kq
theorem im_go_condDF {t : Nat} {p q : Code} {a : Prop} {inst : Decidable a} (h1 : look env t = some (.bool (decide a))) (ha : ¬ a) (kq : Imp qq ((Out P G T own nt ρ C rs R) (.code q :: k) .normal ((t, .bool false) :: env) H)) : Imp qq ((Out P G T own nt ρ C rs R) (.code (.cond (.tmp t) p q) :: k) .normal env H) := Imp.via (go_condDF h1 ha) kq
theorem im_go_block {id : Nat} {x : Code} (kq : Imp qq ((Out P G T own nt ρ C rs R) (.code x :: .blk id :: k) .normal env H)) : Imp qq ((Out P G T own nt ρ C rs R) (.code (.block id x) :: k) .normal env H) := Imp.via (go_block) kq
theorem im_go_blk {id : Nat} (kq : Imp qq ((Out P G T own nt ρ C rs R) k .normal env H)) : Imp qq ((Out P G T own nt ρ C rs R) (.blk id :: k) .normal env H) := Imp.via (go_blk) kq
theorem im_go_exit {id : Nat} {k' : List It} (hu : unw id k = some k') (kq : Imp qq ((Out P G T own nt ρ C rs R) k' .normal env H)) : Imp qq ((Out P G T own nt ρ C rs R) (.code (.exit id) :: k) .normal env H) := Imp.via (go_exit hu) kq
theorem im_go_l (h : lv G T own env H (some d) ty op = some (v, H')) (hd : Nat.blt d nt = true) (kq : Imp qq ((Out P G T own nt ρ C rs R) (.ops all r :: k) .normal ((d, v) :: env) H')) : Imp qq ((Out P G T own nt ρ C rs R) (.ops all (⟨some d, op, ty, pos, after, none⟩ :: r) :: k) .normal env H) := Imp.via (go_l h hd) kq
theorem im_go_l0 (h : lv G T own env H none ty op = some (v, H')) (kq : Imp qq ((Out P G T own nt ρ C rs R) (.ops all r :: k) .normal env H')) : Imp qq ((Out P G T own nt ρ C rs R) (.ops all (⟨none, op, ty, pos, after, none⟩ :: r) :: k) .normal env H) := Imp.via (go_l0 h) kq
theorem im_go_gRun {dst : Option Nat} (h1 : (all[j]?).bind (·.dst) = some dj) (h2 : look env dj = some (.bool want)) (kq : Imp qq ((Out P G T own nt ρ C rs R) (.ops all (⟨dst, op, ty, pos, after, none⟩ :: r) :: k) .normal env H)) : Imp qq ((Out P G T own nt ρ C rs R) (.ops all (⟨dst, op, ty, pos, after, some (j, want)⟩ :: r) :: k) .normal env H) := Imp.via (go_gRun h1 h2) kq
theorem im_go_gSkip {v : SV} {b : Option Bool} (h1 : (all[j]?).bind (·.dst) = some dj) (h2 : look env dj = some v) (h3 : asG v = some b) (hb : (b == some want) = false) (hd : Nat.blt d nt = true) (kq : Imp qq ((Out P G T own nt ρ C rs R) (.ops all r :: k) .normal ((d, .undef) :: env) H)) : Imp qq ((Out P G T own nt ρ C rs R) (.ops all (⟨some d, op, ty, pos, after, some (j, want)⟩ :: r) :: k) .normal env H) := Imp.via (go_gSkip h1 h2 h3 hb hd) kq
theorem im_go_gSkip0 {v : SV} {b : Option Bool} (h1 : (all[j]?).bind (·.dst) = some dj) (h2 : look env dj = some v) (h3 : asG v = some b) (hb : (b == some want) = false) (kq : Imp qq ((Out P G T own nt ρ C rs R) (.ops all r :: k) .normal env H)) : Imp qq ((Out P G T own nt ρ C rs R) (.ops all (⟨none, op, ty, pos, after, some (j, want)⟩ :: r) :: k) .normal env H) := Imp.via (go_gSkip0 h1 h2 h3 hb) kq
theorem im_go_gM1 {b : Bool} (h1 : (all[j]?).bind (·.dst) = some dj) (h2 : look env dj = some (.bool b)) (hv : b = want → qv G T own env H (some d) ty op = some v) (hd : Nat.blt d nt = true) (kq : Imp qq ((Out P G T own nt ρ C rs R) (.ops all r :: k) .normal ((d, gv b want v) :: env) H)) : Imp qq ((Out P G T own nt ρ C rs R) (.ops all (⟨some d, op, ty, pos, after, some (j, want)⟩ :: r) :: k) .normal env H) := Imp.via (go_gM1 h1 h2 hv hd) kq
theorem im_go_gM2 {b b1 w1 : Bool} (h1 : (all[j]?).bind (·.dst) = some dj) (h2 : look env dj = some (gv b1 w1 (.bool b))) (hv : b1 = w1 → b = want → qv G T own env H (some d) ty op = some v) (hd : Nat.blt d nt = true) (kq : Imp qq ((Out P G T own nt ρ C rs R) (.ops all r :: k) .normal ((d, gv b1 w1 (gv b want v)) :: env) H)) : Imp qq ((Out P G T own nt ρ C rs R) (.ops all (⟨some d, op, ty, pos, after, some (j, want)⟩ :: r) :: k) .normal env H) := Imp.via (go_gM2 h1 h2 hv hd) kq
theorem im_go_gM3 {b b1 w1 b2 w2 : Bool} (h1 : (all[j]?).bind (·.dst) = some dj) (h2 : look env dj = some (gv b1 w1 (gv b2 w2 (.bool b)))) (hv : b1 = w1 → b2 = w2 → b = want → qv G T own env H (some d) ty op = some v) (hd : Nat.blt d nt = true) (kq : Imp qq ((Out P G T own nt ρ C rs R) (.ops all r :: k) .normal ((d, gv b1 w1 (gv b2 w2 (gv b want v))) :: env) H)) : Imp qq ((Out P G T own nt ρ C rs R) (.ops all (⟨some d, op, ty, pos, after, some (j, want)⟩ :: r) :: k) .normal env H) := Imp.via (go_gM3 h1 h2 hv hd) kq
theorem im_go_pred {K : Env → List Blk → Prop} (kq : Imp qq (K env H)) : Imp qq ((Out P G T own nt ρ C rs R) (.pred K :: k) .normal env H) := Imp.via (go_pred) kq
theorem im_go_ret {xs : List SV} (h1 : resL T env H rs = some xs) (kq : Imp qq (Fin C H (resSV xs) R)) : Imp qq ((Out P G T own nt ρ C rs R) (.code .ret :: k) .normal env H) := Imp.via (go_ret h1) kq
theorem im_go_end {xs : List SV} (h1 : resL T env H rs = some xs) (kq : Imp qq (Fin C H (resSV xs) R)) : Imp qq ((Out P G T own nt ρ C rs R) [] .normal env H) := Imp.via (go_end h1) kq
theorem im_go_condB {t : Nat} {p q : Code} {b : Bool} (h1 : look env t = some (.bool b)) {qa : b = true → Prop} {qb : b = false → Prop} (lq : ∀ x : b = true, Imp (qa x) ((Out P G T own nt ρ C rs R) (.code p :: k) .normal ((t, .bool true) :: env) H)) (rq : ∀ x : b = false, Imp (qb x) ((Out P G T own nt ρ C rs R) (.code q :: k) .normal ((t, .bool false) :: env) H)) : Imp (Fork (b = true) (b = false) qa qb) ((Out P G T own nt ρ C rs R) (.code (.cond (.tmp t) p q) :: k) .normal env H) := Imp.fork (go_condB h1) lq rq
theorem im_go_condD {t : Nat} {p q : Code} {a : Prop} {inst : Decidable a} (h1 : look env t = some (.bool (decide a))) {qa : a → Prop} {qb : ¬ a → Prop} (lq : ∀ x : a, Imp (qa x) ((Out P G T own nt ρ C rs R) (.code p :: k) .normal ((t, .bool true) :: env) H)) (rq : ∀ x : ¬ a, Imp (qb x) ((Out P G T own nt ρ C rs R) (.code q :: k) .normal ((t, .bool false) :: env) H)) : Imp (Fork (a) (¬ a) qa qb) ((Out P G T own nt ρ C rs R) (.code (.cond (.tmp t) p q) :: k) .normal env H) := Imp.fork (go_condD h1) lq rq
theorem im_go_gB {o : Oper} {b : Bool} (hg : o.guard = some (j, want)) (h1 : (all[j]?).bind (·.dst) = some dj) (h2 : look env dj = some (.bool b)) {qa : b = true → Prop} {qb : b = false → Prop} (lq : ∀ x : b = true, Imp (qa x) ((Out P G T own nt ρ C rs R) (.ops all (o :: r) :: k) .normal ((dj, .bool true) :: env) H)) (rq : ∀ x : b = false, Imp (qb x) ((Out P G T own nt ρ C rs R) (.ops all (o :: r) :: k) .normal ((dj, .bool false) :: env) H)) : Imp (Fork (b = true) (b = false) qa qb) ((Out P G T own nt ρ C rs R) (.ops all (o :: r) :: k) .normal env H) := Imp.fork (go_gB hg h1 h2) lq rq
theorem im_go_gD {o : Oper} {a : Prop} {inst : Decidable a} (hg : o.guard = some (j, want)) (h1 : (all[j]?).bind (·.dst) = some dj) (h2 : look env dj = some (.bool (decide a))) {qa : a → Prop} {qb : ¬ a → Prop} (lq : ∀ x : a, Imp (qa x) ((Out P G T own nt ρ C rs R) (.ops all (o :: r) :: k) .normal ((dj, .bool true) :: env) H)) (rq : ∀ x : ¬ a, Imp (qb x) ((Out P G T own nt ρ C rs R) (.ops all (o :: r) :: k) .normal ((dj, .bool false) :: env) H)) : Imp (Fork (a) (¬ a) qa qb) ((Out P G T own nt ρ C rs R) (.ops all (o :: r) :: k) .normal env H) := Imp.fork (go_gD hg h1 h2) lq rq
theorem im_go_nilE {x y : Operand} {X : SV} {t yt n : Nat} (h1 : ev G env x = some X) (h2 : ev G env y = some .nil) (h3 : kindT T t = 2) (h4 : slLen H X = some n) (hd : Nat.blt d nt = true) {qa : n = 0 → Prop} {qb : True → Prop} (lq : ∀ x : n = 0, Imp (qa x) ((Out P G T own nt ρ C rs R) (.ops all r :: k) .normal ((d, .bool true) :: env) H)) (rq : ∀ x : True, Imp (qb x) ((Out P G T own nt ρ C rs R) (.ops all r :: k) .normal ((d, .bool false) :: env) H)) : Imp (Fork (n = 0) (True) qa qb) ((Out P G T own nt ρ C rs R) (.ops all (⟨some d, .binOp .eql t x y yt, ty, pos, after, none⟩ :: r) :: k) .normal env H) := Imp.fork (go_nilE h1 h2 h3 h4 hd) lq rq
theorem im_go_nilN {x y : Operand} {X : SV} {t yt n : Nat} (h1 : ev G env x = some X) (h2 : ev G env y = some .nil) (h3 : kindT T t = 2) (h4 : slLen H X = some n) (hd : Nat.blt d nt = true) {qa : n = 0 → Prop} {qb : True → Prop} (lq : ∀ x : n = 0, Imp (qa x) ((Out P G T own nt ρ C rs R) (.ops all r :: k) .normal ((d, .bool false) :: env) H)) (rq : ∀ x : True, Imp (qb x) ((Out P G T own nt ρ C rs R) (.ops all r :: k) .normal ((d, .bool true) :: env) H)) : Imp (Fork (n = 0) (True) qa qb) ((Out P G T own nt ρ C rs R) (.ops all (⟨some d, .binOp .neq t x y yt, ty, pos, after, none⟩ :: r) :: k) .normal env H) := Imp.fork (go_nilN h1 h2 h3 h4 hd) lq rq
theorem im_go_gX {o : Oper} {b1 w1 : Bool} {u : SV} (hg : o.guard = some (j, want)) (h1 : (all[j]?).bind (·.dst) = some dj) (h2 : look env dj = some (gv b1 w1 u)) {qa : b1 = true → Prop} {qb : b1 = false → Prop} (lq : ∀ x : b1 = true, Imp (qa x) ((Out P G T own nt ρ C rs R) (.ops all (o :: r) :: k) .normal env H)) (rq : ∀ x : b1 = false, Imp (qb x) ((Out P G T own nt ρ C rs R) (.ops all (o :: r) :: k) .normal env H)) : Imp (Fork (b1 = true) (b1 = false) qa qb) ((Out P G T own nt ρ C rs R) (.ops all (o :: r) :: k) .normal env H) := Imp.fork (fun l r => go_gX hg h1 h2 fun c e => by cases c with
  | true => exact l e
  | false => exact r e) lq rq
end
section
variable {qq qa qb : Prop}
variable {P : Program} {G : Gl} {T : Tab} {own : List Nat} {nt B : Nat} {ρ : Option Nat} {C : Cx} {rs : List ResultVar} {R : SV → List Blk → Prop} {env env2 : Env} {H H' : List Blk} {k : List It}
variable {all : List Oper} {L : List Nat} {n i j ty d : Nat} {op : Op} {pos : String} {after : Array Edge} {v : SV} {o : Oper} {K : Env → List Blk → Prop}
variable {m : Nat} {ex : List Nat} {kk : SV → List Blk → Prop} {dst : Option Nat} {want b : Bool} {dj i0 : Nat}
variable {R' : SV → List Blk → Prop} {xs : List SV} {f : Operand} {fv : SV} {args : Array Operand} {tys : Array Nat} {g : FuncId}
theorem im_go_draw (hT : TabOK P T) (hm : P.follows .mixedOrders = true) {id : Nat} {ops : Array Oper} {l : List Oper} (hl : ops = ⟨l⟩) (hok : drawOK nt l = true) (kq : Imp qq (DrP P G T own l 200 0 [] env H (fun env H => (Out P G T own nt ρ C rs R) k .normal env H))) : Imp qq ((Out P G T own nt ρ C rs R) (.code (.region id ops true) :: k) .normal env H) := Imp.via (go_draw hT hm hl hok) kq
theorem im_dr_s {m2 : Nat} (hs : stepQ own all m ex = some o) (hm : m + 1 = m2) (kq : Imp qq ((StG P G T own all) n m2 ex o env H K)) : Imp qq ((DrP P G T own all) (n + 1) m ex env H K) := Imp.via (dr_s hs hm) kq
theorem im_dr_adv2 {m2 : Nat} (hm : memN m ex = true) (h2 : m + 1 = m2) (kq : Imp qq ((DrP P G T own all) n m2 ex env H K)) : Imp qq ((DrP P G T own all) n m ex env H K) := Imp.via (dr_adv2 hm h2) kq
theorem im_dr_done (hm : Nat.ble all.length m = true) (kq : Imp qq ((Out P G T own nt ρ C rs R) k .normal env H)) : Imp qq ((DrP P G T own all) (n + 1) m ex env H (fun env H => (Out P G T own nt ρ C rs R) k .normal env H)) := Imp.via (dr_done hm) kq
theorem im_dr_so (hf : firstQP own m ex 0 all = some i) (ho : all[i]? = some o) (kq : Imp qq ((StG P G T own all) n m (i :: ex) o env H K)) : Imp qq ((DrP P G T own all) (n + 1) m ex env H K) := Imp.via (dr_so hf ho) kq
theorem im_dr_L1 (hf : firstQP own m ex 0 all = none) (hr : readyP m ex 0 all = [j]) (ho : all[j]? = some o) (kq : Imp qq ((Ld P G T own all) n m ex j o env H K)) : Imp qq ((DrP P G T own all) (n + 1) m ex env H K) := Imp.via (dr_L1 hf hr ho) kq
theorem im_sg_q (hv : qv G T own env H (some d) ty op = some v) (kq : Imp qq ((DrP P G T own all) n m ex ((d, v) :: env) H K)) : Imp qq ((StG P G T own all) n m ex ⟨some d, op, ty, pos, after, none⟩ env H K) := Imp.via (sg_q hv) kq
theorem im_sg_run {dj : Nat} {want : Bool} (h1 : (all[j]?).bind (·.dst) = some dj) (h2 : look env dj = some (.bool want)) (hv : qv G T own env H (some d) ty op = some v) (kq : Imp qq ((DrP P G T own all) n m ex ((d, v) :: env) H K)) : Imp qq ((StG P G T own all) n m ex ⟨some d, op, ty, pos, after, some (j, want)⟩ env H K) := Imp.via (sg_run h1 h2 hv) kq
theorem im_sg_skip {dj : Nat} {want : Bool} {u : SV} {b : Option Bool} (h1 : (all[j]?).bind (·.dst) = some dj) (h2 : look env dj = some u) (h3 : asG u = some b) (hb : (b == some want) = false) (kq : Imp qq ((DrP P G T own all) n m ex ((d, .undef) :: env) H K)) : Imp qq ((StG P G T own all) n m ex ⟨some d, op, ty, pos, after, some (j, want)⟩ env H K) := Imp.via (sg_skip h1 h2 h3 hb) kq
theorem im_sg_M1 {dj : Nat} {want b : Bool} (h1 : (all[j]?).bind (·.dst) = some dj) (h2 : look env dj = some (.bool b)) (hv : b = want → qv G T own env H (some d) ty op = some v) (kq : Imp qq ((DrP P G T own all) n m ex ((d, gv b want v) :: env) H K)) : Imp qq ((StG P G T own all) n m ex ⟨some d, op, ty, pos, after, some (j, want)⟩ env H K) := Imp.via (sg_M1 h1 h2 hv) kq
theorem im_sg_M2 {dj : Nat} {want b b1 w1 : Bool} (h1 : (all[j]?).bind (·.dst) = some dj) (h2 : look env dj = some (gv b1 w1 (.bool b))) (hv : b1 = w1 → b = want → qv G T own env H (some d) ty op = some v) (kq : Imp qq ((DrP P G T own all) n m ex ((d, gv b1 w1 (gv b want v)) :: env) H K)) : Imp qq ((StG P G T own all) n m ex ⟨some d, op, ty, pos, after, some (j, want)⟩ env H K) := Imp.via (sg_M2 h1 h2 hv) kq
theorem im_sg_M3 {dj : Nat} {want b b1 w1 b2 w2 : Bool} (h1 : (all[j]?).bind (·.dst) = some dj) (h2 : look env dj = some (gv b1 w1 (gv b2 w2 (.bool b)))) (hv : b1 = w1 → b2 = w2 → b = want → qv G T own env H (some d) ty op = some v) (kq : Imp qq ((DrP P G T own all) n m ex ((d, gv b1 w1 (gv b2 w2 (gv b want v))) :: env) H K)) : Imp qq ((StG P G T own all) n m ex ⟨some d, op, ty, pos, after, some (j, want)⟩ env H K) := Imp.via (sg_M3 h1 h2 hv) kq
theorem im_ld_go {dst : Option Nat} (kq : Imp qq (exG P G T own all ⟨dst, op, ty, pos, after, none⟩ env H fun x H' => AgP G T own all i0 m ex (putE dst x env) H' ∧ (DrP P G T own all) n m (i0 :: ex) (putE dst x env) H' K)) : Imp qq ((Ld P G T own all) n m ex i0 ⟨dst, op, ty, pos, after, none⟩ env H K) := Imp.via (ld_go) kq
theorem im_ld_run {dst : Option Nat} {dj : Nat} {want : Bool} (h1 : (all[j]?).bind (·.dst) = some dj) (h2 : look env dj = some (.bool want)) (kq : Imp qq (exG P G T own all ⟨dst, op, ty, pos, after, none⟩ env H fun x H' => AgP G T own all i0 m ex (putE dst x env) H' ∧ (DrP P G T own all) n m (i0 :: ex) (putE dst x env) H' K)) : Imp qq ((Ld P G T own all) n m ex i0 ⟨dst, op, ty, pos, after, some (j, want)⟩ env H K) := Imp.via (ld_run h1 h2) kq
theorem im_ld_skip {dst : Option Nat} {dj : Nat} {want : Bool} {u : SV} {bo : Option Bool} (h1 : (all[j]?).bind (·.dst) = some dj) (h2 : look env dj = some u) (h3 : asG u = some bo) (hb : (bo == some want) = false) (kq : Imp qq (AgP G T own all i0 m ex (putE dst .undef env) H ∧ (DrP P G T own all) n m (i0 :: ex) (putE dst .undef env) H K)) : Imp qq ((Ld P G T own all) n m ex i0 ⟨dst, op, ty, pos, after, some (j, want)⟩ env H K) := Imp.via (ld_skip h1 h2 h3 hb) kq
theorem im_xg_l (h : lv G T own env H dst ty op = some (v, H')) (kq : Imp qq (kk v H')) : Imp qq (exG P G T own all ⟨dst, op, ty, pos, after, none⟩ env H kk) := Imp.via (xg_l h) kq
theorem im_xg_q (h : qv G T own env H dst ty op = some v) (kq : Imp qq (kk v H)) : Imp qq (exG P G T own all ⟨dst, op, ty, pos, after, none⟩ env H kk) := Imp.via (xg_q h) kq
theorem im_ag_mkS {x : SV} {l : List Nat} (h1 : agR own all (getL (clo all) j) m ++ agL own all (getL (clo all) j) ex = l) (h2 : AgAll G T own all ((d, x) :: env) H l) (kq : Imp qq ((DrP P G T own all) n m (j :: ex) ((d, x) :: env) H K)) : Imp qq (AgP G T own all j m ex (putE (some d) x env) H ∧ (DrP P G T own all) n m (j :: ex) (putE (some d) x env) H K) := Imp.via (ag_mkS h1 h2) kq
theorem im_ag_mkN {x : SV} {l : List Nat} (h1 : agR own all (getL (clo all) j) m ++ agL own all (getL (clo all) j) ex = l) (h2 : AgAll G T own all env H l) (kq : Imp qq ((DrP P G T own all) n m (j :: ex) env H K)) : Imp qq (AgP G T own all j m ex (putE none x env) H ∧ (DrP P G T own all) n m (j :: ex) (putE none x env) H K) := Imp.via (ag_mkN h1 h2) kq
theorem im_sg_B {dj : Nat} {want b : Bool} (h1 : (all[j]?).bind (·.dst) = some dj) (h2 : look env dj = some (.bool b)) {qa : b = true → Prop} {qb : b = false → Prop} (lq : ∀ x : b = true, Imp (qa x) ((StG P G T own all) n m ex ⟨some d, op, ty, pos, after, some (j, want)⟩ ((dj, .bool true) :: env) H (fun env H => (Out P G T own nt ρ C rs R) k .normal env H))) (rq : ∀ x : b = false, Imp (qb x) ((StG P G T own all) n m ex ⟨some d, op, ty, pos, after, some (j, want)⟩ ((dj, .bool false) :: env) H (fun env H => (Out P G T own nt ρ C rs R) k .normal env H))) : Imp (Fork (b = true) (b = false) qa qb) ((StG P G T own all) n m ex ⟨some d, op, ty, pos, after, some (j, want)⟩ env H (fun env H => (Out P G T own nt ρ C rs R) k .normal env H)) := Imp.fork (sg_B h1 h2) lq rq
theorem im_sg_D {dj : Nat} {want : Bool} {a : Prop} {inst : Decidable a} (h1 : (all[j]?).bind (·.dst) = some dj) (h2 : look env dj = some (.bool (decide a))) {qa : a → Prop} {qb : ¬ a → Prop} (lq : ∀ x : a, Imp (qa x) ((StG P G T own all) n m ex ⟨some d, op, ty, pos, after, some (j, want)⟩ ((dj, .bool true) :: env) H (fun env H => (Out P G T own nt ρ C rs R) k .normal env H))) (rq : ∀ x : ¬ a, Imp (qb x) ((StG P G T own all) n m ex ⟨some d, op, ty, pos, after, some (j, want)⟩ ((dj, .bool false) :: env) H (fun env H => (Out P G T own nt ρ C rs R) k .normal env H))) : Imp (Fork (a) (¬ a) qa qb) ((StG P G T own all) n m ex ⟨some d, op, ty, pos, after, some (j, want)⟩ env H (fun env H => (Out P G T own nt ρ C rs R) k .normal env H)) := Imp.fork (sg_D h1 h2) lq rq
theorem im_ld_B {dst : Option Nat} {dj : Nat} {want b : Bool} (h1 : (all[j]?).bind (·.dst) = some dj) (h2 : look env dj = some (.bool b)) {qa : b = true → Prop} {qb : b = false → Prop} (lq : ∀ x : b = true, Imp (qa x) ((Ld P G T own all) n m ex i0 ⟨dst, op, ty, pos, after, some (j, want)⟩ ((dj, .bool true) :: env) H (fun env H => (Out P G T own nt ρ C rs R) k .normal env H))) (rq : ∀ x : b = false, Imp (qb x) ((Ld P G T own all) n m ex i0 ⟨dst, op, ty, pos, after, some (j, want)⟩ ((dj, .bool false) :: env) H (fun env H => (Out P G T own nt ρ C rs R) k .normal env H))) : Imp (Fork (b = true) (b = false) qa qb) ((Ld P G T own all) n m ex i0 ⟨dst, op, ty, pos, after, some (j, want)⟩ env H (fun env H => (Out P G T own nt ρ C rs R) k .normal env H)) := Imp.fork (ld_B h1 h2) lq rq
theorem im_ld_D {dst : Option Nat} {dj : Nat} {want : Bool} {a : Prop} {inst : Decidable a} (h1 : (all[j]?).bind (·.dst) = some dj) (h2 : look env dj = some (.bool (decide a))) {qa : a → Prop} {qb : ¬ a → Prop} (lq : ∀ x : a, Imp (qa x) ((Ld P G T own all) n m ex i0 ⟨dst, op, ty, pos, after, some (j, want)⟩ ((dj, .bool true) :: env) H (fun env H => (Out P G T own nt ρ C rs R) k .normal env H))) (rq : ∀ x : ¬ a, Imp (qb x) ((Ld P G T own all) n m ex i0 ⟨dst, op, ty, pos, after, some (j, want)⟩ ((dj, .bool false) :: env) H (fun env H => (Out P G T own nt ρ C rs R) k .normal env H))) : Imp (Fork (a) (¬ a) qa qb) ((Ld P G T own all) n m ex i0 ⟨dst, op, ty, pos, after, some (j, want)⟩ env H (fun env H => (Out P G T own nt ρ C rs R) k .normal env H)) := Imp.fork (ld_D h1 h2) lq rq
theorem im_ld_X {dst : Option Nat} {dj : Nat} {want b1 w1 : Bool} {u : SV} (h1 : (all[j]?).bind (·.dst) = some dj) (h2 : look env dj = some (gv b1 w1 u)) {qa : b1 = true → Prop} {qb : b1 = false → Prop} (lq : ∀ x : b1 = true, Imp (qa x) ((Ld P G T own all) n m ex i0 ⟨dst, op, ty, pos, after, some (j, want)⟩ env H K)) (rq : ∀ x : b1 = false, Imp (qb x) ((Ld P G T own all) n m ex i0 ⟨dst, op, ty, pos, after, some (j, want)⟩ env H K)) : Imp (Fork (b1 = true) (b1 = false) qa qb) ((Ld P G T own all) n m ex i0 ⟨dst, op, ty, pos, after, some (j, want)⟩ env H K) := Imp.fork (fun l r => ld_X h1 h2 fun c e => by cases c with
  | true => exact l e
  | false => exact r e) lq rq
theorem im_dr_L2 {j2 : Nat} {o2 : Oper} (hf : firstQP own m ex 0 all = none) (hr : readyP m ex 0 all = [j, j2]) (ho : all[j]? = some o) (ho2 : all[j2]? = some o2) (lq : Imp qa ((Ld P G T own all) n m ex j o env H K)) (rq : Imp qb ((Ld P G T own all) n m ex j2 o2 env H K)) : Imp (Two qa qb) ((DrP P G T own all) (n + 1) m ex env H K) := Imp.two (dr_L2 hf hr ho ho2) lq rq
theorem im_callE2 {vr : SV} {H2 : List Blk} {r : List Oper} (h2 : evs G env args.toList = some xs) (hc : ACall P G g xs H (fun x H' => H' = H2 ∧ x = vr)) (hd : Nat.blt d nt = true) (kq : Imp qq (Out P G T own nt ρ C rs R (.ops all r :: k) .normal ((d, vr) :: env) H2)) : Imp qq (Out P G T own nt ρ C rs R (.ops all (⟨some d, .call ⟨.value (.func g), args, tys⟩, ty, pos, after, none⟩ :: r) :: k) .normal env H) :=
  Imp.via (fun hk => go_call h2 hd hc fun x H' hx => by obtain ⟨rfl, rfl⟩ := hx; exact hk) kq
theorem im_xcallE2 {vr : SV} {H2 : List Blk} (h2 : evs G env args.toList = some xs) (hc : ACall P G g xs H (fun x H' => H' = H2 ∧ x = vr)) (kq : Imp qq (kk vr H2)) : Imp qq (exG P G T own all ⟨dst, .call ⟨.value (.func g), args, tys⟩, ty, pos, after, none⟩ env H kk) :=
  Imp.via (fun hk => xg_call h2 hc fun x H' hx => by obtain ⟨rfl, rfl⟩ := hx; exact hk) kq
theorem im_callE {vr : SV} {H2 : List Blk} {r : List Oper} (hc : ACall P G g xs H (fun x H' => H' = H2 ∧ x = vr)) (h2 : evs G env args.toList = some xs) (hd : Nat.blt d nt = true) (kq : Imp qq (Out P G T own nt ρ C rs R (.ops all r :: k) .normal ((d, vr) :: env) H2)) : Imp qq (Out P G T own nt ρ C rs R (.ops all (⟨some d, .call ⟨.value (.func g), args, tys⟩, ty, pos, after, none⟩ :: r) :: k) .normal env H) :=
  Imp.via (fun hk => go_call h2 hd hc fun x H' hx => by obtain ⟨rfl, rfl⟩ := hx; exact hk) kq
theorem im_xcallE {vr : SV} {H2 : List Blk} (hc : ACall P G g xs H (fun x H' => H' = H2 ∧ x = vr)) (h2 : evs G env args.toList = some xs) (kq : Imp qq (kk vr H2)) : Imp qq (exG P G T own all ⟨dst, .call ⟨.value (.func g), args, tys⟩, ty, pos, after, none⟩ env H kk) :=
  Imp.via (fun hk => xg_call h2 hc fun x H' hx => by obtain ⟨rfl, rfl⟩ := hx; exact hk) kq
theorem im_callC {vr : SV} {H2 : List Blk} {r : List Oper} (h1 : ev G env f = some fv) (h2 : evs G env args.toList = some xs) (hc : ACallV P G fv xs H (fun x H' => H' = H2 ∧ x = vr)) (hd : Nat.blt d nt = true) (kq : Imp qq (Out P G T own nt ρ C rs R (.ops all r :: k) .normal ((d, vr) :: env) H2)) : Imp qq (Out P G T own nt ρ C rs R (.ops all (⟨some d, .call ⟨.value f, args, tys⟩, ty, pos, after, none⟩ :: r) :: k) .normal env H) :=
  Imp.via (fun hk => go_callV h1 h2 hd hc fun x H' hx => by obtain ⟨rfl, rfl⟩ := hx; exact hk) kq
theorem im_xcallC {vr : SV} {H2 : List Blk} (h1 : ev G env f = some fv) (h2 : evs G env args.toList = some xs) (hc : ACallV P G fv xs H (fun x H' => H' = H2 ∧ x = vr)) (kq : Imp qq (kk vr H2)) : Imp qq (exG P G T own all ⟨dst, .call ⟨.value f, args, tys⟩, ty, pos, after, none⟩ env H kk) :=
  Imp.via (fun hk => xg_callV h1 h2 hc fun x H' hx => by obtain ⟨rfl, rfl⟩ := hx; exact hk) kq
end

attribute [go_sem ↓] gv_T
attribute [go_sem ↓] gv_F
attribute [go_sem ↓] gv_dT
attribute [go_sem ↓] gv_dF
attribute [go_sem] gv_tt
attribute [go_sem] gv_ff
attribute [go_sem] gv_tf
attribute [go_sem] gv_ft
attribute [go_sem] pk_true
attribute [go_sem] pk_false
attribute [go_sem] pk_gvT
attribute [go_sem] pk_gvF
attribute [go_sem] pk_bT
attribute [go_sem] pk_bF
attribute [go_sem] pk_bTr
attribute [go_sem] pk_bFl
attribute [go_sem] qv
attribute [go_sem] lv
attribute [go_sem ↓] ob_some
attribute [go_sem ↓] bb_true
attribute [go_sem ↓] bb_false
attribute [go_sem ↓] chk_true
attribute [go_sem] and_self
attribute [go_sem] and_true
attribute [go_sem] true_and
attribute [go_sem] beq_self_eq_true
attribute [go_sem] beq_true
attribute [go_sem] beq_false
attribute [go_sem] Bool.and_true
attribute [go_sem] Bool.true_and
attribute [go_sem] Bool.and_self
attribute [go_sem] Bool.and_false
attribute [go_sem] Bool.false_and
attribute [go_sem] Bool.or_true
attribute [go_sem] Bool.true_or
attribute [go_sem] Bool.or_false
attribute [go_sem] Bool.false_or
attribute [go_sem] Bool.not_true
attribute [go_sem] Bool.not_false
attribute [go_sem] Int.toNat_natCast
attribute [go_sem] decide_not'
attribute [go_sem] ne_eq
attribute [go_sem] not_true_eq_false
attribute [go_sem] not_false_eq_true
attribute [go_sem ↓] binV.eq_def
attribute [go_sem ↓] unV.eq_def
attribute [go_sem ↓] appV.eq_def
attribute [go_sem ↓] lenV.eq_def
attribute [go_sem ↓] putK.eq_def
attribute [go_sem ↓] copyV.eq_def
attribute [go_sem ↓] clearV.eq_def
attribute [go_sem ↓] evs.eq_1
attribute [go_sem ↓] evs.eq_2
attribute [go_sem ↓] look.eq_1
attribute [go_sem ↓] look.eq_2
attribute [go_sem ↓] isIn.eq_1
attribute [go_sem ↓] isIn.eq_2
attribute [go_sem ↓] initEnv.eq_1
attribute [go_sem ↓] initEnv.eq_2
attribute [go_sem ↓] putAll.eq_1
attribute [go_sem ↓] putAll.eq_2
attribute [go_sem ↓] fillAll.eq_1
attribute [go_sem ↓] fillAll.eq_2
attribute [go_sem ↓] findSV.eq_1
attribute [go_sem ↓] findSV.eq_2
attribute [go_sem ↓] setSV.eq_1
attribute [go_sem ↓] setSV.eq_2
attribute [go_sem ↓] resL.eq_1
attribute [go_sem ↓] resL.eq_2
attribute [go_sem ↓] codeT.eq_1
attribute [go_sem ↓] codeT.eq_2
attribute [go_sem ↓] codeSV.eq_1
attribute [go_sem ↓] codeSV.eq_2
attribute [go_sem ↓] eqSL.eq_1
attribute [go_sem ↓] eqSL.eq_2
attribute [go_sem ↓] resL.eq_3
attribute [go_sem ↓] ev.eq_def
attribute [go_sem ↓] asB.eq_def
attribute [go_sem ↓] asI.eq_def
attribute [go_sem ↓] loadSV.eq_def
attribute [go_sem ↓] storeSV.eq_def
attribute [go_sem ↓] sub.eq_def
attribute [go_sem ↓] fits.eq_def
attribute [go_sem ↓] seqOf.eq_def
attribute [go_sem ↓] elemOf.eq_def
attribute [go_sem ↓] arrOf.eq_def
attribute [go_sem ↓] isPtr.eq_def
attribute [go_sem ↓] fieldOf.eq_def
attribute [go_sem ↓] lenFits.eq_def
attribute [go_sem ↓] lenSV.eq_def
attribute [go_sem ↓] cutSV.eq_def
attribute [go_sem ↓] szOK.eq_def
attribute [go_sem ↓] okPtr.eq_def
attribute [go_sem ↓] fieldPtr.eq_def
attribute [go_sem ↓] boundOf.eq_def
attribute [go_sem ↓] kindT.eq_def
attribute [go_sem ↓] isMapB.eq_def
attribute [go_sem ↓] slLen.eq_def
attribute [go_sem ↓] nilH.eq_def
attribute [go_sem ↓] isNilC.eq_def
attribute [go_sem ↓] fieldsKnown.eq_def
attribute [go_sem ↓] partsOf.eq_def
attribute [go_sem ↓] subPut.eq_def
attribute [go_sem ↓] resSV.eq_def
attribute [go_sem ↓] SV.isAgg.eq_def
attribute [go_sem ↓] SV.leaf.eq_def
attribute [go_sem ↓] SV.size.eq_def
attribute [go_sem ↓] TD.agg.eq_def
attribute [go_sem ↓] blkOf.eq_def
attribute [go_sem ↓] mapOf.eq_def
attribute [go_sem ↓] mapTypes.eq_def
attribute [go_sem ↓] keyIs.eq_def
attribute [go_sem ↓] eqSV.eq_def
attribute [go_sem ↓] digSV.eq_def
attribute [go_sem ↓] digT.eq_def
attribute [go_sem ↓] capSV.eq_def
attribute [go_sem ↓] isU8.eq_def
attribute [go_sem ↓] sliceU8.eq_def
attribute [go_sem] constSV_i64
attribute [go_sem] constSV_u8
attribute [go_sem] constSV_bool
attribute [go_sem] constSV_nil
attribute [go_sem] constSV_nilptr
attribute [go_sem] constSV_nilmap
attribute [go_sem] Option.bind_some
attribute [go_sem] Option.isSome_some
attribute [go_sem] List.length_map
attribute [go_sem] List.length_cons
attribute [go_sem] List.length_nil
attribute [go_sem] List.getElem?_map
attribute [go_sem] List.getElem?_eq_getElem
attribute [go_sem] Int.natCast_nonneg
attribute [go_sem] List.getElem?_cons_zero
attribute [go_sem] List.getElem?_cons_succ
attribute [go_sem] Option.map_some
attribute [go_sem] wrap_i64
attribute [go_sem] get_app0
attribute [go_sem] get_app
attribute [go_sem] set_app0
attribute [go_sem] set_app
attribute [go_sem] get_app0S
attribute [go_sem] get_appS
attribute [go_sem] set_app0S
attribute [go_sem] set_appS
attribute [go_sem] get_app0SS
attribute [go_sem] get_appSS
attribute [go_sem] set_app0SS
attribute [go_sem] set_appSS
attribute [go_sem] get_oldS
attribute [go_sem] set_oldS
attribute [go_sem] get_old
attribute [go_sem] set_old
attribute [go_sem] List.set_set
attribute [go_sem] List.getElem?_set_self
attribute [go_sem] List.length_set
attribute [go_sem] List.append_assoc
attribute [go_sem] List.cons_append
attribute [go_sem] List.nil_append
attribute [go_sem] List.length_append
attribute [go_sem] Nat.add_assoc
attribute [go_sem] List.set_cons_zero
attribute [go_sem] List.set_cons_succ
attribute [go_sem] Ex.cells_len
attribute [go_sem] Bd.cells_len
attribute [go_sem] Al.cells_len
attribute [go_sem] Ex.cells_take
attribute [go_sem] Ex.sv
attribute [go_sem] Ex.cells.eq_1
attribute [go_sem] exCells_len
attribute [go_sem] bdCells_len
attribute [go_sem] alCells_len
attribute [go_sem] exCells_get
attribute [go_sem] bdCells_get
attribute [go_sem] alCells_get
attribute [go_sem] List.drop_zero
attribute [go_sem] List.drop_succ_cons
attribute [go_sem] int_le_true
attribute [go_sem] nat_le_true
attribute [go_sem] nat_lt_true
attribute [go_sem] List.take_succ_cons
attribute [go_sem] List.take_zero
attribute [go_sem] List.replicate_succ
attribute [go_sem] List.replicate_zero
attribute [go_sem] List.length_take
attribute [go_sem] Nat.zero_add
attribute [go_sem] Nat.lt_one_iff
attribute [go_sem] true_or
attribute [go_sem] or_true
attribute [go_sem] false_and
attribute [go_sem] and_false
attribute [go_sem] List.length_replicate
attribute [go_sem] strOf_bytes
theorem constSV_s0 : constSV (.string (ByteArray.mk #[])) = some (.str []) := by simp [constSV, constCell, maxLen]
attribute [go_sem] constSV_s0
theorem constSV_s1 (a0 : UInt8) : constSV (.string (ByteArray.mk #[a0])) = some (.str [a0]) := by simp [constSV, constCell, maxLen]
attribute [go_sem] constSV_s1
theorem constSV_s2 (a0 a1 : UInt8) : constSV (.string (ByteArray.mk #[a0, a1])) = some (.str [a0, a1]) := by simp [constSV, constCell, maxLen]
attribute [go_sem] constSV_s2
theorem constSV_s3 (a0 a1 a2 : UInt8) : constSV (.string (ByteArray.mk #[a0, a1, a2])) = some (.str [a0, a1, a2]) := by simp [constSV, constCell, maxLen]
attribute [go_sem] constSV_s3
theorem constSV_s4 (a0 a1 a2 a3 : UInt8) : constSV (.string (ByteArray.mk #[a0, a1, a2, a3])) = some (.str [a0, a1, a2, a3]) := by simp [constSV, constCell, maxLen]
attribute [go_sem] constSV_s4
theorem constSV_s5 (a0 a1 a2 a3 a4 : UInt8) : constSV (.string (ByteArray.mk #[a0, a1, a2, a3, a4])) = some (.str [a0, a1, a2, a3, a4]) := by simp [constSV, constCell, maxLen]
attribute [go_sem] constSV_s5
theorem constSV_s6 (a0 a1 a2 a3 a4 a5 : UInt8) : constSV (.string (ByteArray.mk #[a0, a1, a2, a3, a4, a5])) = some (.str [a0, a1, a2, a3, a4, a5]) := by simp [constSV, constCell, maxLen]
attribute [go_sem] constSV_s6
theorem constSV_s7 (a0 a1 a2 a3 a4 a5 a6 : UInt8) : constSV (.string (ByteArray.mk #[a0, a1, a2, a3, a4, a5, a6])) = some (.str [a0, a1, a2, a3, a4, a5, a6]) := by simp [constSV, constCell, maxLen]
attribute [go_sem] constSV_s7
theorem constSV_s8 (a0 a1 a2 a3 a4 a5 a6 a7 : UInt8) : constSV (.string (ByteArray.mk #[a0, a1, a2, a3, a4, a5, a6, a7])) = some (.str [a0, a1, a2, a3, a4, a5, a6, a7]) := by simp [constSV, constCell, maxLen]
attribute [go_sem] constSV_s8
theorem constSV_s9 (a0 a1 a2 a3 a4 a5 a6 a7 a8 : UInt8) : constSV (.string (ByteArray.mk #[a0, a1, a2, a3, a4, a5, a6, a7, a8])) = some (.str [a0, a1, a2, a3, a4, a5, a6, a7, a8]) := by simp [constSV, constCell, maxLen]
attribute [go_sem] constSV_s9
theorem constSV_s10 (a0 a1 a2 a3 a4 a5 a6 a7 a8 a9 : UInt8) : constSV (.string (ByteArray.mk #[a0, a1, a2, a3, a4, a5, a6, a7, a8, a9])) = some (.str [a0, a1, a2, a3, a4, a5, a6, a7, a8, a9]) := by simp [constSV, constCell, maxLen]
attribute [go_sem] constSV_s10
theorem constSV_s11 (a0 a1 a2 a3 a4 a5 a6 a7 a8 a9 a10 : UInt8) : constSV (.string (ByteArray.mk #[a0, a1, a2, a3, a4, a5, a6, a7, a8, a9, a10])) = some (.str [a0, a1, a2, a3, a4, a5, a6, a7, a8, a9, a10]) := by simp [constSV, constCell, maxLen]
attribute [go_sem] constSV_s11
theorem constSV_s12 (a0 a1 a2 a3 a4 a5 a6 a7 a8 a9 a10 a11 : UInt8) : constSV (.string (ByteArray.mk #[a0, a1, a2, a3, a4, a5, a6, a7, a8, a9, a10, a11])) = some (.str [a0, a1, a2, a3, a4, a5, a6, a7, a8, a9, a10, a11]) := by simp [constSV, constCell, maxLen]
attribute [go_sem] constSV_s12
theorem constSV_s13 (a0 a1 a2 a3 a4 a5 a6 a7 a8 a9 a10 a11 a12 : UInt8) : constSV (.string (ByteArray.mk #[a0, a1, a2, a3, a4, a5, a6, a7, a8, a9, a10, a11, a12])) = some (.str [a0, a1, a2, a3, a4, a5, a6, a7, a8, a9, a10, a11, a12]) := by simp [constSV, constCell, maxLen]
attribute [go_sem] constSV_s13
theorem constSV_s14 (a0 a1 a2 a3 a4 a5 a6 a7 a8 a9 a10 a11 a12 a13 : UInt8) : constSV (.string (ByteArray.mk #[a0, a1, a2, a3, a4, a5, a6, a7, a8, a9, a10, a11, a12, a13])) = some (.str [a0, a1, a2, a3, a4, a5, a6, a7, a8, a9, a10, a11, a12, a13]) := by simp [constSV, constCell, maxLen]
attribute [go_sem] constSV_s14
theorem constSV_s15 (a0 a1 a2 a3 a4 a5 a6 a7 a8 a9 a10 a11 a12 a13 a14 : UInt8) : constSV (.string (ByteArray.mk #[a0, a1, a2, a3, a4, a5, a6, a7, a8, a9, a10, a11, a12, a13, a14])) = some (.str [a0, a1, a2, a3, a4, a5, a6, a7, a8, a9, a10, a11, a12, a13, a14]) := by simp [constSV, constCell, maxLen]
attribute [go_sem] constSV_s15
theorem constSV_s16 (a0 a1 a2 a3 a4 a5 a6 a7 a8 a9 a10 a11 a12 a13 a14 a15 : UInt8) : constSV (.string (ByteArray.mk #[a0, a1, a2, a3, a4, a5, a6, a7, a8, a9, a10, a11, a12, a13, a14, a15])) = some (.str [a0, a1, a2, a3, a4, a5, a6, a7, a8, a9, a10, a11, a12, a13, a14, a15]) := by simp [constSV, constCell, maxLen]
attribute [go_sem] constSV_s16
theorem constSV_s17 (a0 a1 a2 a3 a4 a5 a6 a7 a8 a9 a10 a11 a12 a13 a14 a15 a16 : UInt8) : constSV (.string (ByteArray.mk #[a0, a1, a2, a3, a4, a5, a6, a7, a8, a9, a10, a11, a12, a13, a14, a15, a16])) = some (.str [a0, a1, a2, a3, a4, a5, a6, a7, a8, a9, a10, a11, a12, a13, a14, a15, a16]) := by simp [constSV, constCell, maxLen]
attribute [go_sem] constSV_s17
theorem constSV_s18 (a0 a1 a2 a3 a4 a5 a6 a7 a8 a9 a10 a11 a12 a13 a14 a15 a16 a17 : UInt8) : constSV (.string (ByteArray.mk #[a0, a1, a2, a3, a4, a5, a6, a7, a8, a9, a10, a11, a12, a13, a14, a15, a16, a17])) = some (.str [a0, a1, a2, a3, a4, a5, a6, a7, a8, a9, a10, a11, a12, a13, a14, a15, a16, a17]) := by simp [constSV, constCell, maxLen]
attribute [go_sem] constSV_s18
theorem constSV_s19 (a0 a1 a2 a3 a4 a5 a6 a7 a8 a9 a10 a11 a12 a13 a14 a15 a16 a17 a18 : UInt8) : constSV (.string (ByteArray.mk #[a0, a1, a2, a3, a4, a5, a6, a7, a8, a9, a10, a11, a12, a13, a14, a15, a16, a17, a18])) = some (.str [a0, a1, a2, a3, a4, a5, a6, a7, a8, a9, a10, a11, a12, a13, a14, a15, a16, a17, a18]) := by simp [constSV, constCell, maxLen]
attribute [go_sem] constSV_s19
theorem constSV_s20 (a0 a1 a2 a3 a4 a5 a6 a7 a8 a9 a10 a11 a12 a13 a14 a15 a16 a17 a18 a19 : UInt8) : constSV (.string (ByteArray.mk #[a0, a1, a2, a3, a4, a5, a6, a7, a8, a9, a10, a11, a12, a13, a14, a15, a16, a17, a18, a19])) = some (.str [a0, a1, a2, a3, a4, a5, a6, a7, a8, a9, a10, a11, a12, a13, a14, a15, a16, a17, a18, a19]) := by simp [constSV, constCell, maxLen]
attribute [go_sem] constSV_s20
theorem constSV_s21 (a0 a1 a2 a3 a4 a5 a6 a7 a8 a9 a10 a11 a12 a13 a14 a15 a16 a17 a18 a19 a20 : UInt8) : constSV (.string (ByteArray.mk #[a0, a1, a2, a3, a4, a5, a6, a7, a8, a9, a10, a11, a12, a13, a14, a15, a16, a17, a18, a19, a20])) = some (.str [a0, a1, a2, a3, a4, a5, a6, a7, a8, a9, a10, a11, a12, a13, a14, a15, a16, a17, a18, a19, a20]) := by simp [constSV, constCell, maxLen]
attribute [go_sem] constSV_s21
theorem constSV_s22 (a0 a1 a2 a3 a4 a5 a6 a7 a8 a9 a10 a11 a12 a13 a14 a15 a16 a17 a18 a19 a20 a21 : UInt8) : constSV (.string (ByteArray.mk #[a0, a1, a2, a3, a4, a5, a6, a7, a8, a9, a10, a11, a12, a13, a14, a15, a16, a17, a18, a19, a20, a21])) = some (.str [a0, a1, a2, a3, a4, a5, a6, a7, a8, a9, a10, a11, a12, a13, a14, a15, a16, a17, a18, a19, a20, a21]) := by simp [constSV, constCell, maxLen]
attribute [go_sem] constSV_s22
theorem constSV_s23 (a0 a1 a2 a3 a4 a5 a6 a7 a8 a9 a10 a11 a12 a13 a14 a15 a16 a17 a18 a19 a20 a21 a22 : UInt8) : constSV (.string (ByteArray.mk #[a0, a1, a2, a3, a4, a5, a6, a7, a8, a9, a10, a11, a12, a13, a14, a15, a16, a17, a18, a19, a20, a21, a22])) = some (.str [a0, a1, a2, a3, a4, a5, a6, a7, a8, a9, a10, a11, a12, a13, a14, a15, a16, a17, a18, a19, a20, a21, a22]) := by simp [constSV, constCell, maxLen]
attribute [go_sem] constSV_s23
theorem constSV_s24 (a0 a1 a2 a3 a4 a5 a6 a7 a8 a9 a10 a11 a12 a13 a14 a15 a16 a17 a18 a19 a20 a21 a22 a23 : UInt8) : constSV (.string (ByteArray.mk #[a0, a1, a2, a3, a4, a5, a6, a7, a8, a9, a10, a11, a12, a13, a14, a15, a16, a17, a18, a19, a20, a21, a22, a23])) = some (.str [a0, a1, a2, a3, a4, a5, a6, a7, a8, a9, a10, a11, a12, a13, a14, a15, a16, a17, a18, a19, a20, a21, a22, a23]) := by simp [constSV, constCell, maxLen]
attribute [go_sem] constSV_s24
theorem take_mapAll {α β : Type} (l : List α) (f : α → β) : (l.map f).take l.length = l.map f := List.take_of_length_le (by simp)
attribute [go_sem] take_mapAll List.getElem?_take_of_lt List.getElem?_drop

theorem evS {p : Prop} (h : p := by (simp -implicitDefEqProofs (disch := first | assumption | omega) only [go_sem, X, Int.reduceToNat, Nat.reduceAdd, Nat.reduceSub, Nat.reduceMul, Nat.reduceLT, Nat.reduceLeDiff, Nat.reduceEqDiff, Nat.reduceBEq, Nat.reduceBNe, ↓reduceIte, reduceCtorEq] <;> rfl)) : p := h
theorem evS1 {p : Prop} (h : p := by intro hw1; have hw1p := hw1; (try simp only [Bool.and_eq_true, Bool.or_eq_true, decide_eq_true_eq, decide_eq_false_iff_not, Bool.not_eq_true', Bool.and_eq_false_iff, Bool.or_eq_false_iff, Bool.not_eq_false'] at hw1p); exact evS) : p := h
theorem evS2 {p : Prop} (h : p := by intro hw1 hw2; have hw1p := hw1; (try simp only [Bool.and_eq_true, Bool.or_eq_true, decide_eq_true_eq, decide_eq_false_iff_not, Bool.not_eq_true', Bool.and_eq_false_iff, Bool.or_eq_false_iff, Bool.not_eq_false'] at hw1p); have hw2p := hw2; (try simp only [Bool.and_eq_true, Bool.or_eq_true, decide_eq_true_eq, decide_eq_false_iff_not, Bool.not_eq_true', Bool.and_eq_false_iff, Bool.or_eq_false_iff, Bool.not_eq_false'] at hw2p); exact evS) : p := h
theorem evS3 {p : Prop} (h : p := by intro hw1 hw2 hw3; have hw1p := hw1; (try simp only [Bool.and_eq_true, Bool.or_eq_true, decide_eq_true_eq, decide_eq_false_iff_not, Bool.not_eq_true', Bool.and_eq_false_iff, Bool.or_eq_false_iff, Bool.not_eq_false'] at hw1p); have hw2p := hw2; (try simp only [Bool.and_eq_true, Bool.or_eq_true, decide_eq_true_eq, decide_eq_false_iff_not, Bool.not_eq_true', Bool.and_eq_false_iff, Bool.or_eq_false_iff, Bool.not_eq_false'] at hw2p); have hw3p := hw3; (try simp only [Bool.and_eq_true, Bool.or_eq_true, decide_eq_true_eq, decide_eq_false_iff_not, Bool.not_eq_true', Bool.and_eq_false_iff, Bool.or_eq_false_iff, Bool.not_eq_false'] at hw3p); exact evS) : p := h
theorem agS {p : Prop} (h : p := by repeat' (first | exact ag_nil | ((with_reducible apply ag_c0); (· rfl); (· rfl); (· exact evS)) | ((with_reducible apply ag_cR); (· rfl); (· rfl); (· rfl); (· rfl); (· exact evS); (· first | rfl | (simp (disch := first | assumption | omega) only [gv_T, gv_F, gv_dT, gv_dF]; done))) | ((with_reducible apply ag_cS); (· rfl); (· rfl); (· rfl); (· rfl); (· rfl); (· rfl); (· first | rfl | (simp (disch := first | assumption | omega) only [gv_T, gv_F, gv_dT, gv_dF, gv_dTu, gv_dFu, gv_Tu, gv_Fu]; done))) | ((with_reducible apply ag_cM1); (· rfl); (· rfl); (· rfl); (· rfl); (· exact evS1)) | ((with_reducible apply ag_cM2); (· rfl); (· rfl); (· rfl); (· rfl); (· exact evS2)) | ((with_reducible apply ag_cM3); (· rfl); (· rfl); (· rfl); (· rfl); (· exact evS3)) | fail)) : p := h
theorem under_ints {n : Nat} {k : IntKind} (l : List Int) : SV.underL n (l.map (SV.int k)) = true := SV.underL_map fun _ _ => rfl
theorem under_bools {n : Nat} (l : List Bool) : SV.underL n (l.map SV.bool) = true := SV.underL_map fun _ _ => rfl
theorem hbS {p : Prop} (h : p := by (first | rfl | (simp only [X, get_app0, get_app, get_app0S, get_appS, get_app0SS, get_appSS, get_old, List.getElem?_cons_zero, List.getElem?_cons_succ, List.append_assoc, List.cons_append, List.nil_append, List.length_set] <;> rfl) | (simp only [get_app0, get_app, get_app0S, get_appS, get_app0SS, get_appSS, get_old, List.getElem?_cons_zero, List.getElem?_cons_succ, List.append_assoc, List.cons_append, List.nil_append, List.length_set] <;> rfl))) : p := h
theorem SV.underL_replicate {n m : Nat} {x : SV} (h : x.under n = true) : SV.underL n (List.replicate m x) = true := by
  induction m with
  | zero => rfl
  | succ m ih => rw [List.replicate_succ]; simp only [SV.underL, h, ih, Bool.and_self]
theorem undS {p : Prop} (h : p := by (first | rfl | assumption | (simp only [SV.under.eq_def, SV.underL.eq_1, SV.underL.eq_2, Ex.cells_under, exCells_under, bdCells_under, alCells_under, strs_under, Ex.sv_under, Bool.and_true, Bool.true_and, Bool.and_self, decide_eq_true_eq, Nat.zero_le, List.drop_zero, Function.comp_def, SV.underL_append, under_mstr, under_mint, under_mbool, under_bde, under_alb, under_ints, under_bools, List.drop_succ_cons] <;> omega) | exact SV.underL_map fun _ _ => rfl | ((try simp only [List.drop_zero, SV.underL_append, SV.underL.eq_2, SV.underL.eq_1, SV.under.eq_def, Bool.and_true, Bool.and_self, Bool.and_eq_true, decide_eq_true_eq]) <;> (repeat' (first | exact True.intro | refine And.intro ?_ ?_ | exact SV.underL_map fun _ _ => rfl | exact SV.underL_replicate rfl | rfl | omega)) <;> fail))) : p := h
theorem FrzE.same {H : List Blk} {n : Nat} {ks : Keep} : ∀ {es : List (SV × SV)}, belowE n es = true → FrzE H n ks es es
  | [], _ => .nil
  | (k, x) :: es, h => by
    simp only [belowE, Bool.and_eq_true] at h
    exact .cons _ _ _ _ _ h.1.1 (.same _ h.1.2) (FrzE.same h.2)
theorem frzLT {p : Prop} (h : p := by repeat' (first | exact FrzL.nil | (refine FrzL.cons _ _ _ _ ?_ ?_) | (first | (apply Frz.same; exact undS) | exact Frz.nil _ | (apply Frz.int; omega) | (apply Frz.kp 0 rfl; (· exact hbS); (· omega); (· omega); (· omega)) | (apply Frz.kp 1 rfl; (· exact hbS); (· omega); (· omega); (· omega)) | (apply Frz.kp 2 rfl; (· exact hbS); (· omega); (· omega); (· omega)) | (apply Frz.kp 3 rfl; (· exact hbS); (· omega); (· omega); (· omega)) | (apply Frz.kp 4 rfl; (· exact hbS); (· omega); (· omega); (· omega)) | (apply Frz.kp 5 rfl; (· exact hbS); (· omega); (· omega); (· omega)) | (apply Frz.kp 6 rfl; (· exact hbS); (· omega); (· omega); (· omega)) | (apply Frz.kp 7 rfl; (· exact hbS); (· omega); (· omega); (· omega)) | (apply Frz.ks 0 rfl; (· exact hbS); (· omega); (· omega); (· omega); (· omega)) | (apply Frz.ks 1 rfl; (· exact hbS); (· omega); (· omega); (· omega); (· omega)) | (apply Frz.ks 2 rfl; (· exact hbS); (· omega); (· omega); (· omega); (· omega)) | (apply Frz.ks 3 rfl; (· exact hbS); (· omega); (· omega); (· omega); (· omega)) | (apply Frz.ks 4 rfl; (· exact hbS); (· omega); (· omega); (· omega); (· omega)) | (apply Frz.ks 5 rfl; (· exact hbS); (· omega); (· omega); (· omega); (· omega)) | (apply Frz.ks 6 rfl; (· exact hbS); (· omega); (· omega); (· omega); (· omega)) | (apply Frz.ks 7 rfl; (· exact hbS); (· omega); (· omega); (· omega); (· omega)) | (apply Frz.km 0 rfl; (· exact hbS); (· omega)) | (apply Frz.km 1 rfl; (· exact hbS); (· omega)) | (apply Frz.km 2 rfl; (· exact hbS); (· omega)) | (apply Frz.km 3 rfl; (· exact hbS); (· omega)) | (apply Frz.km 4 rfl; (· exact hbS); (· omega)) | (apply Frz.km 5 rfl; (· exact hbS); (· omega)) | (apply Frz.km 6 rfl; (· exact hbS); (· omega)) | (apply Frz.km 7 rfl; (· exact hbS); (· omega)) | (apply Frz.sf; (· exact hbS); (· omega); (· simp <;> omega); (· first | rfl | (simp [Function.comp_def, List.take_of_length_le]; done)); (· exact undS)) | fail))) : p := h
theorem frzLS {p : Prop} (h : p := by repeat' (first | exact FrzL.nil | (refine FrzL.cons _ _ _ _ ?_ ?_) | (first | (apply Frz.same; exact undS) | exact Frz.nil _ | (apply Frz.int; omega) | (apply Frz.kp 0 rfl; (· exact hbS); (· omega); (· omega); (· omega)) | (apply Frz.kp 1 rfl; (· exact hbS); (· omega); (· omega); (· omega)) | (apply Frz.kp 2 rfl; (· exact hbS); (· omega); (· omega); (· omega)) | (apply Frz.kp 3 rfl; (· exact hbS); (· omega); (· omega); (· omega)) | (apply Frz.kp 4 rfl; (· exact hbS); (· omega); (· omega); (· omega)) | (apply Frz.kp 5 rfl; (· exact hbS); (· omega); (· omega); (· omega)) | (apply Frz.kp 6 rfl; (· exact hbS); (· omega); (· omega); (· omega)) | (apply Frz.kp 7 rfl; (· exact hbS); (· omega); (· omega); (· omega)) | (apply Frz.ks 0 rfl; (· exact hbS); (· omega); (· omega); (· omega); (· omega)) | (apply Frz.ks 1 rfl; (· exact hbS); (· omega); (· omega); (· omega); (· omega)) | (apply Frz.ks 2 rfl; (· exact hbS); (· omega); (· omega); (· omega); (· omega)) | (apply Frz.ks 3 rfl; (· exact hbS); (· omega); (· omega); (· omega); (· omega)) | (apply Frz.ks 4 rfl; (· exact hbS); (· omega); (· omega); (· omega); (· omega)) | (apply Frz.ks 5 rfl; (· exact hbS); (· omega); (· omega); (· omega); (· omega)) | (apply Frz.ks 6 rfl; (· exact hbS); (· omega); (· omega); (· omega); (· omega)) | (apply Frz.ks 7 rfl; (· exact hbS); (· omega); (· omega); (· omega); (· omega)) | (apply Frz.km 0 rfl; (· exact hbS); (· omega)) | (apply Frz.km 1 rfl; (· exact hbS); (· omega)) | (apply Frz.km 2 rfl; (· exact hbS); (· omega)) | (apply Frz.km 3 rfl; (· exact hbS); (· omega)) | (apply Frz.km 4 rfl; (· exact hbS); (· omega)) | (apply Frz.km 5 rfl; (· exact hbS); (· omega)) | (apply Frz.km 6 rfl; (· exact hbS); (· omega)) | (apply Frz.km 7 rfl; (· exact hbS); (· omega)) | (apply Frz.sf; (· exact hbS); (· omega); (· simp <;> omega); (· first | rfl | (simp [Function.comp_def, List.take_of_length_le]; done)); (· exact undS)) | (apply Frz.agg; exact frzLT) | fail))) : p := h
theorem frzS {p : Prop} (h : p := by repeat' (first | exact True.intro | exact KeepB.nil | (refine And.intro ⟨_, rfl, ?_⟩ ?_) | (apply KeepB.c; (· exact hbS); (· omega); (· first | omega | (simp <;> omega)); (· first | (apply FrzL.same; exact undS) | exact frzLS)) | (apply KeepB.m; (· exact hbS); (· omega); (· first | exact FrzE.same (esB_under _ _) | exact FrzE.same (esO_under _ _) | (apply FrzE.same; rfl))) | (first | (apply Frz.same; exact undS) | exact Frz.nil _ | (apply Frz.int; omega) | (apply Frz.kp 0 rfl; (· exact hbS); (· omega); (· omega); (· omega)) | (apply Frz.kp 1 rfl; (· exact hbS); (· omega); (· omega); (· omega)) | (apply Frz.kp 2 rfl; (· exact hbS); (· omega); (· omega); (· omega)) | (apply Frz.kp 3 rfl; (· exact hbS); (· omega); (· omega); (· omega)) | (apply Frz.kp 4 rfl; (· exact hbS); (· omega); (· omega); (· omega)) | (apply Frz.kp 5 rfl; (· exact hbS); (· omega); (· omega); (· omega)) | (apply Frz.kp 6 rfl; (· exact hbS); (· omega); (· omega); (· omega)) | (apply Frz.kp 7 rfl; (· exact hbS); (· omega); (· omega); (· omega)) | (apply Frz.ks 0 rfl; (· exact hbS); (· omega); (· omega); (· omega); (· omega)) | (apply Frz.ks 1 rfl; (· exact hbS); (· omega); (· omega); (· omega); (· omega)) | (apply Frz.ks 2 rfl; (· exact hbS); (· omega); (· omega); (· omega); (· omega)) | (apply Frz.ks 3 rfl; (· exact hbS); (· omega); (· omega); (· omega); (· omega)) | (apply Frz.ks 4 rfl; (· exact hbS); (· omega); (· omega); (· omega); (· omega)) | (apply Frz.ks 5 rfl; (· exact hbS); (· omega); (· omega); (· omega); (· omega)) | (apply Frz.ks 6 rfl; (· exact hbS); (· omega); (· omega); (· omega); (· omega)) | (apply Frz.ks 7 rfl; (· exact hbS); (· omega); (· omega); (· omega); (· omega)) | (apply Frz.km 0 rfl; (· exact hbS); (· omega)) | (apply Frz.km 1 rfl; (· exact hbS); (· omega)) | (apply Frz.km 2 rfl; (· exact hbS); (· omega)) | (apply Frz.km 3 rfl; (· exact hbS); (· omega)) | (apply Frz.km 4 rfl; (· exact hbS); (· omega)) | (apply Frz.km 5 rfl; (· exact hbS); (· omega)) | (apply Frz.km 6 rfl; (· exact hbS); (· omega)) | (apply Frz.km 7 rfl; (· exact hbS); (· omega)) | (apply Frz.sf; (· exact hbS); (· omega); (· simp <;> omega); (· first | rfl | (simp [Function.comp_def, List.take_of_length_le]; done)); (· exact undS)) | (apply Frz.agg; exact frzLS) | fail) | fail)) : p := h
theorem run {qq p : Prop} (k : qq) (h : Imp qq p := by
  repeat' (first
    | ((with_reducible apply im_go_seq))
    | ((with_reducible apply im_go_q); (· exact evS); (· rfl))
    | ((with_reducible apply im_go_nil))
    | ((with_reducible apply im_go_region); (· exact tabOK); (· first | (simp only [List.append_eq, List.cons_append, List.nil_append]; rfl) | rfl))
    | ((with_reducible apply im_go_skip))
    | ((with_reducible apply im_go_condT); (· rfl))
    | ((with_reducible apply im_go_condF); (· rfl))
    | ((with_reducible apply im_go_condDT); (· rfl); (· assumption))
    | ((with_reducible apply im_go_condDF); (· rfl); (· assumption))
    | ((with_reducible apply im_go_condD); (· rfl); (intro hb); (rotate_left); (intro hb); (rotate_right))
    | ((with_reducible apply im_go_condB); (· rfl); (intro hb); (rotate_left); (intro hb); (rotate_right))
    | ((with_reducible apply im_go_block))
    | ((with_reducible apply im_go_blk))
    | ((with_reducible apply im_go_exit); (· rfl))
    | ((with_reducible apply im_go_l); (· exact evS); (· rfl))
    | ((with_reducible apply im_go_l0); (· exact evS))
    | ((with_reducible apply im_go_gRun); (· rfl); (· rfl))
    | ((with_reducible apply im_go_gSkip); (· rfl); (· rfl); (· rfl); (· rfl); (· rfl))
    | ((with_reducible apply im_go_gSkip0); (· rfl); (· rfl); (· rfl); (· rfl))
    | ((with_reducible apply im_go_gM1); (· rfl); (· rfl); (· exact evS1); (· rfl))
    | ((with_reducible apply im_go_gM2); (· rfl); (· rfl); (· exact evS2); (· rfl))
    | ((with_reducible apply im_go_gM3); (· rfl); (· rfl); (· exact evS3); (· rfl))
    | ((with_reducible apply im_go_gX); (· rfl); (· rfl); (· rfl); (intro hb); (try simp only [hb]); (try simp only [gv_tt, gv_ff, gv_tf, gv_ft, Bool.true_and, Bool.false_and, Bool.true_or, Bool.false_or, pk_true, pk_false]); (rotate_left); (intro hb); (try simp only [hb]); (try simp only [gv_tt, gv_ff, gv_tf, gv_ft, Bool.true_and, Bool.false_and, Bool.true_or, Bool.false_or, pk_true, pk_false]); (rotate_right))
    | ((with_reducible apply im_go_gD); (· rfl); (· rfl); (· rfl); (intro hb); (rotate_left); (intro hb); (rotate_right))
    | ((with_reducible apply im_go_gB); (· rfl); (· rfl); (· rfl); (intro hb); (rotate_left); (intro hb); (rotate_right))
    | ((with_reducible apply im_go_q0); (· exact evS))
    | ((with_reducible apply im_go_nilE); (· exact evS); (· exact evS); (· exact evS); (· exact evS); (· rfl); (intro hb); (rotate_left); (intro hb); (rotate_right))
    | ((with_reducible apply im_go_nilN); (· exact evS); (· exact evS); (· exact evS); (· exact evS); (· rfl); (intro hb); (rotate_left); (intro hb); (rotate_right))
    | ((with_reducible apply im_go_draw); (· exact tabOK); (· exact mixOK); (· first | (simp only [List.append_eq, List.cons_append, List.nil_append]; rfl) | rfl); (· kernel_rfl))
    | ((with_reducible apply im_dr_s); (· rfl); (· simp only [Nat.reduceAdd]; rfl))
    | ((with_reducible apply im_sg_q); (· exact evS))
    | ((with_reducible apply im_sg_run); (· rfl); (· rfl); (· exact evS))
    | ((with_reducible apply im_sg_skip); (· rfl); (· rfl); (· rfl); (· rfl))
    | ((with_reducible apply im_sg_M1); (· rfl); (· rfl); (· exact evS1))
    | ((with_reducible apply im_sg_M2); (· rfl); (· rfl); (· exact evS2))
    | ((with_reducible apply im_sg_M3); (· rfl); (· rfl); (· exact evS3))
    | ((with_reducible apply im_sg_D); (· rfl); (· rfl); (intro hb); (rotate_left); (intro hb); (rotate_right))
    | ((with_reducible apply im_sg_B); (· rfl); (· rfl); (intro hb); (rotate_left); (intro hb); (rotate_right))
    | ((with_reducible apply im_dr_adv2); (· rfl); (· simp only [Nat.reduceAdd]; rfl))
    | ((with_reducible apply im_dr_done); (· rfl))
    | ((with_reducible apply im_dr_so); (· rfl); (· rfl))
    | ((with_reducible apply im_dr_L1); (· rfl); (· rfl); (· rfl))
    | ((with_reducible apply im_dr_L2); (· rfl); (· rfl); (· rfl); (· rfl))
    | ((with_reducible apply im_ld_go))
    | ((with_reducible apply im_ld_run); (· rfl); (· rfl))
    | ((with_reducible apply im_ld_skip); (· rfl); (· rfl); (· rfl); (· rfl))
    | ((with_reducible apply im_ld_X); (· rfl); (· rfl); (intro hb); (try simp only [hb]); (try simp only [gv_tt, gv_ff, gv_tf, gv_ft, Bool.true_and, Bool.false_and, Bool.true_or, Bool.false_or, pk_true, pk_false]); (rotate_left); (intro hb); (try simp only [hb]); (try simp only [gv_tt, gv_ff, gv_tf, gv_ft, Bool.true_and, Bool.false_and, Bool.true_or, Bool.false_or, pk_true, pk_false]); (rotate_right))
    | ((with_reducible apply im_ld_D); (· rfl); (· rfl); (intro hb); (rotate_left); (intro hb); (rotate_right))
    | ((with_reducible apply im_ld_B); (· rfl); (· rfl); (intro hb); (rotate_left); (intro hb); (rotate_right))
    | ((with_reducible apply im_xg_l); (· exact evS))
    | ((with_reducible apply im_xg_q); (· exact evS))
    | ((with_reducible apply im_ag_mkS); (· conv => lhs; reduce); (· exact agS))
    | ((with_reducible apply im_ag_mkN); (· conv => lhs; reduce); (· exact agS))
    | ((with_reducible apply im_go_label))
    | ((with_reducible apply im_go_pred))
    | ((with_reducible apply im_go_ret); (· exact evS))
    | ((with_reducible apply im_go_end); (· exact evS))
    | ((with_reducible apply im_callE); (· first | exact c1 | exact c1 _ | exact c2 | exact c2 _ | exact c3 | exact c3 _ | exact c4 | exact c4 _ | exact c5 | exact c5 _ | exact c6 | exact c6 _); (· exact evS); (· rfl))
    | ((with_reducible apply im_callE2); (· exact evS); (· first | exact c1 | exact c1 _ | exact c1 _ _ | exact c1 _ _ _ | exact c2 | exact c2 _ | exact c2 _ _ | exact c2 _ _ _ | exact c3 | exact c3 _ | exact c3 _ _ | exact c3 _ _ _ | exact c4 | exact c4 _ | exact c4 _ _ | exact c4 _ _ _ | exact c5 | exact c5 _ | exact c5 _ _ | exact c5 _ _ _ | exact c6 | exact c6 _ | exact c6 _ _ | exact c6 _ _ _); (· rfl))
    | ((with_reducible apply im_xcallE2); (· exact evS); (· first | exact c1 | exact c1 _ | exact c1 _ _ | exact c1 _ _ _ | exact c2 | exact c2 _ | exact c2 _ _ | exact c2 _ _ _ | exact c3 | exact c3 _ | exact c3 _ _ | exact c3 _ _ _ | exact c4 | exact c4 _ | exact c4 _ _ | exact c4 _ _ _ | exact c5 | exact c5 _ | exact c5 _ _ | exact c5 _ _ _ | exact c6 | exact c6 _ | exact c6 _ _ | exact c6 _ _ _))
    | ((with_reducible apply im_xcallE); (· first | exact c1 | exact c1 _ | exact c2 | exact c2 _ | exact c3 | exact c3 _ | exact c4 | exact c4 _ | exact c5 | exact c5 _ | exact c6 | exact c6 _); (· exact evS))
    | ((with_reducible apply im_callC); (· exact evS); (· exact evS); (· first | exact v1 | exact v1 _ | exact v1 _ _ | exact v2 | exact v2 _ | exact v2 _ _ | exact v3 | exact v3 _ | exact v3 _ _); (· rfl))
    | ((with_reducible apply im_xcallC); (· exact evS); (· exact evS); (· first | exact v1 | exact v1 _ | exact v1 _ _ | exact v2 | exact v2 _ | exact v2 _ _ | exact v3 | exact v3 _ | exact v3 _ _))
    | (refine Imp.no ?_; omega)
    | exact Imp.refl _)) : p := h.go k
theorem runO {qq p : Prop} (k : qq) (h : Imp qq p := by
  repeat' (first
    | ((with_reducible apply im_go_seq))
    | ((with_reducible apply im_go_q); (· exact evS); (· rfl))
    | ((with_reducible apply im_go_nil))
    | ((with_reducible apply im_go_region); (· exact tabOK); (· first | (simp only [List.append_eq, List.cons_append, List.nil_append]; rfl) | rfl))
    | ((with_reducible apply im_go_skip))
    | ((with_reducible apply im_go_condT); (· rfl))
    | ((with_reducible apply im_go_condF); (· rfl))
    | ((with_reducible apply im_go_condDT); (· rfl); (· assumption))
    | ((with_reducible apply im_go_condDF); (· rfl); (· assumption))
    | ((with_reducible apply im_go_condD); (· rfl); (intro hb); (rotate_left); (intro hb); (rotate_right))
    | ((with_reducible apply im_go_condB); (· rfl); (intro hb); (rotate_left); (intro hb); (rotate_right))
    | ((with_reducible apply im_go_block))
    | ((with_reducible apply im_go_blk))
    | ((with_reducible apply im_go_exit); (· rfl))
    | ((with_reducible apply im_go_l); (· exact evS); (· rfl))
    | ((with_reducible apply im_go_l0); (· exact evS))
    | ((with_reducible apply im_go_gRun); (· rfl); (· rfl))
    | ((with_reducible apply im_go_gSkip); (· rfl); (· rfl); (· rfl); (· rfl); (· rfl))
    | ((with_reducible apply im_go_gSkip0); (· rfl); (· rfl); (· rfl); (· rfl))
    | ((with_reducible apply im_go_gD); (· rfl); (· rfl); (· rfl); (intro hb); (rotate_left); (intro hb); (rotate_right))
    | ((with_reducible apply im_go_gB); (· rfl); (· rfl); (· rfl); (intro hb); (rotate_left); (intro hb); (rotate_right))
    | ((with_reducible apply im_go_q0); (· exact evS))
    | ((with_reducible apply im_go_nilE); (· exact evS); (· exact evS); (· exact evS); (· exact evS); (· rfl); (intro hb); (rotate_left); (intro hb); (rotate_right))
    | ((with_reducible apply im_go_nilN); (· exact evS); (· exact evS); (· exact evS); (· exact evS); (· rfl); (intro hb); (rotate_left); (intro hb); (rotate_right))
    | ((with_reducible apply im_go_draw); (· exact tabOK); (· exact mixOK); (· first | (simp only [List.append_eq, List.cons_append, List.nil_append]; rfl) | rfl); (· kernel_rfl))
    | ((with_reducible apply im_dr_s); (· rfl); (· simp only [Nat.reduceAdd]; rfl))
    | ((with_reducible apply im_sg_q); (· exact evS))
    | ((with_reducible apply im_sg_run); (· rfl); (· rfl); (· exact evS))
    | ((with_reducible apply im_sg_skip); (· rfl); (· rfl); (· rfl); (· rfl))
    | ((with_reducible apply im_sg_D); (· rfl); (· rfl); (intro hb); (rotate_left); (intro hb); (rotate_right))
    | ((with_reducible apply im_sg_B); (· rfl); (· rfl); (intro hb); (rotate_left); (intro hb); (rotate_right))
    | ((with_reducible apply im_dr_adv2); (· rfl); (· simp only [Nat.reduceAdd]; rfl))
    | ((with_reducible apply im_dr_done); (· rfl))
    | ((with_reducible apply im_dr_so); (· rfl); (· rfl))
    | ((with_reducible apply im_dr_L1); (· rfl); (· rfl); (· rfl))
    | ((with_reducible apply im_dr_L2); (· rfl); (· rfl); (· rfl); (· rfl))
    | ((with_reducible apply im_ld_go))
    | ((with_reducible apply im_ld_run); (· rfl); (· rfl))
    | ((with_reducible apply im_ld_skip); (· rfl); (· rfl); (· rfl); (· rfl))
    | ((with_reducible apply im_ld_D); (· rfl); (· rfl); (intro hb); (rotate_left); (intro hb); (rotate_right))
    | ((with_reducible apply im_ld_B); (· rfl); (· rfl); (intro hb); (rotate_left); (intro hb); (rotate_right))
    | ((with_reducible apply im_xg_l); (· exact evS))
    | ((with_reducible apply im_xg_q); (· exact evS))
    | ((with_reducible apply im_ag_mkS); (· conv => lhs; reduce); (· exact agS))
    | ((with_reducible apply im_ag_mkN); (· conv => lhs; reduce); (· exact agS))
    | ((with_reducible apply im_go_label))
    | ((with_reducible apply im_go_pred))
    | ((with_reducible apply im_go_ret); (· exact evS))
    | ((with_reducible apply im_go_end); (· exact evS))
    | ((with_reducible apply im_callE); (· first | exact c1 | exact c1 _ | exact c2 | exact c2 _ | exact c3 | exact c3 _ | exact c4 | exact c4 _ | exact c5 | exact c5 _ | exact c6 | exact c6 _); (· exact evS); (· rfl))
    | ((with_reducible apply im_callE2); (· exact evS); (· first | exact c1 | exact c1 _ | exact c1 _ _ | exact c1 _ _ _ | exact c2 | exact c2 _ | exact c2 _ _ | exact c2 _ _ _ | exact c3 | exact c3 _ | exact c3 _ _ | exact c3 _ _ _ | exact c4 | exact c4 _ | exact c4 _ _ | exact c4 _ _ _ | exact c5 | exact c5 _ | exact c5 _ _ | exact c5 _ _ _ | exact c6 | exact c6 _ | exact c6 _ _ | exact c6 _ _ _); (· rfl))
    | ((with_reducible apply im_xcallE2); (· exact evS); (· first | exact c1 | exact c1 _ | exact c1 _ _ | exact c1 _ _ _ | exact c2 | exact c2 _ | exact c2 _ _ | exact c2 _ _ _ | exact c3 | exact c3 _ | exact c3 _ _ | exact c3 _ _ _ | exact c4 | exact c4 _ | exact c4 _ _ | exact c4 _ _ _ | exact c5 | exact c5 _ | exact c5 _ _ | exact c5 _ _ _ | exact c6 | exact c6 _ | exact c6 _ _ | exact c6 _ _ _))
    | ((with_reducible apply im_xcallE); (· first | exact c1 | exact c1 _ | exact c2 | exact c2 _ | exact c3 | exact c3 _ | exact c4 | exact c4 _ | exact c5 | exact c5 _ | exact c6 | exact c6 _); (· exact evS))
    | ((with_reducible apply im_callC); (· exact evS); (· exact evS); (· first | exact v1 | exact v1 _ | exact v1 _ _ | exact v2 | exact v2 _ | exact v2 _ _ | exact v3 | exact v3 _ | exact v3 _ _); (· rfl))
    | ((with_reducible apply im_xcallC); (· exact evS); (· exact evS); (· first | exact v1 | exact v1 _ | exact v1 _ _ | exact v2 | exact v2 _ | exact v2 _ _ | exact v3 | exact v3 _ | exact v3 _ _))
    | (refine Imp.no ?_; omega)
    | exact Imp.refl _)) : p := h.go k
theorem runB {qq p : Prop} (k : qq) (h : Imp qq p := by
  repeat' (first
    | ((with_reducible apply im_go_seq))
    | ((with_reducible apply im_go_q); (· exact evS); (· rfl))
    | ((with_reducible apply im_go_nil))
    | ((with_reducible apply im_go_region); (· exact tabOK); (· first | (simp only [List.append_eq, List.cons_append, List.nil_append]; rfl) | rfl))
    | ((with_reducible apply im_go_skip))
    | ((with_reducible apply im_go_condT); (· rfl))
    | ((with_reducible apply im_go_condF); (· rfl))
    | ((with_reducible apply im_go_condDT); (· rfl); (· assumption))
    | ((with_reducible apply im_go_condDF); (· rfl); (· assumption))
    | ((with_reducible apply im_go_condD); (· rfl); (intro hb); (rotate_left); (intro hb); (rotate_right))
    | ((with_reducible apply im_go_condB); (· rfl); (intro hb); (rotate_left); (intro hb); (rotate_right))
    | ((with_reducible apply im_go_blk))
    | ((with_reducible apply im_go_exit); (· rfl))
    | ((with_reducible apply im_go_l); (· exact evS); (· rfl))
    | ((with_reducible apply im_go_l0); (· exact evS))
    | ((with_reducible apply im_go_gRun); (· rfl); (· rfl))
    | ((with_reducible apply im_go_gSkip); (· rfl); (· rfl); (· rfl); (· rfl); (· rfl))
    | ((with_reducible apply im_go_gSkip0); (· rfl); (· rfl); (· rfl); (· rfl))
    | ((with_reducible apply im_go_gD); (· rfl); (· rfl); (· rfl); (intro hb); (rotate_left); (intro hb); (rotate_right))
    | ((with_reducible apply im_go_gB); (· rfl); (· rfl); (· rfl); (intro hb); (rotate_left); (intro hb); (rotate_right))
    | ((with_reducible apply im_go_q0); (· exact evS))
    | ((with_reducible apply im_go_nilE); (· exact evS); (· exact evS); (· exact evS); (· exact evS); (· rfl); (intro hb); (rotate_left); (intro hb); (rotate_right))
    | ((with_reducible apply im_go_nilN); (· exact evS); (· exact evS); (· exact evS); (· exact evS); (· rfl); (intro hb); (rotate_left); (intro hb); (rotate_right))
    | ((with_reducible apply im_go_draw); (· exact tabOK); (· exact mixOK); (· first | (simp only [List.append_eq, List.cons_append, List.nil_append]; rfl) | rfl); (· kernel_rfl))
    | ((with_reducible apply im_dr_s); (· rfl); (· simp only [Nat.reduceAdd]; rfl))
    | ((with_reducible apply im_sg_q); (· exact evS))
    | ((with_reducible apply im_sg_run); (· rfl); (· rfl); (· exact evS))
    | ((with_reducible apply im_sg_skip); (· rfl); (· rfl); (· rfl); (· rfl))
    | ((with_reducible apply im_sg_D); (· rfl); (· rfl); (intro hb); (rotate_left); (intro hb); (rotate_right))
    | ((with_reducible apply im_sg_B); (· rfl); (· rfl); (intro hb); (rotate_left); (intro hb); (rotate_right))
    | ((with_reducible apply im_dr_adv2); (· rfl); (· simp only [Nat.reduceAdd]; rfl))
    | ((with_reducible apply im_dr_done); (· rfl))
    | ((with_reducible apply im_dr_so); (· rfl); (· rfl))
    | ((with_reducible apply im_dr_L1); (· rfl); (· rfl); (· rfl))
    | ((with_reducible apply im_dr_L2); (· rfl); (· rfl); (· rfl); (· rfl))
    | ((with_reducible apply im_ld_go))
    | ((with_reducible apply im_ld_run); (· rfl); (· rfl))
    | ((with_reducible apply im_ld_skip); (· rfl); (· rfl); (· rfl); (· rfl))
    | ((with_reducible apply im_ld_D); (· rfl); (· rfl); (intro hb); (rotate_left); (intro hb); (rotate_right))
    | ((with_reducible apply im_ld_B); (· rfl); (· rfl); (intro hb); (rotate_left); (intro hb); (rotate_right))
    | ((with_reducible apply im_xg_l); (· exact evS))
    | ((with_reducible apply im_xg_q); (· exact evS))
    | ((with_reducible apply im_ag_mkS); (· conv => lhs; reduce); (· exact agS))
    | ((with_reducible apply im_ag_mkN); (· conv => lhs; reduce); (· exact agS))
    | ((with_reducible apply im_go_label))
    | ((with_reducible apply im_go_pred))
    | ((with_reducible apply im_go_ret); (· exact evS))
    | ((with_reducible apply im_go_end); (· exact evS))
    | ((with_reducible apply im_callE); (· first | exact c1 | exact c1 _ | exact c2 | exact c2 _ | exact c3 | exact c3 _ | exact c4 | exact c4 _ | exact c5 | exact c5 _ | exact c6 | exact c6 _); (· exact evS); (· rfl))
    | ((with_reducible apply im_callE2); (· exact evS); (· first | exact c1 | exact c1 _ | exact c1 _ _ | exact c1 _ _ _ | exact c2 | exact c2 _ | exact c2 _ _ | exact c2 _ _ _ | exact c3 | exact c3 _ | exact c3 _ _ | exact c3 _ _ _ | exact c4 | exact c4 _ | exact c4 _ _ | exact c4 _ _ _ | exact c5 | exact c5 _ | exact c5 _ _ | exact c5 _ _ _ | exact c6 | exact c6 _ | exact c6 _ _ | exact c6 _ _ _); (· rfl))
    | ((with_reducible apply im_xcallE2); (· exact evS); (· first | exact c1 | exact c1 _ | exact c1 _ _ | exact c1 _ _ _ | exact c2 | exact c2 _ | exact c2 _ _ | exact c2 _ _ _ | exact c3 | exact c3 _ | exact c3 _ _ | exact c3 _ _ _ | exact c4 | exact c4 _ | exact c4 _ _ | exact c4 _ _ _ | exact c5 | exact c5 _ | exact c5 _ _ | exact c5 _ _ _ | exact c6 | exact c6 _ | exact c6 _ _ | exact c6 _ _ _))
    | ((with_reducible apply im_xcallE); (· first | exact c1 | exact c1 _ | exact c2 | exact c2 _ | exact c3 | exact c3 _ | exact c4 | exact c4 _ | exact c5 | exact c5 _ | exact c6 | exact c6 _); (· exact evS))
    | ((with_reducible apply im_callC); (· exact evS); (· exact evS); (· first | exact v1 | exact v1 _ | exact v1 _ _ | exact v2 | exact v2 _ | exact v2 _ _ | exact v3 | exact v3 _ | exact v3 _ _); (· rfl))
    | ((with_reducible apply im_xcallC); (· exact evS); (· exact evS); (· first | exact v1 | exact v1 _ | exact v1 _ _ | exact v2 | exact v2 _ | exact v2 _ _ | exact v3 | exact v3 _ | exact v3 _ _))
    | (refine Imp.no ?_; omega)
    | exact Imp.refl _)) : p := h.go k
theorem runD {qq p : Prop} (k : qq) (h : Imp qq p := by
  repeat' (first
    | ((with_reducible apply im_go_seq))
    | ((with_reducible apply im_go_q); (· exact evS); (· rfl))
    | ((with_reducible apply im_go_nil))
    | ((with_reducible apply im_go_region); (· exact tabOK); (· first | (simp only [List.append_eq, List.cons_append, List.nil_append]; rfl) | rfl))
    | ((with_reducible apply im_go_skip))
    | ((with_reducible apply im_go_condT); (· rfl))
    | ((with_reducible apply im_go_condF); (· rfl))
    | ((with_reducible apply im_go_condDT); (· rfl); (· assumption))
    | ((with_reducible apply im_go_condDF); (· rfl); (· assumption))
    | ((with_reducible apply im_go_condD); (· rfl); (intro hb); (rotate_left); (intro hb); (rotate_right))
    | ((with_reducible apply im_go_condB); (· rfl); (intro hb); (rotate_left); (intro hb); (rotate_right))
    | ((with_reducible apply im_go_block))
    | ((with_reducible apply im_go_blk))
    | ((with_reducible apply im_go_exit); (· rfl))
    | ((with_reducible apply im_go_l); (· exact evS); (· rfl))
    | ((with_reducible apply im_go_l0); (· exact evS))
    | ((with_reducible apply im_go_gRun); (· rfl); (· rfl))
    | ((with_reducible apply im_go_gSkip); (· rfl); (· rfl); (· rfl); (· rfl); (· rfl))
    | ((with_reducible apply im_go_gSkip0); (· rfl); (· rfl); (· rfl); (· rfl))
    | ((with_reducible apply im_go_gM1); (· rfl); (· rfl); (· exact evS1); (· rfl))
    | ((with_reducible apply im_go_gM2); (· rfl); (· rfl); (· exact evS2); (· rfl))
    | ((with_reducible apply im_go_gM3); (· rfl); (· rfl); (· exact evS3); (· rfl))
    | ((with_reducible apply im_go_gX); (· rfl); (· rfl); (· rfl); (intro hb); (try simp only [hb]); (try simp only [gv_tt, gv_ff, gv_tf, gv_ft, Bool.true_and, Bool.false_and, Bool.true_or, Bool.false_or, pk_true, pk_false]); (rotate_left); (intro hb); (try simp only [hb]); (try simp only [gv_tt, gv_ff, gv_tf, gv_ft, Bool.true_and, Bool.false_and, Bool.true_or, Bool.false_or, pk_true, pk_false]); (rotate_right))
    | ((with_reducible apply im_go_gD); (· rfl); (· rfl); (· rfl); (intro hb); (rotate_left); (intro hb); (rotate_right))
    | ((with_reducible apply im_go_gB); (· rfl); (· rfl); (· rfl); (intro hb); (rotate_left); (intro hb); (rotate_right))
    | ((with_reducible apply im_go_q0); (· exact evS))
    | ((with_reducible apply im_go_nilE); (· exact evS); (· exact evS); (· exact evS); (· exact evS); (· rfl); (intro hb); (rotate_left); (intro hb); (rotate_right))
    | ((with_reducible apply im_go_nilN); (· exact evS); (· exact evS); (· exact evS); (· exact evS); (· rfl); (intro hb); (rotate_left); (intro hb); (rotate_right))
    | ((with_reducible apply im_dr_s); (· rfl); (· simp only [Nat.reduceAdd]; rfl))
    | ((with_reducible apply im_sg_q); (· exact evS))
    | ((with_reducible apply im_sg_run); (· rfl); (· rfl); (· exact evS))
    | ((with_reducible apply im_sg_skip); (· rfl); (· rfl); (· rfl); (· rfl))
    | ((with_reducible apply im_sg_M1); (· rfl); (· rfl); (· exact evS1))
    | ((with_reducible apply im_sg_M2); (· rfl); (· rfl); (· exact evS2))
    | ((with_reducible apply im_sg_M3); (· rfl); (· rfl); (· exact evS3))
    | ((with_reducible apply im_sg_D); (· rfl); (· rfl); (intro hb); (rotate_left); (intro hb); (rotate_right))
    | ((with_reducible apply im_sg_B); (· rfl); (· rfl); (intro hb); (rotate_left); (intro hb); (rotate_right))
    | ((with_reducible apply im_dr_adv2); (· rfl); (· simp only [Nat.reduceAdd]; rfl))
    | ((with_reducible apply im_dr_done); (· rfl))
    | ((with_reducible apply im_dr_so); (· rfl); (· rfl))
    | ((with_reducible apply im_dr_L1); (· rfl); (· rfl); (· rfl))
    | ((with_reducible apply im_dr_L2); (· rfl); (· rfl); (· rfl); (· rfl))
    | ((with_reducible apply im_ld_go))
    | ((with_reducible apply im_ld_run); (· rfl); (· rfl))
    | ((with_reducible apply im_ld_skip); (· rfl); (· rfl); (· rfl); (· rfl))
    | ((with_reducible apply im_ld_X); (· rfl); (· rfl); (intro hb); (try simp only [hb]); (try simp only [gv_tt, gv_ff, gv_tf, gv_ft, Bool.true_and, Bool.false_and, Bool.true_or, Bool.false_or, pk_true, pk_false]); (rotate_left); (intro hb); (try simp only [hb]); (try simp only [gv_tt, gv_ff, gv_tf, gv_ft, Bool.true_and, Bool.false_and, Bool.true_or, Bool.false_or, pk_true, pk_false]); (rotate_right))
    | ((with_reducible apply im_ld_D); (· rfl); (· rfl); (intro hb); (rotate_left); (intro hb); (rotate_right))
    | ((with_reducible apply im_ld_B); (· rfl); (· rfl); (intro hb); (rotate_left); (intro hb); (rotate_right))
    | ((with_reducible apply im_xg_l); (· exact evS))
    | ((with_reducible apply im_xg_q); (· exact evS))
    | ((with_reducible apply im_ag_mkS); (· conv => lhs; reduce); (· exact agS))
    | ((with_reducible apply im_ag_mkN); (· conv => lhs; reduce); (· exact agS))
    | ((with_reducible apply im_go_label))
    | ((with_reducible apply im_go_pred))
    | ((with_reducible apply im_go_ret); (· exact evS))
    | ((with_reducible apply im_go_end); (· exact evS))
    | ((with_reducible apply im_callE); (· first | exact c1 | exact c1 _ | exact c2 | exact c2 _ | exact c3 | exact c3 _ | exact c4 | exact c4 _ | exact c5 | exact c5 _ | exact c6 | exact c6 _); (· exact evS); (· rfl))
    | ((with_reducible apply im_callE2); (· exact evS); (· first | exact c1 | exact c1 _ | exact c1 _ _ | exact c1 _ _ _ | exact c2 | exact c2 _ | exact c2 _ _ | exact c2 _ _ _ | exact c3 | exact c3 _ | exact c3 _ _ | exact c3 _ _ _ | exact c4 | exact c4 _ | exact c4 _ _ | exact c4 _ _ _ | exact c5 | exact c5 _ | exact c5 _ _ | exact c5 _ _ _ | exact c6 | exact c6 _ | exact c6 _ _ | exact c6 _ _ _); (· rfl))
    | ((with_reducible apply im_xcallE2); (· exact evS); (· first | exact c1 | exact c1 _ | exact c1 _ _ | exact c1 _ _ _ | exact c2 | exact c2 _ | exact c2 _ _ | exact c2 _ _ _ | exact c3 | exact c3 _ | exact c3 _ _ | exact c3 _ _ _ | exact c4 | exact c4 _ | exact c4 _ _ | exact c4 _ _ _ | exact c5 | exact c5 _ | exact c5 _ _ | exact c5 _ _ _ | exact c6 | exact c6 _ | exact c6 _ _ | exact c6 _ _ _))
    | ((with_reducible apply im_xcallE); (· first | exact c1 | exact c1 _ | exact c2 | exact c2 _ | exact c3 | exact c3 _ | exact c4 | exact c4 _ | exact c5 | exact c5 _ | exact c6 | exact c6 _); (· exact evS))
    | ((with_reducible apply im_callC); (· exact evS); (· exact evS); (· first | exact v1 | exact v1 _ | exact v1 _ _ | exact v2 | exact v2 _ | exact v2 _ _ | exact v3 | exact v3 _ | exact v3 _ _); (· rfl))
    | ((with_reducible apply im_xcallC); (· exact evS); (· exact evS); (· first | exact v1 | exact v1 _ | exact v1 _ _ | exact v2 | exact v2 _ | exact v2 _ _ | exact v3 | exact v3 _ | exact v3 _ _))
    | (refine Imp.no ?_; omega)
    | exact Imp.refl _)) : p := h.go k
theorem runC {qq p : Prop} (k : qq) (h : Imp qq p := by
  repeat' (first
    | ((with_reducible apply im_go_seq))
    | ((with_reducible apply im_go_q); (· exact evS); (· rfl))
    | ((with_reducible apply im_go_nil))
    | ((with_reducible apply im_go_region); (· exact tabOK); (· first | (simp only [List.append_eq, List.cons_append, List.nil_append]; rfl) | rfl))
    | ((with_reducible apply im_go_skip))
    | ((with_reducible apply im_go_block))
    | ((with_reducible apply im_go_blk))
    | ((with_reducible apply im_go_exit); (· rfl))
    | ((with_reducible apply im_go_l); (· exact evS); (· rfl))
    | ((with_reducible apply im_go_l0); (· exact evS))
    | ((with_reducible apply im_go_gRun); (· rfl); (· rfl))
    | ((with_reducible apply im_go_gSkip); (· rfl); (· rfl); (· rfl); (· rfl); (· rfl))
    | ((with_reducible apply im_go_gSkip0); (· rfl); (· rfl); (· rfl); (· rfl))
    | ((with_reducible apply im_go_gM1); (· rfl); (· rfl); (· exact evS1); (· rfl))
    | ((with_reducible apply im_go_gM2); (· rfl); (· rfl); (· exact evS2); (· rfl))
    | ((with_reducible apply im_go_gM3); (· rfl); (· rfl); (· exact evS3); (· rfl))
    | ((with_reducible apply im_go_gX); (· rfl); (· rfl); (· rfl); (intro hb); (try simp only [hb]); (try simp only [gv_tt, gv_ff, gv_tf, gv_ft, Bool.true_and, Bool.false_and, Bool.true_or, Bool.false_or, pk_true, pk_false]); (rotate_left); (intro hb); (try simp only [hb]); (try simp only [gv_tt, gv_ff, gv_tf, gv_ft, Bool.true_and, Bool.false_and, Bool.true_or, Bool.false_or, pk_true, pk_false]); (rotate_right))
    | ((with_reducible apply im_go_gD); (· rfl); (· rfl); (· rfl); (intro hb); (rotate_left); (intro hb); (rotate_right))
    | ((with_reducible apply im_go_gB); (· rfl); (· rfl); (· rfl); (intro hb); (rotate_left); (intro hb); (rotate_right))
    | ((with_reducible apply im_go_q0); (· exact evS))
    | ((with_reducible apply im_go_nilE); (· exact evS); (· exact evS); (· exact evS); (· exact evS); (· rfl); (intro hb); (rotate_left); (intro hb); (rotate_right))
    | ((with_reducible apply im_go_nilN); (· exact evS); (· exact evS); (· exact evS); (· exact evS); (· rfl); (intro hb); (rotate_left); (intro hb); (rotate_right))
    | ((with_reducible apply im_go_draw); (· exact tabOK); (· exact mixOK); (· first | (simp only [List.append_eq, List.cons_append, List.nil_append]; rfl) | rfl); (· kernel_rfl))
    | ((with_reducible apply im_dr_s); (· rfl); (· simp only [Nat.reduceAdd]; rfl))
    | ((with_reducible apply im_sg_q); (· exact evS))
    | ((with_reducible apply im_sg_run); (· rfl); (· rfl); (· exact evS))
    | ((with_reducible apply im_sg_skip); (· rfl); (· rfl); (· rfl); (· rfl))
    | ((with_reducible apply im_sg_M1); (· rfl); (· rfl); (· exact evS1))
    | ((with_reducible apply im_sg_M2); (· rfl); (· rfl); (· exact evS2))
    | ((with_reducible apply im_sg_M3); (· rfl); (· rfl); (· exact evS3))
    | ((with_reducible apply im_sg_D); (· rfl); (· rfl); (intro hb); (rotate_left); (intro hb); (rotate_right))
    | ((with_reducible apply im_sg_B); (· rfl); (· rfl); (intro hb); (rotate_left); (intro hb); (rotate_right))
    | ((with_reducible apply im_dr_adv2); (· rfl); (· simp only [Nat.reduceAdd]; rfl))
    | ((with_reducible apply im_dr_done); (· rfl))
    | ((with_reducible apply im_dr_so); (· rfl); (· rfl))
    | ((with_reducible apply im_dr_L1); (· rfl); (· rfl); (· rfl))
    | ((with_reducible apply im_dr_L2); (· rfl); (· rfl); (· rfl); (· rfl))
    | ((with_reducible apply im_ld_go))
    | ((with_reducible apply im_ld_run); (· rfl); (· rfl))
    | ((with_reducible apply im_ld_skip); (· rfl); (· rfl); (· rfl); (· rfl))
    | ((with_reducible apply im_ld_X); (· rfl); (· rfl); (intro hb); (try simp only [hb]); (try simp only [gv_tt, gv_ff, gv_tf, gv_ft, Bool.true_and, Bool.false_and, Bool.true_or, Bool.false_or, pk_true, pk_false]); (rotate_left); (intro hb); (try simp only [hb]); (try simp only [gv_tt, gv_ff, gv_tf, gv_ft, Bool.true_and, Bool.false_and, Bool.true_or, Bool.false_or, pk_true, pk_false]); (rotate_right))
    | ((with_reducible apply im_ld_D); (· rfl); (· rfl); (intro hb); (rotate_left); (intro hb); (rotate_right))
    | ((with_reducible apply im_ld_B); (· rfl); (· rfl); (intro hb); (rotate_left); (intro hb); (rotate_right))
    | ((with_reducible apply im_xg_l); (· exact evS))
    | ((with_reducible apply im_xg_q); (· exact evS))
    | ((with_reducible apply im_ag_mkS); (· conv => lhs; reduce); (· exact agS))
    | ((with_reducible apply im_ag_mkN); (· conv => lhs; reduce); (· exact agS))
    | ((with_reducible apply im_go_label))
    | ((with_reducible apply im_go_pred))
    | ((with_reducible apply im_go_ret); (· exact evS))
    | ((with_reducible apply im_go_end); (· exact evS))
    | ((with_reducible apply im_callE); (· first | exact c1 | exact c1 _ | exact c2 | exact c2 _ | exact c3 | exact c3 _ | exact c4 | exact c4 _ | exact c5 | exact c5 _ | exact c6 | exact c6 _); (· exact evS); (· rfl))
    | ((with_reducible apply im_callE2); (· exact evS); (· first | exact c1 | exact c1 _ | exact c1 _ _ | exact c1 _ _ _ | exact c2 | exact c2 _ | exact c2 _ _ | exact c2 _ _ _ | exact c3 | exact c3 _ | exact c3 _ _ | exact c3 _ _ _ | exact c4 | exact c4 _ | exact c4 _ _ | exact c4 _ _ _ | exact c5 | exact c5 _ | exact c5 _ _ | exact c5 _ _ _ | exact c6 | exact c6 _ | exact c6 _ _ | exact c6 _ _ _); (· rfl))
    | ((with_reducible apply im_xcallE2); (· exact evS); (· first | exact c1 | exact c1 _ | exact c1 _ _ | exact c1 _ _ _ | exact c2 | exact c2 _ | exact c2 _ _ | exact c2 _ _ _ | exact c3 | exact c3 _ | exact c3 _ _ | exact c3 _ _ _ | exact c4 | exact c4 _ | exact c4 _ _ | exact c4 _ _ _ | exact c5 | exact c5 _ | exact c5 _ _ | exact c5 _ _ _ | exact c6 | exact c6 _ | exact c6 _ _ | exact c6 _ _ _))
    | ((with_reducible apply im_xcallE); (· first | exact c1 | exact c1 _ | exact c2 | exact c2 _ | exact c3 | exact c3 _ | exact c4 | exact c4 _ | exact c5 | exact c5 _ | exact c6 | exact c6 _); (· exact evS))
    | ((with_reducible apply im_callC); (· exact evS); (· exact evS); (· first | exact v1 | exact v1 _ | exact v1 _ _ | exact v2 | exact v2 _ | exact v2 _ _ | exact v3 | exact v3 _ | exact v3 _ _); (· rfl))
    | ((with_reducible apply im_xcallC); (· exact evS); (· exact evS); (· first | exact v1 | exact v1 _ | exact v1 _ _ | exact v2 | exact v2 _ | exact v2 _ _ | exact v3 | exact v3 _ | exact v3 _ _))
    | (refine Imp.no ?_; omega)
    | exact Imp.refl _)) : p := h.go k
section
variable {P : Program} {G : Gl} {T : Tab} {own : List Nat} {nt B : Nat} {ρ : Option Nat} {C : Cx} {rs : List ResultVar} {R : SV → List Blk → Prop} {env env2 : Env} {H X KB : List Blk} {k : List It}
theorem wkS (ks : Keep) {n0 : Nat} (hG : GClosed G) (hB : Based G C.H.length) (hC : C.H.length = n0) (hcl : closed H) (hn : H.length = n0 := by first | rfl | (simp; done) | exact hlen _) (hk : KeepB (H ++ X) n0 ks ks KB := by exact frzS) (hd : (ks.map (·.1)).Nodup := by first | rfl | decide | simp) (he : subEnvF (H ++ X) n0 ks env2 env := by exact frzS) : Wk G nt C ⟨env, H ++ X⟩ ⟨env2, H ++ KB⟩ := Wk.keepN ks hG hB hn hC hcl hk hd he
variable {all r : List Oper} {ty d j dj : Nat} {op : Op} {pos : String} {after : Array Edge} {v : SV} {want : Bool} {dst : Option Nat} {kk : SV → List Blk → Prop}
variable {R' : SV → List Blk → Prop} {xs : List SV} {f : Operand} {fv : SV} {args : Array Operand} {tys : Array Nat} {g : FuncId}
theorem callS (hc : ACall P G g xs H R') (hk : ∀ x H', R' x H' → (Out P G T own nt ρ C rs R) (.ops all r :: k) .normal ((d, x) :: env) H') (h2 : evs G env args.toList = some xs := by exact evS) (hd : Nat.blt d nt = true := by rfl) : (Out P G T own nt ρ C rs R) (.ops all (⟨some d, .call ⟨.value (.func g), args, tys⟩, ty, pos, after, none⟩ :: r) :: k) .normal env H := go_call h2 hd hc hk
theorem callS0 (hc : ACall P G g xs H R') (hk : ∀ x H', R' x H' → (Out P G T own nt ρ C rs R) (.ops all r :: k) .normal env H') (h2 : evs G env args.toList = some xs := by exact evS) : (Out P G T own nt ρ C rs R) (.ops all (⟨none, .call ⟨.value (.func g), args, tys⟩, ty, pos, after, none⟩ :: r) :: k) .normal env H := go_call0 h2 hc hk
theorem callV (hc : ACallV P G fv xs H R') (hk : ∀ x H', R' x H' → (Out P G T own nt ρ C rs R) (.ops all r :: k) .normal ((d, x) :: env) H') (h1 : ev G env f = some fv := by exact evS) (h2 : evs G env args.toList = some xs := by exact evS) (hd : Nat.blt d nt = true := by rfl) : (Out P G T own nt ρ C rs R) (.ops all (⟨some d, .call ⟨.value f, args, tys⟩, ty, pos, after, none⟩ :: r) :: k) .normal env H := go_callV h1 h2 hd hc hk
theorem callV0 (hc : ACallV P G fv xs H R') (hk : ∀ x H', R' x H' → (Out P G T own nt ρ C rs R) (.ops all r :: k) .normal env H') (h1 : ev G env f = some fv := by exact evS) (h2 : evs G env args.toList = some xs := by exact evS) : (Out P G T own nt ρ C rs R) (.ops all (⟨none, .call ⟨.value f, args, tys⟩, ty, pos, after, none⟩ :: r) :: k) .normal env H := go_callV0 h1 h2 hc hk
theorem xcallS (hc : ACall P G g xs H R') (hk : ∀ x H', R' x H' → kk x H') (h2 : evs G env args.toList = some xs := by exact evS) : exG P G T own all ⟨dst, .call ⟨.value (.func g), args, tys⟩, ty, pos, after, none⟩ env H kk := xg_call h2 hc hk
theorem finS {R0 : SV → List Blk → Prop} {n0 : Nat} (hR : Back (∀ y H', R0 y H' → R y H')) (hC : C.H.length = n0) (hcl : closed H) {x y : SV} (hx : Frz (H ++ X) n0 [] x y) (h : R0 y H) (hn : H.length = n0 := by first | rfl | (simp; done) | exact hlen _) : Fin C (H ++ X) x R := Fin.tellN hR hn hC hcl hx h
theorem finK (ks : Keep) {R0 : SV → List Blk → Prop} {n0 : Nat} (y : SV) (KB : List Blk) (hR : Back (∀ y H', R0 y H' → R y H')) (hC : C.H.length = n0) (hcl : closed H) {x : SV} (h : R0 y (H ++ KB)) (hk : KeepB (H ++ X) n0 ks ks KB := by exact frzS) (hd : (ks.map (·.1)).Nodup := by first | rfl | decide | simp) (hx : Frz (H ++ X) n0 ks x y := by exact frzS) (hn : H.length = n0 := by first | rfl | (simp; done) | exact hlen _) : Fin C (H ++ X) x R := Fin.keepN ks hR hn hC hcl hk hd hx h
end
end Go.Proofs.YtehfihnfeakmaaaGreatDoor
end

section
/- The table of this translation's data types (printed by gentab.py). -/
namespace Go.Proofs.YtehfihnfeakmaaaGreatDoor
open Go
set_option linter.unusedVariables false

def tI (d : TD) (s b : Nat) (z : SV) : TI := ⟨d, s, b, z⟩

def t2 : TI := ⟨.int .i64, 1, 8, .int .i64 0⟩
def t3 : TI := ⟨.int .i64, 1, 8, .int .i64 0⟩
def t4 : TI := ⟨.bool, 1, 1, .bool false⟩
def t5 : TI := ⟨.int .u8, 1, 1, .int .u8 0⟩
def t9 : TI := ⟨.str, 1, 16, .str []⟩
def t21 : TI := ⟨.int .i32, 1, 4, .int .i32 0⟩
def t22 : TI := ⟨.slice 76, 1, 24, .nil⟩
def t23 : TI := ⟨.slice 54, 1, 24, .nil⟩
def t24 : TI := ⟨.struct [(0, 22), (1, 23)] false, 2, 48, .agg [.nil, .nil]⟩
def t25 : TI := ⟨.struct [(0, 22), (1, 23)] false, 2, 48, .agg [.nil, .nil]⟩
def t26 : TI := ⟨.func, 1, 8, .nilfn⟩
def t27 : TI := ⟨.func, 1, 8, .nilfn⟩
def t28 : TI := ⟨.slice 50, 1, 24, .nil⟩
def t29 : TI := ⟨.int .i64, 1, 8, .int .i64 0⟩
def t31 : TI := ⟨.func, 1, 8, .nilfn⟩
def t33 : TI := ⟨.func, 1, 8, .nilfn⟩
def t34 : TI := ⟨.func, 1, 8, .nilfn⟩
def t35 : TI := ⟨.func, 1, 8, .nilfn⟩
def t36 : TI := ⟨.slice 9, 1, 24, .nil⟩
def t37 : TI := ⟨.slice 40, 1, 24, .nil⟩
def t38 : TI := ⟨.slice 60, 1, 24, .nil⟩
def t39 : TI := ⟨.struct [(0, 3), (1, 9), (2, 3), (3, 3), (4, 36), (5, 37), (6, 23), (7, 38)] false, 8, 136, .agg [.int .i64 0, .str [], .int .i64 0, .int .i64 0, .nil, .nil, .nil, .nil]⟩
def t40 : TI := ⟨.struct [(0, 3), (1, 9), (2, 3), (3, 3), (4, 36), (5, 37), (6, 23), (7, 38)] false, 8, 136, .agg [.int .i64 0, .str [], .int .i64 0, .int .i64 0, .list 1 [], .list 8 [], .list 9 [], .list 12 []]⟩
def t42 : TI := ⟨.func, 1, 8, .nilfn⟩
def t43 : TI := ⟨.func, 1, 8, .nilfn⟩
def t44 : TI := ⟨.func, 1, 8, .nilfn⟩
def t45 : TI := ⟨.func, 1, 8, .nilfn⟩
def t46 : TI := ⟨.func, 1, 8, .nilfn⟩
def t47 : TI := ⟨.func, 1, 8, .nilfn⟩
def t48 : TI := ⟨.slice 3, 1, 24, .nil⟩
def t49 : TI := ⟨.struct [(0, 9), (1, 3), (2, 48)] false, 3, 48, .agg [.str [], .int .i64 0, .nil]⟩
def t50 : TI := ⟨.struct [(0, 9), (1, 3), (2, 48)] false, 3, 48, .agg [.str [], .int .i64 0, .list 1 []]⟩
def t51 : TI := ⟨.func, 1, 8, .nilfn⟩
def t52 : TI := ⟨.func, 1, 8, .nilfn⟩
def t53 : TI := ⟨.struct [(0, 9), (1, 40)] false, 9, 152, .agg [.str [], .int .i64 0, .str [], .int .i64 0, .int .i64 0, .nil, .nil, .nil, .nil]⟩
def t54 : TI := ⟨.struct [(0, 9), (1, 40)] false, 9, 152, .agg [.str [], .int .i64 0, .str [], .int .i64 0, .int .i64 0, .list 1 [], .list 8 [], .list 9 [], .list 12 []]⟩
def t55 : TI := ⟨.func, 1, 8, .nilfn⟩
def t56 : TI := ⟨.func, 1, 8, .nilfn⟩
def t57 : TI := ⟨.func, 1, 8, .nilfn⟩
def t58 : TI := ⟨.func, 1, 8, .nilfn⟩
def t59 : TI := ⟨.struct [(0, 3), (1, 9), (2, 3), (3, 36), (4, 40)] false, 12, 192, .agg [.int .i64 0, .str [], .int .i64 0, .nil, .int .i64 0, .str [], .int .i64 0, .int .i64 0, .nil, .nil, .nil, .nil]⟩
def t60 : TI := ⟨.struct [(0, 3), (1, 9), (2, 3), (3, 36), (4, 40)] false, 12, 192, .agg [.int .i64 0, .str [], .int .i64 0, .list 1 [], .int .i64 0, .str [], .int .i64 0, .int .i64 0, .list 1 [], .list 8 [], .list 9 [], .list 12 []]⟩
def t61 : TI := ⟨.func, 1, 8, .nilfn⟩
def t62 : TI := ⟨.map 9 40, 1, 8, .nilmap⟩
def t63 : TI := ⟨.map 9 50, 1, 8, .nilmap⟩
def t64 : TI := ⟨.map 9 50, 1, 8, .nilmap⟩
def t65 : TI := ⟨.func, 1, 8, .nilfn⟩
def t66 : TI := ⟨.slice 9, 1, 24, .nil⟩
def t67 : TI := ⟨.func, 1, 8, .nilfn⟩
def t68 : TI := ⟨.func, 1, 8, .nilfn⟩
def t69 : TI := ⟨.func, 1, 8, .nilfn⟩
def t70 : TI := ⟨.func, 1, 8, .nilfn⟩
def t71 : TI := ⟨.ptr 73, 1, 8, .nilptr⟩
def t72 : TI := ⟨.struct [(0, 64), (1, 3)] false, 2, 16, .agg [.nilmap, .int .i64 0]⟩
def t73 : TI := ⟨.struct [(0, 64), (1, 3)] false, 2, 16, .agg [.nilmap, .int .i64 0]⟩
def t74 : TI := ⟨.func, 1, 8, .nilfn⟩
def t75 : TI := ⟨.struct [(0, 9), (1, 3), (2, 3), (3, 3)] true, 4, 40, .agg [.str [], .int .i64 0, .int .i64 0, .int .i64 0]⟩
def t76 : TI := ⟨.struct [(0, 9), (1, 3), (2, 3), (3, 3)] true, 4, 40, .agg [.str [], .int .i64 0, .int .i64 0, .int .i64 0]⟩
def t77 : TI := ⟨.func, 1, 8, .nilfn⟩
def t78 : TI := ⟨.ptr 80, 1, 8, .nilptr⟩
def t79 : TI := ⟨.struct [(0, 3), (1, 28)] false, 2, 32, .agg [.int .i64 0, .nil]⟩
def t80 : TI := ⟨.struct [(0, 3), (1, 28)] false, 2, 32, .agg [.int .i64 0, .nil]⟩
def t81 : TI := ⟨.func, 1, 8, .nilfn⟩
def t82 : TI := ⟨.func, 1, 8, .nilfn⟩
def t83 : TI := ⟨.map 9 4, 1, 8, .nilmap⟩
def t84 : TI := ⟨.func, 1, 8, .nilfn⟩
def t85 : TI := ⟨.map 9 3, 1, 8, .nilmap⟩
def t86 : TI := ⟨.func, 1, 8, .nilfn⟩
def t87 : TI := ⟨.func, 1, 8, .nilfn⟩
def t88 : TI := ⟨.func, 1, 8, .nilfn⟩
def t89 : TI := ⟨.func, 1, 8, .nilfn⟩
def t90 : TI := ⟨.func, 1, 8, .nilfn⟩
def t91 : TI := ⟨.func, 1, 8, .nilfn⟩
def t92 : TI := ⟨.func, 1, 8, .nilfn⟩
def t93 : TI := ⟨.func, 1, 8, .nilfn⟩
def t94 : TI := ⟨.func, 1, 8, .nilfn⟩
def t95 : TI := ⟨.ptr 98, 1, 8, .nilptr⟩
def t96 : TI := ⟨.map 9 76, 1, 8, .nilmap⟩
def t97 : TI := ⟨.struct [(0, 96)] false, 1, 8, .agg [.nilmap]⟩
def t98 : TI := ⟨.struct [(0, 96)] false, 1, 8, .agg [.nilmap]⟩
def t99 : TI := ⟨.func, 1, 8, .nilfn⟩
def t100 : TI := ⟨.func, 1, 8, .nilfn⟩
def t101 : TI := ⟨.array 4 76, 16, 160, .agg [.str [], .int .i64 0, .int .i64 0, .int .i64 0, .str [], .int .i64 0, .int .i64 0, .int .i64 0, .str [], .int .i64 0, .int .i64 0, .int .i64 0, .str [], .int .i64 0, .int .i64 0, .int .i64 0]⟩
def t102 : TI := ⟨.func, 1, 8, .nilfn⟩
def t103 : TI := ⟨.func, 1, 8, .nilfn⟩
def t104 : TI := ⟨.func, 1, 8, .nilfn⟩
def t106 : TI := ⟨.func, 1, 8, .nilfn⟩
def t107 : TI := ⟨.func, 1, 8, .nilfn⟩
def t108 : TI := ⟨.func, 1, 8, .nilfn⟩
def t109 : TI := ⟨.func, 1, 8, .nilfn⟩
def t110 : TI := ⟨.func, 1, 8, .nilfn⟩
def t111 : TI := ⟨.func, 1, 8, .nilfn⟩
def t112 : TI := ⟨.func, 1, 8, .nilfn⟩
def t114 : TI := ⟨.func, 1, 8, .nilfn⟩
def t118 : TI := ⟨.func, 1, 8, .nilfn⟩
def t119 : TI := ⟨.func, 1, 8, .nilfn⟩
def t120 : TI := ⟨.func, 1, 8, .nilfn⟩
def t121 : TI := ⟨.func, 1, 8, .nilfn⟩
def t122 : TI := ⟨.func, 1, 8, .nilfn⟩
def t123 : TI := ⟨.func, 1, 8, .nilfn⟩
def t124 : TI := ⟨.func, 1, 8, .nilfn⟩
def t125 : TI := ⟨.func, 1, 8, .nilfn⟩
def t126 : TI := ⟨.func, 1, 8, .nilfn⟩
def t127 : TI := ⟨.func, 1, 8, .nilfn⟩
def t128 : TI := ⟨.func, 1, 8, .nilfn⟩
def t129 : TI := ⟨.func, 1, 8, .nilfn⟩
def t130 : TI := ⟨.func, 1, 8, .nilfn⟩
def t131 : TI := ⟨.func, 1, 8, .nilfn⟩
def t132 : TI := ⟨.func, 1, 8, .nilfn⟩
def t133 : TI := ⟨.func, 1, 8, .nilfn⟩
def t134 : TI := ⟨.func, 1, 8, .nilfn⟩
def t135 : TI := ⟨.int .u64, 1, 8, .int .u64 0⟩
def t136 : TI := ⟨.func, 1, 8, .nilfn⟩
def t137 : TI := ⟨.func, 1, 8, .nilfn⟩
def t138 : TI := ⟨.func, 1, 8, .nilfn⟩
def t140 : TI := ⟨.func, 1, 8, .nilfn⟩
def t141 : TI := ⟨.map 3 4, 1, 8, .nilmap⟩
def t142 : TI := ⟨.func, 1, 8, .nilfn⟩
def t143 : TI := ⟨.func, 1, 8, .nilfn⟩
def t144 : TI := ⟨.func, 1, 8, .nilfn⟩
def t146 : TI := ⟨.func, 1, 8, .nilfn⟩
def t147 : TI := ⟨.func, 1, 8, .nilfn⟩
def t148 : TI := ⟨.func, 1, 8, .nilfn⟩
def t149 : TI := ⟨.func, 1, 8, .nilfn⟩
def t150 : TI := ⟨.func, 1, 8, .nilfn⟩
def t151 : TI := ⟨.func, 1, 8, .nilfn⟩
def t152 : TI := ⟨.func, 1, 8, .nilfn⟩
def t153 : TI := ⟨.func, 1, 8, .nilfn⟩
def t154 : TI := ⟨.func, 1, 8, .nilfn⟩
def t155 : TI := ⟨.int .i64, 1, 8, .int .i64 0⟩
def t157 : TI := ⟨.func, 1, 8, .nilfn⟩
def t158 : TI := ⟨.func, 1, 8, .nilfn⟩
def t159 : TI := ⟨.func, 1, 8, .nilfn⟩
def t160 : TI := ⟨.func, 1, 8, .nilfn⟩
def t161 : TI := ⟨.func, 1, 8, .nilfn⟩
def t162 : TI := ⟨.func, 1, 8, .nilfn⟩
def t163 : TI := ⟨.int .u32, 1, 4, .int .u32 0⟩
def t164 : TI := ⟨.func, 1, 8, .nilfn⟩
def t165 : TI := ⟨.int .u64, 1, 8, .int .u64 0⟩
def t166 : TI := ⟨.func, 1, 8, .nilfn⟩
def t167 : TI := ⟨.func, 1, 8, .nilfn⟩
def t168 : TI := ⟨.func, 1, 8, .nilfn⟩
def t169 : TI := ⟨.func, 1, 8, .nilfn⟩
def t170 : TI := ⟨.int .i64, 1, 8, .int .i64 0⟩
def t171 : TI := ⟨.slice 5, 1, 24, .nil⟩
def t173 : TI := ⟨.func, 1, 8, .nilfn⟩
def t174 : TI := ⟨.ptr 190, 1, 8, .nilptr⟩
def t175 : TI := ⟨.func, 1, 8, .nilfn⟩
def t176 : TI := ⟨.func, 1, 8, .nilfn⟩
def t177 : TI := ⟨.func, 1, 8, .nilfn⟩
def t178 : TI := ⟨.func, 1, 8, .nilfn⟩
def t179 : TI := ⟨.int .u64, 1, 8, .int .u64 0⟩
def t180 : TI := ⟨.func, 1, 8, .nilfn⟩
def t181 : TI := ⟨.func, 1, 8, .nilfn⟩
def t182 : TI := ⟨.func, 1, 8, .nilfn⟩
def t183 : TI := ⟨.ptr 3, 1, 8, .nilptr⟩
def t184 : TI := ⟨.func, 1, 8, .nilfn⟩
def t185 : TI := ⟨.func, 1, 8, .nilfn⟩
def t187 : TI := ⟨.func, 1, 8, .nilfn⟩
def t188 : TI := ⟨.func, 1, 8, .nilfn⟩
def t191 : TI := ⟨.func, 1, 8, .nilfn⟩
def t192 : TI := ⟨.array 24 5, 24, 24, .agg [.int .u8 0, .int .u8 0, .int .u8 0, .int .u8 0, .int .u8 0, .int .u8 0, .int .u8 0, .int .u8 0, .int .u8 0, .int .u8 0, .int .u8 0, .int .u8 0, .int .u8 0, .int .u8 0, .int .u8 0, .int .u8 0, .int .u8 0, .int .u8 0, .int .u8 0, .int .u8 0, .int .u8 0, .int .u8 0, .int .u8 0, .int .u8 0]⟩
def t193 : TI := ⟨.func, 1, 8, .nilfn⟩
def t195 : TI := ⟨.func, 1, 8, .nilfn⟩
def t196 : TI := ⟨.ptr 179, 1, 8, .nilptr⟩
def t197 : TI := ⟨.func, 1, 8, .nilfn⟩
def t198 : TI := ⟨.func, 1, 8, .nilfn⟩
def t199 : TI := ⟨.ptr 5, 1, 8, .nilptr⟩
def t200 : TI := ⟨.ptr 202, 1, 8, .nilptr⟩
def t201 : TI := ⟨.struct [(0, 9)] true, 1, 16, .agg [.str []]⟩
def t202 : TI := ⟨.struct [(0, 9)] true, 1, 16, .agg [.str []]⟩
def t203 : TI := ⟨.func, 1, 8, .nilfn⟩
def t204 : TI := ⟨.array 20 165, 20, 160, .agg [.int .u64 0, .int .u64 0, .int .u64 0, .int .u64 0, .int .u64 0, .int .u64 0, .int .u64 0, .int .u64 0, .int .u64 0, .int .u64 0, .int .u64 0, .int .u64 0, .int .u64 0, .int .u64 0, .int .u64 0, .int .u64 0, .int .u64 0, .int .u64 0, .int .u64 0, .int .u64 0]⟩
def t205 : TI := ⟨.array 65 5, 65, 65, .agg [.int .u8 0, .int .u8 0, .int .u8 0, .int .u8 0, .int .u8 0, .int .u8 0, .int .u8 0, .int .u8 0, .int .u8 0, .int .u8 0, .int .u8 0, .int .u8 0, .int .u8 0, .int .u8 0, .int .u8 0, .int .u8 0, .int .u8 0, .int .u8 0, .int .u8 0, .int .u8 0, .int .u8 0, .int .u8 0, .int .u8 0, .int .u8 0, .int .u8 0, .int .u8 0, .int .u8 0, .int .u8 0, .int .u8 0, .int .u8 0, .int .u8 0, .int .u8 0, .int .u8 0, .int .u8 0, .int .u8 0, .int .u8 0, .int .u8 0, .int .u8 0, .int .u8 0, .int .u8 0, .int .u8 0, .int .u8 0, .int .u8 0, .int .u8 0, .int .u8 0, .int .u8 0, .int .u8 0, .int .u8 0, .int .u8 0, .int .u8 0, .int .u8 0, .int .u8 0, .int .u8 0, .int .u8 0, .int .u8 0, .int .u8 0, .int .u8 0, .int .u8 0, .int .u8 0, .int .u8 0, .int .u8 0, .int .u8 0, .int .u8 0, .int .u8 0, .int .u8 0]⟩
def t206 : TI := ⟨.array 32 5, 32, 32, .agg [.int .u8 0, .int .u8 0, .int .u8 0, .int .u8 0, .int .u8 0, .int .u8 0, .int .u8 0, .int .u8 0, .int .u8 0, .int .u8 0, .int .u8 0, .int .u8 0, .int .u8 0, .int .u8 0, .int .u8 0, .int .u8 0, .int .u8 0, .int .u8 0, .int .u8 0, .int .u8 0, .int .u8 0, .int .u8 0, .int .u8 0, .int .u8 0, .int .u8 0, .int .u8 0, .int .u8 0, .int .u8 0, .int .u8 0, .int .u8 0, .int .u8 0, .int .u8 0]⟩
def t207 : TI := ⟨.array 64 5, 64, 64, .agg [.int .u8 0, .int .u8 0, .int .u8 0, .int .u8 0, .int .u8 0, .int .u8 0, .int .u8 0, .int .u8 0, .int .u8 0, .int .u8 0, .int .u8 0, .int .u8 0, .int .u8 0, .int .u8 0, .int .u8 0, .int .u8 0, .int .u8 0, .int .u8 0, .int .u8 0, .int .u8 0, .int .u8 0, .int .u8 0, .int .u8 0, .int .u8 0, .int .u8 0, .int .u8 0, .int .u8 0, .int .u8 0, .int .u8 0, .int .u8 0, .int .u8 0, .int .u8 0, .int .u8 0, .int .u8 0, .int .u8 0, .int .u8 0, .int .u8 0, .int .u8 0, .int .u8 0, .int .u8 0, .int .u8 0, .int .u8 0, .int .u8 0, .int .u8 0, .int .u8 0, .int .u8 0, .int .u8 0, .int .u8 0, .int .u8 0, .int .u8 0, .int .u8 0, .int .u8 0, .int .u8 0, .int .u8 0, .int .u8 0, .int .u8 0, .int .u8 0, .int .u8 0, .int .u8 0, .int .u8 0, .int .u8 0, .int .u8 0, .int .u8 0, .int .u8 0]⟩
def t208 : TI := ⟨.func, 1, 8, .nilfn⟩
def t209 : TI := ⟨.struct [(0, 17), (1, 17), (2, 17), (3, 9)] false, 4, 40, .agg [.nilptr, .nilptr, .nilptr, .str []]⟩
def t210 : TI := ⟨.struct [(0, 17), (1, 17), (2, 17), (3, 9)] false, 4, 40, .agg [.nilptr, .nilptr, .nilptr, .str []]⟩
def t211 : TI := ⟨.array 0 16, 0, 0, .agg []⟩
def t212 : TI := ⟨.struct [(0, 211)] false, 0, 0, .agg []⟩
def t213 : TI := ⟨.struct [(0, 211)] false, 0, 0, .agg []⟩
def t214 : TI := ⟨.func, 1, 8, .nilfn⟩
def t215 : TI := ⟨.int .u8, 1, 1, .int .u8 0⟩
def t216 : TI := ⟨.int .u8, 1, 1, .int .u8 0⟩
def t217 : TI := ⟨.func, 1, 8, .nilfn⟩
def t218 : TI := ⟨.int .i32, 1, 4, .int .i32 0⟩
def t219 : TI := ⟨.int .i32, 1, 4, .int .i32 0⟩
def t220 : TI := ⟨.struct [(0, 12), (1, 12), (2, 163), (3, 215), (4, 5), (5, 5), (6, 216), (7, 217), (8, 199), (9, 218), (10, 219)] false, 11, 48, .agg [.int .u64 0, .int .u64 0, .int .u32 0, .int .u8 0, .int .u8 0, .int .u8 0, .int .u8 0, .nilfn, .nilptr, .int .i32 0, .int .i32 0]⟩
def t221 : TI := ⟨.struct [(0, 12), (1, 12), (2, 163), (3, 215), (4, 5), (5, 5), (6, 216), (7, 217), (8, 199), (9, 218), (10, 219)] false, 11, 48, .agg [.int .u64 0, .int .u64 0, .int .u32 0, .int .u8 0, .int .u8 0, .int .u8 0, .int .u8 0, .nilfn, .nilptr, .int .i32 0, .int .i32 0]⟩

def TB : Tab := [(2, t2), (3, t3), (4, t4), (5, t5), (9, t9), (21, t21), (22, t22), (23, t23), (24, t24), (25, t25), (26, t26), (27, t27), (28, t28), (29, t29), (31, t31), (33, t33), (34, t34), (35, t35), (36, t36), (37, t37), (38, t38), (39, t39), (40, t40), (42, t42), (43, t43), (44, t44), (45, t45), (46, t46), (47, t47), (48, t48), (49, t49), (50, t50), (51, t51), (52, t52), (53, t53), (54, t54), (55, t55), (56, t56), (57, t57), (58, t58), (59, t59), (60, t60), (61, t61), (62, t62), (63, t63), (64, t64), (65, t65), (66, t66), (67, t67), (68, t68), (69, t69), (70, t70), (71, t71), (72, t72), (73, t73), (74, t74), (75, t75), (76, t76), (77, t77), (78, t78), (79, t79), (80, t80), (81, t81), (82, t82), (83, t83), (84, t84), (85, t85), (86, t86), (87, t87), (88, t88), (89, t89), (90, t90), (91, t91), (92, t92), (93, t93), (94, t94), (95, t95), (96, t96), (97, t97), (98, t98), (99, t99), (100, t100), (101, t101), (102, t102), (103, t103), (104, t104), (106, t106), (107, t107), (108, t108), (109, t109), (110, t110), (111, t111), (112, t112), (114, t114), (118, t118), (119, t119), (120, t120), (121, t121), (122, t122), (123, t123), (124, t124), (125, t125), (126, t126), (127, t127), (128, t128), (129, t129), (130, t130), (131, t131), (132, t132), (133, t133), (134, t134), (135, t135), (136, t136), (137, t137), (138, t138), (140, t140), (141, t141), (142, t142), (143, t143), (144, t144), (146, t146), (147, t147), (148, t148), (149, t149), (150, t150), (151, t151), (152, t152), (153, t153), (154, t154), (155, t155), (157, t157), (158, t158), (159, t159), (160, t160), (161, t161), (162, t162), (163, t163), (164, t164), (165, t165), (166, t166), (167, t167), (168, t168), (169, t169), (170, t170), (171, t171), (173, t173), (174, t174), (175, t175), (176, t176), (177, t177), (178, t178), (179, t179), (180, t180), (181, t181), (182, t182), (183, t183), (184, t184), (185, t185), (187, t187), (188, t188), (191, t191), (192, t192), (193, t193), (195, t195), (196, t196), (197, t197), (198, t198), (199, t199), (200, t200), (201, t201), (202, t202), (203, t203), (204, t204), (205, t205), (206, t206), (207, t207), (208, t208), (209, t209), (210, t210), (211, t211), (212, t212), (213, t213), (214, t214), (215, t215), (216, t216), (217, t217), (218, t218), (219, t219), (220, t220), (221, t221)]

set_option maxRecDepth 10000 in
theorem TBg : Tab.get TB 2 = some ⟨.int .i64, 1, 8, .int .i64 0⟩ ∧
  Tab.get TB 3 = some ⟨.int .i64, 1, 8, .int .i64 0⟩ ∧
  Tab.get TB 4 = some ⟨.bool, 1, 1, .bool false⟩ ∧
  Tab.get TB 5 = some ⟨.int .u8, 1, 1, .int .u8 0⟩ ∧
  Tab.get TB 9 = some ⟨.str, 1, 16, .str []⟩ ∧
  Tab.get TB 21 = some ⟨.int .i32, 1, 4, .int .i32 0⟩ ∧
  Tab.get TB 22 = some ⟨.slice 76, 1, 24, .nil⟩ ∧
  Tab.get TB 23 = some ⟨.slice 54, 1, 24, .nil⟩ ∧
  Tab.get TB 24 = some ⟨.struct [(0, 22), (1, 23)] false, 2, 48, .agg [.nil, .nil]⟩ ∧
  Tab.get TB 25 = some ⟨.struct [(0, 22), (1, 23)] false, 2, 48, .agg [.nil, .nil]⟩ ∧
  Tab.get TB 26 = some ⟨.func, 1, 8, .nilfn⟩ ∧
  Tab.get TB 27 = some ⟨.func, 1, 8, .nilfn⟩ ∧
  Tab.get TB 28 = some ⟨.slice 50, 1, 24, .nil⟩ ∧
  Tab.get TB 29 = some ⟨.int .i64, 1, 8, .int .i64 0⟩ ∧
  Tab.get TB 31 = some ⟨.func, 1, 8, .nilfn⟩ ∧
  Tab.get TB 33 = some ⟨.func, 1, 8, .nilfn⟩ ∧
  Tab.get TB 34 = some ⟨.func, 1, 8, .nilfn⟩ ∧
  Tab.get TB 35 = some ⟨.func, 1, 8, .nilfn⟩ ∧
  Tab.get TB 36 = some ⟨.slice 9, 1, 24, .nil⟩ ∧
  Tab.get TB 37 = some ⟨.slice 40, 1, 24, .nil⟩ ∧
  Tab.get TB 38 = some ⟨.slice 60, 1, 24, .nil⟩ ∧
  Tab.get TB 39 = some ⟨.struct [(0, 3), (1, 9), (2, 3), (3, 3), (4, 36), (5, 37), (6, 23), (7, 38)] false, 8, 136, .agg [.int .i64 0, .str [], .int .i64 0, .int .i64 0, .nil, .nil, .nil, .nil]⟩ ∧
  Tab.get TB 40 = some ⟨.struct [(0, 3), (1, 9), (2, 3), (3, 3), (4, 36), (5, 37), (6, 23), (7, 38)] false, 8, 136, .agg [.int .i64 0, .str [], .int .i64 0, .int .i64 0, .list 1 [], .list 8 [], .list 9 [], .list 12 []]⟩ ∧
  Tab.get TB 42 = some ⟨.func, 1, 8, .nilfn⟩ ∧
  Tab.get TB 43 = some ⟨.func, 1, 8, .nilfn⟩ ∧
  Tab.get TB 44 = some ⟨.func, 1, 8, .nilfn⟩ ∧
  Tab.get TB 45 = some ⟨.func, 1, 8, .nilfn⟩ ∧
  Tab.get TB 46 = some ⟨.func, 1, 8, .nilfn⟩ ∧
  Tab.get TB 47 = some ⟨.func, 1, 8, .nilfn⟩ ∧
  Tab.get TB 48 = some ⟨.slice 3, 1, 24, .nil⟩ ∧
  Tab.get TB 49 = some ⟨.struct [(0, 9), (1, 3), (2, 48)] false, 3, 48, .agg [.str [], .int .i64 0, .nil]⟩ ∧
  Tab.get TB 50 = some ⟨.struct [(0, 9), (1, 3), (2, 48)] false, 3, 48, .agg [.str [], .int .i64 0, .list 1 []]⟩ ∧
  Tab.get TB 51 = some ⟨.func, 1, 8, .nilfn⟩ ∧
  Tab.get TB 52 = some ⟨.func, 1, 8, .nilfn⟩ ∧
  Tab.get TB 53 = some ⟨.struct [(0, 9), (1, 40)] false, 9, 152, .agg [.str [], .int .i64 0, .str [], .int .i64 0, .int .i64 0, .nil, .nil, .nil, .nil]⟩ ∧
  Tab.get TB 54 = some ⟨.struct [(0, 9), (1, 40)] false, 9, 152, .agg [.str [], .int .i64 0, .str [], .int .i64 0, .int .i64 0, .list 1 [], .list 8 [], .list 9 [], .list 12 []]⟩ ∧
  Tab.get TB 55 = some ⟨.func, 1, 8, .nilfn⟩ ∧
  Tab.get TB 56 = some ⟨.func, 1, 8, .nilfn⟩ ∧
  Tab.get TB 57 = some ⟨.func, 1, 8, .nilfn⟩ ∧
  Tab.get TB 58 = some ⟨.func, 1, 8, .nilfn⟩ ∧
  Tab.get TB 59 = some ⟨.struct [(0, 3), (1, 9), (2, 3), (3, 36), (4, 40)] false, 12, 192, .agg [.int .i64 0, .str [], .int .i64 0, .nil, .int .i64 0, .str [], .int .i64 0, .int .i64 0, .nil, .nil, .nil, .nil]⟩ ∧
  Tab.get TB 60 = some ⟨.struct [(0, 3), (1, 9), (2, 3), (3, 36), (4, 40)] false, 12, 192, .agg [.int .i64 0, .str [], .int .i64 0, .list 1 [], .int .i64 0, .str [], .int .i64 0, .int .i64 0, .list 1 [], .list 8 [], .list 9 [], .list 12 []]⟩ ∧
  Tab.get TB 61 = some ⟨.func, 1, 8, .nilfn⟩ ∧
  Tab.get TB 62 = some ⟨.map 9 40, 1, 8, .nilmap⟩ ∧
  Tab.get TB 63 = some ⟨.map 9 50, 1, 8, .nilmap⟩ ∧
  Tab.get TB 64 = some ⟨.map 9 50, 1, 8, .nilmap⟩ ∧
  Tab.get TB 65 = some ⟨.func, 1, 8, .nilfn⟩ ∧
  Tab.get TB 66 = some ⟨.slice 9, 1, 24, .nil⟩ ∧
  Tab.get TB 67 = some ⟨.func, 1, 8, .nilfn⟩ ∧
  Tab.get TB 68 = some ⟨.func, 1, 8, .nilfn⟩ ∧
  Tab.get TB 69 = some ⟨.func, 1, 8, .nilfn⟩ ∧
  Tab.get TB 70 = some ⟨.func, 1, 8, .nilfn⟩ ∧
  Tab.get TB 71 = some ⟨.ptr 73, 1, 8, .nilptr⟩ ∧
  Tab.get TB 72 = some ⟨.struct [(0, 64), (1, 3)] false, 2, 16, .agg [.nilmap, .int .i64 0]⟩ ∧
  Tab.get TB 73 = some ⟨.struct [(0, 64), (1, 3)] false, 2, 16, .agg [.nilmap, .int .i64 0]⟩ ∧
  Tab.get TB 74 = some ⟨.func, 1, 8, .nilfn⟩ ∧
  Tab.get TB 75 = some ⟨.struct [(0, 9), (1, 3), (2, 3), (3, 3)] true, 4, 40, .agg [.str [], .int .i64 0, .int .i64 0, .int .i64 0]⟩ ∧
  Tab.get TB 76 = some ⟨.struct [(0, 9), (1, 3), (2, 3), (3, 3)] true, 4, 40, .agg [.str [], .int .i64 0, .int .i64 0, .int .i64 0]⟩ ∧
  Tab.get TB 77 = some ⟨.func, 1, 8, .nilfn⟩ ∧
  Tab.get TB 78 = some ⟨.ptr 80, 1, 8, .nilptr⟩ ∧
  Tab.get TB 79 = some ⟨.struct [(0, 3), (1, 28)] false, 2, 32, .agg [.int .i64 0, .nil]⟩ ∧
  Tab.get TB 80 = some ⟨.struct [(0, 3), (1, 28)] false, 2, 32, .agg [.int .i64 0, .nil]⟩ ∧
  Tab.get TB 81 = some ⟨.func, 1, 8, .nilfn⟩ ∧
  Tab.get TB 82 = some ⟨.func, 1, 8, .nilfn⟩ ∧
  Tab.get TB 83 = some ⟨.map 9 4, 1, 8, .nilmap⟩ ∧
  Tab.get TB 84 = some ⟨.func, 1, 8, .nilfn⟩ ∧
  Tab.get TB 85 = some ⟨.map 9 3, 1, 8, .nilmap⟩ ∧
  Tab.get TB 86 = some ⟨.func, 1, 8, .nilfn⟩ ∧
  Tab.get TB 87 = some ⟨.func, 1, 8, .nilfn⟩ ∧
  Tab.get TB 88 = some ⟨.func, 1, 8, .nilfn⟩ ∧
  Tab.get TB 89 = some ⟨.func, 1, 8, .nilfn⟩ ∧
  Tab.get TB 90 = some ⟨.func, 1, 8, .nilfn⟩ ∧
  Tab.get TB 91 = some ⟨.func, 1, 8, .nilfn⟩ ∧
  Tab.get TB 92 = some ⟨.func, 1, 8, .nilfn⟩ ∧
  Tab.get TB 93 = some ⟨.func, 1, 8, .nilfn⟩ ∧
  Tab.get TB 94 = some ⟨.func, 1, 8, .nilfn⟩ ∧
  Tab.get TB 95 = some ⟨.ptr 98, 1, 8, .nilptr⟩ ∧
  Tab.get TB 96 = some ⟨.map 9 76, 1, 8, .nilmap⟩ ∧
  Tab.get TB 97 = some ⟨.struct [(0, 96)] false, 1, 8, .agg [.nilmap]⟩ ∧
  Tab.get TB 98 = some ⟨.struct [(0, 96)] false, 1, 8, .agg [.nilmap]⟩ ∧
  Tab.get TB 99 = some ⟨.func, 1, 8, .nilfn⟩ ∧
  Tab.get TB 100 = some ⟨.func, 1, 8, .nilfn⟩ ∧
  Tab.get TB 101 = some ⟨.array 4 76, 16, 160, .agg [.str [], .int .i64 0, .int .i64 0, .int .i64 0, .str [], .int .i64 0, .int .i64 0, .int .i64 0, .str [], .int .i64 0, .int .i64 0, .int .i64 0, .str [], .int .i64 0, .int .i64 0, .int .i64 0]⟩ ∧
  Tab.get TB 102 = some ⟨.func, 1, 8, .nilfn⟩ ∧
  Tab.get TB 103 = some ⟨.func, 1, 8, .nilfn⟩ ∧
  Tab.get TB 104 = some ⟨.func, 1, 8, .nilfn⟩ ∧
  Tab.get TB 106 = some ⟨.func, 1, 8, .nilfn⟩ ∧
  Tab.get TB 107 = some ⟨.func, 1, 8, .nilfn⟩ ∧
  Tab.get TB 108 = some ⟨.func, 1, 8, .nilfn⟩ ∧
  Tab.get TB 109 = some ⟨.func, 1, 8, .nilfn⟩ ∧
  Tab.get TB 110 = some ⟨.func, 1, 8, .nilfn⟩ ∧
  Tab.get TB 111 = some ⟨.func, 1, 8, .nilfn⟩ ∧
  Tab.get TB 112 = some ⟨.func, 1, 8, .nilfn⟩ ∧
  Tab.get TB 114 = some ⟨.func, 1, 8, .nilfn⟩ ∧
  Tab.get TB 118 = some ⟨.func, 1, 8, .nilfn⟩ ∧
  Tab.get TB 119 = some ⟨.func, 1, 8, .nilfn⟩ ∧
  Tab.get TB 120 = some ⟨.func, 1, 8, .nilfn⟩ ∧
  Tab.get TB 121 = some ⟨.func, 1, 8, .nilfn⟩ ∧
  Tab.get TB 122 = some ⟨.func, 1, 8, .nilfn⟩ ∧
  Tab.get TB 123 = some ⟨.func, 1, 8, .nilfn⟩ ∧
  Tab.get TB 124 = some ⟨.func, 1, 8, .nilfn⟩ ∧
  Tab.get TB 125 = some ⟨.func, 1, 8, .nilfn⟩ ∧
  Tab.get TB 126 = some ⟨.func, 1, 8, .nilfn⟩ ∧
  Tab.get TB 127 = some ⟨.func, 1, 8, .nilfn⟩ ∧
  Tab.get TB 128 = some ⟨.func, 1, 8, .nilfn⟩ ∧
  Tab.get TB 129 = some ⟨.func, 1, 8, .nilfn⟩ ∧
  Tab.get TB 130 = some ⟨.func, 1, 8, .nilfn⟩ ∧
  Tab.get TB 131 = some ⟨.func, 1, 8, .nilfn⟩ ∧
  Tab.get TB 132 = some ⟨.func, 1, 8, .nilfn⟩ ∧
  Tab.get TB 133 = some ⟨.func, 1, 8, .nilfn⟩ ∧
  Tab.get TB 134 = some ⟨.func, 1, 8, .nilfn⟩ ∧
  Tab.get TB 135 = some ⟨.int .u64, 1, 8, .int .u64 0⟩ ∧
  Tab.get TB 136 = some ⟨.func, 1, 8, .nilfn⟩ ∧
  Tab.get TB 137 = some ⟨.func, 1, 8, .nilfn⟩ ∧
  Tab.get TB 138 = some ⟨.func, 1, 8, .nilfn⟩ ∧
  Tab.get TB 140 = some ⟨.func, 1, 8, .nilfn⟩ ∧
  Tab.get TB 141 = some ⟨.map 3 4, 1, 8, .nilmap⟩ ∧
  Tab.get TB 142 = some ⟨.func, 1, 8, .nilfn⟩ ∧
  Tab.get TB 143 = some ⟨.func, 1, 8, .nilfn⟩ ∧
  Tab.get TB 144 = some ⟨.func, 1, 8, .nilfn⟩ ∧
  Tab.get TB 146 = some ⟨.func, 1, 8, .nilfn⟩ ∧
  Tab.get TB 147 = some ⟨.func, 1, 8, .nilfn⟩ ∧
  Tab.get TB 148 = some ⟨.func, 1, 8, .nilfn⟩ ∧
  Tab.get TB 149 = some ⟨.func, 1, 8, .nilfn⟩ ∧
  Tab.get TB 150 = some ⟨.func, 1, 8, .nilfn⟩ ∧
  Tab.get TB 151 = some ⟨.func, 1, 8, .nilfn⟩ ∧
  Tab.get TB 152 = some ⟨.func, 1, 8, .nilfn⟩ ∧
  Tab.get TB 153 = some ⟨.func, 1, 8, .nilfn⟩ ∧
  Tab.get TB 154 = some ⟨.func, 1, 8, .nilfn⟩ ∧
  Tab.get TB 155 = some ⟨.int .i64, 1, 8, .int .i64 0⟩ ∧
  Tab.get TB 157 = some ⟨.func, 1, 8, .nilfn⟩ ∧
  Tab.get TB 158 = some ⟨.func, 1, 8, .nilfn⟩ ∧
  Tab.get TB 159 = some ⟨.func, 1, 8, .nilfn⟩ ∧
  Tab.get TB 160 = some ⟨.func, 1, 8, .nilfn⟩ ∧
  Tab.get TB 161 = some ⟨.func, 1, 8, .nilfn⟩ ∧
  Tab.get TB 162 = some ⟨.func, 1, 8, .nilfn⟩ ∧
  Tab.get TB 163 = some ⟨.int .u32, 1, 4, .int .u32 0⟩ ∧
  Tab.get TB 164 = some ⟨.func, 1, 8, .nilfn⟩ ∧
  Tab.get TB 165 = some ⟨.int .u64, 1, 8, .int .u64 0⟩ ∧
  Tab.get TB 166 = some ⟨.func, 1, 8, .nilfn⟩ ∧
  Tab.get TB 167 = some ⟨.func, 1, 8, .nilfn⟩ ∧
  Tab.get TB 168 = some ⟨.func, 1, 8, .nilfn⟩ ∧
  Tab.get TB 169 = some ⟨.func, 1, 8, .nilfn⟩ ∧
  Tab.get TB 170 = some ⟨.int .i64, 1, 8, .int .i64 0⟩ ∧
  Tab.get TB 171 = some ⟨.slice 5, 1, 24, .nil⟩ ∧
  Tab.get TB 173 = some ⟨.func, 1, 8, .nilfn⟩ ∧
  Tab.get TB 174 = some ⟨.ptr 190, 1, 8, .nilptr⟩ ∧
  Tab.get TB 175 = some ⟨.func, 1, 8, .nilfn⟩ ∧
  Tab.get TB 176 = some ⟨.func, 1, 8, .nilfn⟩ ∧
  Tab.get TB 177 = some ⟨.func, 1, 8, .nilfn⟩ ∧
  Tab.get TB 178 = some ⟨.func, 1, 8, .nilfn⟩ ∧
  Tab.get TB 179 = some ⟨.int .u64, 1, 8, .int .u64 0⟩ ∧
  Tab.get TB 180 = some ⟨.func, 1, 8, .nilfn⟩ ∧
  Tab.get TB 181 = some ⟨.func, 1, 8, .nilfn⟩ ∧
  Tab.get TB 182 = some ⟨.func, 1, 8, .nilfn⟩ ∧
  Tab.get TB 183 = some ⟨.ptr 3, 1, 8, .nilptr⟩ ∧
  Tab.get TB 184 = some ⟨.func, 1, 8, .nilfn⟩ ∧
  Tab.get TB 185 = some ⟨.func, 1, 8, .nilfn⟩ ∧
  Tab.get TB 187 = some ⟨.func, 1, 8, .nilfn⟩ ∧
  Tab.get TB 188 = some ⟨.func, 1, 8, .nilfn⟩ ∧
  Tab.get TB 191 = some ⟨.func, 1, 8, .nilfn⟩ ∧
  Tab.get TB 192 = some ⟨.array 24 5, 24, 24, .agg [.int .u8 0, .int .u8 0, .int .u8 0, .int .u8 0, .int .u8 0, .int .u8 0, .int .u8 0, .int .u8 0, .int .u8 0, .int .u8 0, .int .u8 0, .int .u8 0, .int .u8 0, .int .u8 0, .int .u8 0, .int .u8 0, .int .u8 0, .int .u8 0, .int .u8 0, .int .u8 0, .int .u8 0, .int .u8 0, .int .u8 0, .int .u8 0]⟩ ∧
  Tab.get TB 193 = some ⟨.func, 1, 8, .nilfn⟩ ∧
  Tab.get TB 195 = some ⟨.func, 1, 8, .nilfn⟩ ∧
  Tab.get TB 196 = some ⟨.ptr 179, 1, 8, .nilptr⟩ ∧
  Tab.get TB 197 = some ⟨.func, 1, 8, .nilfn⟩ ∧
  Tab.get TB 198 = some ⟨.func, 1, 8, .nilfn⟩ ∧
  Tab.get TB 199 = some ⟨.ptr 5, 1, 8, .nilptr⟩ ∧
  Tab.get TB 200 = some ⟨.ptr 202, 1, 8, .nilptr⟩ ∧
  Tab.get TB 201 = some ⟨.struct [(0, 9)] true, 1, 16, .agg [.str []]⟩ ∧
  Tab.get TB 202 = some ⟨.struct [(0, 9)] true, 1, 16, .agg [.str []]⟩ ∧
  Tab.get TB 203 = some ⟨.func, 1, 8, .nilfn⟩ ∧
  Tab.get TB 204 = some ⟨.array 20 165, 20, 160, .agg [.int .u64 0, .int .u64 0, .int .u64 0, .int .u64 0, .int .u64 0, .int .u64 0, .int .u64 0, .int .u64 0, .int .u64 0, .int .u64 0, .int .u64 0, .int .u64 0, .int .u64 0, .int .u64 0, .int .u64 0, .int .u64 0, .int .u64 0, .int .u64 0, .int .u64 0, .int .u64 0]⟩ ∧
  Tab.get TB 205 = some ⟨.array 65 5, 65, 65, .agg [.int .u8 0, .int .u8 0, .int .u8 0, .int .u8 0, .int .u8 0, .int .u8 0, .int .u8 0, .int .u8 0, .int .u8 0, .int .u8 0, .int .u8 0, .int .u8 0, .int .u8 0, .int .u8 0, .int .u8 0, .int .u8 0, .int .u8 0, .int .u8 0, .int .u8 0, .int .u8 0, .int .u8 0, .int .u8 0, .int .u8 0, .int .u8 0, .int .u8 0, .int .u8 0, .int .u8 0, .int .u8 0, .int .u8 0, .int .u8 0, .int .u8 0, .int .u8 0, .int .u8 0, .int .u8 0, .int .u8 0, .int .u8 0, .int .u8 0, .int .u8 0, .int .u8 0, .int .u8 0, .int .u8 0, .int .u8 0, .int .u8 0, .int .u8 0, .int .u8 0, .int .u8 0, .int .u8 0, .int .u8 0, .int .u8 0, .int .u8 0, .int .u8 0, .int .u8 0, .int .u8 0, .int .u8 0, .int .u8 0, .int .u8 0, .int .u8 0, .int .u8 0, .int .u8 0, .int .u8 0, .int .u8 0, .int .u8 0, .int .u8 0, .int .u8 0, .int .u8 0]⟩ ∧
  Tab.get TB 206 = some ⟨.array 32 5, 32, 32, .agg [.int .u8 0, .int .u8 0, .int .u8 0, .int .u8 0, .int .u8 0, .int .u8 0, .int .u8 0, .int .u8 0, .int .u8 0, .int .u8 0, .int .u8 0, .int .u8 0, .int .u8 0, .int .u8 0, .int .u8 0, .int .u8 0, .int .u8 0, .int .u8 0, .int .u8 0, .int .u8 0, .int .u8 0, .int .u8 0, .int .u8 0, .int .u8 0, .int .u8 0, .int .u8 0, .int .u8 0, .int .u8 0, .int .u8 0, .int .u8 0, .int .u8 0, .int .u8 0]⟩ ∧
  Tab.get TB 207 = some ⟨.array 64 5, 64, 64, .agg [.int .u8 0, .int .u8 0, .int .u8 0, .int .u8 0, .int .u8 0, .int .u8 0, .int .u8 0, .int .u8 0, .int .u8 0, .int .u8 0, .int .u8 0, .int .u8 0, .int .u8 0, .int .u8 0, .int .u8 0, .int .u8 0, .int .u8 0, .int .u8 0, .int .u8 0, .int .u8 0, .int .u8 0, .int .u8 0, .int .u8 0, .int .u8 0, .int .u8 0, .int .u8 0, .int .u8 0, .int .u8 0, .int .u8 0, .int .u8 0, .int .u8 0, .int .u8 0, .int .u8 0, .int .u8 0, .int .u8 0, .int .u8 0, .int .u8 0, .int .u8 0, .int .u8 0, .int .u8 0, .int .u8 0, .int .u8 0, .int .u8 0, .int .u8 0, .int .u8 0, .int .u8 0, .int .u8 0, .int .u8 0, .int .u8 0, .int .u8 0, .int .u8 0, .int .u8 0, .int .u8 0, .int .u8 0, .int .u8 0, .int .u8 0, .int .u8 0, .int .u8 0, .int .u8 0, .int .u8 0, .int .u8 0, .int .u8 0, .int .u8 0, .int .u8 0]⟩ ∧
  Tab.get TB 208 = some ⟨.func, 1, 8, .nilfn⟩ ∧
  Tab.get TB 209 = some ⟨.struct [(0, 17), (1, 17), (2, 17), (3, 9)] false, 4, 40, .agg [.nilptr, .nilptr, .nilptr, .str []]⟩ ∧
  Tab.get TB 210 = some ⟨.struct [(0, 17), (1, 17), (2, 17), (3, 9)] false, 4, 40, .agg [.nilptr, .nilptr, .nilptr, .str []]⟩ ∧
  Tab.get TB 211 = some ⟨.array 0 16, 0, 0, .agg []⟩ ∧
  Tab.get TB 212 = some ⟨.struct [(0, 211)] false, 0, 0, .agg []⟩ ∧
  Tab.get TB 213 = some ⟨.struct [(0, 211)] false, 0, 0, .agg []⟩ ∧
  Tab.get TB 214 = some ⟨.func, 1, 8, .nilfn⟩ ∧
  Tab.get TB 215 = some ⟨.int .u8, 1, 1, .int .u8 0⟩ ∧
  Tab.get TB 216 = some ⟨.int .u8, 1, 1, .int .u8 0⟩ ∧
  Tab.get TB 217 = some ⟨.func, 1, 8, .nilfn⟩ ∧
  Tab.get TB 218 = some ⟨.int .i32, 1, 4, .int .i32 0⟩ ∧
  Tab.get TB 219 = some ⟨.int .i32, 1, 4, .int .i32 0⟩ ∧
  Tab.get TB 220 = some ⟨.struct [(0, 12), (1, 12), (2, 163), (3, 215), (4, 5), (5, 5), (6, 216), (7, 217), (8, 199), (9, 218), (10, 219)] false, 11, 48, .agg [.int .u64 0, .int .u64 0, .int .u32 0, .int .u8 0, .int .u8 0, .int .u8 0, .int .u8 0, .nilfn, .nilptr, .int .i32 0, .int .i32 0]⟩ ∧
  Tab.get TB 221 = some ⟨.struct [(0, 12), (1, 12), (2, 163), (3, 215), (4, 5), (5, 5), (6, 216), (7, 217), (8, 199), (9, 218), (10, 219)] false, 11, 48, .agg [.int .u64 0, .int .u64 0, .int .u32 0, .int .u8 0, .int .u8 0, .int .u8 0, .int .u8 0, .nilfn, .nilptr, .int .i32 0, .int .i32 0]⟩ :=
  ⟨rfl, rfl, rfl, rfl, rfl, rfl, rfl, rfl, rfl, rfl, rfl, rfl, rfl, rfl, rfl, rfl, rfl, rfl, rfl, rfl, rfl, rfl, rfl, rfl, rfl, rfl, rfl, rfl, rfl, rfl, rfl, rfl, rfl, rfl, rfl, rfl, rfl, rfl, rfl, rfl, rfl, rfl, rfl, rfl, rfl, rfl, rfl, rfl, rfl, rfl, rfl, rfl, rfl, rfl, rfl, rfl, rfl, rfl, rfl, rfl, rfl, rfl, rfl, rfl, rfl, rfl, rfl, rfl, rfl, rfl, rfl, rfl, rfl, rfl, rfl, rfl, rfl, rfl, rfl, rfl, rfl, rfl, rfl, rfl, rfl, rfl, rfl, rfl, rfl, rfl, rfl, rfl, rfl, rfl, rfl, rfl, rfl, rfl, rfl, rfl, rfl, rfl, rfl, rfl, rfl, rfl, rfl, rfl, rfl, rfl, rfl, rfl, rfl, rfl, rfl, rfl, rfl, rfl, rfl, rfl, rfl, rfl, rfl, rfl, rfl, rfl, rfl, rfl, rfl, rfl, rfl, rfl, rfl, rfl, rfl, rfl, rfl, rfl, rfl, rfl, rfl, rfl, rfl, rfl, rfl, rfl, rfl, rfl, rfl, rfl, rfl, rfl, rfl, rfl, rfl, rfl, rfl, rfl, rfl, rfl, rfl, rfl, rfl, rfl, rfl, rfl, rfl, rfl, rfl, rfl, rfl, rfl, rfl, rfl, rfl, rfl, rfl, rfl, rfl, rfl, rfl, rfl, rfl, rfl, rfl, rfl, rfl, rfl, rfl, rfl⟩

theorem ok2 : tiOK Tryz.prog 2 t2 := tiOK_of (.int .i64 0) (Told2.refl _) Tryz.underlying2 (by kernel_rfl)
theorem ok3 : tiOK Tryz.prog 3 t3 := tiOK_of (.int .i64 0) (Told2.refl _) Tryz.underlying3 (by kernel_rfl)
theorem ok4 : tiOK Tryz.prog 4 t4 := tiOK_of (.bool false) (Told2.refl _) Tryz.underlying4 (by kernel_rfl)
theorem ok5 : tiOK Tryz.prog 5 t5 := tiOK_of (.int .u8 0) (Told2.refl _) Tryz.underlying5 (by kernel_rfl)
theorem ok9 : tiOK Tryz.prog 9 t9 := tiOK_of (.str []) (Told2.refl _) Tryz.underlying9 (by kernel_rfl)
theorem ok21 : tiOK Tryz.prog 21 t21 := tiOK_of (.int .i32 0) (Told2.refl _) Tryz.underlying21 (by kernel_rfl)
theorem ok22 : tiOK Tryz.prog 22 t22 := tiOK_of (.nil) (Told2.refl _) Tryz.underlying22 (by kernel_rfl)
theorem ok23 : tiOK Tryz.prog 23 t23 := tiOK_of (.nil) (Told2.refl _) Tryz.underlying23 (by kernel_rfl)
theorem ok24 : tiOK Tryz.prog 24 t24 := tiOK_of (.agg [.nil, .nil]) (Told2.refl _) ⟨⟨_, Tryz.underlying24, rfl⟩, fun h => by cases h⟩ (by kernel_rfl)
theorem ok25 : tiOK Tryz.prog 25 t25 := tiOK_of (.agg [.nil, .nil]) (Told2.refl _) ⟨⟨_, Tryz.underlying25, rfl⟩, fun h => by cases h⟩ (by kernel_rfl)
theorem ok26 : tiOK Tryz.prog 26 t26 := tiOK_of (.nilfn) (Told2.refl _) ⟨_, _, _, Tryz.underlying26⟩ (by kernel_rfl)
theorem ok27 : tiOK Tryz.prog 27 t27 := tiOK_of (.nilfn) (Told2.refl _) ⟨_, _, _, Tryz.underlying27⟩ (by kernel_rfl)
theorem ok28 : tiOK Tryz.prog 28 t28 := tiOK_of (.nil) (Told2.refl _) Tryz.underlying28 (by kernel_rfl)
theorem ok29 : tiOK Tryz.prog 29 t29 := tiOK_of (.int .i64 0) (Told2.refl _) Tryz.underlying29 (by kernel_rfl)
theorem ok31 : tiOK Tryz.prog 31 t31 := tiOK_of (.nilfn) (Told2.refl _) ⟨_, _, _, Tryz.underlying31⟩ (by kernel_rfl)
theorem ok33 : tiOK Tryz.prog 33 t33 := tiOK_of (.nilfn) (Told2.refl _) ⟨_, _, _, Tryz.underlying33⟩ (by kernel_rfl)
theorem ok34 : tiOK Tryz.prog 34 t34 := tiOK_of (.nilfn) (Told2.refl _) ⟨_, _, _, Tryz.underlying34⟩ (by kernel_rfl)
theorem ok35 : tiOK Tryz.prog 35 t35 := tiOK_of (.nilfn) (Told2.refl _) ⟨_, _, _, Tryz.underlying35⟩ (by kernel_rfl)
theorem ok36 : tiOK Tryz.prog 36 t36 := tiOK_of (.nil) (Told2.refl _) Tryz.underlying36 (by kernel_rfl)
theorem ok37 : tiOK Tryz.prog 37 t37 := tiOK_of (.nil) (Told2.refl _) Tryz.underlying37 (by kernel_rfl)
theorem ok38 : tiOK Tryz.prog 38 t38 := tiOK_of (.nil) (Told2.refl _) Tryz.underlying38 (by kernel_rfl)
theorem ok39 : tiOK Tryz.prog 39 t39 := tiOK_of (.agg [.int .i64 0, .str [], .int .i64 0, .int .i64 0, .nil, .nil, .nil, .nil]) (Told2.refl _) ⟨⟨_, Tryz.underlying39, rfl⟩, fun h => by cases h⟩ (by kernel_rfl)
theorem ok40 : tiOK Tryz.prog 40 t40 := tiOK_of (.agg [.int .i64 0, .str [], .int .i64 0, .int .i64 0, .nil, .nil, .nil, .nil]) (by simp [Told2, ToldL, Told, t40]) ⟨⟨_, Tryz.underlying40, rfl⟩, fun h => by cases h⟩ (by kernel_rfl)
theorem ok42 : tiOK Tryz.prog 42 t42 := tiOK_of (.nilfn) (Told2.refl _) ⟨_, _, _, Tryz.underlying42⟩ (by kernel_rfl)
theorem ok43 : tiOK Tryz.prog 43 t43 := tiOK_of (.nilfn) (Told2.refl _) ⟨_, _, _, Tryz.underlying43⟩ (by kernel_rfl)
theorem ok44 : tiOK Tryz.prog 44 t44 := tiOK_of (.nilfn) (Told2.refl _) ⟨_, _, _, Tryz.underlying44⟩ (by kernel_rfl)
theorem ok45 : tiOK Tryz.prog 45 t45 := tiOK_of (.nilfn) (Told2.refl _) ⟨_, _, _, Tryz.underlying45⟩ (by kernel_rfl)
theorem ok46 : tiOK Tryz.prog 46 t46 := tiOK_of (.nilfn) (Told2.refl _) ⟨_, _, _, Tryz.underlying46⟩ (by kernel_rfl)
theorem ok47 : tiOK Tryz.prog 47 t47 := tiOK_of (.nilfn) (Told2.refl _) ⟨_, _, _, Tryz.underlying47⟩ (by kernel_rfl)
theorem ok48 : tiOK Tryz.prog 48 t48 := tiOK_of (.nil) (Told2.refl _) Tryz.underlying48 (by kernel_rfl)
theorem ok49 : tiOK Tryz.prog 49 t49 := tiOK_of (.agg [.str [], .int .i64 0, .nil]) (Told2.refl _) ⟨⟨_, Tryz.underlying49, rfl⟩, fun h => by cases h⟩ (by kernel_rfl)
theorem ok50 : tiOK Tryz.prog 50 t50 := tiOK_of (.agg [.str [], .int .i64 0, .nil]) (by simp [Told2, ToldL, Told, t50]) ⟨⟨_, Tryz.underlying50, rfl⟩, fun h => by cases h⟩ (by kernel_rfl)
theorem ok51 : tiOK Tryz.prog 51 t51 := tiOK_of (.nilfn) (Told2.refl _) ⟨_, _, _, Tryz.underlying51⟩ (by kernel_rfl)
theorem ok52 : tiOK Tryz.prog 52 t52 := tiOK_of (.nilfn) (Told2.refl _) ⟨_, _, _, Tryz.underlying52⟩ (by kernel_rfl)
theorem ok53 : tiOK Tryz.prog 53 t53 := tiOK_of (.agg [.str [], .int .i64 0, .str [], .int .i64 0, .int .i64 0, .nil, .nil, .nil, .nil]) (Told2.refl _) ⟨⟨_, Tryz.underlying53, rfl⟩, fun h => by cases h⟩ (by kernel_rfl)
theorem ok54 : tiOK Tryz.prog 54 t54 := tiOK_of (.agg [.str [], .int .i64 0, .str [], .int .i64 0, .int .i64 0, .nil, .nil, .nil, .nil]) (by simp [Told2, ToldL, Told, t54]) ⟨⟨_, Tryz.underlying54, rfl⟩, fun h => by cases h⟩ (by kernel_rfl)
theorem ok55 : tiOK Tryz.prog 55 t55 := tiOK_of (.nilfn) (Told2.refl _) ⟨_, _, _, Tryz.underlying55⟩ (by kernel_rfl)
theorem ok56 : tiOK Tryz.prog 56 t56 := tiOK_of (.nilfn) (Told2.refl _) ⟨_, _, _, Tryz.underlying56⟩ (by kernel_rfl)
theorem ok57 : tiOK Tryz.prog 57 t57 := tiOK_of (.nilfn) (Told2.refl _) ⟨_, _, _, Tryz.underlying57⟩ (by kernel_rfl)
theorem ok58 : tiOK Tryz.prog 58 t58 := tiOK_of (.nilfn) (Told2.refl _) ⟨_, _, _, Tryz.underlying58⟩ (by kernel_rfl)
theorem ok59 : tiOK Tryz.prog 59 t59 := tiOK_of (.agg [.int .i64 0, .str [], .int .i64 0, .nil, .int .i64 0, .str [], .int .i64 0, .int .i64 0, .nil, .nil, .nil, .nil]) (Told2.refl _) ⟨⟨_, Tryz.underlying59, rfl⟩, fun h => by cases h⟩ (by kernel_rfl)
theorem ok60 : tiOK Tryz.prog 60 t60 := tiOK_of (.agg [.int .i64 0, .str [], .int .i64 0, .nil, .int .i64 0, .str [], .int .i64 0, .int .i64 0, .nil, .nil, .nil, .nil]) (by simp [Told2, ToldL, Told, t60]) ⟨⟨_, Tryz.underlying60, rfl⟩, fun h => by cases h⟩ (by kernel_rfl)
theorem ok61 : tiOK Tryz.prog 61 t61 := tiOK_of (.nilfn) (Told2.refl _) ⟨_, _, _, Tryz.underlying61⟩ (by kernel_rfl)
theorem ok62 : tiOK Tryz.prog 62 t62 := tiOK_of (.nilmap) (Told2.refl _) Tryz.underlying62 (by kernel_rfl)
theorem ok63 : tiOK Tryz.prog 63 t63 := tiOK_of (.nilmap) (Told2.refl _) Tryz.underlying63 (by kernel_rfl)
theorem ok64 : tiOK Tryz.prog 64 t64 := tiOK_of (.nilmap) (Told2.refl _) Tryz.underlying64 (by kernel_rfl)
theorem ok65 : tiOK Tryz.prog 65 t65 := tiOK_of (.nilfn) (Told2.refl _) ⟨_, _, _, Tryz.underlying65⟩ (by kernel_rfl)
theorem ok66 : tiOK Tryz.prog 66 t66 := tiOK_of (.nil) (Told2.refl _) Tryz.underlying66 (by kernel_rfl)
theorem ok67 : tiOK Tryz.prog 67 t67 := tiOK_of (.nilfn) (Told2.refl _) ⟨_, _, _, Tryz.underlying67⟩ (by kernel_rfl)
theorem ok68 : tiOK Tryz.prog 68 t68 := tiOK_of (.nilfn) (Told2.refl _) ⟨_, _, _, Tryz.underlying68⟩ (by kernel_rfl)
theorem ok69 : tiOK Tryz.prog 69 t69 := tiOK_of (.nilfn) (Told2.refl _) ⟨_, _, _, Tryz.underlying69⟩ (by kernel_rfl)
theorem ok70 : tiOK Tryz.prog 70 t70 := tiOK_of (.nilfn) (Told2.refl _) ⟨_, _, _, Tryz.underlying70⟩ (by kernel_rfl)
theorem ok71 : tiOK Tryz.prog 71 t71 := tiOK_of (.nilptr) (Told2.refl _) Tryz.underlying71 (by kernel_rfl)
theorem ok72 : tiOK Tryz.prog 72 t72 := tiOK_of (.agg [.nilmap, .int .i64 0]) (Told2.refl _) ⟨⟨_, Tryz.underlying72, rfl⟩, fun h => by cases h⟩ (by kernel_rfl)
theorem ok73 : tiOK Tryz.prog 73 t73 := tiOK_of (.agg [.nilmap, .int .i64 0]) (Told2.refl _) ⟨⟨_, Tryz.underlying73, rfl⟩, fun h => by cases h⟩ (by kernel_rfl)
theorem ok74 : tiOK Tryz.prog 74 t74 := tiOK_of (.nilfn) (Told2.refl _) ⟨_, _, _, Tryz.underlying74⟩ (by kernel_rfl)
theorem ok75 : tiOK Tryz.prog 75 t75 := tiOK_of (.agg [.str [], .int .i64 0, .int .i64 0, .int .i64 0]) (Told2.refl _) ⟨⟨_, Tryz.underlying75, rfl⟩, fun _ => eqPlain_of (by kernel_rfl)⟩ (by kernel_rfl)
theorem ok76 : tiOK Tryz.prog 76 t76 := tiOK_of (.agg [.str [], .int .i64 0, .int .i64 0, .int .i64 0]) (Told2.refl _) ⟨⟨_, Tryz.underlying76, rfl⟩, fun _ => eqPlain_of (by kernel_rfl)⟩ (by kernel_rfl)
theorem ok77 : tiOK Tryz.prog 77 t77 := tiOK_of (.nilfn) (Told2.refl _) ⟨_, _, _, Tryz.underlying77⟩ (by kernel_rfl)
theorem ok78 : tiOK Tryz.prog 78 t78 := tiOK_of (.nilptr) (Told2.refl _) Tryz.underlying78 (by kernel_rfl)
theorem ok79 : tiOK Tryz.prog 79 t79 := tiOK_of (.agg [.int .i64 0, .nil]) (Told2.refl _) ⟨⟨_, Tryz.underlying79, rfl⟩, fun h => by cases h⟩ (by kernel_rfl)
theorem ok80 : tiOK Tryz.prog 80 t80 := tiOK_of (.agg [.int .i64 0, .nil]) (Told2.refl _) ⟨⟨_, Tryz.underlying80, rfl⟩, fun h => by cases h⟩ (by kernel_rfl)
theorem ok81 : tiOK Tryz.prog 81 t81 := tiOK_of (.nilfn) (Told2.refl _) ⟨_, _, _, Tryz.underlying81⟩ (by kernel_rfl)
theorem ok82 : tiOK Tryz.prog 82 t82 := tiOK_of (.nilfn) (Told2.refl _) ⟨_, _, _, Tryz.underlying82⟩ (by kernel_rfl)
theorem ok83 : tiOK Tryz.prog 83 t83 := tiOK_of (.nilmap) (Told2.refl _) Tryz.underlying83 (by kernel_rfl)
theorem ok84 : tiOK Tryz.prog 84 t84 := tiOK_of (.nilfn) (Told2.refl _) ⟨_, _, _, Tryz.underlying84⟩ (by kernel_rfl)
theorem ok85 : tiOK Tryz.prog 85 t85 := tiOK_of (.nilmap) (Told2.refl _) Tryz.underlying85 (by kernel_rfl)
theorem ok86 : tiOK Tryz.prog 86 t86 := tiOK_of (.nilfn) (Told2.refl _) ⟨_, _, _, Tryz.underlying86⟩ (by kernel_rfl)
theorem ok87 : tiOK Tryz.prog 87 t87 := tiOK_of (.nilfn) (Told2.refl _) ⟨_, _, _, Tryz.underlying87⟩ (by kernel_rfl)
theorem ok88 : tiOK Tryz.prog 88 t88 := tiOK_of (.nilfn) (Told2.refl _) ⟨_, _, _, Tryz.underlying88⟩ (by kernel_rfl)
theorem ok89 : tiOK Tryz.prog 89 t89 := tiOK_of (.nilfn) (Told2.refl _) ⟨_, _, _, Tryz.underlying89⟩ (by kernel_rfl)
theorem ok90 : tiOK Tryz.prog 90 t90 := tiOK_of (.nilfn) (Told2.refl _) ⟨_, _, _, Tryz.underlying90⟩ (by kernel_rfl)
theorem ok91 : tiOK Tryz.prog 91 t91 := tiOK_of (.nilfn) (Told2.refl _) ⟨_, _, _, Tryz.underlying91⟩ (by kernel_rfl)
theorem ok92 : tiOK Tryz.prog 92 t92 := tiOK_of (.nilfn) (Told2.refl _) ⟨_, _, _, Tryz.underlying92⟩ (by kernel_rfl)
theorem ok93 : tiOK Tryz.prog 93 t93 := tiOK_of (.nilfn) (Told2.refl _) ⟨_, _, _, Tryz.underlying93⟩ (by kernel_rfl)
theorem ok94 : tiOK Tryz.prog 94 t94 := tiOK_of (.nilfn) (Told2.refl _) ⟨_, _, _, Tryz.underlying94⟩ (by kernel_rfl)
theorem ok95 : tiOK Tryz.prog 95 t95 := tiOK_of (.nilptr) (Told2.refl _) Tryz.underlying95 (by kernel_rfl)
theorem ok96 : tiOK Tryz.prog 96 t96 := tiOK_of (.nilmap) (Told2.refl _) Tryz.underlying96 (by kernel_rfl)
theorem ok97 : tiOK Tryz.prog 97 t97 := tiOK_of (.agg [.nilmap]) (Told2.refl _) ⟨⟨_, Tryz.underlying97, rfl⟩, fun h => by cases h⟩ (by kernel_rfl)
theorem ok98 : tiOK Tryz.prog 98 t98 := tiOK_of (.agg [.nilmap]) (Told2.refl _) ⟨⟨_, Tryz.underlying98, rfl⟩, fun h => by cases h⟩ (by kernel_rfl)
theorem ok99 : tiOK Tryz.prog 99 t99 := tiOK_of (.nilfn) (Told2.refl _) ⟨_, _, _, Tryz.underlying99⟩ (by kernel_rfl)
theorem ok100 : tiOK Tryz.prog 100 t100 := tiOK_of (.nilfn) (Told2.refl _) ⟨_, _, _, Tryz.underlying100⟩ (by kernel_rfl)
theorem ok101 : tiOK Tryz.prog 101 t101 := tiOK_of (.agg [.str [], .int .i64 0, .int .i64 0, .int .i64 0, .str [], .int .i64 0, .int .i64 0, .int .i64 0, .str [], .int .i64 0, .int .i64 0, .int .i64 0, .str [], .int .i64 0, .int .i64 0, .int .i64 0]) (Told2.refl _) Tryz.underlying101 (by kernel_rfl)
theorem ok102 : tiOK Tryz.prog 102 t102 := tiOK_of (.nilfn) (Told2.refl _) ⟨_, _, _, Tryz.underlying102⟩ (by kernel_rfl)
theorem ok103 : tiOK Tryz.prog 103 t103 := tiOK_of (.nilfn) (Told2.refl _) ⟨_, _, _, Tryz.underlying103⟩ (by kernel_rfl)
theorem ok104 : tiOK Tryz.prog 104 t104 := tiOK_of (.nilfn) (Told2.refl _) ⟨_, _, _, Tryz.underlying104⟩ (by kernel_rfl)
theorem ok106 : tiOK Tryz.prog 106 t106 := tiOK_of (.nilfn) (Told2.refl _) ⟨_, _, _, Tryz.underlying106⟩ (by kernel_rfl)
theorem ok107 : tiOK Tryz.prog 107 t107 := tiOK_of (.nilfn) (Told2.refl _) ⟨_, _, _, Tryz.underlying107⟩ (by kernel_rfl)
theorem ok108 : tiOK Tryz.prog 108 t108 := tiOK_of (.nilfn) (Told2.refl _) ⟨_, _, _, Tryz.underlying108⟩ (by kernel_rfl)
theorem ok109 : tiOK Tryz.prog 109 t109 := tiOK_of (.nilfn) (Told2.refl _) ⟨_, _, _, Tryz.underlying109⟩ (by kernel_rfl)
theorem ok110 : tiOK Tryz.prog 110 t110 := tiOK_of (.nilfn) (Told2.refl _) ⟨_, _, _, Tryz.underlying110⟩ (by kernel_rfl)
theorem ok111 : tiOK Tryz.prog 111 t111 := tiOK_of (.nilfn) (Told2.refl _) ⟨_, _, _, Tryz.underlying111⟩ (by kernel_rfl)
theorem ok112 : tiOK Tryz.prog 112 t112 := tiOK_of (.nilfn) (Told2.refl _) ⟨_, _, _, Tryz.underlying112⟩ (by kernel_rfl)
theorem ok114 : tiOK Tryz.prog 114 t114 := tiOK_of (.nilfn) (Told2.refl _) ⟨_, _, _, Tryz.underlying114⟩ (by kernel_rfl)
theorem ok118 : tiOK Tryz.prog 118 t118 := tiOK_of (.nilfn) (Told2.refl _) ⟨_, _, _, Tryz.underlying118⟩ (by kernel_rfl)
theorem ok119 : tiOK Tryz.prog 119 t119 := tiOK_of (.nilfn) (Told2.refl _) ⟨_, _, _, Tryz.underlying119⟩ (by kernel_rfl)
theorem ok120 : tiOK Tryz.prog 120 t120 := tiOK_of (.nilfn) (Told2.refl _) ⟨_, _, _, Tryz.underlying120⟩ (by kernel_rfl)
theorem ok121 : tiOK Tryz.prog 121 t121 := tiOK_of (.nilfn) (Told2.refl _) ⟨_, _, _, Tryz.underlying121⟩ (by kernel_rfl)
theorem ok122 : tiOK Tryz.prog 122 t122 := tiOK_of (.nilfn) (Told2.refl _) ⟨_, _, _, Tryz.underlying122⟩ (by kernel_rfl)
theorem ok123 : tiOK Tryz.prog 123 t123 := tiOK_of (.nilfn) (Told2.refl _) ⟨_, _, _, Tryz.underlying123⟩ (by kernel_rfl)
theorem ok124 : tiOK Tryz.prog 124 t124 := tiOK_of (.nilfn) (Told2.refl _) ⟨_, _, _, Tryz.underlying124⟩ (by kernel_rfl)
theorem ok125 : tiOK Tryz.prog 125 t125 := tiOK_of (.nilfn) (Told2.refl _) ⟨_, _, _, Tryz.underlying125⟩ (by kernel_rfl)
theorem ok126 : tiOK Tryz.prog 126 t126 := tiOK_of (.nilfn) (Told2.refl _) ⟨_, _, _, Tryz.underlying126⟩ (by kernel_rfl)
theorem ok127 : tiOK Tryz.prog 127 t127 := tiOK_of (.nilfn) (Told2.refl _) ⟨_, _, _, Tryz.underlying127⟩ (by kernel_rfl)
theorem ok128 : tiOK Tryz.prog 128 t128 := tiOK_of (.nilfn) (Told2.refl _) ⟨_, _, _, Tryz.underlying128⟩ (by kernel_rfl)
theorem ok129 : tiOK Tryz.prog 129 t129 := tiOK_of (.nilfn) (Told2.refl _) ⟨_, _, _, Tryz.underlying129⟩ (by kernel_rfl)
theorem ok130 : tiOK Tryz.prog 130 t130 := tiOK_of (.nilfn) (Told2.refl _) ⟨_, _, _, Tryz.underlying130⟩ (by kernel_rfl)
theorem ok131 : tiOK Tryz.prog 131 t131 := tiOK_of (.nilfn) (Told2.refl _) ⟨_, _, _, Tryz.underlying131⟩ (by kernel_rfl)
theorem ok132 : tiOK Tryz.prog 132 t132 := tiOK_of (.nilfn) (Told2.refl _) ⟨_, _, _, Tryz.underlying132⟩ (by kernel_rfl)
theorem ok133 : tiOK Tryz.prog 133 t133 := tiOK_of (.nilfn) (Told2.refl _) ⟨_, _, _, Tryz.underlying133⟩ (by kernel_rfl)
theorem ok134 : tiOK Tryz.prog 134 t134 := tiOK_of (.nilfn) (Told2.refl _) ⟨_, _, _, Tryz.underlying134⟩ (by kernel_rfl)
theorem ok135 : tiOK Tryz.prog 135 t135 := tiOK_of (.int .u64 0) (Told2.refl _) Tryz.underlying135 (by kernel_rfl)
theorem ok136 : tiOK Tryz.prog 136 t136 := tiOK_of (.nilfn) (Told2.refl _) ⟨_, _, _, Tryz.underlying136⟩ (by kernel_rfl)
theorem ok137 : tiOK Tryz.prog 137 t137 := tiOK_of (.nilfn) (Told2.refl _) ⟨_, _, _, Tryz.underlying137⟩ (by kernel_rfl)
theorem ok138 : tiOK Tryz.prog 138 t138 := tiOK_of (.nilfn) (Told2.refl _) ⟨_, _, _, Tryz.underlying138⟩ (by kernel_rfl)
theorem ok140 : tiOK Tryz.prog 140 t140 := tiOK_of (.nilfn) (Told2.refl _) ⟨_, _, _, Tryz.underlying140⟩ (by kernel_rfl)
theorem ok141 : tiOK Tryz.prog 141 t141 := tiOK_of (.nilmap) (Told2.refl _) Tryz.underlying141 (by kernel_rfl)
theorem ok142 : tiOK Tryz.prog 142 t142 := tiOK_of (.nilfn) (Told2.refl _) ⟨_, _, _, Tryz.underlying142⟩ (by kernel_rfl)
theorem ok143 : tiOK Tryz.prog 143 t143 := tiOK_of (.nilfn) (Told2.refl _) ⟨_, _, _, Tryz.underlying143⟩ (by kernel_rfl)
theorem ok144 : tiOK Tryz.prog 144 t144 := tiOK_of (.nilfn) (Told2.refl _) ⟨_, _, _, Tryz.underlying144⟩ (by kernel_rfl)
theorem ok146 : tiOK Tryz.prog 146 t146 := tiOK_of (.nilfn) (Told2.refl _) ⟨_, _, _, Tryz.underlying146⟩ (by kernel_rfl)
theorem ok147 : tiOK Tryz.prog 147 t147 := tiOK_of (.nilfn) (Told2.refl _) ⟨_, _, _, Tryz.underlying147⟩ (by kernel_rfl)
theorem ok148 : tiOK Tryz.prog 148 t148 := tiOK_of (.nilfn) (Told2.refl _) ⟨_, _, _, Tryz.underlying148⟩ (by kernel_rfl)
theorem ok149 : tiOK Tryz.prog 149 t149 := tiOK_of (.nilfn) (Told2.refl _) ⟨_, _, _, Tryz.underlying149⟩ (by kernel_rfl)
theorem ok150 : tiOK Tryz.prog 150 t150 := tiOK_of (.nilfn) (Told2.refl _) ⟨_, _, _, Tryz.underlying150⟩ (by kernel_rfl)
theorem ok151 : tiOK Tryz.prog 151 t151 := tiOK_of (.nilfn) (Told2.refl _) ⟨_, _, _, Tryz.underlying151⟩ (by kernel_rfl)
theorem ok152 : tiOK Tryz.prog 152 t152 := tiOK_of (.nilfn) (Told2.refl _) ⟨_, _, _, Tryz.underlying152⟩ (by kernel_rfl)
theorem ok153 : tiOK Tryz.prog 153 t153 := tiOK_of (.nilfn) (Told2.refl _) ⟨_, _, _, Tryz.underlying153⟩ (by kernel_rfl)
theorem ok154 : tiOK Tryz.prog 154 t154 := tiOK_of (.nilfn) (Told2.refl _) ⟨_, _, _, Tryz.underlying154⟩ (by kernel_rfl)
theorem ok155 : tiOK Tryz.prog 155 t155 := tiOK_of (.int .i64 0) (Told2.refl _) Tryz.underlying155 (by kernel_rfl)
theorem ok157 : tiOK Tryz.prog 157 t157 := tiOK_of (.nilfn) (Told2.refl _) ⟨_, _, _, Tryz.underlying157⟩ (by kernel_rfl)
theorem ok158 : tiOK Tryz.prog 158 t158 := tiOK_of (.nilfn) (Told2.refl _) ⟨_, _, _, Tryz.underlying158⟩ (by kernel_rfl)
theorem ok159 : tiOK Tryz.prog 159 t159 := tiOK_of (.nilfn) (Told2.refl _) ⟨_, _, _, Tryz.underlying159⟩ (by kernel_rfl)
theorem ok160 : tiOK Tryz.prog 160 t160 := tiOK_of (.nilfn) (Told2.refl _) ⟨_, _, _, Tryz.underlying160⟩ (by kernel_rfl)
theorem ok161 : tiOK Tryz.prog 161 t161 := tiOK_of (.nilfn) (Told2.refl _) ⟨_, _, _, Tryz.underlying161⟩ (by kernel_rfl)
theorem ok162 : tiOK Tryz.prog 162 t162 := tiOK_of (.nilfn) (Told2.refl _) ⟨_, _, _, Tryz.underlying162⟩ (by kernel_rfl)
theorem ok163 : tiOK Tryz.prog 163 t163 := tiOK_of (.int .u32 0) (Told2.refl _) Tryz.underlying163 (by kernel_rfl)
theorem ok164 : tiOK Tryz.prog 164 t164 := tiOK_of (.nilfn) (Told2.refl _) ⟨_, _, _, Tryz.underlying164⟩ (by kernel_rfl)
theorem ok165 : tiOK Tryz.prog 165 t165 := tiOK_of (.int .u64 0) (Told2.refl _) Tryz.underlying165 (by kernel_rfl)
theorem ok166 : tiOK Tryz.prog 166 t166 := tiOK_of (.nilfn) (Told2.refl _) ⟨_, _, _, Tryz.underlying166⟩ (by kernel_rfl)
theorem ok167 : tiOK Tryz.prog 167 t167 := tiOK_of (.nilfn) (Told2.refl _) ⟨_, _, _, Tryz.underlying167⟩ (by kernel_rfl)
theorem ok168 : tiOK Tryz.prog 168 t168 := tiOK_of (.nilfn) (Told2.refl _) ⟨_, _, _, Tryz.underlying168⟩ (by kernel_rfl)
theorem ok169 : tiOK Tryz.prog 169 t169 := tiOK_of (.nilfn) (Told2.refl _) ⟨_, _, _, Tryz.underlying169⟩ (by kernel_rfl)
theorem ok170 : tiOK Tryz.prog 170 t170 := tiOK_of (.int .i64 0) (Told2.refl _) Tryz.underlying170 (by kernel_rfl)
theorem ok171 : tiOK Tryz.prog 171 t171 := tiOK_of (.nil) (Told2.refl _) Tryz.underlying171 (by kernel_rfl)
theorem ok173 : tiOK Tryz.prog 173 t173 := tiOK_of (.nilfn) (Told2.refl _) ⟨_, _, _, Tryz.underlying173⟩ (by kernel_rfl)
theorem ok174 : tiOK Tryz.prog 174 t174 := tiOK_of (.nilptr) (Told2.refl _) Tryz.underlying174 (by kernel_rfl)
theorem ok175 : tiOK Tryz.prog 175 t175 := tiOK_of (.nilfn) (Told2.refl _) ⟨_, _, _, Tryz.underlying175⟩ (by kernel_rfl)
theorem ok176 : tiOK Tryz.prog 176 t176 := tiOK_of (.nilfn) (Told2.refl _) ⟨_, _, _, Tryz.underlying176⟩ (by kernel_rfl)
theorem ok177 : tiOK Tryz.prog 177 t177 := tiOK_of (.nilfn) (Told2.refl _) ⟨_, _, _, Tryz.underlying177⟩ (by kernel_rfl)
theorem ok178 : tiOK Tryz.prog 178 t178 := tiOK_of (.nilfn) (Told2.refl _) ⟨_, _, _, Tryz.underlying178⟩ (by kernel_rfl)
theorem ok179 : tiOK Tryz.prog 179 t179 := tiOK_of (.int .u64 0) (Told2.refl _) Tryz.underlying179 (by kernel_rfl)
theorem ok180 : tiOK Tryz.prog 180 t180 := tiOK_of (.nilfn) (Told2.refl _) ⟨_, _, _, Tryz.underlying180⟩ (by kernel_rfl)
theorem ok181 : tiOK Tryz.prog 181 t181 := tiOK_of (.nilfn) (Told2.refl _) ⟨_, _, _, Tryz.underlying181⟩ (by kernel_rfl)
theorem ok182 : tiOK Tryz.prog 182 t182 := tiOK_of (.nilfn) (Told2.refl _) ⟨_, _, _, Tryz.underlying182⟩ (by kernel_rfl)
theorem ok183 : tiOK Tryz.prog 183 t183 := tiOK_of (.nilptr) (Told2.refl _) Tryz.underlying183 (by kernel_rfl)
theorem ok184 : tiOK Tryz.prog 184 t184 := tiOK_of (.nilfn) (Told2.refl _) ⟨_, _, _, Tryz.underlying184⟩ (by kernel_rfl)
theorem ok185 : tiOK Tryz.prog 185 t185 := tiOK_of (.nilfn) (Told2.refl _) ⟨_, _, _, Tryz.underlying185⟩ (by kernel_rfl)
theorem ok187 : tiOK Tryz.prog 187 t187 := tiOK_of (.nilfn) (Told2.refl _) ⟨_, _, _, Tryz.underlying187⟩ (by kernel_rfl)
theorem ok188 : tiOK Tryz.prog 188 t188 := tiOK_of (.nilfn) (Told2.refl _) ⟨_, _, _, Tryz.underlying188⟩ (by kernel_rfl)
theorem ok191 : tiOK Tryz.prog 191 t191 := tiOK_of (.nilfn) (Told2.refl _) ⟨_, _, _, Tryz.underlying191⟩ (by kernel_rfl)
theorem ok192 : tiOK Tryz.prog 192 t192 := tiOK_of (.agg [.int .u8 0, .int .u8 0, .int .u8 0, .int .u8 0, .int .u8 0, .int .u8 0, .int .u8 0, .int .u8 0, .int .u8 0, .int .u8 0, .int .u8 0, .int .u8 0, .int .u8 0, .int .u8 0, .int .u8 0, .int .u8 0, .int .u8 0, .int .u8 0, .int .u8 0, .int .u8 0, .int .u8 0, .int .u8 0, .int .u8 0, .int .u8 0]) (Told2.refl _) Tryz.underlying192 (by kernel_rfl)
theorem ok193 : tiOK Tryz.prog 193 t193 := tiOK_of (.nilfn) (Told2.refl _) ⟨_, _, _, Tryz.underlying193⟩ (by kernel_rfl)
theorem ok195 : tiOK Tryz.prog 195 t195 := tiOK_of (.nilfn) (Told2.refl _) ⟨_, _, _, Tryz.underlying195⟩ (by kernel_rfl)
theorem ok196 : tiOK Tryz.prog 196 t196 := tiOK_of (.nilptr) (Told2.refl _) Tryz.underlying196 (by kernel_rfl)
theorem ok197 : tiOK Tryz.prog 197 t197 := tiOK_of (.nilfn) (Told2.refl _) ⟨_, _, _, Tryz.underlying197⟩ (by kernel_rfl)
theorem ok198 : tiOK Tryz.prog 198 t198 := tiOK_of (.nilfn) (Told2.refl _) ⟨_, _, _, Tryz.underlying198⟩ (by kernel_rfl)
theorem ok199 : tiOK Tryz.prog 199 t199 := tiOK_of (.nilptr) (Told2.refl _) Tryz.underlying199 (by kernel_rfl)
theorem ok200 : tiOK Tryz.prog 200 t200 := tiOK_of (.nilptr) (Told2.refl _) Tryz.underlying200 (by kernel_rfl)
theorem ok201 : tiOK Tryz.prog 201 t201 := tiOK_of (.agg [.str []]) (Told2.refl _) ⟨⟨_, Tryz.underlying201, rfl⟩, fun _ => eqPlain_of (by kernel_rfl)⟩ (by kernel_rfl)
theorem ok202 : tiOK Tryz.prog 202 t202 := tiOK_of (.agg [.str []]) (Told2.refl _) ⟨⟨_, Tryz.underlying202, rfl⟩, fun _ => eqPlain_of (by kernel_rfl)⟩ (by kernel_rfl)
theorem ok203 : tiOK Tryz.prog 203 t203 := tiOK_of (.nilfn) (Told2.refl _) ⟨_, _, _, Tryz.underlying203⟩ (by kernel_rfl)
theorem ok204 : tiOK Tryz.prog 204 t204 := tiOK_of (.agg [.int .u64 0, .int .u64 0, .int .u64 0, .int .u64 0, .int .u64 0, .int .u64 0, .int .u64 0, .int .u64 0, .int .u64 0, .int .u64 0, .int .u64 0, .int .u64 0, .int .u64 0, .int .u64 0, .int .u64 0, .int .u64 0, .int .u64 0, .int .u64 0, .int .u64 0, .int .u64 0]) (Told2.refl _) Tryz.underlying204 (by kernel_rfl)
theorem ok205 : tiOK Tryz.prog 205 t205 := tiOK_of (.agg [.int .u8 0, .int .u8 0, .int .u8 0, .int .u8 0, .int .u8 0, .int .u8 0, .int .u8 0, .int .u8 0, .int .u8 0, .int .u8 0, .int .u8 0, .int .u8 0, .int .u8 0, .int .u8 0, .int .u8 0, .int .u8 0, .int .u8 0, .int .u8 0, .int .u8 0, .int .u8 0, .int .u8 0, .int .u8 0, .int .u8 0, .int .u8 0, .int .u8 0, .int .u8 0, .int .u8 0, .int .u8 0, .int .u8 0, .int .u8 0, .int .u8 0, .int .u8 0, .int .u8 0, .int .u8 0, .int .u8 0, .int .u8 0, .int .u8 0, .int .u8 0, .int .u8 0, .int .u8 0, .int .u8 0, .int .u8 0, .int .u8 0, .int .u8 0, .int .u8 0, .int .u8 0, .int .u8 0, .int .u8 0, .int .u8 0, .int .u8 0, .int .u8 0, .int .u8 0, .int .u8 0, .int .u8 0, .int .u8 0, .int .u8 0, .int .u8 0, .int .u8 0, .int .u8 0, .int .u8 0, .int .u8 0, .int .u8 0, .int .u8 0, .int .u8 0, .int .u8 0]) (Told2.refl _) Tryz.underlying205 (by kernel_rfl)
theorem ok206 : tiOK Tryz.prog 206 t206 := tiOK_of (.agg [.int .u8 0, .int .u8 0, .int .u8 0, .int .u8 0, .int .u8 0, .int .u8 0, .int .u8 0, .int .u8 0, .int .u8 0, .int .u8 0, .int .u8 0, .int .u8 0, .int .u8 0, .int .u8 0, .int .u8 0, .int .u8 0, .int .u8 0, .int .u8 0, .int .u8 0, .int .u8 0, .int .u8 0, .int .u8 0, .int .u8 0, .int .u8 0, .int .u8 0, .int .u8 0, .int .u8 0, .int .u8 0, .int .u8 0, .int .u8 0, .int .u8 0, .int .u8 0]) (Told2.refl _) Tryz.underlying206 (by kernel_rfl)
theorem ok207 : tiOK Tryz.prog 207 t207 := tiOK_of (.agg [.int .u8 0, .int .u8 0, .int .u8 0, .int .u8 0, .int .u8 0, .int .u8 0, .int .u8 0, .int .u8 0, .int .u8 0, .int .u8 0, .int .u8 0, .int .u8 0, .int .u8 0, .int .u8 0, .int .u8 0, .int .u8 0, .int .u8 0, .int .u8 0, .int .u8 0, .int .u8 0, .int .u8 0, .int .u8 0, .int .u8 0, .int .u8 0, .int .u8 0, .int .u8 0, .int .u8 0, .int .u8 0, .int .u8 0, .int .u8 0, .int .u8 0, .int .u8 0, .int .u8 0, .int .u8 0, .int .u8 0, .int .u8 0, .int .u8 0, .int .u8 0, .int .u8 0, .int .u8 0, .int .u8 0, .int .u8 0, .int .u8 0, .int .u8 0, .int .u8 0, .int .u8 0, .int .u8 0, .int .u8 0, .int .u8 0, .int .u8 0, .int .u8 0, .int .u8 0, .int .u8 0, .int .u8 0, .int .u8 0, .int .u8 0, .int .u8 0, .int .u8 0, .int .u8 0, .int .u8 0, .int .u8 0, .int .u8 0, .int .u8 0, .int .u8 0]) (Told2.refl _) Tryz.underlying207 (by kernel_rfl)
theorem ok208 : tiOK Tryz.prog 208 t208 := tiOK_of (.nilfn) (Told2.refl _) ⟨_, _, _, Tryz.underlying208⟩ (by kernel_rfl)
theorem ok209 : tiOK Tryz.prog 209 t209 := tiOK_of (.agg [.nilptr, .nilptr, .nilptr, .str []]) (Told2.refl _) ⟨⟨_, Tryz.underlying209, rfl⟩, fun h => by cases h⟩ (by kernel_rfl)
theorem ok210 : tiOK Tryz.prog 210 t210 := tiOK_of (.agg [.nilptr, .nilptr, .nilptr, .str []]) (Told2.refl _) ⟨⟨_, Tryz.underlying210, rfl⟩, fun h => by cases h⟩ (by kernel_rfl)
theorem ok211 : tiOK Tryz.prog 211 t211 := tiOK_of (.agg []) (Told2.refl _) Tryz.underlying211 (by kernel_rfl)
theorem ok212 : tiOK Tryz.prog 212 t212 := tiOK_of (.agg []) (Told2.refl _) ⟨⟨_, Tryz.underlying212, rfl⟩, fun h => by cases h⟩ (by kernel_rfl)
theorem ok213 : tiOK Tryz.prog 213 t213 := tiOK_of (.agg []) (Told2.refl _) ⟨⟨_, Tryz.underlying213, rfl⟩, fun h => by cases h⟩ (by kernel_rfl)
theorem ok214 : tiOK Tryz.prog 214 t214 := tiOK_of (.nilfn) (Told2.refl _) ⟨_, _, _, Tryz.underlying214⟩ (by kernel_rfl)
theorem ok215 : tiOK Tryz.prog 215 t215 := tiOK_of (.int .u8 0) (Told2.refl _) Tryz.underlying215 (by kernel_rfl)
theorem ok216 : tiOK Tryz.prog 216 t216 := tiOK_of (.int .u8 0) (Told2.refl _) Tryz.underlying216 (by kernel_rfl)
theorem ok217 : tiOK Tryz.prog 217 t217 := tiOK_of (.nilfn) (Told2.refl _) ⟨_, _, _, Tryz.underlying217⟩ (by kernel_rfl)
theorem ok218 : tiOK Tryz.prog 218 t218 := tiOK_of (.int .i32 0) (Told2.refl _) Tryz.underlying218 (by kernel_rfl)
theorem ok219 : tiOK Tryz.prog 219 t219 := tiOK_of (.int .i32 0) (Told2.refl _) Tryz.underlying219 (by kernel_rfl)
theorem ok220 : tiOK Tryz.prog 220 t220 := tiOK_of (.agg [.int .u64 0, .int .u64 0, .int .u32 0, .int .u8 0, .int .u8 0, .int .u8 0, .int .u8 0, .nilfn, .nilptr, .int .i32 0, .int .i32 0]) (Told2.refl _) ⟨⟨_, Tryz.underlying220, rfl⟩, fun h => by cases h⟩ (by kernel_rfl)
theorem ok221 : tiOK Tryz.prog 221 t221 := tiOK_of (.agg [.int .u64 0, .int .u64 0, .int .u32 0, .int .u8 0, .int .u8 0, .int .u8 0, .int .u8 0, .nilfn, .nilptr, .int .i32 0, .int .i32 0]) (Told2.refl _) ⟨⟨_, Tryz.underlying221, rfl⟩, fun h => by cases h⟩ (by kernel_rfl)
attribute [go_sem] TBg

theorem mixOK : Tryz.prog.follows .mixedOrders = true := by kernel_rfl

theorem tabOK : TabOK Tryz.prog TB :=
  TabOK.cons ok2 <|
  TabOK.cons ok3 <|
  TabOK.cons ok4 <|
  TabOK.cons ok5 <|
  TabOK.cons ok9 <|
  TabOK.cons ok21 <|
  TabOK.cons ok22 <|
  TabOK.cons ok23 <|
  TabOK.cons ok24 <|
  TabOK.cons ok25 <|
  TabOK.cons ok26 <|
  TabOK.cons ok27 <|
  TabOK.cons ok28 <|
  TabOK.cons ok29 <|
  TabOK.cons ok31 <|
  TabOK.cons ok33 <|
  TabOK.cons ok34 <|
  TabOK.cons ok35 <|
  TabOK.cons ok36 <|
  TabOK.cons ok37 <|
  TabOK.cons ok38 <|
  TabOK.cons ok39 <|
  TabOK.cons ok40 <|
  TabOK.cons ok42 <|
  TabOK.cons ok43 <|
  TabOK.cons ok44 <|
  TabOK.cons ok45 <|
  TabOK.cons ok46 <|
  TabOK.cons ok47 <|
  TabOK.cons ok48 <|
  TabOK.cons ok49 <|
  TabOK.cons ok50 <|
  TabOK.cons ok51 <|
  TabOK.cons ok52 <|
  TabOK.cons ok53 <|
  TabOK.cons ok54 <|
  TabOK.cons ok55 <|
  TabOK.cons ok56 <|
  TabOK.cons ok57 <|
  TabOK.cons ok58 <|
  TabOK.cons ok59 <|
  TabOK.cons ok60 <|
  TabOK.cons ok61 <|
  TabOK.cons ok62 <|
  TabOK.cons ok63 <|
  TabOK.cons ok64 <|
  TabOK.cons ok65 <|
  TabOK.cons ok66 <|
  TabOK.cons ok67 <|
  TabOK.cons ok68 <|
  TabOK.cons ok69 <|
  TabOK.cons ok70 <|
  TabOK.cons ok71 <|
  TabOK.cons ok72 <|
  TabOK.cons ok73 <|
  TabOK.cons ok74 <|
  TabOK.cons ok75 <|
  TabOK.cons ok76 <|
  TabOK.cons ok77 <|
  TabOK.cons ok78 <|
  TabOK.cons ok79 <|
  TabOK.cons ok80 <|
  TabOK.cons ok81 <|
  TabOK.cons ok82 <|
  TabOK.cons ok83 <|
  TabOK.cons ok84 <|
  TabOK.cons ok85 <|
  TabOK.cons ok86 <|
  TabOK.cons ok87 <|
  TabOK.cons ok88 <|
  TabOK.cons ok89 <|
  TabOK.cons ok90 <|
  TabOK.cons ok91 <|
  TabOK.cons ok92 <|
  TabOK.cons ok93 <|
  TabOK.cons ok94 <|
  TabOK.cons ok95 <|
  TabOK.cons ok96 <|
  TabOK.cons ok97 <|
  TabOK.cons ok98 <|
  TabOK.cons ok99 <|
  TabOK.cons ok100 <|
  TabOK.cons ok101 <|
  TabOK.cons ok102 <|
  TabOK.cons ok103 <|
  TabOK.cons ok104 <|
  TabOK.cons ok106 <|
  TabOK.cons ok107 <|
  TabOK.cons ok108 <|
  TabOK.cons ok109 <|
  TabOK.cons ok110 <|
  TabOK.cons ok111 <|
  TabOK.cons ok112 <|
  TabOK.cons ok114 <|
  TabOK.cons ok118 <|
  TabOK.cons ok119 <|
  TabOK.cons ok120 <|
  TabOK.cons ok121 <|
  TabOK.cons ok122 <|
  TabOK.cons ok123 <|
  TabOK.cons ok124 <|
  TabOK.cons ok125 <|
  TabOK.cons ok126 <|
  TabOK.cons ok127 <|
  TabOK.cons ok128 <|
  TabOK.cons ok129 <|
  TabOK.cons ok130 <|
  TabOK.cons ok131 <|
  TabOK.cons ok132 <|
  TabOK.cons ok133 <|
  TabOK.cons ok134 <|
  TabOK.cons ok135 <|
  TabOK.cons ok136 <|
  TabOK.cons ok137 <|
  TabOK.cons ok138 <|
  TabOK.cons ok140 <|
  TabOK.cons ok141 <|
  TabOK.cons ok142 <|
  TabOK.cons ok143 <|
  TabOK.cons ok144 <|
  TabOK.cons ok146 <|
  TabOK.cons ok147 <|
  TabOK.cons ok148 <|
  TabOK.cons ok149 <|
  TabOK.cons ok150 <|
  TabOK.cons ok151 <|
  TabOK.cons ok152 <|
  TabOK.cons ok153 <|
  TabOK.cons ok154 <|
  TabOK.cons ok155 <|
  TabOK.cons ok157 <|
  TabOK.cons ok158 <|
  TabOK.cons ok159 <|
  TabOK.cons ok160 <|
  TabOK.cons ok161 <|
  TabOK.cons ok162 <|
  TabOK.cons ok163 <|
  TabOK.cons ok164 <|
  TabOK.cons ok165 <|
  TabOK.cons ok166 <|
  TabOK.cons ok167 <|
  TabOK.cons ok168 <|
  TabOK.cons ok169 <|
  TabOK.cons ok170 <|
  TabOK.cons ok171 <|
  TabOK.cons ok173 <|
  TabOK.cons ok174 <|
  TabOK.cons ok175 <|
  TabOK.cons ok176 <|
  TabOK.cons ok177 <|
  TabOK.cons ok178 <|
  TabOK.cons ok179 <|
  TabOK.cons ok180 <|
  TabOK.cons ok181 <|
  TabOK.cons ok182 <|
  TabOK.cons ok183 <|
  TabOK.cons ok184 <|
  TabOK.cons ok185 <|
  TabOK.cons ok187 <|
  TabOK.cons ok188 <|
  TabOK.cons ok191 <|
  TabOK.cons ok192 <|
  TabOK.cons ok193 <|
  TabOK.cons ok195 <|
  TabOK.cons ok196 <|
  TabOK.cons ok197 <|
  TabOK.cons ok198 <|
  TabOK.cons ok199 <|
  TabOK.cons ok200 <|
  TabOK.cons ok201 <|
  TabOK.cons ok202 <|
  TabOK.cons ok203 <|
  TabOK.cons ok204 <|
  TabOK.cons ok205 <|
  TabOK.cons ok206 <|
  TabOK.cons ok207 <|
  TabOK.cons ok208 <|
  TabOK.cons ok209 <|
  TabOK.cons ok210 <|
  TabOK.cons ok211 <|
  TabOK.cons ok212 <|
  TabOK.cons ok213 <|
  TabOK.cons ok214 <|
  TabOK.cons ok215 <|
  TabOK.cons ok216 <|
  TabOK.cons ok217 <|
  TabOK.cons ok218 <|
  TabOK.cons ok219 <|
  TabOK.cons ok220 <|
  TabOK.cons ok221 <| TabOK.nil

end Go.Proofs.YtehfihnfeakmaaaGreatDoor
end
