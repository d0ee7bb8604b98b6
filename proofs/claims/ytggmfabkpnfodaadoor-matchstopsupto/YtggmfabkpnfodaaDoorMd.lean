/- A part of the proof: SwH, Tab, SwI, SwJ, SwK, X2, Sh3. Names and spaces are cut short by program. -/
import Derived.Test.YtggmfabkpnfodaaDoorMc
import Derived.KernelRfl
import Derived.Test.YtggmfabkpnfodaaDoorChecked
import Derived.Sort.Grow
import Derived.Laws.IdiomRangeMap
import Derived.Test.YtggmfabkpnfodaaDoorRows
import Derived.WalkKit
import Derived.ProofKit
import Derived.OpenShut
import Derived.JoinedCond
import Derived.Carry
import Derived.ChangeMaps5
import Derived.ChangeSame
import Derived.Shelf.LaysM
import Derived.Shelf.Strconv.Itoa3
import Derived.Test.YtggmfabkpnfodaaDoorProg
set_option linter.unusedSimpArgs false
set_option linter.unusedVariables false
set_option maxRecDepth 10000
set_option maxHeartbeats 4000000
namespace Go.Proofs.YtggmfabkpnfodaaDoor
open Go
section
structure Imp (q p:Prop):Prop where
 go:q→p
theorem Imp.refl (p:Prop):Imp p p:=⟨id⟩
theorem Imp.via {q a b:Prop} (h:a→b) (k:Imp q a):Imp q b:=⟨fun x=>h (k.go x)⟩
structure Fork (c d:Prop) (A:c→Prop) (B:d→Prop):Prop where
 l:∀ x:c,A x
 r:∀ x:d,B x
structure Two (A B:Prop):Prop where
 l:A
 r:B
theorem Imp.fork {c d A B p:Prop} {qa:c→Prop} {qb:d→Prop} (h:(c→A)→(d→B)→p) (l:∀ x:c,Imp (qa x) A) (r:∀ x:d,Imp (qb x) B):Imp (Fork c d qa qb) p:=⟨fun f=>h (fun x=>(l x).go (f.l x)) (fun x=>(r x).go (f.r x))⟩
theorem Imp.two {A B qa qb p:Prop} (h:A→B→p) (l:Imp qa A) (r:Imp qb B):Imp (Two qa qb) p:=⟨fun f=>h (l.go f.l) (r.go f.r)⟩
theorem Imp.no {p:Prop} (h:False):Imp True p:=h.elim
def NoX:Prop:=(1=0)=False
theorem noX:NoX:=by unfold NoX;simp
theorem hsX {σ:Type} (Hs:σ→List Blk) (n0:Nat) (hlen:∀ i,(Hs i).length=n0):(∀ i,(Hs i).length=n0)∧(∀ i L,(Hs i++L)[n0]? =L[0]?)∧(∀ i L k,(Hs i++L)[n0+k]? =L[k]?)∧(∀ i L x,(Hs i++L).set n0 x=Hs i++L.set 0 x)∧(∀ i L k x,(Hs i++L).set (n0+k) x=Hs i++L.set k x):=
 ⟨hlen,fun i L=>by rw[← hlen i];exact get_app0 _ _,fun i L k=>by rw[← hlen i];exact get_app _ _ _,fun i L x=>by rw[← hlen i];exact set_app0 _ _ _,fun i L k x=>by rw[← hlen i];exact set_app _ _ _ _⟩
section
variable {qq qa qb:Prop}
variable {P:Program} {G:Gl} {T:Tab} {own:List Nat} {nt B:Nat} {ρ:Option Nat} {C:Cx} {rs:List ResultVar} {R:SV→List Blk→Prop} {env env2:Env} {H H':List Blk} {k:List It}
variable {all r:List Oper} {ty d j dj:Nat} {op:Op} {pos:String} {after:Array Edge} {v:SV} {want:Bool}
variable {R':SV→List Blk→Prop} {xs:List SV} {f:Operand} {fv:SV} {args:Array Operand} {tys:Array Nat} {g:FuncId}
theorem im_go_seq {x y:Code} (kq:Imp qq ((Out P G T own nt ρ C rs R) (.code x:: .code y::k) .normal env H)):Imp qq ((Out P G T own nt ρ C rs R) (.code (.seq x y)::k) .normal env H):=Imp.via (go_seq) kq
theorem im_go_q (h:qv G T own env H (some d) ty op=some v) (hd:Nat.blt d nt=true) (kq:Imp qq ((Out P G T own nt ρ C rs R) (.ops all r::k) .normal ((d,v)::env) H)):Imp qq ((Out P G T own nt ρ C rs R) (.ops all (⟨some d,op,ty,pos,after,none⟩::r)::k) .normal env H):=Imp.via (go_q h hd) kq
theorem im_go_q0 (h:qv G T own env H none ty op=some v) (kq:Imp qq ((Out P G T own nt ρ C rs R) (.ops all r::k) .normal env H)):Imp qq ((Out P G T own nt ρ C rs R) (.ops all (⟨none,op,ty,pos,after,none⟩::r)::k) .normal env H):=Imp.via (go_q0 h) kq
theorem im_go_nil {all:List Oper} (kq:Imp qq ((Out P G T own nt ρ C rs R) k .normal env H)):Imp qq ((Out P G T own nt ρ C rs R) (.ops all []::k) .normal env H):=Imp.via (go_nil) kq
theorem im_go_region (hT:TabOK P T) {id:Nat} {ops:Array Oper} {l:List Oper} (hl:ops=⟨l⟩) (kq:Imp qq ((Out P G T own nt ρ C rs R) (.ops l l::k) .normal env H)):Imp qq ((Out P G T own nt ρ C rs R) (.code (.region id ops false)::k) .normal env H):=Imp.via (go_region hT hl) kq
theorem im_go_skip (kq:Imp qq ((Out P G T own nt ρ C rs R) k .normal env H)):Imp qq ((Out P G T own nt ρ C rs R) (.code .skip::k) .normal env H):=Imp.via (go_skip) kq
theorem im_go_label {l:Nat} (kq:Imp qq ((Out P G T own nt ρ C rs R) k .normal env H)):Imp qq ((Out P G T own nt ρ C rs R) (.code (.label l)::k) .normal env H):=Imp.via (go_label) kq
theorem im_go_condT {t:Nat} {p q:Code} (h1:look env t=some (.bool true)) (kq:Imp qq ((Out P G T own nt ρ C rs R) (.code p::k) .normal env H)):Imp qq ((Out P G T own nt ρ C rs R) (.code (.cond (.tmp t) p q)::k) .normal env H):=Imp.via (go_condT h1) kq
theorem im_go_condF {t:Nat} {p q:Code} (h1:look env t=some (.bool false)) (kq:Imp qq ((Out P G T own nt ρ C rs R) (.code q::k) .normal env H)):Imp qq ((Out P G T own nt ρ C rs R) (.code (.cond (.tmp t) p q)::k) .normal env H):=Imp.via (go_condF h1) kq
theorem im_go_condDT {t:Nat} {p q:Code} {a:Prop} {inst:Decidable a} (h1:look env t=some (.bool (decide a))) (ha:a) (kq:Imp qq ((Out P G T own nt ρ C rs R) (.code p::k) .normal ((t,.bool true)::env) H)):Imp qq ((Out P G T own nt ρ C rs R) (.code (.cond (.tmp t) p q)::k) .normal env H):=Imp.via (go_condDT h1 ha) kq
theorem im_go_condDF {t:Nat} {p q:Code} {a:Prop} {inst:Decidable a} (h1:look env t=some (.bool (decide a))) (ha:¬ a) (kq:Imp qq ((Out P G T own nt ρ C rs R) (.code q::k) .normal ((t,.bool false)::env) H)):Imp qq ((Out P G T own nt ρ C rs R) (.code (.cond (.tmp t) p q)::k) .normal env H):=Imp.via (go_condDF h1 ha) kq
theorem im_go_block {id:Nat} {x:Code} (kq:Imp qq ((Out P G T own nt ρ C rs R) (.code x:: .blk id::k) .normal env H)):Imp qq ((Out P G T own nt ρ C rs R) (.code (.block id x)::k) .normal env H):=Imp.via (go_block) kq
theorem im_go_blk {id:Nat} (kq:Imp qq ((Out P G T own nt ρ C rs R) k .normal env H)):Imp qq ((Out P G T own nt ρ C rs R) (.blk id::k) .normal env H):=Imp.via (go_blk) kq
theorem im_go_exit {id:Nat} {k':List It} (hu:unw id k=some k') (kq:Imp qq ((Out P G T own nt ρ C rs R) k' .normal env H)):Imp qq ((Out P G T own nt ρ C rs R) (.code (.exit id)::k) .normal env H):=Imp.via (go_exit hu) kq
theorem im_go_l (h:lv G T own env H (some d) ty op=some (v,H')) (hd:Nat.blt d nt=true) (kq:Imp qq ((Out P G T own nt ρ C rs R) (.ops all r::k) .normal ((d,v)::env) H')):Imp qq ((Out P G T own nt ρ C rs R) (.ops all (⟨some d,op,ty,pos,after,none⟩::r)::k) .normal env H):=Imp.via (go_l h hd) kq
theorem im_go_l0 (h:lv G T own env H none ty op=some (v,H')) (kq:Imp qq ((Out P G T own nt ρ C rs R) (.ops all r::k) .normal env H')):Imp qq ((Out P G T own nt ρ C rs R) (.ops all (⟨none,op,ty,pos,after,none⟩::r)::k) .normal env H):=Imp.via (go_l0 h) kq
theorem im_go_gRun {dst:Option Nat} (h1:(all[j]?).bind (·.dst)=some dj) (h2:look env dj=some (.bool want)) (kq:Imp qq ((Out P G T own nt ρ C rs R) (.ops all (⟨dst,op,ty,pos,after,none⟩::r)::k) .normal env H)):Imp qq ((Out P G T own nt ρ C rs R) (.ops all (⟨dst,op,ty,pos,after,some (j,want)⟩::r)::k) .normal env H):=Imp.via (go_gRun h1 h2) kq
theorem im_go_gSkip {v:SV} {b:Option Bool} (h1:(all[j]?).bind (·.dst)=some dj) (h2:look env dj=some v) (h3:asG v=some b) (hb:(b==some want)=false) (hd:Nat.blt d nt=true) (kq:Imp qq ((Out P G T own nt ρ C rs R) (.ops all r::k) .normal ((d,.undef)::env) H)):Imp qq ((Out P G T own nt ρ C rs R) (.ops all (⟨some d,op,ty,pos,after,some (j,want)⟩::r)::k) .normal env H):=Imp.via (go_gSkip h1 h2 h3 hb hd) kq
theorem im_go_gSkip0 {v:SV} {b:Option Bool} (h1:(all[j]?).bind (·.dst)=some dj) (h2:look env dj=some v) (h3:asG v=some b) (hb:(b==some want)=false) (kq:Imp qq ((Out P G T own nt ρ C rs R) (.ops all r::k) .normal env H)):Imp qq ((Out P G T own nt ρ C rs R) (.ops all (⟨none,op,ty,pos,after,some (j,want)⟩::r)::k) .normal env H):=Imp.via (go_gSkip0 h1 h2 h3 hb) kq
theorem im_go_gM1 {b:Bool} (h1:(all[j]?).bind (·.dst)=some dj) (h2:look env dj=some (.bool b)) (hv:b=want→qv G T own env H (some d) ty op=some v) (hd:Nat.blt d nt=true) (kq:Imp qq ((Out P G T own nt ρ C rs R) (.ops all r::k) .normal ((d,gv b want v)::env) H)):Imp qq ((Out P G T own nt ρ C rs R) (.ops all (⟨some d,op,ty,pos,after,some (j,want)⟩::r)::k) .normal env H):=Imp.via (go_gM1 h1 h2 hv hd) kq
theorem im_go_gM2 {b b1 w1:Bool} (h1:(all[j]?).bind (·.dst)=some dj) (h2:look env dj=some (gv b1 w1 (.bool b))) (hv:b1=w1→b=want→qv G T own env H (some d) ty op=some v) (hd:Nat.blt d nt=true) (kq:Imp qq ((Out P G T own nt ρ C rs R) (.ops all r::k) .normal ((d,gv b1 w1 (gv b want v))::env) H)):Imp qq ((Out P G T own nt ρ C rs R) (.ops all (⟨some d,op,ty,pos,after,some (j,want)⟩::r)::k) .normal env H):=Imp.via (go_gM2 h1 h2 hv hd) kq
theorem im_go_gM3 {b b1 w1 b2 w2:Bool} (h1:(all[j]?).bind (·.dst)=some dj) (h2:look env dj=some (gv b1 w1 (gv b2 w2 (.bool b)))) (hv:b1=w1→b2=w2→b=want→qv G T own env H (some d) ty op=some v) (hd:Nat.blt d nt=true) (kq:Imp qq ((Out P G T own nt ρ C rs R) (.ops all r::k) .normal ((d,gv b1 w1 (gv b2 w2 (gv b want v)))::env) H)):Imp qq ((Out P G T own nt ρ C rs R) (.ops all (⟨some d,op,ty,pos,after,some (j,want)⟩::r)::k) .normal env H):=Imp.via (go_gM3 h1 h2 hv hd) kq
theorem im_go_pred {K:Env→List Blk→Prop} (kq:Imp qq (K env H)):Imp qq ((Out P G T own nt ρ C rs R) (.pred K::k) .normal env H):=Imp.via (go_pred) kq
theorem im_go_ret {xs:List SV} (h1:resL T env H rs=some xs) (kq:Imp qq (Fin C H (resSV xs) R)):Imp qq ((Out P G T own nt ρ C rs R) (.code .ret::k) .normal env H):=Imp.via (go_ret h1) kq
theorem im_go_end {xs:List SV} (h1:resL T env H rs=some xs) (kq:Imp qq (Fin C H (resSV xs) R)):Imp qq ((Out P G T own nt ρ C rs R) [] .normal env H):=Imp.via (go_end h1) kq
theorem im_go_condB {t:Nat} {p q:Code} {b:Bool} (h1:look env t=some (.bool b)) {qa:b=true→Prop} {qb:b=false→Prop} (lq:∀ x:b=true,Imp (qa x) ((Out P G T own nt ρ C rs R) (.code p::k) .normal ((t,.bool true)::env) H)) (rq:∀ x:b=false,Imp (qb x) ((Out P G T own nt ρ C rs R) (.code q::k) .normal ((t,.bool false)::env) H)):Imp (Fork (b=true) (b=false) qa qb) ((Out P G T own nt ρ C rs R) (.code (.cond (.tmp t) p q)::k) .normal env H):=Imp.fork (go_condB h1) lq rq
theorem im_go_condD {t:Nat} {p q:Code} {a:Prop} {inst:Decidable a} (h1:look env t=some (.bool (decide a))) {qa:a→Prop} {qb:¬ a→Prop} (lq:∀ x:a,Imp (qa x) ((Out P G T own nt ρ C rs R) (.code p::k) .normal ((t,.bool true)::env) H)) (rq:∀ x:¬ a,Imp (qb x) ((Out P G T own nt ρ C rs R) (.code q::k) .normal ((t,.bool false)::env) H)):Imp (Fork (a) (¬ a) qa qb) ((Out P G T own nt ρ C rs R) (.code (.cond (.tmp t) p q)::k) .normal env H):=Imp.fork (go_condD h1) lq rq
theorem im_go_gB {o:Oper} {b:Bool} (hg:o.guard=some (j,want)) (h1:(all[j]?).bind (·.dst)=some dj) (h2:look env dj=some (.bool b)) {qa:b=true→Prop} {qb:b=false→Prop} (lq:∀ x:b=true,Imp (qa x) ((Out P G T own nt ρ C rs R) (.ops all (o::r)::k) .normal ((dj,.bool true)::env) H)) (rq:∀ x:b=false,Imp (qb x) ((Out P G T own nt ρ C rs R) (.ops all (o::r)::k) .normal ((dj,.bool false)::env) H)):Imp (Fork (b=true) (b=false) qa qb) ((Out P G T own nt ρ C rs R) (.ops all (o::r)::k) .normal env H):=Imp.fork (go_gB hg h1 h2) lq rq
theorem im_go_gD {o:Oper} {a:Prop} {inst:Decidable a} (hg:o.guard=some (j,want)) (h1:(all[j]?).bind (·.dst)=some dj) (h2:look env dj=some (.bool (decide a))) {qa:a→Prop} {qb:¬ a→Prop} (lq:∀ x:a,Imp (qa x) ((Out P G T own nt ρ C rs R) (.ops all (o::r)::k) .normal ((dj,.bool true)::env) H)) (rq:∀ x:¬ a,Imp (qb x) ((Out P G T own nt ρ C rs R) (.ops all (o::r)::k) .normal ((dj,.bool false)::env) H)):Imp (Fork (a) (¬ a) qa qb) ((Out P G T own nt ρ C rs R) (.ops all (o::r)::k) .normal env H):=Imp.fork (go_gD hg h1 h2) lq rq
theorem im_go_nilE {x y:Operand} {X:SV} {t yt n:Nat} (h1:ev G env x=some X) (h2:ev G env y=some .nil) (h3:kindT T t=2) (h4:slLen H X=some n) (hd:Nat.blt d nt=true) {qa:n=0→Prop} {qb:True→Prop} (lq:∀ x:n=0,Imp (qa x) ((Out P G T own nt ρ C rs R) (.ops all r::k) .normal ((d,.bool true)::env) H)) (rq:∀ x:True,Imp (qb x) ((Out P G T own nt ρ C rs R) (.ops all r::k) .normal ((d,.bool false)::env) H)):Imp (Fork (n=0) (True) qa qb) ((Out P G T own nt ρ C rs R) (.ops all (⟨some d,.binOp .eql t x y yt,ty,pos,after,none⟩::r)::k) .normal env H):=Imp.fork (go_nilE h1 h2 h3 h4 hd) lq rq
theorem im_go_nilN {x y:Operand} {X:SV} {t yt n:Nat} (h1:ev G env x=some X) (h2:ev G env y=some .nil) (h3:kindT T t=2) (h4:slLen H X=some n) (hd:Nat.blt d nt=true) {qa:n=0→Prop} {qb:True→Prop} (lq:∀ x:n=0,Imp (qa x) ((Out P G T own nt ρ C rs R) (.ops all r::k) .normal ((d,.bool false)::env) H)) (rq:∀ x:True,Imp (qb x) ((Out P G T own nt ρ C rs R) (.ops all r::k) .normal ((d,.bool true)::env) H)):Imp (Fork (n=0) (True) qa qb) ((Out P G T own nt ρ C rs R) (.ops all (⟨some d,.binOp .neq t x y yt,ty,pos,after,none⟩::r)::k) .normal env H):=Imp.fork (go_nilN h1 h2 h3 h4 hd) lq rq
theorem im_go_gX {o:Oper} {b1 w1:Bool} {u:SV} (hg:o.guard=some (j,want)) (h1:(all[j]?).bind (·.dst)=some dj) (h2:look env dj=some (gv b1 w1 u)) {qa:b1=true→Prop} {qb:b1=false→Prop} (lq:∀ x:b1=true,Imp (qa x) ((Out P G T own nt ρ C rs R) (.ops all (o::r)::k) .normal env H)) (rq:∀ x:b1=false,Imp (qb x) ((Out P G T own nt ρ C rs R) (.ops all (o::r)::k) .normal env H)):Imp (Fork (b1=true) (b1=false) qa qb) ((Out P G T own nt ρ C rs R) (.ops all (o::r)::k) .normal env H):=Imp.fork (fun l r=>go_gX hg h1 h2 fun c e=>by cases c with
 |true=>exact l e
 |false=>exact r e) lq rq
end
section
variable {qq qa qb:Prop}
variable {P:Program} {G:Gl} {T:Tab} {own:List Nat} {nt B:Nat} {ρ:Option Nat} {C:Cx} {rs:List ResultVar} {R:SV→List Blk→Prop} {env env2:Env} {H H':List Blk} {k:List It}
variable {all:List Oper} {L:List Nat} {n i j ty d:Nat} {op:Op} {pos:String} {after:Array Edge} {v:SV} {o:Oper} {K:Env→List Blk→Prop}
variable {m:Nat} {ex:List Nat} {kk:SV→List Blk→Prop} {dst:Option Nat} {want b:Bool} {dj i0:Nat}
variable {R':SV→List Blk→Prop} {xs:List SV} {f:Operand} {fv:SV} {args:Array Operand} {tys:Array Nat} {g:FuncId}
theorem im_go_draw (hT:TabOK P T) (hm:P.follows .mixedOrders=true) {id:Nat} {ops:Array Oper} {l:List Oper} (hl:ops=⟨l⟩) (hok:drawOK nt l=true) (kq:Imp qq (DrP P G T own l 200 0 [] env H (fun env H=>(Out P G T own nt ρ C rs R) k .normal env H))):Imp qq ((Out P G T own nt ρ C rs R) (.code (.region id ops true)::k) .normal env H):=Imp.via (go_draw hT hm hl hok) kq
theorem im_dr_s {m2:Nat} (hs:stepQ own all m ex=some o) (hm:m+1=m2) (kq:Imp qq ((StG P G T own all) n m2 ex o env H K)):Imp qq ((DrP P G T own all) (n+1) m ex env H K):=Imp.via (dr_s hs hm) kq
theorem im_dr_adv2 {m2:Nat} (hm:memN m ex=true) (h2:m+1=m2) (kq:Imp qq ((DrP P G T own all) n m2 ex env H K)):Imp qq ((DrP P G T own all) n m ex env H K):=Imp.via (dr_adv2 hm h2) kq
theorem im_dr_done (hm:Nat.ble all.length m=true) (kq:Imp qq ((Out P G T own nt ρ C rs R) k .normal env H)):Imp qq ((DrP P G T own all) (n+1) m ex env H (fun env H=>(Out P G T own nt ρ C rs R) k .normal env H)):=Imp.via (dr_done hm) kq
theorem im_dr_so (hf:firstQP own m ex 0 all=some i) (ho:all[i]? =some o) (kq:Imp qq ((StG P G T own all) n m (i::ex) o env H K)):Imp qq ((DrP P G T own all) (n+1) m ex env H K):=Imp.via (dr_so hf ho) kq
theorem im_dr_L1 (hf:firstQP own m ex 0 all=none) (hr:readyP m ex 0 all=[j]) (ho:all[j]? =some o) (kq:Imp qq ((Ld P G T own all) n m ex j o env H K)):Imp qq ((DrP P G T own all) (n+1) m ex env H K):=Imp.via (dr_L1 hf hr ho) kq
theorem im_sg_q (hv:qv G T own env H (some d) ty op=some v) (kq:Imp qq ((DrP P G T own all) n m ex ((d,v)::env) H K)):Imp qq ((StG P G T own all) n m ex ⟨some d,op,ty,pos,after,none⟩ env H K):=Imp.via (sg_q hv) kq
theorem im_sg_run {dj:Nat} {want:Bool} (h1:(all[j]?).bind (·.dst)=some dj) (h2:look env dj=some (.bool want)) (hv:qv G T own env H (some d) ty op=some v) (kq:Imp qq ((DrP P G T own all) n m ex ((d,v)::env) H K)):Imp qq ((StG P G T own all) n m ex ⟨some d,op,ty,pos,after,some (j,want)⟩ env H K):=Imp.via (sg_run h1 h2 hv) kq
theorem im_sg_skip {dj:Nat} {want:Bool} {u:SV} {b:Option Bool} (h1:(all[j]?).bind (·.dst)=some dj) (h2:look env dj=some u) (h3:asG u=some b) (hb:(b==some want)=false) (kq:Imp qq ((DrP P G T own all) n m ex ((d,.undef)::env) H K)):Imp qq ((StG P G T own all) n m ex ⟨some d,op,ty,pos,after,some (j,want)⟩ env H K):=Imp.via (sg_skip h1 h2 h3 hb) kq
theorem im_sg_M1 {dj:Nat} {want b:Bool} (h1:(all[j]?).bind (·.dst)=some dj) (h2:look env dj=some (.bool b)) (hv:b=want→qv G T own env H (some d) ty op=some v) (kq:Imp qq ((DrP P G T own all) n m ex ((d,gv b want v)::env) H K)):Imp qq ((StG P G T own all) n m ex ⟨some d,op,ty,pos,after,some (j,want)⟩ env H K):=Imp.via (sg_M1 h1 h2 hv) kq
theorem im_sg_M2 {dj:Nat} {want b b1 w1:Bool} (h1:(all[j]?).bind (·.dst)=some dj) (h2:look env dj=some (gv b1 w1 (.bool b))) (hv:b1=w1→b=want→qv G T own env H (some d) ty op=some v) (kq:Imp qq ((DrP P G T own all) n m ex ((d,gv b1 w1 (gv b want v))::env) H K)):Imp qq ((StG P G T own all) n m ex ⟨some d,op,ty,pos,after,some (j,want)⟩ env H K):=Imp.via (sg_M2 h1 h2 hv) kq
theorem im_sg_M3 {dj:Nat} {want b b1 w1 b2 w2:Bool} (h1:(all[j]?).bind (·.dst)=some dj) (h2:look env dj=some (gv b1 w1 (gv b2 w2 (.bool b)))) (hv:b1=w1→b2=w2→b=want→qv G T own env H (some d) ty op=some v) (kq:Imp qq ((DrP P G T own all) n m ex ((d,gv b1 w1 (gv b2 w2 (gv b want v)))::env) H K)):Imp qq ((StG P G T own all) n m ex ⟨some d,op,ty,pos,after,some (j,want)⟩ env H K):=Imp.via (sg_M3 h1 h2 hv) kq
theorem im_ld_go {dst:Option Nat} (kq:Imp qq (exG P G T own all ⟨dst,op,ty,pos,after,none⟩ env H fun x H'=>AgP G T own all i0 m ex (putE dst x env) H'∧(DrP P G T own all) n m (i0::ex) (putE dst x env) H' K)):Imp qq ((Ld P G T own all) n m ex i0 ⟨dst,op,ty,pos,after,none⟩ env H K):=Imp.via (ld_go) kq
theorem im_ld_run {dst:Option Nat} {dj:Nat} {want:Bool} (h1:(all[j]?).bind (·.dst)=some dj) (h2:look env dj=some (.bool want)) (kq:Imp qq (exG P G T own all ⟨dst,op,ty,pos,after,none⟩ env H fun x H'=>AgP G T own all i0 m ex (putE dst x env) H'∧(DrP P G T own all) n m (i0::ex) (putE dst x env) H' K)):Imp qq ((Ld P G T own all) n m ex i0 ⟨dst,op,ty,pos,after,some (j,want)⟩ env H K):=Imp.via (ld_run h1 h2) kq
theorem im_ld_skip {dst:Option Nat} {dj:Nat} {want:Bool} {u:SV} {bo:Option Bool} (h1:(all[j]?).bind (·.dst)=some dj) (h2:look env dj=some u) (h3:asG u=some bo) (hb:(bo==some want)=false) (kq:Imp qq (AgP G T own all i0 m ex (putE dst .undef env) H∧(DrP P G T own all) n m (i0::ex) (putE dst .undef env) H K)):Imp qq ((Ld P G T own all) n m ex i0 ⟨dst,op,ty,pos,after,some (j,want)⟩ env H K):=Imp.via (ld_skip h1 h2 h3 hb) kq
theorem im_xg_l (h:lv G T own env H dst ty op=some (v,H')) (kq:Imp qq (kk v H')):Imp qq (exG P G T own all ⟨dst,op,ty,pos,after,none⟩ env H kk):=Imp.via (xg_l h) kq
theorem im_xg_q (h:qv G T own env H dst ty op=some v) (kq:Imp qq (kk v H)):Imp qq (exG P G T own all ⟨dst,op,ty,pos,after,none⟩ env H kk):=Imp.via (xg_q h) kq
theorem im_ag_mkS {x:SV} {l:List Nat} (h1:agR own all (getL (clo all) j) m++agL own all (getL (clo all) j) ex=l) (h2:AgAll G T own all ((d,x)::env) H l) (kq:Imp qq ((DrP P G T own all) n m (j::ex) ((d,x)::env) H K)):Imp qq (AgP G T own all j m ex (putE (some d) x env) H∧(DrP P G T own all) n m (j::ex) (putE (some d) x env) H K):=Imp.via (ag_mkS h1 h2) kq
theorem im_ag_mkN {x:SV} {l:List Nat} (h1:agR own all (getL (clo all) j) m++agL own all (getL (clo all) j) ex=l) (h2:AgAll G T own all env H l) (kq:Imp qq ((DrP P G T own all) n m (j::ex) env H K)):Imp qq (AgP G T own all j m ex (putE none x env) H∧(DrP P G T own all) n m (j::ex) (putE none x env) H K):=Imp.via (ag_mkN h1 h2) kq
theorem im_sg_B {dj:Nat} {want b:Bool} (h1:(all[j]?).bind (·.dst)=some dj) (h2:look env dj=some (.bool b)) {qa:b=true→Prop} {qb:b=false→Prop} (lq:∀ x:b=true,Imp (qa x) ((StG P G T own all) n m ex ⟨some d,op,ty,pos,after,some (j,want)⟩ ((dj,.bool true)::env) H (fun env H=>(Out P G T own nt ρ C rs R) k .normal env H))) (rq:∀ x:b=false,Imp (qb x) ((StG P G T own all) n m ex ⟨some d,op,ty,pos,after,some (j,want)⟩ ((dj,.bool false)::env) H (fun env H=>(Out P G T own nt ρ C rs R) k .normal env H))):Imp (Fork (b=true) (b=false) qa qb) ((StG P G T own all) n m ex ⟨some d,op,ty,pos,after,some (j,want)⟩ env H (fun env H=>(Out P G T own nt ρ C rs R) k .normal env H)):=Imp.fork (sg_B h1 h2) lq rq
theorem im_sg_D {dj:Nat} {want:Bool} {a:Prop} {inst:Decidable a} (h1:(all[j]?).bind (·.dst)=some dj) (h2:look env dj=some (.bool (decide a))) {qa:a→Prop} {qb:¬ a→Prop} (lq:∀ x:a,Imp (qa x) ((StG P G T own all) n m ex ⟨some d,op,ty,pos,after,some (j,want)⟩ ((dj,.bool true)::env) H (fun env H=>(Out P G T own nt ρ C rs R) k .normal env H))) (rq:∀ x:¬ a,Imp (qb x) ((StG P G T own all) n m ex ⟨some d,op,ty,pos,after,some (j,want)⟩ ((dj,.bool false)::env) H (fun env H=>(Out P G T own nt ρ C rs R) k .normal env H))):Imp (Fork (a) (¬ a) qa qb) ((StG P G T own all) n m ex ⟨some d,op,ty,pos,after,some (j,want)⟩ env H (fun env H=>(Out P G T own nt ρ C rs R) k .normal env H)):=Imp.fork (sg_D h1 h2) lq rq
theorem im_ld_B {dst:Option Nat} {dj:Nat} {want b:Bool} (h1:(all[j]?).bind (·.dst)=some dj) (h2:look env dj=some (.bool b)) {qa:b=true→Prop} {qb:b=false→Prop} (lq:∀ x:b=true,Imp (qa x) ((Ld P G T own all) n m ex i0 ⟨dst,op,ty,pos,after,some (j,want)⟩ ((dj,.bool true)::env) H (fun env H=>(Out P G T own nt ρ C rs R) k .normal env H))) (rq:∀ x:b=false,Imp (qb x) ((Ld P G T own all) n m ex i0 ⟨dst,op,ty,pos,after,some (j,want)⟩ ((dj,.bool false)::env) H (fun env H=>(Out P G T own nt ρ C rs R) k .normal env H))):Imp (Fork (b=true) (b=false) qa qb) ((Ld P G T own all) n m ex i0 ⟨dst,op,ty,pos,after,some (j,want)⟩ env H (fun env H=>(Out P G T own nt ρ C rs R) k .normal env H)):=Imp.fork (ld_B h1 h2) lq rq
theorem im_ld_D {dst:Option Nat} {dj:Nat} {want:Bool} {a:Prop} {inst:Decidable a} (h1:(all[j]?).bind (·.dst)=some dj) (h2:look env dj=some (.bool (decide a))) {qa:a→Prop} {qb:¬ a→Prop} (lq:∀ x:a,Imp (qa x) ((Ld P G T own all) n m ex i0 ⟨dst,op,ty,pos,after,some (j,want)⟩ ((dj,.bool true)::env) H (fun env H=>(Out P G T own nt ρ C rs R) k .normal env H))) (rq:∀ x:¬ a,Imp (qb x) ((Ld P G T own all) n m ex i0 ⟨dst,op,ty,pos,after,some (j,want)⟩ ((dj,.bool false)::env) H (fun env H=>(Out P G T own nt ρ C rs R) k .normal env H))):Imp (Fork (a) (¬ a) qa qb) ((Ld P G T own all) n m ex i0 ⟨dst,op,ty,pos,after,some (j,want)⟩ env H (fun env H=>(Out P G T own nt ρ C rs R) k .normal env H)):=Imp.fork (ld_D h1 h2) lq rq
theorem im_ld_X {dst:Option Nat} {dj:Nat} {want b1 w1:Bool} {u:SV} (h1:(all[j]?).bind (·.dst)=some dj) (h2:look env dj=some (gv b1 w1 u)) {qa:b1=true→Prop} {qb:b1=false→Prop} (lq:∀ x:b1=true,Imp (qa x) ((Ld P G T own all) n m ex i0 ⟨dst,op,ty,pos,after,some (j,want)⟩ env H K)) (rq:∀ x:b1=false,Imp (qb x) ((Ld P G T own all) n m ex i0 ⟨dst,op,ty,pos,after,some (j,want)⟩ env H K)):Imp (Fork (b1=true) (b1=false) qa qb) ((Ld P G T own all) n m ex i0 ⟨dst,op,ty,pos,after,some (j,want)⟩ env H K):=Imp.fork (fun l r=>ld_X h1 h2 fun c e=>by cases c with
 |true=>exact l e
 |false=>exact r e) lq rq
theorem im_dr_L2 {j2:Nat} {o2:Oper} (hf:firstQP own m ex 0 all=none) (hr:readyP m ex 0 all=[j,j2]) (ho:all[j]? =some o) (ho2:all[j2]? =some o2) (lq:Imp qa ((Ld P G T own all) n m ex j o env H K)) (rq:Imp qb ((Ld P G T own all) n m ex j2 o2 env H K)):Imp (Two qa qb) ((DrP P G T own all) (n+1) m ex env H K):=Imp.two (dr_L2 hf hr ho ho2) lq rq
theorem im_callE2 {vr:SV} {H2:List Blk} {r:List Oper} (h2:evs G env args.toList=some xs) (hc:ACall P G g xs H (fun x H'=>H'=H2∧x=vr)) (hd:Nat.blt d nt=true) (kq:Imp qq (Out P G T own nt ρ C rs R (.ops all r::k) .normal ((d,vr)::env) H2)):Imp qq (Out P G T own nt ρ C rs R (.ops all (⟨some d,.call ⟨.value (.func g),args,tys⟩,ty,pos,after,none⟩::r)::k) .normal env H):=
 Imp.via (fun hk=>go_call h2 hd hc fun x H' hx=>by obtain⟨rfl,rfl⟩:=hx;exact hk) kq
theorem im_xcallE2 {vr:SV} {H2:List Blk} (h2:evs G env args.toList=some xs) (hc:ACall P G g xs H (fun x H'=>H'=H2∧x=vr)) (kq:Imp qq (kk vr H2)):Imp qq (exG P G T own all ⟨dst,.call ⟨.value (.func g),args,tys⟩,ty,pos,after,none⟩ env H kk):=
 Imp.via (fun hk=>xg_call h2 hc fun x H' hx=>by obtain⟨rfl,rfl⟩:=hx;exact hk) kq
theorem im_callE {vr:SV} {H2:List Blk} {r:List Oper} (hc:ACall P G g xs H (fun x H'=>H'=H2∧x=vr)) (h2:evs G env args.toList=some xs) (hd:Nat.blt d nt=true) (kq:Imp qq (Out P G T own nt ρ C rs R (.ops all r::k) .normal ((d,vr)::env) H2)):Imp qq (Out P G T own nt ρ C rs R (.ops all (⟨some d,.call ⟨.value (.func g),args,tys⟩,ty,pos,after,none⟩::r)::k) .normal env H):=
 Imp.via (fun hk=>go_call h2 hd hc fun x H' hx=>by obtain⟨rfl,rfl⟩:=hx;exact hk) kq
theorem im_xcallE {vr:SV} {H2:List Blk} (hc:ACall P G g xs H (fun x H'=>H'=H2∧x=vr)) (h2:evs G env args.toList=some xs) (kq:Imp qq (kk vr H2)):Imp qq (exG P G T own all ⟨dst,.call ⟨.value (.func g),args,tys⟩,ty,pos,after,none⟩ env H kk):=
 Imp.via (fun hk=>xg_call h2 hc fun x H' hx=>by obtain⟨rfl,rfl⟩:=hx;exact hk) kq
theorem im_callC {vr:SV} {H2:List Blk} {r:List Oper} (h1:ev G env f=some fv) (h2:evs G env args.toList=some xs) (hc:ACallV P G fv xs H (fun x H'=>H'=H2∧x=vr)) (hd:Nat.blt d nt=true) (kq:Imp qq (Out P G T own nt ρ C rs R (.ops all r::k) .normal ((d,vr)::env) H2)):Imp qq (Out P G T own nt ρ C rs R (.ops all (⟨some d,.call ⟨.value f,args,tys⟩,ty,pos,after,none⟩::r)::k) .normal env H):=
 Imp.via (fun hk=>go_callV h1 h2 hd hc fun x H' hx=>by obtain⟨rfl,rfl⟩:=hx;exact hk) kq
theorem im_xcallC {vr:SV} {H2:List Blk} (h1:ev G env f=some fv) (h2:evs G env args.toList=some xs) (hc:ACallV P G fv xs H (fun x H'=>H'=H2∧x=vr)) (kq:Imp qq (kk vr H2)):Imp qq (exG P G T own all ⟨dst,.call ⟨.value f,args,tys⟩,ty,pos,after,none⟩ env H kk):=
 Imp.via (fun hk=>xg_callV h1 h2 hc fun x H' hx=>by obtain⟨rfl,rfl⟩:=hx;exact hk) kq
end
attribute [go_sem ↓] gv_T
attribute [go_sem ↓] gv_F
attribute [go_sem ↓] gv_dT
attribute [go_sem ↓] gv_dF
attribute [go_sem] gv_tt
attribute [go_sem] gv_ff
attribute [go_sem] gv_tf
attribute [go_sem] gv_ft
attribute [go_sem] pk_true
attribute [go_sem] pk_false
attribute [go_sem] pk_gvT
attribute [go_sem] pk_gvF
attribute [go_sem] pk_bT
attribute [go_sem] pk_bF
attribute [go_sem] pk_bTr
attribute [go_sem] pk_bFl
attribute [go_sem] qv
attribute [go_sem] lv
attribute [go_sem ↓] ob_some
attribute [go_sem ↓] bb_true
attribute [go_sem ↓] bb_false
attribute [go_sem ↓] chk_true
attribute [go_sem] and_self
attribute [go_sem] and_true
attribute [go_sem] true_and
attribute [go_sem] beq_self_eq_true
attribute [go_sem] beq_true
attribute [go_sem] beq_false
attribute [go_sem] Bool.and_true
attribute [go_sem] Bool.true_and
attribute [go_sem] Bool.and_self
attribute [go_sem] Bool.and_false
attribute [go_sem] Bool.false_and
attribute [go_sem] Bool.or_true
attribute [go_sem] Bool.true_or
attribute [go_sem] Bool.or_false
attribute [go_sem] Bool.false_or
attribute [go_sem] Bool.not_true
attribute [go_sem] Bool.not_false
attribute [go_sem] Int.toNat_natCast
attribute [go_sem] decide_not'
attribute [go_sem] ne_eq
attribute [go_sem] not_true_eq_false
attribute [go_sem] not_false_eq_true
attribute [go_sem ↓] binV.eq_def
attribute [go_sem ↓] unV.eq_def
attribute [go_sem ↓] appV.eq_def
attribute [go_sem ↓] lenV.eq_def
attribute [go_sem ↓] putK.eq_def
attribute [go_sem ↓] copyV.eq_def
attribute [go_sem ↓] clearV.eq_def
attribute [go_sem ↓] evs.eq_1
attribute [go_sem ↓] evs.eq_2
attribute [go_sem ↓] look.eq_1
attribute [go_sem ↓] look.eq_2
attribute [go_sem ↓] isIn.eq_1
attribute [go_sem ↓] isIn.eq_2
attribute [go_sem ↓] initEnv.eq_1
attribute [go_sem ↓] initEnv.eq_2
attribute [go_sem ↓] putAll.eq_1
attribute [go_sem ↓] putAll.eq_2
attribute [go_sem ↓] fillAll.eq_1
attribute [go_sem ↓] fillAll.eq_2
attribute [go_sem ↓] findSV.eq_1
attribute [go_sem ↓] findSV.eq_2
attribute [go_sem ↓] setSV.eq_1
attribute [go_sem ↓] setSV.eq_2
attribute [go_sem ↓] resL.eq_1
attribute [go_sem ↓] resL.eq_2
attribute [go_sem ↓] codeT.eq_1
attribute [go_sem ↓] codeT.eq_2
attribute [go_sem ↓] codeSV.eq_1
attribute [go_sem ↓] codeSV.eq_2
attribute [go_sem ↓] eqSL.eq_1
attribute [go_sem ↓] eqSL.eq_2
attribute [go_sem ↓] resL.eq_3
attribute [go_sem ↓] ev.eq_def
attribute [go_sem ↓] asB.eq_def
attribute [go_sem ↓] asI.eq_def
attribute [go_sem ↓] loadSV.eq_def
attribute [go_sem ↓] storeSV.eq_def
attribute [go_sem ↓] sub.eq_def
attribute [go_sem ↓] fits.eq_def
attribute [go_sem ↓] seqOf.eq_def
attribute [go_sem ↓] elemOf.eq_def
attribute [go_sem ↓] arrOf.eq_def
attribute [go_sem ↓] isPtr.eq_def
attribute [go_sem ↓] fieldOf.eq_def
attribute [go_sem ↓] lenFits.eq_def
attribute [go_sem ↓] lenSV.eq_def
attribute [go_sem ↓] cutSV.eq_def
attribute [go_sem ↓] szOK.eq_def
attribute [go_sem ↓] okPtr.eq_def
attribute [go_sem ↓] fieldPtr.eq_def
attribute [go_sem ↓] boundOf.eq_def
attribute [go_sem ↓] kindT.eq_def
attribute [go_sem ↓] isMapB.eq_def
attribute [go_sem ↓] slLen.eq_def
attribute [go_sem ↓] nilH.eq_def
attribute [go_sem ↓] isNilC.eq_def
attribute [go_sem ↓] fieldsKnown.eq_def
attribute [go_sem ↓] partsOf.eq_def
attribute [go_sem ↓] subPut.eq_def
attribute [go_sem ↓] resSV.eq_def
attribute [go_sem ↓] SV.isAgg.eq_def
attribute [go_sem ↓] SV.leaf.eq_def
attribute [go_sem ↓] SV.size.eq_def
attribute [go_sem ↓] TD.agg.eq_def
attribute [go_sem ↓] blkOf.eq_def
attribute [go_sem ↓] mapOf.eq_def
attribute [go_sem ↓] mapTypes.eq_def
attribute [go_sem ↓] keyIs.eq_def
attribute [go_sem] MK.of
attribute [go_sem ↓] eqSV.eq_def
attribute [go_sem ↓] digSV.eq_def
attribute [go_sem ↓] digT.eq_def
attribute [go_sem ↓] capSV.eq_def
attribute [go_sem ↓] isU8.eq_def
attribute [go_sem ↓] sliceU8.eq_def
attribute [go_sem] constSV_i64
attribute [go_sem] constSV_u8
attribute [go_sem] constSV_bool
attribute [go_sem] constSV_nil
attribute [go_sem] constSV_nilptr
attribute [go_sem] constSV_nilmap
attribute [go_sem] Option.bind_some
attribute [go_sem] Option.isSome_some
attribute [go_sem] List.length_map
attribute [go_sem] List.length_cons
attribute [go_sem] List.length_nil
attribute [go_sem] List.getElem?_map
attribute [go_sem] List.getElem?_eq_getElem
attribute [go_sem] Int.natCast_nonneg
attribute [go_sem] List.getElem?_cons_zero
attribute [go_sem] List.getElem?_cons_succ
attribute [go_sem] Option.map_some
attribute [go_sem] wrap_i64
attribute [go_sem] get_app0
attribute [go_sem] get_app
attribute [go_sem] set_app0
attribute [go_sem] set_app
attribute [go_sem] get_app0S
attribute [go_sem] get_appS
attribute [go_sem] set_app0S
attribute [go_sem] set_appS
attribute [go_sem] get_app0SS
attribute [go_sem] get_appSS
attribute [go_sem] set_app0SS
attribute [go_sem] set_appSS
attribute [go_sem] get_oldS
attribute [go_sem] set_oldS
attribute [go_sem] get_old
attribute [go_sem] set_old
attribute [go_sem] List.set_set
attribute [go_sem] List.getElem?_set_self
attribute [go_sem] List.length_set
attribute [go_sem] List.append_assoc
attribute [go_sem] List.cons_append
attribute [go_sem] List.nil_append
attribute [go_sem] List.length_append
attribute [go_sem] Nat.add_assoc
attribute [go_sem] List.set_cons_zero
attribute [go_sem] List.set_cons_succ
attribute [go_sem] Ex.cells_len
attribute [go_sem] Bd.cells_len
attribute [go_sem] Al.cells_len
attribute [go_sem] Ex.cells_take
attribute [go_sem] Ex.sv
attribute [go_sem] Ex.cells.eq_1
attribute [go_sem] exCells_len
attribute [go_sem] bdCells_len
attribute [go_sem] alCells_len
attribute [go_sem] exCells_get
attribute [go_sem] bdCells_get
attribute [go_sem] alCells_get
attribute [go_sem] List.drop_zero
attribute [go_sem] List.drop_succ_cons
attribute [go_sem] int_le_true
attribute [go_sem] nat_le_true
attribute [go_sem] nat_lt_true
attribute [go_sem] List.take_succ_cons
attribute [go_sem] List.take_zero
attribute [go_sem] List.replicate_succ
attribute [go_sem] List.replicate_zero
attribute [go_sem] List.length_take
attribute [go_sem] Nat.zero_add
attribute [go_sem] Nat.lt_one_iff
attribute [go_sem] true_or
attribute [go_sem] or_true
attribute [go_sem] false_and
attribute [go_sem] and_false
attribute [go_sem] List.length_replicate
attribute [go_sem] strOf_bytes
theorem constSV_s0:constSV (.string (ByteArray.mk #[]))=some (.str []):=by simp[constSV,constCell,maxLen]
attribute [go_sem] constSV_s0
theorem constSV_s1 (a0:UInt8):constSV (.string (ByteArray.mk #[a0]))=some (.str [a0]):=by simp[constSV,constCell,maxLen]
attribute [go_sem] constSV_s1
theorem constSV_s2 (a0 a1:UInt8):constSV (.string (ByteArray.mk #[a0,a1]))=some (.str [a0,a1]):=by simp[constSV,constCell,maxLen]
attribute [go_sem] constSV_s2
theorem constSV_s3 (a0 a1 a2:UInt8):constSV (.string (ByteArray.mk #[a0,a1,a2]))=some (.str [a0,a1,a2]):=by simp[constSV,constCell,maxLen]
attribute [go_sem] constSV_s3
theorem constSV_s4 (a0 a1 a2 a3:UInt8):constSV (.string (ByteArray.mk #[a0,a1,a2,a3]))=some (.str [a0,a1,a2,a3]):=by simp[constSV,constCell,maxLen]
attribute [go_sem] constSV_s4
theorem constSV_s5 (a0 a1 a2 a3 a4:UInt8):constSV (.string (ByteArray.mk #[a0,a1,a2,a3,a4]))=some (.str [a0,a1,a2,a3,a4]):=by simp[constSV,constCell,maxLen]
attribute [go_sem] constSV_s5
theorem constSV_s6 (a0 a1 a2 a3 a4 a5:UInt8):constSV (.string (ByteArray.mk #[a0,a1,a2,a3,a4,a5]))=some (.str [a0,a1,a2,a3,a4,a5]):=by simp[constSV,constCell,maxLen]
attribute [go_sem] constSV_s6
theorem constSV_s7 (a0 a1 a2 a3 a4 a5 a6:UInt8):constSV (.string (ByteArray.mk #[a0,a1,a2,a3,a4,a5,a6]))=some (.str [a0,a1,a2,a3,a4,a5,a6]):=by simp[constSV,constCell,maxLen]
attribute [go_sem] constSV_s7
theorem constSV_s8 (a0 a1 a2 a3 a4 a5 a6 a7:UInt8):constSV (.string (ByteArray.mk #[a0,a1,a2,a3,a4,a5,a6,a7]))=some (.str [a0,a1,a2,a3,a4,a5,a6,a7]):=by simp[constSV,constCell,maxLen]
attribute [go_sem] constSV_s8
theorem constSV_s9 (a0 a1 a2 a3 a4 a5 a6 a7 a8:UInt8):constSV (.string (ByteArray.mk #[a0,a1,a2,a3,a4,a5,a6,a7,a8]))=some (.str [a0,a1,a2,a3,a4,a5,a6,a7,a8]):=by simp[constSV,constCell,maxLen]
attribute [go_sem] constSV_s9
theorem constSV_s10 (a0 a1 a2 a3 a4 a5 a6 a7 a8 a9:UInt8):constSV (.string (ByteArray.mk #[a0,a1,a2,a3,a4,a5,a6,a7,a8,a9]))=some (.str [a0,a1,a2,a3,a4,a5,a6,a7,a8,a9]):=by simp[constSV,constCell,maxLen]
attribute [go_sem] constSV_s10
theorem constSV_s11 (a0 a1 a2 a3 a4 a5 a6 a7 a8 a9 a10:UInt8):constSV (.string (ByteArray.mk #[a0,a1,a2,a3,a4,a5,a6,a7,a8,a9,a10]))=some (.str [a0,a1,a2,a3,a4,a5,a6,a7,a8,a9,a10]):=by simp[constSV,constCell,maxLen]
attribute [go_sem] constSV_s11
theorem constSV_s12 (a0 a1 a2 a3 a4 a5 a6 a7 a8 a9 a10 a11:UInt8):constSV (.string (ByteArray.mk #[a0,a1,a2,a3,a4,a5,a6,a7,a8,a9,a10,a11]))=some (.str [a0,a1,a2,a3,a4,a5,a6,a7,a8,a9,a10,a11]):=by simp[constSV,constCell,maxLen]
attribute [go_sem] constSV_s12
theorem constSV_s13 (a0 a1 a2 a3 a4 a5 a6 a7 a8 a9 a10 a11 a12:UInt8):constSV (.string (ByteArray.mk #[a0,a1,a2,a3,a4,a5,a6,a7,a8,a9,a10,a11,a12]))=some (.str [a0,a1,a2,a3,a4,a5,a6,a7,a8,a9,a10,a11,a12]):=by simp[constSV,constCell,maxLen]
attribute [go_sem] constSV_s13
theorem constSV_s14 (a0 a1 a2 a3 a4 a5 a6 a7 a8 a9 a10 a11 a12 a13:UInt8):constSV (.string (ByteArray.mk #[a0,a1,a2,a3,a4,a5,a6,a7,a8,a9,a10,a11,a12,a13]))=some (.str [a0,a1,a2,a3,a4,a5,a6,a7,a8,a9,a10,a11,a12,a13]):=by simp[constSV,constCell,maxLen]
attribute [go_sem] constSV_s14
theorem constSV_s15 (a0 a1 a2 a3 a4 a5 a6 a7 a8 a9 a10 a11 a12 a13 a14:UInt8):constSV (.string (ByteArray.mk #[a0,a1,a2,a3,a4,a5,a6,a7,a8,a9,a10,a11,a12,a13,a14]))=some (.str [a0,a1,a2,a3,a4,a5,a6,a7,a8,a9,a10,a11,a12,a13,a14]):=by simp[constSV,constCell,maxLen]
attribute [go_sem] constSV_s15
theorem constSV_s16 (a0 a1 a2 a3 a4 a5 a6 a7 a8 a9 a10 a11 a12 a13 a14 a15:UInt8):constSV (.string (ByteArray.mk #[a0,a1,a2,a3,a4,a5,a6,a7,a8,a9,a10,a11,a12,a13,a14,a15]))=some (.str [a0,a1,a2,a3,a4,a5,a6,a7,a8,a9,a10,a11,a12,a13,a14,a15]):=by simp[constSV,constCell,maxLen]
attribute [go_sem] constSV_s16
theorem constSV_s17 (a0 a1 a2 a3 a4 a5 a6 a7 a8 a9 a10 a11 a12 a13 a14 a15 a16:UInt8):constSV (.string (ByteArray.mk #[a0,a1,a2,a3,a4,a5,a6,a7,a8,a9,a10,a11,a12,a13,a14,a15,a16]))=some (.str [a0,a1,a2,a3,a4,a5,a6,a7,a8,a9,a10,a11,a12,a13,a14,a15,a16]):=by simp[constSV,constCell,maxLen]
attribute [go_sem] constSV_s17
theorem constSV_s18 (a0 a1 a2 a3 a4 a5 a6 a7 a8 a9 a10 a11 a12 a13 a14 a15 a16 a17:UInt8):constSV (.string (ByteArray.mk #[a0,a1,a2,a3,a4,a5,a6,a7,a8,a9,a10,a11,a12,a13,a14,a15,a16,a17]))=some (.str [a0,a1,a2,a3,a4,a5,a6,a7,a8,a9,a10,a11,a12,a13,a14,a15,a16,a17]):=by simp[constSV,constCell,maxLen]
attribute [go_sem] constSV_s18
theorem constSV_s19 (a0 a1 a2 a3 a4 a5 a6 a7 a8 a9 a10 a11 a12 a13 a14 a15 a16 a17 a18:UInt8):constSV (.string (ByteArray.mk #[a0,a1,a2,a3,a4,a5,a6,a7,a8,a9,a10,a11,a12,a13,a14,a15,a16,a17,a18]))=some (.str [a0,a1,a2,a3,a4,a5,a6,a7,a8,a9,a10,a11,a12,a13,a14,a15,a16,a17,a18]):=by simp[constSV,constCell,maxLen]
attribute [go_sem] constSV_s19
theorem constSV_s20 (a0 a1 a2 a3 a4 a5 a6 a7 a8 a9 a10 a11 a12 a13 a14 a15 a16 a17 a18 a19:UInt8):constSV (.string (ByteArray.mk #[a0,a1,a2,a3,a4,a5,a6,a7,a8,a9,a10,a11,a12,a13,a14,a15,a16,a17,a18,a19]))=some (.str [a0,a1,a2,a3,a4,a5,a6,a7,a8,a9,a10,a11,a12,a13,a14,a15,a16,a17,a18,a19]):=by simp[constSV,constCell,maxLen]
attribute [go_sem] constSV_s20
theorem constSV_s21 (a0 a1 a2 a3 a4 a5 a6 a7 a8 a9 a10 a11 a12 a13 a14 a15 a16 a17 a18 a19 a20:UInt8):constSV (.string (ByteArray.mk #[a0,a1,a2,a3,a4,a5,a6,a7,a8,a9,a10,a11,a12,a13,a14,a15,a16,a17,a18,a19,a20]))=some (.str [a0,a1,a2,a3,a4,a5,a6,a7,a8,a9,a10,a11,a12,a13,a14,a15,a16,a17,a18,a19,a20]):=by simp[constSV,constCell,maxLen]
attribute [go_sem] constSV_s21
theorem constSV_s22 (a0 a1 a2 a3 a4 a5 a6 a7 a8 a9 a10 a11 a12 a13 a14 a15 a16 a17 a18 a19 a20 a21:UInt8):constSV (.string (ByteArray.mk #[a0,a1,a2,a3,a4,a5,a6,a7,a8,a9,a10,a11,a12,a13,a14,a15,a16,a17,a18,a19,a20,a21]))=some (.str [a0,a1,a2,a3,a4,a5,a6,a7,a8,a9,a10,a11,a12,a13,a14,a15,a16,a17,a18,a19,a20,a21]):=by simp[constSV,constCell,maxLen]
attribute [go_sem] constSV_s22
theorem constSV_s23 (a0 a1 a2 a3 a4 a5 a6 a7 a8 a9 a10 a11 a12 a13 a14 a15 a16 a17 a18 a19 a20 a21 a22:UInt8):constSV (.string (ByteArray.mk #[a0,a1,a2,a3,a4,a5,a6,a7,a8,a9,a10,a11,a12,a13,a14,a15,a16,a17,a18,a19,a20,a21,a22]))=some (.str [a0,a1,a2,a3,a4,a5,a6,a7,a8,a9,a10,a11,a12,a13,a14,a15,a16,a17,a18,a19,a20,a21,a22]):=by simp[constSV,constCell,maxLen]
attribute [go_sem] constSV_s23
theorem constSV_s24 (a0 a1 a2 a3 a4 a5 a6 a7 a8 a9 a10 a11 a12 a13 a14 a15 a16 a17 a18 a19 a20 a21 a22 a23:UInt8):constSV (.string (ByteArray.mk #[a0,a1,a2,a3,a4,a5,a6,a7,a8,a9,a10,a11,a12,a13,a14,a15,a16,a17,a18,a19,a20,a21,a22,a23]))=some (.str [a0,a1,a2,a3,a4,a5,a6,a7,a8,a9,a10,a11,a12,a13,a14,a15,a16,a17,a18,a19,a20,a21,a22,a23]):=by simp[constSV,constCell,maxLen]
attribute [go_sem] constSV_s24
theorem take_mapAll {α β:Type} (l:List α) (f:α→β):(l.map f).take l.length=l.map f:=List.take_of_length_le (by simp)
attribute [go_sem] take_mapAll List.getElem?_take_of_lt List.getElem?_drop
theorem constSV_nilI:constSV .nilIface=some (.ifc true):=rfl
attribute [go_sem] constSV_nilI
attribute [go_sem ↓] isNilI.eq_def
attribute [go_sem ↓] ifcV.eq_def
attribute [go_sem ↓] isIfc.eq_def
theorem evS {p:Prop} (h:p:=by (simp -implicitDefEqProofs (disch:=first|assumption|omega) only[go_sem,X,Int.reduceToNat,Nat.reduceAdd,Nat.reduceSub,Nat.reduceMul,Nat.reduceLT,Nat.reduceLeDiff,Nat.reduceEqDiff,Nat.reduceBEq,Nat.reduceBNe,↓reduceIte,reduceCtorEq]<;>rfl)):p:=h
theorem evS1 {p:Prop} (h:p:=by intro hw1;have hw1p:=hw1;(try simp only[Bool.and_eq_true,Bool.or_eq_true,decide_eq_true_eq,decide_eq_false_iff_not,Bool.not_eq_true',Bool.and_eq_false_iff,Bool.or_eq_false_iff,Bool.not_eq_false'] at hw1p);exact evS):p:=h
theorem evS2 {p:Prop} (h:p:=by intro hw1 hw2;have hw1p:=hw1;(try simp only[Bool.and_eq_true,Bool.or_eq_true,decide_eq_true_eq,decide_eq_false_iff_not,Bool.not_eq_true',Bool.and_eq_false_iff,Bool.or_eq_false_iff,Bool.not_eq_false'] at hw1p);have hw2p:=hw2;(try simp only[Bool.and_eq_true,Bool.or_eq_true,decide_eq_true_eq,decide_eq_false_iff_not,Bool.not_eq_true',Bool.and_eq_false_iff,Bool.or_eq_false_iff,Bool.not_eq_false'] at hw2p);exact evS):p:=h
theorem evS3 {p:Prop} (h:p:=by intro hw1 hw2 hw3;have hw1p:=hw1;(try simp only[Bool.and_eq_true,Bool.or_eq_true,decide_eq_true_eq,decide_eq_false_iff_not,Bool.not_eq_true',Bool.and_eq_false_iff,Bool.or_eq_false_iff,Bool.not_eq_false'] at hw1p);have hw2p:=hw2;(try simp only[Bool.and_eq_true,Bool.or_eq_true,decide_eq_true_eq,decide_eq_false_iff_not,Bool.not_eq_true',Bool.and_eq_false_iff,Bool.or_eq_false_iff,Bool.not_eq_false'] at hw2p);have hw3p:=hw3;(try simp only[Bool.and_eq_true,Bool.or_eq_true,decide_eq_true_eq,decide_eq_false_iff_not,Bool.not_eq_true',Bool.and_eq_false_iff,Bool.or_eq_false_iff,Bool.not_eq_false'] at hw3p);exact evS):p:=h
theorem agS {p:Prop} (h:p:=by repeat' (first|exact ag_nil|((with_reducible apply ag_c0);(· rfl);(· rfl);(· exact evS))|((with_reducible apply ag_cR);(· rfl);(· rfl);(· rfl);(· rfl);(· exact evS);(· first|rfl|(simp (disch:=first|assumption|omega) only[gv_T,gv_F,gv_dT,gv_dF];done)))|((with_reducible apply ag_cS);(· rfl);(· rfl);(· rfl);(· rfl);(· rfl);(· rfl);(· first|rfl|(simp (disch:=first|assumption|omega) only[gv_T,gv_F,gv_dT,gv_dF,gv_dTu,gv_dFu,gv_Tu,gv_Fu];done)))|((with_reducible apply ag_cM1);(· rfl);(· rfl);(· rfl);(· rfl);(· exact evS1))|((with_reducible apply ag_cM2);(· rfl);(· rfl);(· rfl);(· rfl);(· exact evS2))|((with_reducible apply ag_cM3);(· rfl);(· rfl);(· rfl);(· rfl);(· exact evS3))|fail)):p:=h
theorem under_ints {n:Nat} {k:IntKind} (l:List Int):SV.underL n (l.map (SV.int k))=true:=SV.underL_map fun _ _=>rfl
theorem under_bools {n:Nat} (l:List Bool):SV.underL n (l.map SV.bool)=true:=SV.underL_map fun _ _=>rfl
theorem hbS {p:Prop} (h:p:=by (first|rfl|(simp only[X,get_app0,get_app,get_app0S,get_appS,get_app0SS,get_appSS,get_old,List.getElem?_cons_zero,List.getElem?_cons_succ,List.append_assoc,List.cons_append,List.nil_append,List.length_set]<;>rfl)|(simp only[get_app0,get_app,get_app0S,get_appS,get_app0SS,get_appSS,get_old,List.getElem?_cons_zero,List.getElem?_cons_succ,List.append_assoc,List.cons_append,List.nil_append,List.length_set]<;>rfl))):p:=h
theorem SV.underL_replicate {n m:Nat} {x:SV} (h:x.under n=true):SV.underL n (List.replicate m x)=true:=by
 induction m with
 |zero=>rfl
 |succ m ih=>rw[List.replicate_succ];simp only[SV.underL,h,ih,Bool.and_self]
theorem undS {p:Prop} (h:p:=by (first|rfl|assumption|(simp only[SV.under.eq_def,SV.underL.eq_1,SV.underL.eq_2,Ex.cells_under,exCells_under,bdCells_under,alCells_under,strs_under,Ex.sv_under,Bool.and_true,Bool.true_and,Bool.and_self,decide_eq_true_eq,Nat.zero_le,List.drop_zero,Function.comp_def,SV.underL_append,under_mstr,under_mint,under_mbool,under_bde,under_alb,under_ints,under_bools,List.drop_succ_cons]<;>omega)|exact SV.underL_map fun _ _=>rfl|((try simp only[List.drop_zero,SV.underL_append,SV.underL.eq_2,SV.underL.eq_1,SV.under.eq_def,Bool.and_true,Bool.and_self,Bool.and_eq_true,decide_eq_true_eq])<;>(repeat' (first|exact True.intro|refine And.intro ?_ ?_|exact SV.underL_map fun _ _=>rfl|exact SV.underL_replicate rfl|rfl|omega))<;>fail))):p:=h
theorem FrzE.same {H:List Blk} {n:Nat} {ks:Keep}:∀ {es:List (SV×SV)},belowE n es=true→FrzE H n ks es es
 |[],_=> .nil
 |(k,x)::es,h=>by
  simp only[belowE,Bool.and_eq_true] at h
  exact .cons _ _ _ _ _ h.1.1 (.same _ h.1.2) (FrzE.same h.2)
theorem frzLT {p:Prop} (h:p:=by repeat' (first|exact FrzL.nil|(refine FrzL.cons _ _ _ _ ?_ ?_)|(first|(apply Frz.same;exact undS)|exact Frz.nil _|(apply Frz.int;omega)|(apply Frz.kp 0 rfl;(· exact hbS);(· omega);(· omega);(· omega))|(apply Frz.kp 1 rfl;(· exact hbS);(· omega);(· omega);(· omega))|(apply Frz.kp 2 rfl;(· exact hbS);(· omega);(· omega);(· omega))|(apply Frz.kp 3 rfl;(· exact hbS);(· omega);(· omega);(· omega))|(apply Frz.kp 4 rfl;(· exact hbS);(· omega);(· omega);(· omega))|(apply Frz.kp 5 rfl;(· exact hbS);(· omega);(· omega);(· omega))|(apply Frz.kp 6 rfl;(· exact hbS);(· omega);(· omega);(· omega))|(apply Frz.kp 7 rfl;(· exact hbS);(· omega);(· omega);(· omega))|(apply Frz.ks 0 rfl;(· exact hbS);(· omega);(· omega);(· omega);(· omega))|(apply Frz.ks 1 rfl;(· exact hbS);(· omega);(· omega);(· omega);(· omega))|(apply Frz.ks 2 rfl;(· exact hbS);(· omega);(· omega);(· omega);(· omega))|(apply Frz.ks 3 rfl;(· exact hbS);(· omega);(· omega);(· omega);(· omega))|(apply Frz.ks 4 rfl;(· exact hbS);(· omega);(· omega);(· omega);(· omega))|(apply Frz.ks 5 rfl;(· exact hbS);(· omega);(· omega);(· omega);(· omega))|(apply Frz.ks 6 rfl;(· exact hbS);(· omega);(· omega);(· omega);(· omega))|(apply Frz.ks 7 rfl;(· exact hbS);(· omega);(· omega);(· omega);(· omega))|(apply Frz.km 0 rfl;(· exact hbS);(· omega))|(apply Frz.km 1 rfl;(· exact hbS);(· omega))|(apply Frz.km 2 rfl;(· exact hbS);(· omega))|(apply Frz.km 3 rfl;(· exact hbS);(· omega))|(apply Frz.km 4 rfl;(· exact hbS);(· omega))|(apply Frz.km 5 rfl;(· exact hbS);(· omega))|(apply Frz.km 6 rfl;(· exact hbS);(· omega))|(apply Frz.km 7 rfl;(· exact hbS);(· omega))|(apply Frz.sf;(· exact hbS);(· omega);(· simp<;>omega);(· first|rfl|(simp[Function.comp_def,List.take_of_length_le];done));(· exact undS))|fail))):p:=h
theorem frzLS {p:Prop} (h:p:=by repeat' (first|exact FrzL.nil|(refine FrzL.cons _ _ _ _ ?_ ?_)|(first|(apply Frz.same;exact undS)|exact Frz.nil _|(apply Frz.int;omega)|(apply Frz.kp 0 rfl;(· exact hbS);(· omega);(· omega);(· omega))|(apply Frz.kp 1 rfl;(· exact hbS);(· omega);(· omega);(· omega))|(apply Frz.kp 2 rfl;(· exact hbS);(· omega);(· omega);(· omega))|(apply Frz.kp 3 rfl;(· exact hbS);(· omega);(· omega);(· omega))|(apply Frz.kp 4 rfl;(· exact hbS);(· omega);(· omega);(· omega))|(apply Frz.kp 5 rfl;(· exact hbS);(· omega);(· omega);(· omega))|(apply Frz.kp 6 rfl;(· exact hbS);(· omega);(· omega);(· omega))|(apply Frz.kp 7 rfl;(· exact hbS);(· omega);(· omega);(· omega))|(apply Frz.ks 0 rfl;(· exact hbS);(· omega);(· omega);(· omega);(· omega))|(apply Frz.ks 1 rfl;(· exact hbS);(· omega);(· omega);(· omega);(· omega))|(apply Frz.ks 2 rfl;(· exact hbS);(· omega);(· omega);(· omega);(· omega))|(apply Frz.ks 3 rfl;(· exact hbS);(· omega);(· omega);(· omega);(· omega))|(apply Frz.ks 4 rfl;(· exact hbS);(· omega);(· omega);(· omega);(· omega))|(apply Frz.ks 5 rfl;(· exact hbS);(· omega);(· omega);(· omega);(· omega))|(apply Frz.ks 6 rfl;(· exact hbS);(· omega);(· omega);(· omega);(· omega))|(apply Frz.ks 7 rfl;(· exact hbS);(· omega);(· omega);(· omega);(· omega))|(apply Frz.km 0 rfl;(· exact hbS);(· omega))|(apply Frz.km 1 rfl;(· exact hbS);(· omega))|(apply Frz.km 2 rfl;(· exact hbS);(· omega))|(apply Frz.km 3 rfl;(· exact hbS);(· omega))|(apply Frz.km 4 rfl;(· exact hbS);(· omega))|(apply Frz.km 5 rfl;(· exact hbS);(· omega))|(apply Frz.km 6 rfl;(· exact hbS);(· omega))|(apply Frz.km 7 rfl;(· exact hbS);(· omega))|(apply Frz.sf;(· exact hbS);(· omega);(· simp<;>omega);(· first|rfl|(simp[Function.comp_def,List.take_of_length_le];done));(· exact undS))|(apply Frz.agg;exact frzLT)|fail))):p:=h
theorem frzS {p:Prop} (h:p:=by repeat' (first|exact True.intro|exact KeepB.nil|(refine And.intro ⟨_,rfl,?_⟩ ?_)|(apply KeepB.c;(· exact hbS);(· omega);(· first|omega|(simp<;>omega));(· first|(apply FrzL.same;exact undS)|exact frzLS))|(apply KeepB.m;(· exact hbS);(· omega);(· first|exact FrzE.same (esB_under _ _)|exact FrzE.same (esO_under _ _)|(apply FrzE.same;first|rfl|assumption)))|(first|(apply Frz.same;exact undS)|exact Frz.nil _|(apply Frz.int;omega)|(apply Frz.kp 0 rfl;(· exact hbS);(· omega);(· omega);(· omega))|(apply Frz.kp 1 rfl;(· exact hbS);(· omega);(· omega);(· omega))|(apply Frz.kp 2 rfl;(· exact hbS);(· omega);(· omega);(· omega))|(apply Frz.kp 3 rfl;(· exact hbS);(· omega);(· omega);(· omega))|(apply Frz.kp 4 rfl;(· exact hbS);(· omega);(· omega);(· omega))|(apply Frz.kp 5 rfl;(· exact hbS);(· omega);(· omega);(· omega))|(apply Frz.kp 6 rfl;(· exact hbS);(· omega);(· omega);(· omega))|(apply Frz.kp 7 rfl;(· exact hbS);(· omega);(· omega);(· omega))|(apply Frz.ks 0 rfl;(· exact hbS);(· omega);(· omega);(· omega);(· omega))|(apply Frz.ks 1 rfl;(· exact hbS);(· omega);(· omega);(· omega);(· omega))|(apply Frz.ks 2 rfl;(· exact hbS);(· omega);(· omega);(· omega);(· omega))|(apply Frz.ks 3 rfl;(· exact hbS);(· omega);(· omega);(· omega);(· omega))|(apply Frz.ks 4 rfl;(· exact hbS);(· omega);(· omega);(· omega);(· omega))|(apply Frz.ks 5 rfl;(· exact hbS);(· omega);(· omega);(· omega);(· omega))|(apply Frz.ks 6 rfl;(· exact hbS);(· omega);(· omega);(· omega);(· omega))|(apply Frz.ks 7 rfl;(· exact hbS);(· omega);(· omega);(· omega);(· omega))|(apply Frz.km 0 rfl;(· exact hbS);(· omega))|(apply Frz.km 1 rfl;(· exact hbS);(· omega))|(apply Frz.km 2 rfl;(· exact hbS);(· omega))|(apply Frz.km 3 rfl;(· exact hbS);(· omega))|(apply Frz.km 4 rfl;(· exact hbS);(· omega))|(apply Frz.km 5 rfl;(· exact hbS);(· omega))|(apply Frz.km 6 rfl;(· exact hbS);(· omega))|(apply Frz.km 7 rfl;(· exact hbS);(· omega))|(apply Frz.sf;(· exact hbS);(· omega);(· simp<;>omega);(· first|rfl|(simp[Function.comp_def,List.take_of_length_le];done));(· exact undS))|(apply Frz.agg;exact frzLS)|fail)|fail)):p:=h
theorem run {qq p:Prop} (k:qq) (h:Imp qq p:=by
 repeat' (first
  |((with_reducible apply im_go_seq))
  |((with_reducible apply im_go_q);(· exact evS);(· rfl))
  |((with_reducible apply im_go_nil))
  |((with_reducible apply im_go_region);(· exact tabOK);(· first|(simp only[List.append_eq,List.cons_append,List.nil_append];rfl)|rfl))
  |((with_reducible apply im_go_skip))
  |((with_reducible apply im_go_condT);(· rfl))
  |((with_reducible apply im_go_condF);(· rfl))
  |((with_reducible apply im_go_condDT);(· rfl);(· assumption))
  |((with_reducible apply im_go_condDF);(· rfl);(· assumption))
  |((with_reducible apply im_go_condD);(· rfl);(intro hb);(rotate_left);(intro hb);(rotate_right))
  |((with_reducible apply im_go_condB);(· rfl);(intro hb);(rotate_left);(intro hb);(rotate_right))
  |((with_reducible apply im_go_block))
  |((with_reducible apply im_go_blk))
  |((with_reducible apply im_go_exit);(· rfl))
  |((with_reducible apply im_go_l);(· exact evS);(· rfl))
  |((with_reducible apply im_go_l0);(· exact evS))
  |((with_reducible apply im_go_gRun);(· rfl);(· rfl))
  |((with_reducible apply im_go_gSkip);(· rfl);(· rfl);(· rfl);(· rfl);(· rfl))
  |((with_reducible apply im_go_gSkip0);(· rfl);(· rfl);(· rfl);(· rfl))
  |((with_reducible apply im_go_gM1);(· rfl);(· rfl);(· exact evS1);(· rfl))
  |((with_reducible apply im_go_gM2);(· rfl);(· rfl);(· exact evS2);(· rfl))
  |((with_reducible apply im_go_gM3);(· rfl);(· rfl);(· exact evS3);(· rfl))
  |((with_reducible apply im_go_gX);(· rfl);(· rfl);(· rfl);(intro hb);(try simp only[hb]);(try simp only[gv_tt,gv_ff,gv_tf,gv_ft,Bool.true_and,Bool.false_and,Bool.true_or,Bool.false_or,pk_true,pk_false]);(rotate_left);(intro hb);(try simp only[hb]);(try simp only[gv_tt,gv_ff,gv_tf,gv_ft,Bool.true_and,Bool.false_and,Bool.true_or,Bool.false_or,pk_true,pk_false]);(rotate_right))
  |((with_reducible apply im_go_gD);(· rfl);(· rfl);(· rfl);(intro hb);(rotate_left);(intro hb);(rotate_right))
  |((with_reducible apply im_go_gB);(· rfl);(· rfl);(· rfl);(intro hb);(rotate_left);(intro hb);(rotate_right))
  |((with_reducible apply im_go_q0);(· exact evS))
  |((with_reducible apply im_go_nilE);(· exact evS);(· exact evS);(· exact evS);(· exact evS);(· rfl);(intro hb);(rotate_left);(intro hb);(rotate_right))
  |((with_reducible apply im_go_nilN);(· exact evS);(· exact evS);(· exact evS);(· exact evS);(· rfl);(intro hb);(rotate_left);(intro hb);(rotate_right))
  |((with_reducible apply im_go_draw);(· exact tabOK);(· exact mixOK);(· first|(simp only[List.append_eq,List.cons_append,List.nil_append];rfl)|rfl);(· kernel_rfl))
  |((with_reducible apply im_dr_s);(· rfl);(· simp only[Nat.reduceAdd];rfl))
  |((with_reducible apply im_sg_q);(· exact evS))
  |((with_reducible apply im_sg_run);(· rfl);(· rfl);(· exact evS))
  |((with_reducible apply im_sg_skip);(· rfl);(· rfl);(· rfl);(· rfl))
  |((with_reducible apply im_sg_M1);(· rfl);(· rfl);(· exact evS1))
  |((with_reducible apply im_sg_M2);(· rfl);(· rfl);(· exact evS2))
  |((with_reducible apply im_sg_M3);(· rfl);(· rfl);(· exact evS3))
  |((with_reducible apply im_sg_D);(· rfl);(· rfl);(intro hb);(rotate_left);(intro hb);(rotate_right))
  |((with_reducible apply im_sg_B);(· rfl);(· rfl);(intro hb);(rotate_left);(intro hb);(rotate_right))
  |((with_reducible apply im_dr_adv2);(· rfl);(· simp only[Nat.reduceAdd];rfl))
  |((with_reducible apply im_dr_done);(· rfl))
  |((with_reducible apply im_dr_so);(· rfl);(· rfl))
  |((with_reducible apply im_dr_L1);(· rfl);(· rfl);(· rfl))
  |((with_reducible apply im_dr_L2);(· rfl);(· rfl);(· rfl);(· rfl))
  |((with_reducible apply im_ld_go))
  |((with_reducible apply im_ld_run);(· rfl);(· rfl))
  |((with_reducible apply im_ld_skip);(· rfl);(· rfl);(· rfl);(· rfl))
  |((with_reducible apply im_ld_X);(· rfl);(· rfl);(intro hb);(try simp only[hb]);(try simp only[gv_tt,gv_ff,gv_tf,gv_ft,Bool.true_and,Bool.false_and,Bool.true_or,Bool.false_or,pk_true,pk_false]);(rotate_left);(intro hb);(try simp only[hb]);(try simp only[gv_tt,gv_ff,gv_tf,gv_ft,Bool.true_and,Bool.false_and,Bool.true_or,Bool.false_or,pk_true,pk_false]);(rotate_right))
  |((with_reducible apply im_ld_D);(· rfl);(· rfl);(intro hb);(rotate_left);(intro hb);(rotate_right))
  |((with_reducible apply im_ld_B);(· rfl);(· rfl);(intro hb);(rotate_left);(intro hb);(rotate_right))
  |((with_reducible apply im_xg_l);(· exact evS))
  |((with_reducible apply im_xg_q);(· exact evS))
  |((with_reducible apply im_ag_mkS);(· conv=>lhs;reduce);(· exact agS))
  |((with_reducible apply im_ag_mkN);(· conv=>lhs;reduce);(· exact agS))
  |((with_reducible apply im_go_label))
  |((with_reducible apply im_go_pred))
  |((with_reducible apply im_go_ret);(· exact evS))
  |((with_reducible apply im_go_end);(· exact evS))
  |((with_reducible apply im_callE);(· first|exact c1|exact c1 _|exact c2|exact c2 _|exact c3|exact c3 _|exact c4|exact c4 _|exact c5|exact c5 _|exact c6|exact c6 _);(· exact evS);(· rfl))
  |((with_reducible apply im_callE2);(· exact evS);(· first|exact c1|exact c1 _|exact c1 _ _|exact c1 _ _ _|exact c2|exact c2 _|exact c2 _ _|exact c2 _ _ _|exact c3|exact c3 _|exact c3 _ _|exact c3 _ _ _|exact c4|exact c4 _|exact c4 _ _|exact c4 _ _ _|exact c5|exact c5 _|exact c5 _ _|exact c5 _ _ _|exact c6|exact c6 _|exact c6 _ _|exact c6 _ _ _);(· rfl))
  |((with_reducible apply im_xcallE2);(· exact evS);(· first|exact c1|exact c1 _|exact c1 _ _|exact c1 _ _ _|exact c2|exact c2 _|exact c2 _ _|exact c2 _ _ _|exact c3|exact c3 _|exact c3 _ _|exact c3 _ _ _|exact c4|exact c4 _|exact c4 _ _|exact c4 _ _ _|exact c5|exact c5 _|exact c5 _ _|exact c5 _ _ _|exact c6|exact c6 _|exact c6 _ _|exact c6 _ _ _))
  |((with_reducible apply im_xcallE);(· first|exact c1|exact c1 _|exact c2|exact c2 _|exact c3|exact c3 _|exact c4|exact c4 _|exact c5|exact c5 _|exact c6|exact c6 _);(· exact evS))
  |((with_reducible apply im_callC);(· exact evS);(· exact evS);(· first|exact v1|exact v1 _|exact v1 _ _|exact v2|exact v2 _|exact v2 _ _|exact v3|exact v3 _|exact v3 _ _);(· rfl))
  |((with_reducible apply im_xcallC);(· exact evS);(· exact evS);(· first|exact v1|exact v1 _|exact v1 _ _|exact v2|exact v2 _|exact v2 _ _|exact v3|exact v3 _|exact v3 _ _))
  |(refine Imp.no ?_;omega)
  |exact Imp.refl _)):p:=h.go k
theorem runO {qq p:Prop} (k:qq) (h:Imp qq p:=by
 repeat' (first
  |((with_reducible apply im_go_seq))
  |((with_reducible apply im_go_q);(· exact evS);(· rfl))
  |((with_reducible apply im_go_nil))
  |((with_reducible apply im_go_region);(· exact tabOK);(· first|(simp only[List.append_eq,List.cons_append,List.nil_append];rfl)|rfl))
  |((with_reducible apply im_go_skip))
  |((with_reducible apply im_go_condT);(· rfl))
  |((with_reducible apply im_go_condF);(· rfl))
  |((with_reducible apply im_go_condDT);(· rfl);(· assumption))
  |((with_reducible apply im_go_condDF);(· rfl);(· assumption))
  |((with_reducible apply im_go_condD);(· rfl);(intro hb);(rotate_left);(intro hb);(rotate_right))
  |((with_reducible apply im_go_condB);(· rfl);(intro hb);(rotate_left);(intro hb);(rotate_right))
  |((with_reducible apply im_go_block))
  |((with_reducible apply im_go_blk))
  |((with_reducible apply im_go_exit);(· rfl))
  |((with_reducible apply im_go_l);(· exact evS);(· rfl))
  |((with_reducible apply im_go_l0);(· exact evS))
  |((with_reducible apply im_go_gRun);(· rfl);(· rfl))
  |((with_reducible apply im_go_gSkip);(· rfl);(· rfl);(· rfl);(· rfl);(· rfl))
  |((with_reducible apply im_go_gSkip0);(· rfl);(· rfl);(· rfl);(· rfl))
  |((with_reducible apply im_go_gD);(· rfl);(· rfl);(· rfl);(intro hb);(rotate_left);(intro hb);(rotate_right))
  |((with_reducible apply im_go_gB);(· rfl);(· rfl);(· rfl);(intro hb);(rotate_left);(intro hb);(rotate_right))
  |((with_reducible apply im_go_q0);(· exact evS))
  |((with_reducible apply im_go_nilE);(· exact evS);(· exact evS);(· exact evS);(· exact evS);(· rfl);(intro hb);(rotate_left);(intro hb);(rotate_right))
  |((with_reducible apply im_go_nilN);(· exact evS);(· exact evS);(· exact evS);(· exact evS);(· rfl);(intro hb);(rotate_left);(intro hb);(rotate_right))
  |((with_reducible apply im_go_draw);(· exact tabOK);(· exact mixOK);(· first|(simp only[List.append_eq,List.cons_append,List.nil_append];rfl)|rfl);(· kernel_rfl))
  |((with_reducible apply im_dr_s);(· rfl);(· simp only[Nat.reduceAdd];rfl))
  |((with_reducible apply im_sg_q);(· exact evS))
  |((with_reducible apply im_sg_run);(· rfl);(· rfl);(· exact evS))
  |((with_reducible apply im_sg_skip);(· rfl);(· rfl);(· rfl);(· rfl))
  |((with_reducible apply im_sg_D);(· rfl);(· rfl);(intro hb);(rotate_left);(intro hb);(rotate_right))
  |((with_reducible apply im_sg_B);(· rfl);(· rfl);(intro hb);(rotate_left);(intro hb);(rotate_right))
  |((with_reducible apply im_dr_adv2);(· rfl);(· simp only[Nat.reduceAdd];rfl))
  |((with_reducible apply im_dr_done);(· rfl))
  |((with_reducible apply im_dr_so);(· rfl);(· rfl))
  |((with_reducible apply im_dr_L1);(· rfl);(· rfl);(· rfl))
  |((with_reducible apply im_dr_L2);(· rfl);(· rfl);(· rfl);(· rfl))
  |((with_reducible apply im_ld_go))
  |((with_reducible apply im_ld_run);(· rfl);(· rfl))
  |((with_reducible apply im_ld_skip);(· rfl);(· rfl);(· rfl);(· rfl))
  |((with_reducible apply im_ld_D);(· rfl);(· rfl);(intro hb);(rotate_left);(intro hb);(rotate_right))
  |((with_reducible apply im_ld_B);(· rfl);(· rfl);(intro hb);(rotate_left);(intro hb);(rotate_right))
  |((with_reducible apply im_xg_l);(· exact evS))
  |((with_reducible apply im_xg_q);(· exact evS))
  |((with_reducible apply im_ag_mkS);(· conv=>lhs;reduce);(· exact agS))
  |((with_reducible apply im_ag_mkN);(· conv=>lhs;reduce);(· exact agS))
  |((with_reducible apply im_go_label))
  |((with_reducible apply im_go_pred))
  |((with_reducible apply im_go_ret);(· exact evS))
  |((with_reducible apply im_go_end);(· exact evS))
  |((with_reducible apply im_callE);(· first|exact c1|exact c1 _|exact c2|exact c2 _|exact c3|exact c3 _|exact c4|exact c4 _|exact c5|exact c5 _|exact c6|exact c6 _);(· exact evS);(· rfl))
  |((with_reducible apply im_callE2);(· exact evS);(· first|exact c1|exact c1 _|exact c1 _ _|exact c1 _ _ _|exact c2|exact c2 _|exact c2 _ _|exact c2 _ _ _|exact c3|exact c3 _|exact c3 _ _|exact c3 _ _ _|exact c4|exact c4 _|exact c4 _ _|exact c4 _ _ _|exact c5|exact c5 _|exact c5 _ _|exact c5 _ _ _|exact c6|exact c6 _|exact c6 _ _|exact c6 _ _ _);(· rfl))
  |((with_reducible apply im_xcallE2);(· exact evS);(· first|exact c1|exact c1 _|exact c1 _ _|exact c1 _ _ _|exact c2|exact c2 _|exact c2 _ _|exact c2 _ _ _|exact c3|exact c3 _|exact c3 _ _|exact c3 _ _ _|exact c4|exact c4 _|exact c4 _ _|exact c4 _ _ _|exact c5|exact c5 _|exact c5 _ _|exact c5 _ _ _|exact c6|exact c6 _|exact c6 _ _|exact c6 _ _ _))
  |((with_reducible apply im_xcallE);(· first|exact c1|exact c1 _|exact c2|exact c2 _|exact c3|exact c3 _|exact c4|exact c4 _|exact c5|exact c5 _|exact c6|exact c6 _);(· exact evS))
  |((with_reducible apply im_callC);(· exact evS);(· exact evS);(· first|exact v1|exact v1 _|exact v1 _ _|exact v2|exact v2 _|exact v2 _ _|exact v3|exact v3 _|exact v3 _ _);(· rfl))
  |((with_reducible apply im_xcallC);(· exact evS);(· exact evS);(· first|exact v1|exact v1 _|exact v1 _ _|exact v2|exact v2 _|exact v2 _ _|exact v3|exact v3 _|exact v3 _ _))
  |(refine Imp.no ?_;omega)
  |exact Imp.refl _)):p:=h.go k
theorem runB {qq p:Prop} (k:qq) (h:Imp qq p:=by
 repeat' (first
  |((with_reducible apply im_go_seq))
  |((with_reducible apply im_go_q);(· exact evS);(· rfl))
  |((with_reducible apply im_go_nil))
  |((with_reducible apply im_go_region);(· exact tabOK);(· first|(simp only[List.append_eq,List.cons_append,List.nil_append];rfl)|rfl))
  |((with_reducible apply im_go_skip))
  |((with_reducible apply im_go_condT);(· rfl))
  |((with_reducible apply im_go_condF);(· rfl))
  |((with_reducible apply im_go_condDT);(· rfl);(· assumption))
  |((with_reducible apply im_go_condDF);(· rfl);(· assumption))
  |((with_reducible apply im_go_condD);(· rfl);(intro hb);(rotate_left);(intro hb);(rotate_right))
  |((with_reducible apply im_go_condB);(· rfl);(intro hb);(rotate_left);(intro hb);(rotate_right))
  |((with_reducible apply im_go_blk))
  |((with_reducible apply im_go_exit);(· rfl))
  |((with_reducible apply im_go_l);(· exact evS);(· rfl))
  |((with_reducible apply im_go_l0);(· exact evS))
  |((with_reducible apply im_go_gRun);(· rfl);(· rfl))
  |((with_reducible apply im_go_gSkip);(· rfl);(· rfl);(· rfl);(· rfl);(· rfl))
  |((with_reducible apply im_go_gSkip0);(· rfl);(· rfl);(· rfl);(· rfl))
  |((with_reducible apply im_go_gD);(· rfl);(· rfl);(· rfl);(intro hb);(rotate_left);(intro hb);(rotate_right))
  |((with_reducible apply im_go_gB);(· rfl);(· rfl);(· rfl);(intro hb);(rotate_left);(intro hb);(rotate_right))
  |((with_reducible apply im_go_q0);(· exact evS))
  |((with_reducible apply im_go_nilE);(· exact evS);(· exact evS);(· exact evS);(· exact evS);(· rfl);(intro hb);(rotate_left);(intro hb);(rotate_right))
  |((with_reducible apply im_go_nilN);(· exact evS);(· exact evS);(· exact evS);(· exact evS);(· rfl);(intro hb);(rotate_left);(intro hb);(rotate_right))
  |((with_reducible apply im_go_draw);(· exact tabOK);(· exact mixOK);(· first|(simp only[List.append_eq,List.cons_append,List.nil_append];rfl)|rfl);(· kernel_rfl))
  |((with_reducible apply im_dr_s);(· rfl);(· simp only[Nat.reduceAdd];rfl))
  |((with_reducible apply im_sg_q);(· exact evS))
  |((with_reducible apply im_sg_run);(· rfl);(· rfl);(· exact evS))
  |((with_reducible apply im_sg_skip);(· rfl);(· rfl);(· rfl);(· rfl))
  |((with_reducible apply im_sg_D);(· rfl);(· rfl);(intro hb);(rotate_left);(intro hb);(rotate_right))
  |((with_reducible apply im_sg_B);(· rfl);(· rfl);(intro hb);(rotate_left);(intro hb);(rotate_right))
  |((with_reducible apply im_dr_adv2);(· rfl);(· simp only[Nat.reduceAdd];rfl))
  |((with_reducible apply im_dr_done);(· rfl))
  |((with_reducible apply im_dr_so);(· rfl);(· rfl))
  |((with_reducible apply im_dr_L1);(· rfl);(· rfl);(· rfl))
  |((with_reducible apply im_dr_L2);(· rfl);(· rfl);(· rfl);(· rfl))
  |((with_reducible apply im_ld_go))
  |((with_reducible apply im_ld_run);(· rfl);(· rfl))
  |((with_reducible apply im_ld_skip);(· rfl);(· rfl);(· rfl);(· rfl))
  |((with_reducible apply im_ld_D);(· rfl);(· rfl);(intro hb);(rotate_left);(intro hb);(rotate_right))
  |((with_reducible apply im_ld_B);(· rfl);(· rfl);(intro hb);(rotate_left);(intro hb);(rotate_right))
  |((with_reducible apply im_xg_l);(· exact evS))
  |((with_reducible apply im_xg_q);(· exact evS))
  |((with_reducible apply im_ag_mkS);(· conv=>lhs;reduce);(· exact agS))
  |((with_reducible apply im_ag_mkN);(· conv=>lhs;reduce);(· exact agS))
  |((with_reducible apply im_go_label))
  |((with_reducible apply im_go_pred))
  |((with_reducible apply im_go_ret);(· exact evS))
  |((with_reducible apply im_go_end);(· exact evS))
  |((with_reducible apply im_callE);(· first|exact c1|exact c1 _|exact c2|exact c2 _|exact c3|exact c3 _|exact c4|exact c4 _|exact c5|exact c5 _|exact c6|exact c6 _);(· exact evS);(· rfl))
  |((with_reducible apply im_callE2);(· exact evS);(· first|exact c1|exact c1 _|exact c1 _ _|exact c1 _ _ _|exact c2|exact c2 _|exact c2 _ _|exact c2 _ _ _|exact c3|exact c3 _|exact c3 _ _|exact c3 _ _ _|exact c4|exact c4 _|exact c4 _ _|exact c4 _ _ _|exact c5|exact c5 _|exact c5 _ _|exact c5 _ _ _|exact c6|exact c6 _|exact c6 _ _|exact c6 _ _ _);(· rfl))
  |((with_reducible apply im_xcallE2);(· exact evS);(· first|exact c1|exact c1 _|exact c1 _ _|exact c1 _ _ _|exact c2|exact c2 _|exact c2 _ _|exact c2 _ _ _|exact c3|exact c3 _|exact c3 _ _|exact c3 _ _ _|exact c4|exact c4 _|exact c4 _ _|exact c4 _ _ _|exact c5|exact c5 _|exact c5 _ _|exact c5 _ _ _|exact c6|exact c6 _|exact c6 _ _|exact c6 _ _ _))
  |((with_reducible apply im_xcallE);(· first|exact c1|exact c1 _|exact c2|exact c2 _|exact c3|exact c3 _|exact c4|exact c4 _|exact c5|exact c5 _|exact c6|exact c6 _);(· exact evS))
  |((with_reducible apply im_callC);(· exact evS);(· exact evS);(· first|exact v1|exact v1 _|exact v1 _ _|exact v2|exact v2 _|exact v2 _ _|exact v3|exact v3 _|exact v3 _ _);(· rfl))
  |((with_reducible apply im_xcallC);(· exact evS);(· exact evS);(· first|exact v1|exact v1 _|exact v1 _ _|exact v2|exact v2 _|exact v2 _ _|exact v3|exact v3 _|exact v3 _ _))
  |(refine Imp.no ?_;omega)
  |exact Imp.refl _)):p:=h.go k
theorem runD {qq p:Prop} (k:qq) (h:Imp qq p:=by
 repeat' (first
  |((with_reducible apply im_go_seq))
  |((with_reducible apply im_go_q);(· exact evS);(· rfl))
  |((with_reducible apply im_go_nil))
  |((with_reducible apply im_go_region);(· exact tabOK);(· first|(simp only[List.append_eq,List.cons_append,List.nil_append];rfl)|rfl))
  |((with_reducible apply im_go_skip))
  |((with_reducible apply im_go_condT);(· rfl))
  |((with_reducible apply im_go_condF);(· rfl))
  |((with_reducible apply im_go_condDT);(· rfl);(· assumption))
  |((with_reducible apply im_go_condDF);(· rfl);(· assumption))
  |((with_reducible apply im_go_condD);(· rfl);(intro hb);(rotate_left);(intro hb);(rotate_right))
  |((with_reducible apply im_go_condB);(· rfl);(intro hb);(rotate_left);(intro hb);(rotate_right))
  |((with_reducible apply im_go_block))
  |((with_reducible apply im_go_blk))
  |((with_reducible apply im_go_exit);(· rfl))
  |((with_reducible apply im_go_l);(· exact evS);(· rfl))
  |((with_reducible apply im_go_l0);(· exact evS))
  |((with_reducible apply im_go_gRun);(· rfl);(· rfl))
  |((with_reducible apply im_go_gSkip);(· rfl);(· rfl);(· rfl);(· rfl);(· rfl))
  |((with_reducible apply im_go_gSkip0);(· rfl);(· rfl);(· rfl);(· rfl))
  |((with_reducible apply im_go_gM1);(· rfl);(· rfl);(· exact evS1);(· rfl))
  |((with_reducible apply im_go_gM2);(· rfl);(· rfl);(· exact evS2);(· rfl))
  |((with_reducible apply im_go_gM3);(· rfl);(· rfl);(· exact evS3);(· rfl))
  |((with_reducible apply im_go_gX);(· rfl);(· rfl);(· rfl);(intro hb);(try simp only[hb]);(try simp only[gv_tt,gv_ff,gv_tf,gv_ft,Bool.true_and,Bool.false_and,Bool.true_or,Bool.false_or,pk_true,pk_false]);(rotate_left);(intro hb);(try simp only[hb]);(try simp only[gv_tt,gv_ff,gv_tf,gv_ft,Bool.true_and,Bool.false_and,Bool.true_or,Bool.false_or,pk_true,pk_false]);(rotate_right))
  |((with_reducible apply im_go_gD);(· rfl);(· rfl);(· rfl);(intro hb);(rotate_left);(intro hb);(rotate_right))
  |((with_reducible apply im_go_gB);(· rfl);(· rfl);(· rfl);(intro hb);(rotate_left);(intro hb);(rotate_right))
  |((with_reducible apply im_go_q0);(· exact evS))
  |((with_reducible apply im_go_nilE);(· exact evS);(· exact evS);(· exact evS);(· exact evS);(· rfl);(intro hb);(rotate_left);(intro hb);(rotate_right))
  |((with_reducible apply im_go_nilN);(· exact evS);(· exact evS);(· exact evS);(· exact evS);(· rfl);(intro hb);(rotate_left);(intro hb);(rotate_right))
  |((with_reducible apply im_dr_s);(· rfl);(· simp only[Nat.reduceAdd];rfl))
  |((with_reducible apply im_sg_q);(· exact evS))
  |((with_reducible apply im_sg_run);(· rfl);(· rfl);(· exact evS))
  |((with_reducible apply im_sg_skip);(· rfl);(· rfl);(· rfl);(· rfl))
  |((with_reducible apply im_sg_M1);(· rfl);(· rfl);(· exact evS1))
  |((with_reducible apply im_sg_M2);(· rfl);(· rfl);(· exact evS2))
  |((with_reducible apply im_sg_M3);(· rfl);(· rfl);(· exact evS3))
  |((with_reducible apply im_sg_D);(· rfl);(· rfl);(intro hb);(rotate_left);(intro hb);(rotate_right))
  |((with_reducible apply im_sg_B);(· rfl);(· rfl);(intro hb);(rotate_left);(intro hb);(rotate_right))
  |((with_reducible apply im_dr_adv2);(· rfl);(· simp only[Nat.reduceAdd];rfl))
  |((with_reducible apply im_dr_done);(· rfl))
  |((with_reducible apply im_dr_so);(· rfl);(· rfl))
  |((with_reducible apply im_dr_L1);(· rfl);(· rfl);(· rfl))
  |((with_reducible apply im_dr_L2);(· rfl);(· rfl);(· rfl);(· rfl))
  |((with_reducible apply im_ld_go))
  |((with_reducible apply im_ld_run);(· rfl);(· rfl))
  |((with_reducible apply im_ld_skip);(· rfl);(· rfl);(· rfl);(· rfl))
  |((with_reducible apply im_ld_X);(· rfl);(· rfl);(intro hb);(try simp only[hb]);(try simp only[gv_tt,gv_ff,gv_tf,gv_ft,Bool.true_and,Bool.false_and,Bool.true_or,Bool.false_or,pk_true,pk_false]);(rotate_left);(intro hb);(try simp only[hb]);(try simp only[gv_tt,gv_ff,gv_tf,gv_ft,Bool.true_and,Bool.false_and,Bool.true_or,Bool.false_or,pk_true,pk_false]);(rotate_right))
  |((with_reducible apply im_ld_D);(· rfl);(· rfl);(intro hb);(rotate_left);(intro hb);(rotate_right))
  |((with_reducible apply im_ld_B);(· rfl);(· rfl);(intro hb);(rotate_left);(intro hb);(rotate_right))
  |((with_reducible apply im_xg_l);(· exact evS))
  |((with_reducible apply im_xg_q);(· exact evS))
  |((with_reducible apply im_ag_mkS);(· conv=>lhs;reduce);(· exact agS))
  |((with_reducible apply im_ag_mkN);(· conv=>lhs;reduce);(· exact agS))
  |((with_reducible apply im_go_label))
  |((with_reducible apply im_go_pred))
  |((with_reducible apply im_go_ret);(· exact evS))
  |((with_reducible apply im_go_end);(· exact evS))
  |((with_reducible apply im_callE);(· first|exact c1|exact c1 _|exact c2|exact c2 _|exact c3|exact c3 _|exact c4|exact c4 _|exact c5|exact c5 _|exact c6|exact c6 _);(· exact evS);(· rfl))
  |((with_reducible apply im_callE2);(· exact evS);(· first|exact c1|exact c1 _|exact c1 _ _|exact c1 _ _ _|exact c2|exact c2 _|exact c2 _ _|exact c2 _ _ _|exact c3|exact c3 _|exact c3 _ _|exact c3 _ _ _|exact c4|exact c4 _|exact c4 _ _|exact c4 _ _ _|exact c5|exact c5 _|exact c5 _ _|exact c5 _ _ _|exact c6|exact c6 _|exact c6 _ _|exact c6 _ _ _);(· rfl))
  |((with_reducible apply im_xcallE2);(· exact evS);(· first|exact c1|exact c1 _|exact c1 _ _|exact c1 _ _ _|exact c2|exact c2 _|exact c2 _ _|exact c2 _ _ _|exact c3|exact c3 _|exact c3 _ _|exact c3 _ _ _|exact c4|exact c4 _|exact c4 _ _|exact c4 _ _ _|exact c5|exact c5 _|exact c5 _ _|exact c5 _ _ _|exact c6|exact c6 _|exact c6 _ _|exact c6 _ _ _))
  |((with_reducible apply im_xcallE);(· first|exact c1|exact c1 _|exact c2|exact c2 _|exact c3|exact c3 _|exact c4|exact c4 _|exact c5|exact c5 _|exact c6|exact c6 _);(· exact evS))
  |((with_reducible apply im_callC);(· exact evS);(· exact evS);(· first|exact v1|exact v1 _|exact v1 _ _|exact v2|exact v2 _|exact v2 _ _|exact v3|exact v3 _|exact v3 _ _);(· rfl))
  |((with_reducible apply im_xcallC);(· exact evS);(· exact evS);(· first|exact v1|exact v1 _|exact v1 _ _|exact v2|exact v2 _|exact v2 _ _|exact v3|exact v3 _|exact v3 _ _))
  |(refine Imp.no ?_;omega)
  |exact Imp.refl _)):p:=h.go k
theorem runC {qq p:Prop} (k:qq) (h:Imp qq p:=by
 repeat' (first
  |((with_reducible apply im_go_seq))
  |((with_reducible apply im_go_q);(· exact evS);(· rfl))
  |((with_reducible apply im_go_nil))
  |((with_reducible apply im_go_region);(· exact tabOK);(· first|(simp only[List.append_eq,List.cons_append,List.nil_append];rfl)|rfl))
  |((with_reducible apply im_go_skip))
  |((with_reducible apply im_go_block))
  |((with_reducible apply im_go_blk))
  |((with_reducible apply im_go_exit);(· rfl))
  |((with_reducible apply im_go_l);(· exact evS);(· rfl))
  |((with_reducible apply im_go_l0);(· exact evS))
  |((with_reducible apply im_go_gRun);(· rfl);(· rfl))
  |((with_reducible apply im_go_gSkip);(· rfl);(· rfl);(· rfl);(· rfl);(· rfl))
  |((with_reducible apply im_go_gSkip0);(· rfl);(· rfl);(· rfl);(· rfl))
  |((with_reducible apply im_go_gM1);(· rfl);(· rfl);(· exact evS1);(· rfl))
  |((with_reducible apply im_go_gM2);(· rfl);(· rfl);(· exact evS2);(· rfl))
  |((with_reducible apply im_go_gM3);(· rfl);(· rfl);(· exact evS3);(· rfl))
  |((with_reducible apply im_go_gX);(· rfl);(· rfl);(· rfl);(intro hb);(try simp only[hb]);(try simp only[gv_tt,gv_ff,gv_tf,gv_ft,Bool.true_and,Bool.false_and,Bool.true_or,Bool.false_or,pk_true,pk_false]);(rotate_left);(intro hb);(try simp only[hb]);(try simp only[gv_tt,gv_ff,gv_tf,gv_ft,Bool.true_and,Bool.false_and,Bool.true_or,Bool.false_or,pk_true,pk_false]);(rotate_right))
  |((with_reducible apply im_go_gD);(· rfl);(· rfl);(· rfl);(intro hb);(rotate_left);(intro hb);(rotate_right))
  |((with_reducible apply im_go_gB);(· rfl);(· rfl);(· rfl);(intro hb);(rotate_left);(intro hb);(rotate_right))
  |((with_reducible apply im_go_q0);(· exact evS))
  |((with_reducible apply im_go_nilE);(· exact evS);(· exact evS);(· exact evS);(· exact evS);(· rfl);(intro hb);(rotate_left);(intro hb);(rotate_right))
  |((with_reducible apply im_go_nilN);(· exact evS);(· exact evS);(· exact evS);(· exact evS);(· rfl);(intro hb);(rotate_left);(intro hb);(rotate_right))
  |((with_reducible apply im_go_draw);(· exact tabOK);(· exact mixOK);(· first|(simp only[List.append_eq,List.cons_append,List.nil_append];rfl)|rfl);(· kernel_rfl))
  |((with_reducible apply im_dr_s);(· rfl);(· simp only[Nat.reduceAdd];rfl))
  |((with_reducible apply im_sg_q);(· exact evS))
  |((with_reducible apply im_sg_run);(· rfl);(· rfl);(· exact evS))
  |((with_reducible apply im_sg_skip);(· rfl);(· rfl);(· rfl);(· rfl))
  |((with_reducible apply im_sg_M1);(· rfl);(· rfl);(· exact evS1))
  |((with_reducible apply im_sg_M2);(· rfl);(· rfl);(· exact evS2))
  |((with_reducible apply im_sg_M3);(· rfl);(· rfl);(· exact evS3))
  |((with_reducible apply im_sg_D);(· rfl);(· rfl);(intro hb);(rotate_left);(intro hb);(rotate_right))
  |((with_reducible apply im_sg_B);(· rfl);(· rfl);(intro hb);(rotate_left);(intro hb);(rotate_right))
  |((with_reducible apply im_dr_adv2);(· rfl);(· simp only[Nat.reduceAdd];rfl))
  |((with_reducible apply im_dr_done);(· rfl))
  |((with_reducible apply im_dr_so);(· rfl);(· rfl))
  |((with_reducible apply im_dr_L1);(· rfl);(· rfl);(· rfl))
  |((with_reducible apply im_dr_L2);(· rfl);(· rfl);(· rfl);(· rfl))
  |((with_reducible apply im_ld_go))
  |((with_reducible apply im_ld_run);(· rfl);(· rfl))
  |((with_reducible apply im_ld_skip);(· rfl);(· rfl);(· rfl);(· rfl))
  |((with_reducible apply im_ld_X);(· rfl);(· rfl);(intro hb);(try simp only[hb]);(try simp only[gv_tt,gv_ff,gv_tf,gv_ft,Bool.true_and,Bool.false_and,Bool.true_or,Bool.false_or,pk_true,pk_false]);(rotate_left);(intro hb);(try simp only[hb]);(try simp only[gv_tt,gv_ff,gv_tf,gv_ft,Bool.true_and,Bool.false_and,Bool.true_or,Bool.false_or,pk_true,pk_false]);(rotate_right))
  |((with_reducible apply im_ld_D);(· rfl);(· rfl);(intro hb);(rotate_left);(intro hb);(rotate_right))
  |((with_reducible apply im_ld_B);(· rfl);(· rfl);(intro hb);(rotate_left);(intro hb);(rotate_right))
  |((with_reducible apply im_xg_l);(· exact evS))
  |((with_reducible apply im_xg_q);(· exact evS))
  |((with_reducible apply im_ag_mkS);(· conv=>lhs;reduce);(· exact agS))
  |((with_reducible apply im_ag_mkN);(· conv=>lhs;reduce);(· exact agS))
  |((with_reducible apply im_go_label))
  |((with_reducible apply im_go_pred))
  |((with_reducible apply im_go_ret);(· exact evS))
  |((with_reducible apply im_go_end);(· exact evS))
  |((with_reducible apply im_callE);(· first|exact c1|exact c1 _|exact c2|exact c2 _|exact c3|exact c3 _|exact c4|exact c4 _|exact c5|exact c5 _|exact c6|exact c6 _);(· exact evS);(· rfl))
  |((with_reducible apply im_callE2);(· exact evS);(· first|exact c1|exact c1 _|exact c1 _ _|exact c1 _ _ _|exact c2|exact c2 _|exact c2 _ _|exact c2 _ _ _|exact c3|exact c3 _|exact c3 _ _|exact c3 _ _ _|exact c4|exact c4 _|exact c4 _ _|exact c4 _ _ _|exact c5|exact c5 _|exact c5 _ _|exact c5 _ _ _|exact c6|exact c6 _|exact c6 _ _|exact c6 _ _ _);(· rfl))
  |((with_reducible apply im_xcallE2);(· exact evS);(· first|exact c1|exact c1 _|exact c1 _ _|exact c1 _ _ _|exact c2|exact c2 _|exact c2 _ _|exact c2 _ _ _|exact c3|exact c3 _|exact c3 _ _|exact c3 _ _ _|exact c4|exact c4 _|exact c4 _ _|exact c4 _ _ _|exact c5|exact c5 _|exact c5 _ _|exact c5 _ _ _|exact c6|exact c6 _|exact c6 _ _|exact c6 _ _ _))
  |((with_reducible apply im_xcallE);(· first|exact c1|exact c1 _|exact c2|exact c2 _|exact c3|exact c3 _|exact c4|exact c4 _|exact c5|exact c5 _|exact c6|exact c6 _);(· exact evS))
  |((with_reducible apply im_callC);(· exact evS);(· exact evS);(· first|exact v1|exact v1 _|exact v1 _ _|exact v2|exact v2 _|exact v2 _ _|exact v3|exact v3 _|exact v3 _ _);(· rfl))
  |((with_reducible apply im_xcallC);(· exact evS);(· exact evS);(· first|exact v1|exact v1 _|exact v1 _ _|exact v2|exact v2 _|exact v2 _ _|exact v3|exact v3 _|exact v3 _ _))
  |(refine Imp.no ?_;omega)
  |exact Imp.refl _)):p:=h.go k
section
variable {P:Program} {G:Gl} {T:Tab} {own:List Nat} {nt B:Nat} {ρ:Option Nat} {C:Cx} {rs:List ResultVar} {R:SV→List Blk→Prop} {env env2:Env} {H X KB:List Blk} {k:List It}
theorem wkS (ks:Keep) {n0:Nat} (hG:GClosed G) (hB:Based G C.H.length) (hC:C.H.length=n0) (hcl:closed H) (hn:H.length=n0:=by first|rfl|(simp;done)|exact hlen _) (hk:KeepB (H++X) n0 ks ks KB:=by exact frzS) (hd:(ks.map (·.1)).Nodup:=by first|rfl|decide|simp) (he:subEnvF (H++X) n0 ks env2 env:=by exact frzS):Wk G nt C ⟨env,H++X⟩ ⟨env2,H++KB⟩:=Wk.keepN ks hG hB hn hC hcl hk hd he
variable {all r:List Oper} {ty d j dj:Nat} {op:Op} {pos:String} {after:Array Edge} {v:SV} {want:Bool} {dst:Option Nat} {kk:SV→List Blk→Prop}
variable {R':SV→List Blk→Prop} {xs:List SV} {f:Operand} {fv:SV} {args:Array Operand} {tys:Array Nat} {g:FuncId}
theorem callS (hc:ACall P G g xs H R') (hk:∀ x H',R' x H'→(Out P G T own nt ρ C rs R) (.ops all r::k) .normal ((d,x)::env) H') (h2:evs G env args.toList=some xs:=by exact evS) (hd:Nat.blt d nt=true:=by rfl):(Out P G T own nt ρ C rs R) (.ops all (⟨some d,.call ⟨.value (.func g),args,tys⟩,ty,pos,after,none⟩::r)::k) .normal env H:=go_call h2 hd hc hk
theorem callV (hc:ACallV P G fv xs H R') (hk:∀ x H',R' x H'→(Out P G T own nt ρ C rs R) (.ops all r::k) .normal ((d,x)::env) H') (h1:ev G env f=some fv:=by exact evS) (h2:evs G env args.toList=some xs:=by exact evS) (hd:Nat.blt d nt=true:=by rfl):(Out P G T own nt ρ C rs R) (.ops all (⟨some d,.call ⟨.value f,args,tys⟩,ty,pos,after,none⟩::r)::k) .normal env H:=go_callV h1 h2 hd hc hk
theorem xcallS (hc:ACall P G g xs H R') (hk:∀ x H',R' x H'→kk x H') (h2:evs G env args.toList=some xs:=by exact evS):exG P G T own all ⟨dst,.call ⟨.value (.func g),args,tys⟩,ty,pos,after,none⟩ env H kk:=xg_call h2 hc hk
theorem finS {R0:SV→List Blk→Prop} {n0:Nat} (hR:Back (∀ y H',R0 y H'→R y H')) (hC:C.H.length=n0) (hcl:closed H) {x y:SV} (hx:Frz (H++X) n0 [] x y) (h:R0 y H) (hn:H.length=n0:=by first|rfl|(simp;done)|exact hlen _):Fin C (H++X) x R:=Fin.tellN hR hn hC hcl hx h
theorem finK (ks:Keep) {R0:SV→List Blk→Prop} {n0:Nat} (y:SV) (KB:List Blk) (hR:Back (∀ y H',R0 y H'→R y H')) (hC:C.H.length=n0) (hcl:closed H) {x:SV} (h:R0 y (H++KB)) (hk:KeepB (H++X) n0 ks ks KB:=by exact frzS) (hd:(ks.map (·.1)).Nodup:=by first|rfl|decide|simp) (hx:Frz (H++X) n0 ks x y:=by exact frzS) (hn:H.length=n0:=by first|rfl|(simp;done)|exact hlen _):Fin C (H++X) x R:=Fin.keepN ks hR hn hC hcl hk hd hx h
end
end
def t2:TI:=⟨.int .i64,1,8,.int .i64 0⟩
def t3:TI:=⟨.int .i64,1,8,.int .i64 0⟩
def t4:TI:=⟨.bool,1,1,.bool false⟩
def t5:TI:=⟨.int .u8,1,1,.int .u8 0⟩
def t9:TI:=⟨.str,1,16,.str []⟩
def t20:TI:=⟨.ifc,1,16,.ifc true⟩
def t21:TI:=⟨.int .i32,1,4,.int .i32 0⟩
def t22:TI:=⟨.slice 55,1,24,.nil⟩
def t23:TI:=⟨.slice 93,1,24,.nil⟩
def t24:TI:=⟨.struct [(0,22),(1,23)] false,2,48,.agg [.nil,.nil]⟩
def t25:TI:=⟨.struct [(0,22),(1,23)] false,2,48,.agg [.list 4 [],.list 3 []]⟩
def t26:TI:=⟨.slice 9,1,24,.nil⟩
def t27:TI:=⟨.slice 39,1,24,.nil⟩
def t28:TI:=⟨.struct [(0,26),(1,3),(2,27)] false,3,56,.agg [.nil,.int .i64 0,.nil]⟩
def t29:TI:=⟨.struct [(0,26),(1,3),(2,27)] false,3,56,.agg [.nil,.int .i64 0,.nil]⟩
def t30:TI:=⟨.func,1,8,.nilfn⟩
def t31:TI:=⟨.func,1,8,.nilfn⟩
def t32:TI:=⟨.slice 42,1,24,.nil⟩
def t33:TI:=⟨.slice 37,1,24,.nil⟩
def t34:TI:=⟨.slice 59,1,24,.nil⟩
def t35:TI:=⟨.slice 85,1,24,.nil⟩
def t36:TI:=⟨.struct [(0,3),(1,9),(2,3),(3,3),(4,26),(5,33),(6,34),(7,35)] false,8,136,.agg [.int .i64 0,.str [],.int .i64 0,.int .i64 0,.nil,.nil,.nil,.nil]⟩
def t37:TI:=⟨.struct [(0,3),(1,9),(2,3),(3,3),(4,26),(5,33),(6,34),(7,35)] false,8,136,.agg [.int .i64 0,.str [],.int .i64 0,.int .i64 0,.list 1 [],.list 8 [],.list 9 [],.list 12 []]⟩
def t38:TI:=⟨.struct [(0,32),(1,37)] false,9,160,.agg [.nil,.int .i64 0,.str [],.int .i64 0,.int .i64 0,.nil,.nil,.nil,.nil]⟩
def t39:TI:=⟨.struct [(0,32),(1,37)] false,9,160,.agg [.list 6 [],.int .i64 0,.str [],.int .i64 0,.int .i64 0,.list 1 [],.list 8 [],.list 9 [],.list 12 []]⟩
def t40:TI:=⟨.func,1,8,.nilfn⟩
def t41:TI:=⟨.struct [(0,3),(1,9),(2,3),(3,3),(4,3),(5,32)] false,6,72,.agg [.int .i64 0,.str [],.int .i64 0,.int .i64 0,.int .i64 0,.nil]⟩
def t42:TI:=⟨.struct [(0,3),(1,9),(2,3),(3,3),(4,3),(5,32)] false,6,72,.agg [.int .i64 0,.str [],.int .i64 0,.int .i64 0,.int .i64 0,.list 6 []]⟩
def t43:TI:=⟨.func,1,8,.nilfn⟩
def t44:TI:=⟨.func,1,8,.nilfn⟩
def t45:TI:=⟨.int .i64,1,8,.int .i64 0⟩
def t47:TI:=⟨.func,1,8,.nilfn⟩
def t48:TI:=⟨.func,1,8,.nilfn⟩
def t49:TI:=⟨.func,1,8,.nilfn⟩
def t51:TI:=⟨.func,1,8,.nilfn⟩
def t52:TI:=⟨.func,1,8,.nilfn⟩
def t53:TI:=⟨.func,1,8,.nilfn⟩
def t54:TI:=⟨.struct [(0,9),(1,3),(2,3),(3,3)] true,4,40,.agg [.str [],.int .i64 0,.int .i64 0,.int .i64 0]⟩
def t55:TI:=⟨.struct [(0,9),(1,3),(2,3),(3,3)] true,4,40,.agg [.str [],.int .i64 0,.int .i64 0,.int .i64 0]⟩
def t56:TI:=⟨.func,1,8,.nilfn⟩
def t57:TI:=⟨.func,1,8,.nilfn⟩
def t58:TI:=⟨.struct [(0,9),(1,37)] false,9,152,.agg [.str [],.int .i64 0,.str [],.int .i64 0,.int .i64 0,.nil,.nil,.nil,.nil]⟩
def t59:TI:=⟨.struct [(0,9),(1,37)] false,9,152,.agg [.str [],.int .i64 0,.str [],.int .i64 0,.int .i64 0,.list 1 [],.list 8 [],.list 9 [],.list 12 []]⟩
def t61:TI:=⟨.ptr 90,1,8,.nilptr⟩
def t62:TI:=⟨.func,1,8,.nilfn⟩
def t63:TI:=⟨.func,1,8,.nilfn⟩
def t64:TI:=⟨.map 9 4,1,8,.nilmap⟩
def t65:TI:=⟨.func,1,8,.nilfn⟩
def t66:TI:=⟨.map 9 3,1,8,.nilmap⟩
def t67:TI:=⟨.func,1,8,.nilfn⟩
def t68:TI:=⟨.func,1,8,.nilfn⟩
def t69:TI:=⟨.func,1,8,.nilfn⟩
def t70:TI:=⟨.func,1,8,.nilfn⟩
def t71:TI:=⟨.func,1,8,.nilfn⟩
def t72:TI:=⟨.func,1,8,.nilfn⟩
def t73:TI:=⟨.func,1,8,.nilfn⟩
def t74:TI:=⟨.func,1,8,.nilfn⟩
def t75:TI:=⟨.ptr 77,1,8,.nilptr⟩
def t76:TI:=⟨.struct [(0,61),(1,3)] false,2,16,.agg [.nilptr,.int .i64 0]⟩
def t77:TI:=⟨.struct [(0,61),(1,3)] false,2,16,.agg [.nilptr,.int .i64 0]⟩
def t78:TI:=⟨.func,1,8,.nilfn⟩
def t79:TI:=⟨.func,1,8,.nilfn⟩
def t80:TI:=⟨.func,1,8,.nilfn⟩
def t81:TI:=⟨.func,1,8,.nilfn⟩
def t82:TI:=⟨.func,1,8,.nilfn⟩
def t83:TI:=⟨.func,1,8,.nilfn⟩
def t84:TI:=⟨.struct [(0,3),(1,9),(2,3),(3,26),(4,37)] false,12,192,.agg [.int .i64 0,.str [],.int .i64 0,.nil,.int .i64 0,.str [],.int .i64 0,.int .i64 0,.nil,.nil,.nil,.nil]⟩
def t85:TI:=⟨.struct [(0,3),(1,9),(2,3),(3,26),(4,37)] false,12,192,.agg [.int .i64 0,.str [],.int .i64 0,.list 1 [],.int .i64 0,.str [],.int .i64 0,.int .i64 0,.list 1 [],.list 8 [],.list 9 [],.list 12 []]⟩
def t86:TI:=⟨.func,1,8,.nilfn⟩
def t87:TI:=⟨.map 9 55,1,8,.nilmap⟩
def t88:TI:=⟨.map 94 3,1,8,.nilmap⟩
def t89:TI:=⟨.struct [(0,87),(1,88)] false,2,16,.agg [.nilmap,.nilmap]⟩
def t90:TI:=⟨.struct [(0,87),(1,88)] false,2,16,.agg [.nilmap,.nilmap]⟩
def t92:TI:=⟨.struct [(0,9),(1,9),(2,3)] true,3,40,.agg [.str [],.str [],.int .i64 0]⟩
def t93:TI:=⟨.struct [(0,9),(1,9),(2,3)] true,3,40,.agg [.str [],.str [],.int .i64 0]⟩
def t94:TI:=⟨.array 2 9,2,32,.agg [.str [],.str []]⟩
def t95:TI:=⟨.slice 101,1,24,.nil⟩
def t96:TI:=⟨.struct [(0,55),(4,95)] false,5,64,.agg [.str [],.int .i64 0,.int .i64 0,.int .i64 0,.nil]⟩
def t97:TI:=⟨.struct [(0,55),(4,95)] false,5,64,.agg [.str [],.int .i64 0,.int .i64 0,.int .i64 0,.nil]⟩
def t99:TI:=⟨.func,1,8,.nilfn⟩
def t100:TI:=⟨.struct [(0,3),(1,42)] false,7,80,.agg [.int .i64 0,.int .i64 0,.str [],.int .i64 0,.int .i64 0,.int .i64 0,.nil]⟩
def t101:TI:=⟨.struct [(0,3),(1,42)] false,7,80,.agg [.int .i64 0,.int .i64 0,.str [],.int .i64 0,.int .i64 0,.int .i64 0,.nil]⟩
def t102:TI:=⟨.func,1,8,.nilfn⟩
def t103:TI:=⟨.func,1,8,.nilfn⟩
def t104:TI:=⟨.func,1,8,.nilfn⟩
def t105:TI:=⟨.func,1,8,.nilfn⟩
def t106:TI:=⟨.func,1,8,.nilfn⟩
def t107:TI:=⟨.func,1,8,.nilfn⟩
def t108:TI:=⟨.func,1,8,.nilfn⟩
def t109:TI:=⟨.func,1,8,.nilfn⟩
def t110:TI:=⟨.func,1,8,.nilfn⟩
def t111:TI:=⟨.func,1,8,.nilfn⟩
def t112:TI:=⟨.func,1,8,.nilfn⟩
def t113:TI:=⟨.func,1,8,.nilfn⟩
def t114:TI:=⟨.func,1,8,.nilfn⟩
def t115:TI:=⟨.func,1,8,.nilfn⟩
def t116:TI:=⟨.func,1,8,.nilfn⟩
def t117:TI:=⟨.map 3 4,1,8,.nilmap⟩
def t118:TI:=⟨.func,1,8,.nilfn⟩
def t119:TI:=⟨.func,1,8,.nilfn⟩
def t120:TI:=⟨.func,1,8,.nilfn⟩
def t121:TI:=⟨.func,1,8,.nilfn⟩
def t122:TI:=⟨.int .u64,1,8,.int .u64 0⟩
def t123:TI:=⟨.func,1,8,.nilfn⟩
def t124:TI:=⟨.func,1,8,.nilfn⟩
def t125:TI:=⟨.func,1,8,.nilfn⟩
def t126:TI:=⟨.func,1,8,.nilfn⟩
def t127:TI:=⟨.func,1,8,.nilfn⟩
def t128:TI:=⟨.func,1,8,.nilfn⟩
def t129:TI:=⟨.func,1,8,.nilfn⟩
def t130:TI:=⟨.func,1,8,.nilfn⟩
def t131:TI:=⟨.int .i64,1,8,.int .i64 0⟩
def t133:TI:=⟨.func,1,8,.nilfn⟩
def t134:TI:=⟨.func,1,8,.nilfn⟩
def t135:TI:=⟨.func,1,8,.nilfn⟩
def t136:TI:=⟨.func,1,8,.nilfn⟩
def t137:TI:=⟨.func,1,8,.nilfn⟩
def t138:TI:=⟨.func,1,8,.nilfn⟩
def t139:TI:=⟨.int .u32,1,4,.int .u32 0⟩
def t140:TI:=⟨.func,1,8,.nilfn⟩
def t141:TI:=⟨.int .u64,1,8,.int .u64 0⟩
def t142:TI:=⟨.func,1,8,.nilfn⟩
def t143:TI:=⟨.func,1,8,.nilfn⟩
def t144:TI:=⟨.int .u64,1,8,.int .u64 0⟩
def t145:TI:=⟨.func,1,8,.nilfn⟩
def t146:TI:=⟨.func,1,8,.nilfn⟩
def t147:TI:=⟨.func,1,8,.nilfn⟩
def t148:TI:=⟨.ptr 3,1,8,.nilptr⟩
def t149:TI:=⟨.func,1,8,.nilfn⟩
def t150:TI:=⟨.func,1,8,.nilfn⟩
def t151:TI:=⟨.ptr 144,1,8,.nilptr⟩
def t153:TI:=⟨.func,1,8,.nilfn⟩
def t154:TI:=⟨.array 24 5,24,24,.agg [.int .u8 0,.int .u8 0,.int .u8 0,.int .u8 0,.int .u8 0,.int .u8 0,.int .u8 0,.int .u8 0,.int .u8 0,.int .u8 0,.int .u8 0,.int .u8 0,.int .u8 0,.int .u8 0,.int .u8 0,.int .u8 0,.int .u8 0,.int .u8 0,.int .u8 0,.int .u8 0,.int .u8 0,.int .u8 0,.int .u8 0,.int .u8 0]⟩
def t155:TI:=⟨.func,1,8,.nilfn⟩
def t156:TI:=⟨.slice 5,1,24,.nil⟩
def t158:TI:=⟨.func,1,8,.nilfn⟩
def t159:TI:=⟨.func,1,8,.nilfn⟩
def t160:TI:=⟨.array 20 141,20,160,.agg [.int .u64 0,.int .u64 0,.int .u64 0,.int .u64 0,.int .u64 0,.int .u64 0,.int .u64 0,.int .u64 0,.int .u64 0,.int .u64 0,.int .u64 0,.int .u64 0,.int .u64 0,.int .u64 0,.int .u64 0,.int .u64 0,.int .u64 0,.int .u64 0,.int .u64 0,.int .u64 0]⟩
def t161:TI:=⟨.array 65 5,65,65,.agg [.int .u8 0,.int .u8 0,.int .u8 0,.int .u8 0,.int .u8 0,.int .u8 0,.int .u8 0,.int .u8 0,.int .u8 0,.int .u8 0,.int .u8 0,.int .u8 0,.int .u8 0,.int .u8 0,.int .u8 0,.int .u8 0,.int .u8 0,.int .u8 0,.int .u8 0,.int .u8 0,.int .u8 0,.int .u8 0,.int .u8 0,.int .u8 0,.int .u8 0,.int .u8 0,.int .u8 0,.int .u8 0,.int .u8 0,.int .u8 0,.int .u8 0,.int .u8 0,.int .u8 0,.int .u8 0,.int .u8 0,.int .u8 0,.int .u8 0,.int .u8 0,.int .u8 0,.int .u8 0,.int .u8 0,.int .u8 0,.int .u8 0,.int .u8 0,.int .u8 0,.int .u8 0,.int .u8 0,.int .u8 0,.int .u8 0,.int .u8 0,.int .u8 0,.int .u8 0,.int .u8 0,.int .u8 0,.int .u8 0,.int .u8 0,.int .u8 0,.int .u8 0,.int .u8 0,.int .u8 0,.int .u8 0,.int .u8 0,.int .u8 0,.int .u8 0,.int .u8 0]⟩
def t162:TI:=⟨.func,1,8,.nilfn⟩
def t163:TI:=⟨.array 32 5,32,32,.agg [.int .u8 0,.int .u8 0,.int .u8 0,.int .u8 0,.int .u8 0,.int .u8 0,.int .u8 0,.int .u8 0,.int .u8 0,.int .u8 0,.int .u8 0,.int .u8 0,.int .u8 0,.int .u8 0,.int .u8 0,.int .u8 0,.int .u8 0,.int .u8 0,.int .u8 0,.int .u8 0,.int .u8 0,.int .u8 0,.int .u8 0,.int .u8 0,.int .u8 0,.int .u8 0,.int .u8 0,.int .u8 0,.int .u8 0,.int .u8 0,.int .u8 0,.int .u8 0]⟩
def t164:TI:=⟨.array 64 5,64,64,.agg [.int .u8 0,.int .u8 0,.int .u8 0,.int .u8 0,.int .u8 0,.int .u8 0,.int .u8 0,.int .u8 0,.int .u8 0,.int .u8 0,.int .u8 0,.int .u8 0,.int .u8 0,.int .u8 0,.int .u8 0,.int .u8 0,.int .u8 0,.int .u8 0,.int .u8 0,.int .u8 0,.int .u8 0,.int .u8 0,.int .u8 0,.int .u8 0,.int .u8 0,.int .u8 0,.int .u8 0,.int .u8 0,.int .u8 0,.int .u8 0,.int .u8 0,.int .u8 0,.int .u8 0,.int .u8 0,.int .u8 0,.int .u8 0,.int .u8 0,.int .u8 0,.int .u8 0,.int .u8 0,.int .u8 0,.int .u8 0,.int .u8 0,.int .u8 0,.int .u8 0,.int .u8 0,.int .u8 0,.int .u8 0,.int .u8 0,.int .u8 0,.int .u8 0,.int .u8 0,.int .u8 0,.int .u8 0,.int .u8 0,.int .u8 0,.int .u8 0,.int .u8 0,.int .u8 0,.int .u8 0,.int .u8 0,.int .u8 0,.int .u8 0,.int .u8 0]⟩
def t165:TI:=⟨.struct [(0,17),(1,17),(2,17),(3,9)] false,4,40,.agg [.nilptr,.nilptr,.nilptr,.str []]⟩
def t166:TI:=⟨.struct [(0,17),(1,17),(2,17),(3,9)] false,4,40,.agg [.nilptr,.nilptr,.nilptr,.str []]⟩
def t167:TI:=⟨.array 0 16,0,0,.agg []⟩
def t168:TI:=⟨.struct [(0,167)] false,0,0,.agg []⟩
def t169:TI:=⟨.struct [(0,167)] false,0,0,.agg []⟩
def t170:TI:=⟨.func,1,8,.nilfn⟩
def t171:TI:=⟨.int .u8,1,1,.int .u8 0⟩
def t172:TI:=⟨.int .u8,1,1,.int .u8 0⟩
def t173:TI:=⟨.func,1,8,.nilfn⟩
def t174:TI:=⟨.ptr 5,1,8,.nilptr⟩
def t175:TI:=⟨.int .i32,1,4,.int .i32 0⟩
def t176:TI:=⟨.int .i32,1,4,.int .i32 0⟩
def t177:TI:=⟨.struct [(0,12),(1,12),(2,139),(3,171),(4,5),(5,5),(6,172),(7,173),(8,174),(9,175),(10,176)] false,11,48,.agg [.int .u64 0,.int .u64 0,.int .u32 0,.int .u8 0,.int .u8 0,.int .u8 0,.int .u8 0,.nilfn,.nilptr,.int .i32 0,.int .i32 0]⟩
def t178:TI:=⟨.struct [(0,12),(1,12),(2,139),(3,171),(4,5),(5,5),(6,172),(7,173),(8,174),(9,175),(10,176)] false,11,48,.agg [.int .u64 0,.int .u64 0,.int .u32 0,.int .u8 0,.int .u8 0,.int .u8 0,.int .u8 0,.nilfn,.nilptr,.int .i32 0,.int .i32 0]⟩
def TB:Tab:=[(2,t2),(3,t3),(4,t4),(5,t5),(9,t9),(20,t20),(21,t21),(22,t22),(23,t23),(24,t24),(25,t25),(26,t26),(27,t27),(28,t28),(29,t29),(30,t30),(31,t31),(32,t32),(33,t33),(34,t34),(35,t35),(36,t36),(37,t37),(38,t38),(39,t39),(40,t40),(41,t41),(42,t42),(43,t43),(44,t44),(45,t45),(47,t47),(48,t48),(49,t49),(51,t51),(52,t52),(53,t53),(54,t54),(55,t55),(56,t56),(57,t57),(58,t58),(59,t59),(61,t61),(62,t62),(63,t63),(64,t64),(65,t65),(66,t66),(67,t67),(68,t68),(69,t69),(70,t70),(71,t71),(72,t72),(73,t73),(74,t74),(75,t75),(76,t76),(77,t77),(78,t78),(79,t79),(80,t80),(81,t81),(82,t82),(83,t83),(84,t84),(85,t85),(86,t86),(87,t87),(88,t88),(89,t89),(90,t90),(92,t92),(93,t93),(94,t94),(95,t95),(96,t96),(97,t97),(99,t99),(100,t100),(101,t101),(102,t102),(103,t103),(104,t104),(105,t105),(106,t106),(107,t107),(108,t108),(109,t109),(110,t110),(111,t111),(112,t112),(113,t113),(114,t114),(115,t115),(116,t116),(117,t117),(118,t118),(119,t119),(120,t120),(121,t121),(122,t122),(123,t123),(124,t124),(125,t125),(126,t126),(127,t127),(128,t128),(129,t129),(130,t130),(131,t131),(133,t133),(134,t134),(135,t135),(136,t136),(137,t137),(138,t138),(139,t139),(140,t140),(141,t141),(142,t142),(143,t143),(144,t144),(145,t145),(146,t146),(147,t147),(148,t148),(149,t149),(150,t150),(151,t151),(153,t153),(154,t154),(155,t155),(156,t156),(158,t158),(159,t159),(160,t160),(161,t161),(162,t162),(163,t163),(164,t164),(165,t165),(166,t166),(167,t167),(168,t168),(169,t169),(170,t170),(171,t171),(172,t172),(173,t173),(174,t174),(175,t175),(176,t176),(177,t177),(178,t178)]
set_option maxRecDepth 10000 in
theorem TBg:Tab.get TB 2=some ⟨.int .i64,1,8,.int .i64 0⟩∧
 Tab.get TB 3=some ⟨.int .i64,1,8,.int .i64 0⟩∧
 Tab.get TB 4=some ⟨.bool,1,1,.bool false⟩∧
 Tab.get TB 5=some ⟨.int .u8,1,1,.int .u8 0⟩∧
 Tab.get TB 9=some ⟨.str,1,16,.str []⟩∧
 Tab.get TB 20=some ⟨.ifc,1,16,.ifc true⟩∧
 Tab.get TB 21=some ⟨.int .i32,1,4,.int .i32 0⟩∧
 Tab.get TB 22=some ⟨.slice 55,1,24,.nil⟩∧
 Tab.get TB 23=some ⟨.slice 93,1,24,.nil⟩∧
 Tab.get TB 24=some ⟨.struct [(0,22),(1,23)] false,2,48,.agg [.nil,.nil]⟩∧
 Tab.get TB 25=some ⟨.struct [(0,22),(1,23)] false,2,48,.agg [.list 4 [],.list 3 []]⟩∧
 Tab.get TB 26=some ⟨.slice 9,1,24,.nil⟩∧
 Tab.get TB 27=some ⟨.slice 39,1,24,.nil⟩∧
 Tab.get TB 28=some ⟨.struct [(0,26),(1,3),(2,27)] false,3,56,.agg [.nil,.int .i64 0,.nil]⟩∧
 Tab.get TB 29=some ⟨.struct [(0,26),(1,3),(2,27)] false,3,56,.agg [.nil,.int .i64 0,.nil]⟩∧
 Tab.get TB 30=some ⟨.func,1,8,.nilfn⟩∧
 Tab.get TB 31=some ⟨.func,1,8,.nilfn⟩∧
 Tab.get TB 32=some ⟨.slice 42,1,24,.nil⟩∧
 Tab.get TB 33=some ⟨.slice 37,1,24,.nil⟩∧
 Tab.get TB 34=some ⟨.slice 59,1,24,.nil⟩∧
 Tab.get TB 35=some ⟨.slice 85,1,24,.nil⟩∧
 Tab.get TB 36=some ⟨.struct [(0,3),(1,9),(2,3),(3,3),(4,26),(5,33),(6,34),(7,35)] false,8,136,.agg [.int .i64 0,.str [],.int .i64 0,.int .i64 0,.nil,.nil,.nil,.nil]⟩∧
 Tab.get TB 37=some ⟨.struct [(0,3),(1,9),(2,3),(3,3),(4,26),(5,33),(6,34),(7,35)] false,8,136,.agg [.int .i64 0,.str [],.int .i64 0,.int .i64 0,.list 1 [],.list 8 [],.list 9 [],.list 12 []]⟩∧
 Tab.get TB 38=some ⟨.struct [(0,32),(1,37)] false,9,160,.agg [.nil,.int .i64 0,.str [],.int .i64 0,.int .i64 0,.nil,.nil,.nil,.nil]⟩∧
 Tab.get TB 39=some ⟨.struct [(0,32),(1,37)] false,9,160,.agg [.list 6 [],.int .i64 0,.str [],.int .i64 0,.int .i64 0,.list 1 [],.list 8 [],.list 9 [],.list 12 []]⟩∧
 Tab.get TB 40=some ⟨.func,1,8,.nilfn⟩∧
 Tab.get TB 41=some ⟨.struct [(0,3),(1,9),(2,3),(3,3),(4,3),(5,32)] false,6,72,.agg [.int .i64 0,.str [],.int .i64 0,.int .i64 0,.int .i64 0,.nil]⟩∧
 Tab.get TB 42=some ⟨.struct [(0,3),(1,9),(2,3),(3,3),(4,3),(5,32)] false,6,72,.agg [.int .i64 0,.str [],.int .i64 0,.int .i64 0,.int .i64 0,.list 6 []]⟩∧
 Tab.get TB 43=some ⟨.func,1,8,.nilfn⟩∧
 Tab.get TB 44=some ⟨.func,1,8,.nilfn⟩∧
 Tab.get TB 45=some ⟨.int .i64,1,8,.int .i64 0⟩∧
 Tab.get TB 47=some ⟨.func,1,8,.nilfn⟩∧
 Tab.get TB 48=some ⟨.func,1,8,.nilfn⟩∧
 Tab.get TB 49=some ⟨.func,1,8,.nilfn⟩∧
 Tab.get TB 51=some ⟨.func,1,8,.nilfn⟩∧
 Tab.get TB 52=some ⟨.func,1,8,.nilfn⟩∧
 Tab.get TB 53=some ⟨.func,1,8,.nilfn⟩∧
 Tab.get TB 54=some ⟨.struct [(0,9),(1,3),(2,3),(3,3)] true,4,40,.agg [.str [],.int .i64 0,.int .i64 0,.int .i64 0]⟩∧
 Tab.get TB 55=some ⟨.struct [(0,9),(1,3),(2,3),(3,3)] true,4,40,.agg [.str [],.int .i64 0,.int .i64 0,.int .i64 0]⟩∧
 Tab.get TB 56=some ⟨.func,1,8,.nilfn⟩∧
 Tab.get TB 57=some ⟨.func,1,8,.nilfn⟩∧
 Tab.get TB 58=some ⟨.struct [(0,9),(1,37)] false,9,152,.agg [.str [],.int .i64 0,.str [],.int .i64 0,.int .i64 0,.nil,.nil,.nil,.nil]⟩∧
 Tab.get TB 59=some ⟨.struct [(0,9),(1,37)] false,9,152,.agg [.str [],.int .i64 0,.str [],.int .i64 0,.int .i64 0,.list 1 [],.list 8 [],.list 9 [],.list 12 []]⟩∧
 Tab.get TB 61=some ⟨.ptr 90,1,8,.nilptr⟩∧
 Tab.get TB 62=some ⟨.func,1,8,.nilfn⟩∧
 Tab.get TB 63=some ⟨.func,1,8,.nilfn⟩∧
 Tab.get TB 64=some ⟨.map 9 4,1,8,.nilmap⟩∧
 Tab.get TB 65=some ⟨.func,1,8,.nilfn⟩∧
 Tab.get TB 66=some ⟨.map 9 3,1,8,.nilmap⟩∧
 Tab.get TB 67=some ⟨.func,1,8,.nilfn⟩∧
 Tab.get TB 68=some ⟨.func,1,8,.nilfn⟩∧
 Tab.get TB 69=some ⟨.func,1,8,.nilfn⟩∧
 Tab.get TB 70=some ⟨.func,1,8,.nilfn⟩∧
 Tab.get TB 71=some ⟨.func,1,8,.nilfn⟩∧
 Tab.get TB 72=some ⟨.func,1,8,.nilfn⟩∧
 Tab.get TB 73=some ⟨.func,1,8,.nilfn⟩∧
 Tab.get TB 74=some ⟨.func,1,8,.nilfn⟩∧
 Tab.get TB 75=some ⟨.ptr 77,1,8,.nilptr⟩∧
 Tab.get TB 76=some ⟨.struct [(0,61),(1,3)] false,2,16,.agg [.nilptr,.int .i64 0]⟩∧
 Tab.get TB 77=some ⟨.struct [(0,61),(1,3)] false,2,16,.agg [.nilptr,.int .i64 0]⟩∧
 Tab.get TB 78=some ⟨.func,1,8,.nilfn⟩∧
 Tab.get TB 79=some ⟨.func,1,8,.nilfn⟩∧
 Tab.get TB 80=some ⟨.func,1,8,.nilfn⟩∧
 Tab.get TB 81=some ⟨.func,1,8,.nilfn⟩∧
 Tab.get TB 82=some ⟨.func,1,8,.nilfn⟩∧
 Tab.get TB 83=some ⟨.func,1,8,.nilfn⟩∧
 Tab.get TB 84=some ⟨.struct [(0,3),(1,9),(2,3),(3,26),(4,37)] false,12,192,.agg [.int .i64 0,.str [],.int .i64 0,.nil,.int .i64 0,.str [],.int .i64 0,.int .i64 0,.nil,.nil,.nil,.nil]⟩∧
 Tab.get TB 85=some ⟨.struct [(0,3),(1,9),(2,3),(3,26),(4,37)] false,12,192,.agg [.int .i64 0,.str [],.int .i64 0,.list 1 [],.int .i64 0,.str [],.int .i64 0,.int .i64 0,.list 1 [],.list 8 [],.list 9 [],.list 12 []]⟩∧
 Tab.get TB 86=some ⟨.func,1,8,.nilfn⟩∧
 Tab.get TB 87=some ⟨.map 9 55,1,8,.nilmap⟩∧
 Tab.get TB 88=some ⟨.map 94 3,1,8,.nilmap⟩∧
 Tab.get TB 89=some ⟨.struct [(0,87),(1,88)] false,2,16,.agg [.nilmap,.nilmap]⟩∧
 Tab.get TB 90=some ⟨.struct [(0,87),(1,88)] false,2,16,.agg [.nilmap,.nilmap]⟩∧
 Tab.get TB 92=some ⟨.struct [(0,9),(1,9),(2,3)] true,3,40,.agg [.str [],.str [],.int .i64 0]⟩∧
 Tab.get TB 93=some ⟨.struct [(0,9),(1,9),(2,3)] true,3,40,.agg [.str [],.str [],.int .i64 0]⟩∧
 Tab.get TB 94=some ⟨.array 2 9,2,32,.agg [.str [],.str []]⟩∧
 Tab.get TB 95=some ⟨.slice 101,1,24,.nil⟩∧
 Tab.get TB 96=some ⟨.struct [(0,55),(4,95)] false,5,64,.agg [.str [],.int .i64 0,.int .i64 0,.int .i64 0,.nil]⟩∧
 Tab.get TB 97=some ⟨.struct [(0,55),(4,95)] false,5,64,.agg [.str [],.int .i64 0,.int .i64 0,.int .i64 0,.nil]⟩∧
 Tab.get TB 99=some ⟨.func,1,8,.nilfn⟩∧
 Tab.get TB 100=some ⟨.struct [(0,3),(1,42)] false,7,80,.agg [.int .i64 0,.int .i64 0,.str [],.int .i64 0,.int .i64 0,.int .i64 0,.nil]⟩∧
 Tab.get TB 101=some ⟨.struct [(0,3),(1,42)] false,7,80,.agg [.int .i64 0,.int .i64 0,.str [],.int .i64 0,.int .i64 0,.int .i64 0,.nil]⟩∧
 Tab.get TB 102=some ⟨.func,1,8,.nilfn⟩∧
 Tab.get TB 103=some ⟨.func,1,8,.nilfn⟩∧
 Tab.get TB 104=some ⟨.func,1,8,.nilfn⟩∧
 Tab.get TB 105=some ⟨.func,1,8,.nilfn⟩∧
 Tab.get TB 106=some ⟨.func,1,8,.nilfn⟩∧
 Tab.get TB 107=some ⟨.func,1,8,.nilfn⟩∧
 Tab.get TB 108=some ⟨.func,1,8,.nilfn⟩∧
 Tab.get TB 109=some ⟨.func,1,8,.nilfn⟩∧
 Tab.get TB 110=some ⟨.func,1,8,.nilfn⟩∧
 Tab.get TB 111=some ⟨.func,1,8,.nilfn⟩∧
 Tab.get TB 112=some ⟨.func,1,8,.nilfn⟩∧
 Tab.get TB 113=some ⟨.func,1,8,.nilfn⟩∧
 Tab.get TB 114=some ⟨.func,1,8,.nilfn⟩∧
 Tab.get TB 115=some ⟨.func,1,8,.nilfn⟩∧
 Tab.get TB 116=some ⟨.func,1,8,.nilfn⟩∧
 Tab.get TB 117=some ⟨.map 3 4,1,8,.nilmap⟩∧
 Tab.get TB 118=some ⟨.func,1,8,.nilfn⟩∧
 Tab.get TB 119=some ⟨.func,1,8,.nilfn⟩∧
 Tab.get TB 120=some ⟨.func,1,8,.nilfn⟩∧
 Tab.get TB 121=some ⟨.func,1,8,.nilfn⟩∧
 Tab.get TB 122=some ⟨.int .u64,1,8,.int .u64 0⟩∧
 Tab.get TB 123=some ⟨.func,1,8,.nilfn⟩∧
 Tab.get TB 124=some ⟨.func,1,8,.nilfn⟩∧
 Tab.get TB 125=some ⟨.func,1,8,.nilfn⟩∧
 Tab.get TB 126=some ⟨.func,1,8,.nilfn⟩∧
 Tab.get TB 127=some ⟨.func,1,8,.nilfn⟩∧
 Tab.get TB 128=some ⟨.func,1,8,.nilfn⟩∧
 Tab.get TB 129=some ⟨.func,1,8,.nilfn⟩∧
 Tab.get TB 130=some ⟨.func,1,8,.nilfn⟩∧
 Tab.get TB 131=some ⟨.int .i64,1,8,.int .i64 0⟩∧
 Tab.get TB 133=some ⟨.func,1,8,.nilfn⟩∧
 Tab.get TB 134=some ⟨.func,1,8,.nilfn⟩∧
 Tab.get TB 135=some ⟨.func,1,8,.nilfn⟩∧
 Tab.get TB 136=some ⟨.func,1,8,.nilfn⟩∧
 Tab.get TB 137=some ⟨.func,1,8,.nilfn⟩∧
 Tab.get TB 138=some ⟨.func,1,8,.nilfn⟩∧
 Tab.get TB 139=some ⟨.int .u32,1,4,.int .u32 0⟩∧
 Tab.get TB 140=some ⟨.func,1,8,.nilfn⟩∧
 Tab.get TB 141=some ⟨.int .u64,1,8,.int .u64 0⟩∧
 Tab.get TB 142=some ⟨.func,1,8,.nilfn⟩∧
 Tab.get TB 143=some ⟨.func,1,8,.nilfn⟩∧
 Tab.get TB 144=some ⟨.int .u64,1,8,.int .u64 0⟩∧
 Tab.get TB 145=some ⟨.func,1,8,.nilfn⟩∧
 Tab.get TB 146=some ⟨.func,1,8,.nilfn⟩∧
 Tab.get TB 147=some ⟨.func,1,8,.nilfn⟩∧
 Tab.get TB 148=some ⟨.ptr 3,1,8,.nilptr⟩∧
 Tab.get TB 149=some ⟨.func,1,8,.nilfn⟩∧
 Tab.get TB 150=some ⟨.func,1,8,.nilfn⟩∧
 Tab.get TB 151=some ⟨.ptr 144,1,8,.nilptr⟩∧
 Tab.get TB 153=some ⟨.func,1,8,.nilfn⟩∧
 Tab.get TB 154=some ⟨.array 24 5,24,24,.agg [.int .u8 0,.int .u8 0,.int .u8 0,.int .u8 0,.int .u8 0,.int .u8 0,.int .u8 0,.int .u8 0,.int .u8 0,.int .u8 0,.int .u8 0,.int .u8 0,.int .u8 0,.int .u8 0,.int .u8 0,.int .u8 0,.int .u8 0,.int .u8 0,.int .u8 0,.int .u8 0,.int .u8 0,.int .u8 0,.int .u8 0,.int .u8 0]⟩∧
 Tab.get TB 155=some ⟨.func,1,8,.nilfn⟩∧
 Tab.get TB 156=some ⟨.slice 5,1,24,.nil⟩∧
 Tab.get TB 158=some ⟨.func,1,8,.nilfn⟩∧
 Tab.get TB 159=some ⟨.func,1,8,.nilfn⟩∧
 Tab.get TB 160=some ⟨.array 20 141,20,160,.agg [.int .u64 0,.int .u64 0,.int .u64 0,.int .u64 0,.int .u64 0,.int .u64 0,.int .u64 0,.int .u64 0,.int .u64 0,.int .u64 0,.int .u64 0,.int .u64 0,.int .u64 0,.int .u64 0,.int .u64 0,.int .u64 0,.int .u64 0,.int .u64 0,.int .u64 0,.int .u64 0]⟩∧
 Tab.get TB 161=some ⟨.array 65 5,65,65,.agg [.int .u8 0,.int .u8 0,.int .u8 0,.int .u8 0,.int .u8 0,.int .u8 0,.int .u8 0,.int .u8 0,.int .u8 0,.int .u8 0,.int .u8 0,.int .u8 0,.int .u8 0,.int .u8 0,.int .u8 0,.int .u8 0,.int .u8 0,.int .u8 0,.int .u8 0,.int .u8 0,.int .u8 0,.int .u8 0,.int .u8 0,.int .u8 0,.int .u8 0,.int .u8 0,.int .u8 0,.int .u8 0,.int .u8 0,.int .u8 0,.int .u8 0,.int .u8 0,.int .u8 0,.int .u8 0,.int .u8 0,.int .u8 0,.int .u8 0,.int .u8 0,.int .u8 0,.int .u8 0,.int .u8 0,.int .u8 0,.int .u8 0,.int .u8 0,.int .u8 0,.int .u8 0,.int .u8 0,.int .u8 0,.int .u8 0,.int .u8 0,.int .u8 0,.int .u8 0,.int .u8 0,.int .u8 0,.int .u8 0,.int .u8 0,.int .u8 0,.int .u8 0,.int .u8 0,.int .u8 0,.int .u8 0,.int .u8 0,.int .u8 0,.int .u8 0,.int .u8 0]⟩∧
 Tab.get TB 162=some ⟨.func,1,8,.nilfn⟩∧
 Tab.get TB 163=some ⟨.array 32 5,32,32,.agg [.int .u8 0,.int .u8 0,.int .u8 0,.int .u8 0,.int .u8 0,.int .u8 0,.int .u8 0,.int .u8 0,.int .u8 0,.int .u8 0,.int .u8 0,.int .u8 0,.int .u8 0,.int .u8 0,.int .u8 0,.int .u8 0,.int .u8 0,.int .u8 0,.int .u8 0,.int .u8 0,.int .u8 0,.int .u8 0,.int .u8 0,.int .u8 0,.int .u8 0,.int .u8 0,.int .u8 0,.int .u8 0,.int .u8 0,.int .u8 0,.int .u8 0,.int .u8 0]⟩∧
 Tab.get TB 164=some ⟨.array 64 5,64,64,.agg [.int .u8 0,.int .u8 0,.int .u8 0,.int .u8 0,.int .u8 0,.int .u8 0,.int .u8 0,.int .u8 0,.int .u8 0,.int .u8 0,.int .u8 0,.int .u8 0,.int .u8 0,.int .u8 0,.int .u8 0,.int .u8 0,.int .u8 0,.int .u8 0,.int .u8 0,.int .u8 0,.int .u8 0,.int .u8 0,.int .u8 0,.int .u8 0,.int .u8 0,.int .u8 0,.int .u8 0,.int .u8 0,.int .u8 0,.int .u8 0,.int .u8 0,.int .u8 0,.int .u8 0,.int .u8 0,.int .u8 0,.int .u8 0,.int .u8 0,.int .u8 0,.int .u8 0,.int .u8 0,.int .u8 0,.int .u8 0,.int .u8 0,.int .u8 0,.int .u8 0,.int .u8 0,.int .u8 0,.int .u8 0,.int .u8 0,.int .u8 0,.int .u8 0,.int .u8 0,.int .u8 0,.int .u8 0,.int .u8 0,.int .u8 0,.int .u8 0,.int .u8 0,.int .u8 0,.int .u8 0,.int .u8 0,.int .u8 0,.int .u8 0,.int .u8 0]⟩∧
 Tab.get TB 165=some ⟨.struct [(0,17),(1,17),(2,17),(3,9)] false,4,40,.agg [.nilptr,.nilptr,.nilptr,.str []]⟩∧
 Tab.get TB 166=some ⟨.struct [(0,17),(1,17),(2,17),(3,9)] false,4,40,.agg [.nilptr,.nilptr,.nilptr,.str []]⟩∧
 Tab.get TB 167=some ⟨.array 0 16,0,0,.agg []⟩∧
 Tab.get TB 168=some ⟨.struct [(0,167)] false,0,0,.agg []⟩∧
 Tab.get TB 169=some ⟨.struct [(0,167)] false,0,0,.agg []⟩∧
 Tab.get TB 170=some ⟨.func,1,8,.nilfn⟩∧
 Tab.get TB 171=some ⟨.int .u8,1,1,.int .u8 0⟩∧
 Tab.get TB 172=some ⟨.int .u8,1,1,.int .u8 0⟩∧
 Tab.get TB 173=some ⟨.func,1,8,.nilfn⟩∧
 Tab.get TB 174=some ⟨.ptr 5,1,8,.nilptr⟩∧
 Tab.get TB 175=some ⟨.int .i32,1,4,.int .i32 0⟩∧
 Tab.get TB 176=some ⟨.int .i32,1,4,.int .i32 0⟩∧
 Tab.get TB 177=some ⟨.struct [(0,12),(1,12),(2,139),(3,171),(4,5),(5,5),(6,172),(7,173),(8,174),(9,175),(10,176)] false,11,48,.agg [.int .u64 0,.int .u64 0,.int .u32 0,.int .u8 0,.int .u8 0,.int .u8 0,.int .u8 0,.nilfn,.nilptr,.int .i32 0,.int .i32 0]⟩∧
 Tab.get TB 178=some ⟨.struct [(0,12),(1,12),(2,139),(3,171),(4,5),(5,5),(6,172),(7,173),(8,174),(9,175),(10,176)] false,11,48,.agg [.int .u64 0,.int .u64 0,.int .u32 0,.int .u8 0,.int .u8 0,.int .u8 0,.int .u8 0,.nilfn,.nilptr,.int .i32 0,.int .i32 0]⟩:=
 ⟨rfl,rfl,rfl,rfl,rfl,rfl,rfl,rfl,rfl,rfl,rfl,rfl,rfl,rfl,rfl,rfl,rfl,rfl,rfl,rfl,rfl,rfl,rfl,rfl,rfl,rfl,rfl,rfl,rfl,rfl,rfl,rfl,rfl,rfl,rfl,rfl,rfl,rfl,rfl,rfl,rfl,rfl,rfl,rfl,rfl,rfl,rfl,rfl,rfl,rfl,rfl,rfl,rfl,rfl,rfl,rfl,rfl,rfl,rfl,rfl,rfl,rfl,rfl,rfl,rfl,rfl,rfl,rfl,rfl,rfl,rfl,rfl,rfl,rfl,rfl,rfl,rfl,rfl,rfl,rfl,rfl,rfl,rfl,rfl,rfl,rfl,rfl,rfl,rfl,rfl,rfl,rfl,rfl,rfl,rfl,rfl,rfl,rfl,rfl,rfl,rfl,rfl,rfl,rfl,rfl,rfl,rfl,rfl,rfl,rfl,rfl,rfl,rfl,rfl,rfl,rfl,rfl,rfl,rfl,rfl,rfl,rfl,rfl,rfl,rfl,rfl,rfl,rfl,rfl,rfl,rfl,rfl,rfl,rfl,rfl,rfl,rfl,rfl,rfl,rfl,rfl,rfl,rfl,rfl,rfl,rfl,rfl,rfl,rfl,rfl,rfl,rfl,rfl,rfl,rfl,rfl⟩
theorem ok2:tiOK Tryd.prog 2 t2:=tiOK_of (.int .i64 0) (Told2.refl _) Tryd.underlying2 (by kernel_rfl)
theorem ok3:tiOK Tryd.prog 3 t3:=tiOK_of (.int .i64 0) (Told2.refl _) Tryd.underlying3 (by kernel_rfl)
theorem ok4:tiOK Tryd.prog 4 t4:=tiOK_of (.bool false) (Told2.refl _) Tryd.underlying4 (by kernel_rfl)
theorem ok5:tiOK Tryd.prog 5 t5:=tiOK_of (.int .u8 0) (Told2.refl _) Tryd.underlying5 (by kernel_rfl)
theorem ok9:tiOK Tryd.prog 9 t9:=tiOK_of (.str []) (Told2.refl _) Tryd.underlying9 (by kernel_rfl)
theorem ok20:tiOK Tryd.prog 20 t20:=tiOK_of (.ifc true) (Told2.refl _) ⟨_,Tryd.underlying20⟩ (by kernel_rfl)
theorem ok21:tiOK Tryd.prog 21 t21:=tiOK_of (.int .i32 0) (Told2.refl _) Tryd.underlying21 (by kernel_rfl)
theorem ok22:tiOK Tryd.prog 22 t22:=tiOK_of (.nil) (Told2.refl _) Tryd.underlying22 (by kernel_rfl)
theorem ok23:tiOK Tryd.prog 23 t23:=tiOK_of (.nil) (Told2.refl _) Tryd.underlying23 (by kernel_rfl)
theorem ok24:tiOK Tryd.prog 24 t24:=tiOK_of (.agg [.nil,.nil]) (Told2.refl _) ⟨⟨_,Tryd.underlying24,rfl⟩,fun h=>by cases h⟩ (by kernel_rfl)
theorem ok25:tiOK Tryd.prog 25 t25:=tiOK_of (.agg [.nil,.nil]) (by simp[Told2,ToldL,Told,t25]) ⟨⟨_,Tryd.underlying25,rfl⟩,fun h=>by cases h⟩ (by kernel_rfl)
theorem ok26:tiOK Tryd.prog 26 t26:=tiOK_of (.nil) (Told2.refl _) Tryd.underlying26 (by kernel_rfl)
theorem ok27:tiOK Tryd.prog 27 t27:=tiOK_of (.nil) (Told2.refl _) Tryd.underlying27 (by kernel_rfl)
theorem ok28:tiOK Tryd.prog 28 t28:=tiOK_of (.agg [.nil,.int .i64 0,.nil]) (Told2.refl _) ⟨⟨_,Tryd.underlying28,rfl⟩,fun h=>by cases h⟩ (by kernel_rfl)
theorem ok29:tiOK Tryd.prog 29 t29:=tiOK_of (.agg [.nil,.int .i64 0,.nil]) (Told2.refl _) ⟨⟨_,Tryd.underlying29,rfl⟩,fun h=>by cases h⟩ (by kernel_rfl)
theorem ok30:tiOK Tryd.prog 30 t30:=tiOK_of (.nilfn) (Told2.refl _) ⟨_,_,_,Tryd.underlying30⟩ (by kernel_rfl)
theorem ok31:tiOK Tryd.prog 31 t31:=tiOK_of (.nilfn) (Told2.refl _) ⟨_,_,_,Tryd.underlying31⟩ (by kernel_rfl)
theorem ok32:tiOK Tryd.prog 32 t32:=tiOK_of (.nil) (Told2.refl _) Tryd.underlying32 (by kernel_rfl)
theorem ok33:tiOK Tryd.prog 33 t33:=tiOK_of (.nil) (Told2.refl _) Tryd.underlying33 (by kernel_rfl)
theorem ok34:tiOK Tryd.prog 34 t34:=tiOK_of (.nil) (Told2.refl _) Tryd.underlying34 (by kernel_rfl)
theorem ok35:tiOK Tryd.prog 35 t35:=tiOK_of (.nil) (Told2.refl _) Tryd.underlying35 (by kernel_rfl)
theorem ok36:tiOK Tryd.prog 36 t36:=tiOK_of (.agg [.int .i64 0,.str [],.int .i64 0,.int .i64 0,.nil,.nil,.nil,.nil]) (Told2.refl _) ⟨⟨_,Tryd.underlying36,rfl⟩,fun h=>by cases h⟩ (by kernel_rfl)
theorem ok37:tiOK Tryd.prog 37 t37:=tiOK_of (.agg [.int .i64 0,.str [],.int .i64 0,.int .i64 0,.nil,.nil,.nil,.nil]) (by simp[Told2,ToldL,Told,t37]) ⟨⟨_,Tryd.underlying37,rfl⟩,fun h=>by cases h⟩ (by kernel_rfl)
theorem ok38:tiOK Tryd.prog 38 t38:=tiOK_of (.agg [.nil,.int .i64 0,.str [],.int .i64 0,.int .i64 0,.nil,.nil,.nil,.nil]) (Told2.refl _) ⟨⟨_,Tryd.underlying38,rfl⟩,fun h=>by cases h⟩ (by kernel_rfl)
theorem ok39:tiOK Tryd.prog 39 t39:=tiOK_of (.agg [.nil,.int .i64 0,.str [],.int .i64 0,.int .i64 0,.nil,.nil,.nil,.nil]) (by simp[Told2,ToldL,Told,t39]) ⟨⟨_,Tryd.underlying39,rfl⟩,fun h=>by cases h⟩ (by kernel_rfl)
theorem ok40:tiOK Tryd.prog 40 t40:=tiOK_of (.nilfn) (Told2.refl _) ⟨_,_,_,Tryd.underlying40⟩ (by kernel_rfl)
theorem ok41:tiOK Tryd.prog 41 t41:=tiOK_of (.agg [.int .i64 0,.str [],.int .i64 0,.int .i64 0,.int .i64 0,.nil]) (Told2.refl _) ⟨⟨_,Tryd.underlying41,rfl⟩,fun h=>by cases h⟩ (by kernel_rfl)
theorem ok42:tiOK Tryd.prog 42 t42:=tiOK_of (.agg [.int .i64 0,.str [],.int .i64 0,.int .i64 0,.int .i64 0,.nil]) (by simp[Told2,ToldL,Told,t42]) ⟨⟨_,Tryd.underlying42,rfl⟩,fun h=>by cases h⟩ (by kernel_rfl)
theorem ok43:tiOK Tryd.prog 43 t43:=tiOK_of (.nilfn) (Told2.refl _) ⟨_,_,_,Tryd.underlying43⟩ (by kernel_rfl)
theorem ok44:tiOK Tryd.prog 44 t44:=tiOK_of (.nilfn) (Told2.refl _) ⟨_,_,_,Tryd.underlying44⟩ (by kernel_rfl)
theorem ok45:tiOK Tryd.prog 45 t45:=tiOK_of (.int .i64 0) (Told2.refl _) Tryd.underlying45 (by kernel_rfl)
theorem ok47:tiOK Tryd.prog 47 t47:=tiOK_of (.nilfn) (Told2.refl _) ⟨_,_,_,Tryd.underlying47⟩ (by kernel_rfl)
theorem ok48:tiOK Tryd.prog 48 t48:=tiOK_of (.nilfn) (Told2.refl _) ⟨_,_,_,Tryd.underlying48⟩ (by kernel_rfl)
theorem ok49:tiOK Tryd.prog 49 t49:=tiOK_of (.nilfn) (Told2.refl _) ⟨_,_,_,Tryd.underlying49⟩ (by kernel_rfl)
theorem ok51:tiOK Tryd.prog 51 t51:=tiOK_of (.nilfn) (Told2.refl _) ⟨_,_,_,Tryd.underlying51⟩ (by kernel_rfl)
theorem ok52:tiOK Tryd.prog 52 t52:=tiOK_of (.nilfn) (Told2.refl _) ⟨_,_,_,Tryd.underlying52⟩ (by kernel_rfl)
theorem ok53:tiOK Tryd.prog 53 t53:=tiOK_of (.nilfn) (Told2.refl _) ⟨_,_,_,Tryd.underlying53⟩ (by kernel_rfl)
theorem ok54:tiOK Tryd.prog 54 t54:=tiOK_of (.agg [.str [],.int .i64 0,.int .i64 0,.int .i64 0]) (Told2.refl _) ⟨⟨_,Tryd.underlying54,rfl⟩,fun _=>eqPlain_of (by kernel_rfl)⟩ (by kernel_rfl)
theorem ok55:tiOK Tryd.prog 55 t55:=tiOK_of (.agg [.str [],.int .i64 0,.int .i64 0,.int .i64 0]) (Told2.refl _) ⟨⟨_,Tryd.underlying55,rfl⟩,fun _=>eqPlain_of (by kernel_rfl)⟩ (by kernel_rfl)
theorem ok56:tiOK Tryd.prog 56 t56:=tiOK_of (.nilfn) (Told2.refl _) ⟨_,_,_,Tryd.underlying56⟩ (by kernel_rfl)
theorem ok57:tiOK Tryd.prog 57 t57:=tiOK_of (.nilfn) (Told2.refl _) ⟨_,_,_,Tryd.underlying57⟩ (by kernel_rfl)
theorem ok58:tiOK Tryd.prog 58 t58:=tiOK_of (.agg [.str [],.int .i64 0,.str [],.int .i64 0,.int .i64 0,.nil,.nil,.nil,.nil]) (Told2.refl _) ⟨⟨_,Tryd.underlying58,rfl⟩,fun h=>by cases h⟩ (by kernel_rfl)
theorem ok59:tiOK Tryd.prog 59 t59:=tiOK_of (.agg [.str [],.int .i64 0,.str [],.int .i64 0,.int .i64 0,.nil,.nil,.nil,.nil]) (by simp[Told2,ToldL,Told,t59]) ⟨⟨_,Tryd.underlying59,rfl⟩,fun h=>by cases h⟩ (by kernel_rfl)
theorem ok61:tiOK Tryd.prog 61 t61:=tiOK_of (.nilptr) (Told2.refl _) Tryd.underlying61 (by kernel_rfl)
theorem ok62:tiOK Tryd.prog 62 t62:=tiOK_of (.nilfn) (Told2.refl _) ⟨_,_,_,Tryd.underlying62⟩ (by kernel_rfl)
theorem ok63:tiOK Tryd.prog 63 t63:=tiOK_of (.nilfn) (Told2.refl _) ⟨_,_,_,Tryd.underlying63⟩ (by kernel_rfl)
theorem ok64:tiOK Tryd.prog 64 t64:=tiOK_of (.nilmap) (Told2.refl _) Tryd.underlying64 (by kernel_rfl)
theorem ok65:tiOK Tryd.prog 65 t65:=tiOK_of (.nilfn) (Told2.refl _) ⟨_,_,_,Tryd.underlying65⟩ (by kernel_rfl)
theorem ok66:tiOK Tryd.prog 66 t66:=tiOK_of (.nilmap) (Told2.refl _) Tryd.underlying66 (by kernel_rfl)
theorem ok67:tiOK Tryd.prog 67 t67:=tiOK_of (.nilfn) (Told2.refl _) ⟨_,_,_,Tryd.underlying67⟩ (by kernel_rfl)
theorem ok68:tiOK Tryd.prog 68 t68:=tiOK_of (.nilfn) (Told2.refl _) ⟨_,_,_,Tryd.underlying68⟩ (by kernel_rfl)
theorem ok69:tiOK Tryd.prog 69 t69:=tiOK_of (.nilfn) (Told2.refl _) ⟨_,_,_,Tryd.underlying69⟩ (by kernel_rfl)
theorem ok70:tiOK Tryd.prog 70 t70:=tiOK_of (.nilfn) (Told2.refl _) ⟨_,_,_,Tryd.underlying70⟩ (by kernel_rfl)
theorem ok71:tiOK Tryd.prog 71 t71:=tiOK_of (.nilfn) (Told2.refl _) ⟨_,_,_,Tryd.underlying71⟩ (by kernel_rfl)
theorem ok72:tiOK Tryd.prog 72 t72:=tiOK_of (.nilfn) (Told2.refl _) ⟨_,_,_,Tryd.underlying72⟩ (by kernel_rfl)
theorem ok73:tiOK Tryd.prog 73 t73:=tiOK_of (.nilfn) (Told2.refl _) ⟨_,_,_,Tryd.underlying73⟩ (by kernel_rfl)
theorem ok74:tiOK Tryd.prog 74 t74:=tiOK_of (.nilfn) (Told2.refl _) ⟨_,_,_,Tryd.underlying74⟩ (by kernel_rfl)
theorem ok75:tiOK Tryd.prog 75 t75:=tiOK_of (.nilptr) (Told2.refl _) Tryd.underlying75 (by kernel_rfl)
theorem ok76:tiOK Tryd.prog 76 t76:=tiOK_of (.agg [.nilptr,.int .i64 0]) (Told2.refl _) ⟨⟨_,Tryd.underlying76,rfl⟩,fun h=>by cases h⟩ (by kernel_rfl)
theorem ok77:tiOK Tryd.prog 77 t77:=tiOK_of (.agg [.nilptr,.int .i64 0]) (Told2.refl _) ⟨⟨_,Tryd.underlying77,rfl⟩,fun h=>by cases h⟩ (by kernel_rfl)
theorem ok78:tiOK Tryd.prog 78 t78:=tiOK_of (.nilfn) (Told2.refl _) ⟨_,_,_,Tryd.underlying78⟩ (by kernel_rfl)
theorem ok79:tiOK Tryd.prog 79 t79:=tiOK_of (.nilfn) (Told2.refl _) ⟨_,_,_,Tryd.underlying79⟩ (by kernel_rfl)
theorem ok80:tiOK Tryd.prog 80 t80:=tiOK_of (.nilfn) (Told2.refl _) ⟨_,_,_,Tryd.underlying80⟩ (by kernel_rfl)
theorem ok81:tiOK Tryd.prog 81 t81:=tiOK_of (.nilfn) (Told2.refl _) ⟨_,_,_,Tryd.underlying81⟩ (by kernel_rfl)
theorem ok82:tiOK Tryd.prog 82 t82:=tiOK_of (.nilfn) (Told2.refl _) ⟨_,_,_,Tryd.underlying82⟩ (by kernel_rfl)
theorem ok83:tiOK Tryd.prog 83 t83:=tiOK_of (.nilfn) (Told2.refl _) ⟨_,_,_,Tryd.underlying83⟩ (by kernel_rfl)
theorem ok84:tiOK Tryd.prog 84 t84:=tiOK_of (.agg [.int .i64 0,.str [],.int .i64 0,.nil,.int .i64 0,.str [],.int .i64 0,.int .i64 0,.nil,.nil,.nil,.nil]) (Told2.refl _) ⟨⟨_,Tryd.underlying84,rfl⟩,fun h=>by cases h⟩ (by kernel_rfl)
theorem ok85:tiOK Tryd.prog 85 t85:=tiOK_of (.agg [.int .i64 0,.str [],.int .i64 0,.nil,.int .i64 0,.str [],.int .i64 0,.int .i64 0,.nil,.nil,.nil,.nil]) (by simp[Told2,ToldL,Told,t85]) ⟨⟨_,Tryd.underlying85,rfl⟩,fun h=>by cases h⟩ (by kernel_rfl)
theorem ok86:tiOK Tryd.prog 86 t86:=tiOK_of (.nilfn) (Told2.refl _) ⟨_,_,_,Tryd.underlying86⟩ (by kernel_rfl)
theorem ok87:tiOK Tryd.prog 87 t87:=tiOK_of (.nilmap) (Told2.refl _) Tryd.underlying87 (by kernel_rfl)
theorem ok88:tiOK Tryd.prog 88 t88:=tiOK_of (.nilmap) (Told2.refl _) Tryd.underlying88 (by kernel_rfl)
theorem ok89:tiOK Tryd.prog 89 t89:=tiOK_of (.agg [.nilmap,.nilmap]) (Told2.refl _) ⟨⟨_,Tryd.underlying89,rfl⟩,fun h=>by cases h⟩ (by kernel_rfl)
theorem ok90:tiOK Tryd.prog 90 t90:=tiOK_of (.agg [.nilmap,.nilmap]) (Told2.refl _) ⟨⟨_,Tryd.underlying90,rfl⟩,fun h=>by cases h⟩ (by kernel_rfl)
theorem ok92:tiOK Tryd.prog 92 t92:=tiOK_of (.agg [.str [],.str [],.int .i64 0]) (Told2.refl _) ⟨⟨_,Tryd.underlying92,rfl⟩,fun _=>eqPlain_of (by kernel_rfl)⟩ (by kernel_rfl)
theorem ok93:tiOK Tryd.prog 93 t93:=tiOK_of (.agg [.str [],.str [],.int .i64 0]) (Told2.refl _) ⟨⟨_,Tryd.underlying93,rfl⟩,fun _=>eqPlain_of (by kernel_rfl)⟩ (by kernel_rfl)
theorem ok94:tiOK Tryd.prog 94 t94:=tiOK_of (.agg [.str [],.str []]) (Told2.refl _) Tryd.underlying94 (by kernel_rfl)
theorem ok95:tiOK Tryd.prog 95 t95:=tiOK_of (.nil) (Told2.refl _) Tryd.underlying95 (by kernel_rfl)
theorem ok96:tiOK Tryd.prog 96 t96:=tiOK_of (.agg [.str [],.int .i64 0,.int .i64 0,.int .i64 0,.nil]) (Told2.refl _) ⟨⟨_,Tryd.underlying96,rfl⟩,fun h=>by cases h⟩ (by kernel_rfl)
theorem ok97:tiOK Tryd.prog 97 t97:=tiOK_of (.agg [.str [],.int .i64 0,.int .i64 0,.int .i64 0,.nil]) (Told2.refl _) ⟨⟨_,Tryd.underlying97,rfl⟩,fun h=>by cases h⟩ (by kernel_rfl)
theorem ok99:tiOK Tryd.prog 99 t99:=tiOK_of (.nilfn) (Told2.refl _) ⟨_,_,_,Tryd.underlying99⟩ (by kernel_rfl)
theorem ok100:tiOK Tryd.prog 100 t100:=tiOK_of (.agg [.int .i64 0,.int .i64 0,.str [],.int .i64 0,.int .i64 0,.int .i64 0,.nil]) (Told2.refl _) ⟨⟨_,Tryd.underlying100,rfl⟩,fun h=>by cases h⟩ (by kernel_rfl)
theorem ok101:tiOK Tryd.prog 101 t101:=tiOK_of (.agg [.int .i64 0,.int .i64 0,.str [],.int .i64 0,.int .i64 0,.int .i64 0,.nil]) (Told2.refl _) ⟨⟨_,Tryd.underlying101,rfl⟩,fun h=>by cases h⟩ (by kernel_rfl)
theorem ok102:tiOK Tryd.prog 102 t102:=tiOK_of (.nilfn) (Told2.refl _) ⟨_,_,_,Tryd.underlying102⟩ (by kernel_rfl)
theorem ok103:tiOK Tryd.prog 103 t103:=tiOK_of (.nilfn) (Told2.refl _) ⟨_,_,_,Tryd.underlying103⟩ (by kernel_rfl)
theorem ok104:tiOK Tryd.prog 104 t104:=tiOK_of (.nilfn) (Told2.refl _) ⟨_,_,_,Tryd.underlying104⟩ (by kernel_rfl)
theorem ok105:tiOK Tryd.prog 105 t105:=tiOK_of (.nilfn) (Told2.refl _) ⟨_,_,_,Tryd.underlying105⟩ (by kernel_rfl)
theorem ok106:tiOK Tryd.prog 106 t106:=tiOK_of (.nilfn) (Told2.refl _) ⟨_,_,_,Tryd.underlying106⟩ (by kernel_rfl)
theorem ok107:tiOK Tryd.prog 107 t107:=tiOK_of (.nilfn) (Told2.refl _) ⟨_,_,_,Tryd.underlying107⟩ (by kernel_rfl)
theorem ok108:tiOK Tryd.prog 108 t108:=tiOK_of (.nilfn) (Told2.refl _) ⟨_,_,_,Tryd.underlying108⟩ (by kernel_rfl)
theorem ok109:tiOK Tryd.prog 109 t109:=tiOK_of (.nilfn) (Told2.refl _) ⟨_,_,_,Tryd.underlying109⟩ (by kernel_rfl)
theorem ok110:tiOK Tryd.prog 110 t110:=tiOK_of (.nilfn) (Told2.refl _) ⟨_,_,_,Tryd.underlying110⟩ (by kernel_rfl)
theorem ok111:tiOK Tryd.prog 111 t111:=tiOK_of (.nilfn) (Told2.refl _) ⟨_,_,_,Tryd.underlying111⟩ (by kernel_rfl)
theorem ok112:tiOK Tryd.prog 112 t112:=tiOK_of (.nilfn) (Told2.refl _) ⟨_,_,_,Tryd.underlying112⟩ (by kernel_rfl)
theorem ok113:tiOK Tryd.prog 113 t113:=tiOK_of (.nilfn) (Told2.refl _) ⟨_,_,_,Tryd.underlying113⟩ (by kernel_rfl)
theorem ok114:tiOK Tryd.prog 114 t114:=tiOK_of (.nilfn) (Told2.refl _) ⟨_,_,_,Tryd.underlying114⟩ (by kernel_rfl)
theorem ok115:tiOK Tryd.prog 115 t115:=tiOK_of (.nilfn) (Told2.refl _) ⟨_,_,_,Tryd.underlying115⟩ (by kernel_rfl)
theorem ok116:tiOK Tryd.prog 116 t116:=tiOK_of (.nilfn) (Told2.refl _) ⟨_,_,_,Tryd.underlying116⟩ (by kernel_rfl)
theorem ok117:tiOK Tryd.prog 117 t117:=tiOK_of (.nilmap) (Told2.refl _) Tryd.underlying117 (by kernel_rfl)
theorem ok118:tiOK Tryd.prog 118 t118:=tiOK_of (.nilfn) (Told2.refl _) ⟨_,_,_,Tryd.underlying118⟩ (by kernel_rfl)
theorem ok119:tiOK Tryd.prog 119 t119:=tiOK_of (.nilfn) (Told2.refl _) ⟨_,_,_,Tryd.underlying119⟩ (by kernel_rfl)
theorem ok120:tiOK Tryd.prog 120 t120:=tiOK_of (.nilfn) (Told2.refl _) ⟨_,_,_,Tryd.underlying120⟩ (by kernel_rfl)
theorem ok121:tiOK Tryd.prog 121 t121:=tiOK_of (.nilfn) (Told2.refl _) ⟨_,_,_,Tryd.underlying121⟩ (by kernel_rfl)
theorem ok122:tiOK Tryd.prog 122 t122:=tiOK_of (.int .u64 0) (Told2.refl _) Tryd.underlying122 (by kernel_rfl)
theorem ok123:tiOK Tryd.prog 123 t123:=tiOK_of (.nilfn) (Told2.refl _) ⟨_,_,_,Tryd.underlying123⟩ (by kernel_rfl)
theorem ok124:tiOK Tryd.prog 124 t124:=tiOK_of (.nilfn) (Told2.refl _) ⟨_,_,_,Tryd.underlying124⟩ (by kernel_rfl)
theorem ok125:tiOK Tryd.prog 125 t125:=tiOK_of (.nilfn) (Told2.refl _) ⟨_,_,_,Tryd.underlying125⟩ (by kernel_rfl)
theorem ok126:tiOK Tryd.prog 126 t126:=tiOK_of (.nilfn) (Told2.refl _) ⟨_,_,_,Tryd.underlying126⟩ (by kernel_rfl)
theorem ok127:tiOK Tryd.prog 127 t127:=tiOK_of (.nilfn) (Told2.refl _) ⟨_,_,_,Tryd.underlying127⟩ (by kernel_rfl)
theorem ok128:tiOK Tryd.prog 128 t128:=tiOK_of (.nilfn) (Told2.refl _) ⟨_,_,_,Tryd.underlying128⟩ (by kernel_rfl)
theorem ok129:tiOK Tryd.prog 129 t129:=tiOK_of (.nilfn) (Told2.refl _) ⟨_,_,_,Tryd.underlying129⟩ (by kernel_rfl)
theorem ok130:tiOK Tryd.prog 130 t130:=tiOK_of (.nilfn) (Told2.refl _) ⟨_,_,_,Tryd.underlying130⟩ (by kernel_rfl)
theorem ok131:tiOK Tryd.prog 131 t131:=tiOK_of (.int .i64 0) (Told2.refl _) Tryd.underlying131 (by kernel_rfl)
theorem ok133:tiOK Tryd.prog 133 t133:=tiOK_of (.nilfn) (Told2.refl _) ⟨_,_,_,Tryd.underlying133⟩ (by kernel_rfl)
theorem ok134:tiOK Tryd.prog 134 t134:=tiOK_of (.nilfn) (Told2.refl _) ⟨_,_,_,Tryd.underlying134⟩ (by kernel_rfl)
theorem ok135:tiOK Tryd.prog 135 t135:=tiOK_of (.nilfn) (Told2.refl _) ⟨_,_,_,Tryd.underlying135⟩ (by kernel_rfl)
theorem ok136:tiOK Tryd.prog 136 t136:=tiOK_of (.nilfn) (Told2.refl _) ⟨_,_,_,Tryd.underlying136⟩ (by kernel_rfl)
theorem ok137:tiOK Tryd.prog 137 t137:=tiOK_of (.nilfn) (Told2.refl _) ⟨_,_,_,Tryd.underlying137⟩ (by kernel_rfl)
theorem ok138:tiOK Tryd.prog 138 t138:=tiOK_of (.nilfn) (Told2.refl _) ⟨_,_,_,Tryd.underlying138⟩ (by kernel_rfl)
theorem ok139:tiOK Tryd.prog 139 t139:=tiOK_of (.int .u32 0) (Told2.refl _) Tryd.underlying139 (by kernel_rfl)
theorem ok140:tiOK Tryd.prog 140 t140:=tiOK_of (.nilfn) (Told2.refl _) ⟨_,_,_,Tryd.underlying140⟩ (by kernel_rfl)
theorem ok141:tiOK Tryd.prog 141 t141:=tiOK_of (.int .u64 0) (Told2.refl _) Tryd.underlying141 (by kernel_rfl)
theorem ok142:tiOK Tryd.prog 142 t142:=tiOK_of (.nilfn) (Told2.refl _) ⟨_,_,_,Tryd.underlying142⟩ (by kernel_rfl)
theorem ok143:tiOK Tryd.prog 143 t143:=tiOK_of (.nilfn) (Told2.refl _) ⟨_,_,_,Tryd.underlying143⟩ (by kernel_rfl)
theorem ok144:tiOK Tryd.prog 144 t144:=tiOK_of (.int .u64 0) (Told2.refl _) Tryd.underlying144 (by kernel_rfl)
theorem ok145:tiOK Tryd.prog 145 t145:=tiOK_of (.nilfn) (Told2.refl _) ⟨_,_,_,Tryd.underlying145⟩ (by kernel_rfl)
theorem ok146:tiOK Tryd.prog 146 t146:=tiOK_of (.nilfn) (Told2.refl _) ⟨_,_,_,Tryd.underlying146⟩ (by kernel_rfl)
theorem ok147:tiOK Tryd.prog 147 t147:=tiOK_of (.nilfn) (Told2.refl _) ⟨_,_,_,Tryd.underlying147⟩ (by kernel_rfl)
theorem ok148:tiOK Tryd.prog 148 t148:=tiOK_of (.nilptr) (Told2.refl _) Tryd.underlying148 (by kernel_rfl)
theorem ok149:tiOK Tryd.prog 149 t149:=tiOK_of (.nilfn) (Told2.refl _) ⟨_,_,_,Tryd.underlying149⟩ (by kernel_rfl)
theorem ok150:tiOK Tryd.prog 150 t150:=tiOK_of (.nilfn) (Told2.refl _) ⟨_,_,_,Tryd.underlying150⟩ (by kernel_rfl)
theorem ok151:tiOK Tryd.prog 151 t151:=tiOK_of (.nilptr) (Told2.refl _) Tryd.underlying151 (by kernel_rfl)
theorem ok153:tiOK Tryd.prog 153 t153:=tiOK_of (.nilfn) (Told2.refl _) ⟨_,_,_,Tryd.underlying153⟩ (by kernel_rfl)
theorem ok154:tiOK Tryd.prog 154 t154:=tiOK_of (.agg [.int .u8 0,.int .u8 0,.int .u8 0,.int .u8 0,.int .u8 0,.int .u8 0,.int .u8 0,.int .u8 0,.int .u8 0,.int .u8 0,.int .u8 0,.int .u8 0,.int .u8 0,.int .u8 0,.int .u8 0,.int .u8 0,.int .u8 0,.int .u8 0,.int .u8 0,.int .u8 0,.int .u8 0,.int .u8 0,.int .u8 0,.int .u8 0]) (Told2.refl _) Tryd.underlying154 (by kernel_rfl)
theorem ok155:tiOK Tryd.prog 155 t155:=tiOK_of (.nilfn) (Told2.refl _) ⟨_,_,_,Tryd.underlying155⟩ (by kernel_rfl)
theorem ok156:tiOK Tryd.prog 156 t156:=tiOK_of (.nil) (Told2.refl _) Tryd.underlying156 (by kernel_rfl)
theorem ok158:tiOK Tryd.prog 158 t158:=tiOK_of (.nilfn) (Told2.refl _) ⟨_,_,_,Tryd.underlying158⟩ (by kernel_rfl)
theorem ok159:tiOK Tryd.prog 159 t159:=tiOK_of (.nilfn) (Told2.refl _) ⟨_,_,_,Tryd.underlying159⟩ (by kernel_rfl)
theorem ok160:tiOK Tryd.prog 160 t160:=tiOK_of (.agg [.int .u64 0,.int .u64 0,.int .u64 0,.int .u64 0,.int .u64 0,.int .u64 0,.int .u64 0,.int .u64 0,.int .u64 0,.int .u64 0,.int .u64 0,.int .u64 0,.int .u64 0,.int .u64 0,.int .u64 0,.int .u64 0,.int .u64 0,.int .u64 0,.int .u64 0,.int .u64 0]) (Told2.refl _) Tryd.underlying160 (by kernel_rfl)
theorem ok161:tiOK Tryd.prog 161 t161:=tiOK_of (.agg [.int .u8 0,.int .u8 0,.int .u8 0,.int .u8 0,.int .u8 0,.int .u8 0,.int .u8 0,.int .u8 0,.int .u8 0,.int .u8 0,.int .u8 0,.int .u8 0,.int .u8 0,.int .u8 0,.int .u8 0,.int .u8 0,.int .u8 0,.int .u8 0,.int .u8 0,.int .u8 0,.int .u8 0,.int .u8 0,.int .u8 0,.int .u8 0,.int .u8 0,.int .u8 0,.int .u8 0,.int .u8 0,.int .u8 0,.int .u8 0,.int .u8 0,.int .u8 0,.int .u8 0,.int .u8 0,.int .u8 0,.int .u8 0,.int .u8 0,.int .u8 0,.int .u8 0,.int .u8 0,.int .u8 0,.int .u8 0,.int .u8 0,.int .u8 0,.int .u8 0,.int .u8 0,.int .u8 0,.int .u8 0,.int .u8 0,.int .u8 0,.int .u8 0,.int .u8 0,.int .u8 0,.int .u8 0,.int .u8 0,.int .u8 0,.int .u8 0,.int .u8 0,.int .u8 0,.int .u8 0,.int .u8 0,.int .u8 0,.int .u8 0,.int .u8 0,.int .u8 0]) (Told2.refl _) Tryd.underlying161 (by kernel_rfl)
theorem ok162:tiOK Tryd.prog 162 t162:=tiOK_of (.nilfn) (Told2.refl _) ⟨_,_,_,Tryd.underlying162⟩ (by kernel_rfl)
theorem ok163:tiOK Tryd.prog 163 t163:=tiOK_of (.agg [.int .u8 0,.int .u8 0,.int .u8 0,.int .u8 0,.int .u8 0,.int .u8 0,.int .u8 0,.int .u8 0,.int .u8 0,.int .u8 0,.int .u8 0,.int .u8 0,.int .u8 0,.int .u8 0,.int .u8 0,.int .u8 0,.int .u8 0,.int .u8 0,.int .u8 0,.int .u8 0,.int .u8 0,.int .u8 0,.int .u8 0,.int .u8 0,.int .u8 0,.int .u8 0,.int .u8 0,.int .u8 0,.int .u8 0,.int .u8 0,.int .u8 0,.int .u8 0]) (Told2.refl _) Tryd.underlying163 (by kernel_rfl)
theorem ok164:tiOK Tryd.prog 164 t164:=tiOK_of (.agg [.int .u8 0,.int .u8 0,.int .u8 0,.int .u8 0,.int .u8 0,.int .u8 0,.int .u8 0,.int .u8 0,.int .u8 0,.int .u8 0,.int .u8 0,.int .u8 0,.int .u8 0,.int .u8 0,.int .u8 0,.int .u8 0,.int .u8 0,.int .u8 0,.int .u8 0,.int .u8 0,.int .u8 0,.int .u8 0,.int .u8 0,.int .u8 0,.int .u8 0,.int .u8 0,.int .u8 0,.int .u8 0,.int .u8 0,.int .u8 0,.int .u8 0,.int .u8 0,.int .u8 0,.int .u8 0,.int .u8 0,.int .u8 0,.int .u8 0,.int .u8 0,.int .u8 0,.int .u8 0,.int .u8 0,.int .u8 0,.int .u8 0,.int .u8 0,.int .u8 0,.int .u8 0,.int .u8 0,.int .u8 0,.int .u8 0,.int .u8 0,.int .u8 0,.int .u8 0,.int .u8 0,.int .u8 0,.int .u8 0,.int .u8 0,.int .u8 0,.int .u8 0,.int .u8 0,.int .u8 0,.int .u8 0,.int .u8 0,.int .u8 0,.int .u8 0]) (Told2.refl _) Tryd.underlying164 (by kernel_rfl)
theorem ok165:tiOK Tryd.prog 165 t165:=tiOK_of (.agg [.nilptr,.nilptr,.nilptr,.str []]) (Told2.refl _) ⟨⟨_,Tryd.underlying165,rfl⟩,fun h=>by cases h⟩ (by kernel_rfl)
theorem ok166:tiOK Tryd.prog 166 t166:=tiOK_of (.agg [.nilptr,.nilptr,.nilptr,.str []]) (Told2.refl _) ⟨⟨_,Tryd.underlying166,rfl⟩,fun h=>by cases h⟩ (by kernel_rfl)
theorem ok167:tiOK Tryd.prog 167 t167:=tiOK_of (.agg []) (Told2.refl _) Tryd.underlying167 (by kernel_rfl)
theorem ok168:tiOK Tryd.prog 168 t168:=tiOK_of (.agg []) (Told2.refl _) ⟨⟨_,Tryd.underlying168,rfl⟩,fun h=>by cases h⟩ (by kernel_rfl)
theorem ok169:tiOK Tryd.prog 169 t169:=tiOK_of (.agg []) (Told2.refl _) ⟨⟨_,Tryd.underlying169,rfl⟩,fun h=>by cases h⟩ (by kernel_rfl)
theorem ok170:tiOK Tryd.prog 170 t170:=tiOK_of (.nilfn) (Told2.refl _) ⟨_,_,_,Tryd.underlying170⟩ (by kernel_rfl)
theorem ok171:tiOK Tryd.prog 171 t171:=tiOK_of (.int .u8 0) (Told2.refl _) Tryd.underlying171 (by kernel_rfl)
theorem ok172:tiOK Tryd.prog 172 t172:=tiOK_of (.int .u8 0) (Told2.refl _) Tryd.underlying172 (by kernel_rfl)
theorem ok173:tiOK Tryd.prog 173 t173:=tiOK_of (.nilfn) (Told2.refl _) ⟨_,_,_,Tryd.underlying173⟩ (by kernel_rfl)
theorem ok174:tiOK Tryd.prog 174 t174:=tiOK_of (.nilptr) (Told2.refl _) Tryd.underlying174 (by kernel_rfl)
theorem ok175:tiOK Tryd.prog 175 t175:=tiOK_of (.int .i32 0) (Told2.refl _) Tryd.underlying175 (by kernel_rfl)
theorem ok176:tiOK Tryd.prog 176 t176:=tiOK_of (.int .i32 0) (Told2.refl _) Tryd.underlying176 (by kernel_rfl)
theorem ok177:tiOK Tryd.prog 177 t177:=tiOK_of (.agg [.int .u64 0,.int .u64 0,.int .u32 0,.int .u8 0,.int .u8 0,.int .u8 0,.int .u8 0,.nilfn,.nilptr,.int .i32 0,.int .i32 0]) (Told2.refl _) ⟨⟨_,Tryd.underlying177,rfl⟩,fun h=>by cases h⟩ (by kernel_rfl)
theorem ok178:tiOK Tryd.prog 178 t178:=tiOK_of (.agg [.int .u64 0,.int .u64 0,.int .u32 0,.int .u8 0,.int .u8 0,.int .u8 0,.int .u8 0,.nilfn,.nilptr,.int .i32 0,.int .i32 0]) (Told2.refl _) ⟨⟨_,Tryd.underlying178,rfl⟩,fun h=>by cases h⟩ (by kernel_rfl)
attribute [go_sem] TBg
theorem mixOK:Tryd.prog.follows .mixedOrders=true:=by kernel_rfl
theorem tabOK:TabOK Tryd.prog TB:=
 TabOK.cons ok2<|
 TabOK.cons ok3<|
 TabOK.cons ok4<|
 TabOK.cons ok5<|
 TabOK.cons ok9<|
 TabOK.cons ok20<|
 TabOK.cons ok21<|
 TabOK.cons ok22<|
 TabOK.cons ok23<|
 TabOK.cons ok24<|
 TabOK.cons ok25<|
 TabOK.cons ok26<|
 TabOK.cons ok27<|
 TabOK.cons ok28<|
 TabOK.cons ok29<|
 TabOK.cons ok30<|
 TabOK.cons ok31<|
 TabOK.cons ok32<|
 TabOK.cons ok33<|
 TabOK.cons ok34<|
 TabOK.cons ok35<|
 TabOK.cons ok36<|
 TabOK.cons ok37<|
 TabOK.cons ok38<|
 TabOK.cons ok39<|
 TabOK.cons ok40<|
 TabOK.cons ok41<|
 TabOK.cons ok42<|
 TabOK.cons ok43<|
 TabOK.cons ok44<|
 TabOK.cons ok45<|
 TabOK.cons ok47<|
 TabOK.cons ok48<|
 TabOK.cons ok49<|
 TabOK.cons ok51<|
 TabOK.cons ok52<|
 TabOK.cons ok53<|
 TabOK.cons ok54<|
 TabOK.cons ok55<|
 TabOK.cons ok56<|
 TabOK.cons ok57<|
 TabOK.cons ok58<|
 TabOK.cons ok59<|
 TabOK.cons ok61<|
 TabOK.cons ok62<|
 TabOK.cons ok63<|
 TabOK.cons ok64<|
 TabOK.cons ok65<|
 TabOK.cons ok66<|
 TabOK.cons ok67<|
 TabOK.cons ok68<|
 TabOK.cons ok69<|
 TabOK.cons ok70<|
 TabOK.cons ok71<|
 TabOK.cons ok72<|
 TabOK.cons ok73<|
 TabOK.cons ok74<|
 TabOK.cons ok75<|
 TabOK.cons ok76<|
 TabOK.cons ok77<|
 TabOK.cons ok78<|
 TabOK.cons ok79<|
 TabOK.cons ok80<|
 TabOK.cons ok81<|
 TabOK.cons ok82<|
 TabOK.cons ok83<|
 TabOK.cons ok84<|
 TabOK.cons ok85<|
 TabOK.cons ok86<|
 TabOK.cons ok87<|
 TabOK.cons ok88<|
 TabOK.cons ok89<|
 TabOK.cons ok90<|
 TabOK.cons ok92<|
 TabOK.cons ok93<|
 TabOK.cons ok94<|
 TabOK.cons ok95<|
 TabOK.cons ok96<|
 TabOK.cons ok97<|
 TabOK.cons ok99<|
 TabOK.cons ok100<|
 TabOK.cons ok101<|
 TabOK.cons ok102<|
 TabOK.cons ok103<|
 TabOK.cons ok104<|
 TabOK.cons ok105<|
 TabOK.cons ok106<|
 TabOK.cons ok107<|
 TabOK.cons ok108<|
 TabOK.cons ok109<|
 TabOK.cons ok110<|
 TabOK.cons ok111<|
 TabOK.cons ok112<|
 TabOK.cons ok113<|
 TabOK.cons ok114<|
 TabOK.cons ok115<|
 TabOK.cons ok116<|
 TabOK.cons ok117<|
 TabOK.cons ok118<|
 TabOK.cons ok119<|
 TabOK.cons ok120<|
 TabOK.cons ok121<|
 TabOK.cons ok122<|
 TabOK.cons ok123<|
 TabOK.cons ok124<|
 TabOK.cons ok125<|
 TabOK.cons ok126<|
 TabOK.cons ok127<|
 TabOK.cons ok128<|
 TabOK.cons ok129<|
 TabOK.cons ok130<|
 TabOK.cons ok131<|
 TabOK.cons ok133<|
 TabOK.cons ok134<|
 TabOK.cons ok135<|
 TabOK.cons ok136<|
 TabOK.cons ok137<|
 TabOK.cons ok138<|
 TabOK.cons ok139<|
 TabOK.cons ok140<|
 TabOK.cons ok141<|
 TabOK.cons ok142<|
 TabOK.cons ok143<|
 TabOK.cons ok144<|
 TabOK.cons ok145<|
 TabOK.cons ok146<|
 TabOK.cons ok147<|
 TabOK.cons ok148<|
 TabOK.cons ok149<|
 TabOK.cons ok150<|
 TabOK.cons ok151<|
 TabOK.cons ok153<|
 TabOK.cons ok154<|
 TabOK.cons ok155<|
 TabOK.cons ok156<|
 TabOK.cons ok158<|
 TabOK.cons ok159<|
 TabOK.cons ok160<|
 TabOK.cons ok161<|
 TabOK.cons ok162<|
 TabOK.cons ok163<|
 TabOK.cons ok164<|
 TabOK.cons ok165<|
 TabOK.cons ok166<|
 TabOK.cons ok167<|
 TabOK.cons ok168<|
 TabOK.cons ok169<|
 TabOK.cons ok170<|
 TabOK.cons ok171<|
 TabOK.cons ok172<|
 TabOK.cons ok173<|
 TabOK.cons ok174<|
 TabOK.cons ok175<|
 TabOK.cons ok176<|
 TabOK.cons ok177<|
 TabOK.cons ok178<|TabOK.nil
section
theorem RepL.all {c:Cx} {α:Type} {sv:α→SV} {enc:α→Value} {ok:α→Prop} (hrep:∀ (c:Cx) x v,Rep c (sv x) v↔(v=enc x∧ok x)):∀ {zs:List α} {vs:List Value},RepL c (zs.map sv) vs↔(vs=zs.map enc∧∀ x∈zs,ok x)
 |[],vs=>by simp[RepL]
 |x::zs,vs=>by
  rw[List.map_cons,RepL.cons_iff]
  constructor
  ·rintro⟨u,us,h1,h2,rfl⟩
   obtain⟨rfl,h3⟩:=(hrep c x u).1 h1
   obtain⟨rfl,h4⟩:=(RepL.all hrep).1 h2
   exact⟨rfl,fun y hy=>by rcases List.mem_cons.1 hy with rfl|hy;exact h3;exact h4 y hy⟩
  ·rintro⟨rfl,h⟩
   exact⟨_,_,(hrep c x _).2 ⟨rfl,h x (List.mem_cons_self ..)⟩,(RepL.all hrep).2 ⟨rfl,fun y hy=>h y (List.mem_cons_of_mem _ hy)⟩,rfl⟩
theorem cellsOf_ones:∀ {vs:List Value},(∀ v∈vs,v.oneCell'=true)→cellsOf vs=vs
 |[],_=>rfl
 |v::vs,h=>by rw[cellsOf_cons,cells_one (h v (List.mem_cons_self ..)),cellsOf_ones (fun u hu=>h u (List.mem_cons_of_mem _ hu))];rfl
section
variable {P:Program} {G:Gl} {α:Type} [Inhabited α]
open Go.Sort
theorem ACall.of_sort (enc:α→Value) (sv:α→SV) (ok:α→Prop) (hrep:∀ (c:Cx) x v,Rep c (sv x) v↔(v=enc x∧ok x)) (hone:∀ x,(enc x).oneCell'=true) (le:α→α→Bool) {f:FuncId}
 (hf:∃ fn,P.funcs[f]? =some fn∧(fn.name== "runtime.NumGoroutine")=false∧fn.body.isNone=false)
 (hc:∀ (blk off cap:Nat) (zs:List α) (w:World),Holds enc w blk off zs.toArray→blk<w.heap.size→zs.length<4611686018427387904→Calls P f #[.slice (some ⟨blk,off,none⟩) zs.length cap] w fun e w'=>
  e= .returned (.tuple #[])∧∃ n os,w'=grow (putRow enc (Sort.ahead w n) blk off (zs.mergeSort le).toArray) os)
 (h0:∀ (p:Option Addr) (cap:Nat) (w:World),Calls P f #[.slice p 0 cap] w fun e w'=>e= .returned (.tuple #[])∧w'=w)
 (id g:Nat) (zs:List α) (H:List Blk) (hH:H[id]? =some (.cells g 1 (zs.map sv))) (hl:zs.length<4611686018427387904):
 ACall P G f [.sl id g 0 zs.length] H (fun r H'=>H'=H.set id (.cells g 1 ((zs.mergeSort le).map sv))∧r= .tuple []):=by
 refine⟨hf,fun c vs e1 hh hG hv=>?_⟩
 obtain⟨v,us,hv1,hv2,rfl⟩:=RepL.cons_iff.1 hv
 rw[RepL.nil_iff.1 hv2]
 have hB:c.H[id]? =some (.cells g 1 (zs.map sv)):=by rw[e1];exact hH
 simp only[Rep,hB] at hv1
 have hperm:=List.mergeSort_perm zs le
 have hlen:(zs.mergeSort le).length=zs.length:=hperm.length_eq
 refine(callsIn_wide (n:=0)).2 ?_
 rcases hv1.2 with h|⟨_,h1,a,cap,rfl,h2,h3,h4⟩
 ·omega
 by_cases hz:zs=[]
 ·subst hz
  refine(h0 a cap c.w).mono ?_
  rintro e w' ⟨rfl,rfl⟩
  refine⟨_,.tuple [],c,rfl,rfl,⟨?_,rfl⟩,hh,by simp only[Rep];exact⟨[],RepL.mk_nil,rfl⟩,Grow.refl c⟩
  rw[e1]
  obtain⟨hlt,he⟩:=List.getElem?_eq_some_iff.1 hH
  have:(List.mergeSort ([]:List α) le).map sv=[]:=by simp
  rw[this]
  conv=>lhs;rw[← List.set_getElem_self hlt]
  rw[he];rfl
 have hpos:0<zs.length:=List.length_pos_iff.2 hz
 rcases h4 with h4|⟨b,o,cs,Ty,fr,h4,h5,h6,h7⟩
 ·omega
 rcases hh.blk id _ hB with⟨h8,_⟩|⟨b',o',cs',Ty',fr',vs',h8,h9,h10,h11,h12,h13⟩
 ·rw[h4] at h8;cases h8
 rw[h4] at h8;cases h8
 rw[h6] at h9;cases h9
 obtain⟨rfl,hok⟩:=(RepL.all hrep).1 h11
 have hall1:∀ l:List α,∀ v∈l.map enc,v.oneCell'=true:=fun l v hv=>by obtain⟨x,_,rfl⟩:=List.mem_map.1 hv;exact hone x
 rw[cellsOf_ones (hall1 zs)] at h13
 have hblk:b<c.w.heap.size:=(Array.getElem?_eq_some_iff.1 h6).1
 have hsz:o+zs.length≤cs.size:=by
  have:=rangeAt_size h6 h13 (by simpa using hpos)
  simpa using this
 have hthere:c.w.there b o zs.length:=rangeAt_there h6 h10 hsz
 have hholds:Holds enc c.w b o zs.toArray:=fun j hj=>by
  have hj':j<zs.length:=by simpa using hj
  refine⟨?_,(hthere j hj').2⟩
  have:=h13 j (enc zs[j]) (by simp[hj'])
  rw[this]
  simp[hj']
 rw[show a=some ⟨b,o,none⟩ by rw[h5];simp]
 refine(hc b o cap zs c.w hholds hblk hl).mono ?_
 rintro e w' ⟨rfl,n,os,rfl⟩
 have hother:∀ k,k<c.w.heap.size→k≠b→(grow (putRow enc (Sort.ahead c.w n) b o (zs.mergeSort le).toArray) os).heap[k]? =c.w.heap[k]? :=fun k hk hne=>by
  rw[heap_grow_old _ _ (by simpa using hk)]
  show(Array.modify c.w.heap b _)[k]? =_
  rw[Array.getElem?_modify,if_neg (fun e=>hne e.symm)]
 have hat:(grow (putRow enc (Sort.ahead c.w n) b o (zs.mergeSort le).toArray) os).heap[b]? =some (.cells (putCells enc o (zs.mergeSort le).toArray cs) Ty fr):=by
  rw[heap_grow_old _ _ (by simpa using hblk)]
  show(Array.modify c.w.heap b _)[b]? =_
  rw[Array.getElem?_modify,if_pos rfl,h6]
  rfl
 have hcsz:(putCells enc o (zs.mergeSort le).toArray cs).size=cs.size:=by simp[putCells]
 obtain⟨t1,t2⟩:=Cx.turn hh (w':=grow (putRow enc (Sort.ahead c.w n) b o (zs.mergeSort le).toArray) os) hB rfl (B':= .cells g 1 ((zs.mergeSort le).map sv)) (c.θ id)
  ⟨g,_,rfl,Nat.le_refl _,fun _=>⟨rfl,by simp[hlen]⟩,fun b' o' h'=> .inr ⟨o',h'⟩⟩
  (fun k hk hno=>hother k hk fun e=>hno o (by rw[h4,e])) (by simp) rfl rfl rfl
  (fun b' cs0 T0 fr0 hb'=>by
   by_cases e:b'=b
   ·subst e
    rw[h6] at hb';cases hb'
    exact⟨_,fr,hat,hcsz⟩
   ·exact⟨cs0,fr0,by rw[hother b' (Array.getElem?_eq_some_iff.1 hb').1 e];exact hb',rfl⟩)
  (fun hg=> .inr ⟨b,o,_,Ty,fr,(zs.mergeSort le).map enc,by simp[h4],hat,by unfold noFreeze;rw[hcsz];exact h10,
   (RepL.all hrep).2 ⟨rfl,fun x hx=>hok x (hperm.mem_iff.1 hx)⟩,fun u hu=>by
    have:=hall1 _ u hu
    exact⟨by rw[cells_one this];rfl,okCells_one this⟩,by
    rw[cellsOf_ones (hall1 _)]
    intro j v hj
    rw[cell_at hat]
    obtain⟨hj',hje⟩:=List.getElem?_eq_some_iff.1 hj
    simp only[List.length_map] at hj'
    simp only[List.getElem_map] at hje
    simp only[putCells,Array.getElem?_mapIdx]
    rw[Array.getElem?_eq_getElem (by omega)]
    simp only[Option.map_some]
    rw[if_pos (by constructor;omega;simp;omega)]
    rw[← hje]
    simp only[Nat.add_sub_cancel_left,List.getElem!_toArray,List.getElem!_eq_getElem?_getD]
    rw[List.getElem?_eq_getElem hj'];rfl⟩)
 refine⟨_,.tuple [],_,rfl,rfl,⟨?_,rfl⟩,t2,by simp only[Rep];exact⟨[],RepL.mk_nil,rfl⟩,t1⟩
 rw[← e1]
end
theorem rep_str_iff (c:Cx) (s:List UInt8) (v:Value):Rep c (.str s) v↔(v= .string ⟨⟨s⟩⟩∧s.length≤maxLen):=by simp only[Rep]
end
section
section
variable {P:Program}
theorem run_next_at (w:World) (ty r bm clk:Nat) (seen:Array Nat) (es:Array MapEntry) (hr:w.heap[r]? =some (.mapIter (some bm) clk seen clk)) (hb:w.heap[bm]? =some (.map es clk)) (hold:∀ x∈es.toList,x.born<clk):
 ((∀ e∈es.toList,seen.contains e.born=true)∧(Instr.next (.pointer (some ⟨r,0,none⟩)) false ty).run P w= .ok (.tuple #[.bool false]) w)∨
 ∃ e∈es.toList,seen.contains e.born=false∧∃ w1:World,(w1=w∨w1=w.drew)∧(Instr.next (.pointer (some ⟨r,0,none⟩)) false ty).run P w= .ok (.tuple #[.bool true,e.key,e.val]) (w1.putObj r (.mapIter (some bm) clk (seen.push e.born) clk)):=by
 simp only[Instr.next,getObj,Sem.run_bind,Sem.run,hr,hb,Result.andThen,next_test_false seen es clk clk hold (Nat.le_refl _),Bool.false_eq_true,if_false]
 generalize hL:Array.filter (fun e=>!seen.contains e.born) es=L
 have mem:∀ e,e∈L.toList↔e∈es.toList∧seen.contains e.born=false:=fun e=>by rw[← hL];simp
 have old:L.filter (fun x=>decide (x.born<clk))=L:=Array.filter_eq_self.2 (fun x hx=>by simpa using hold x ((mem x).1 (by simpa using hx)).1)
 have new:L.filter (fun x=>decide (x.born≥clk))= #[]:=by
  rw[Array.filter_eq_empty_iff]
  intro x hx
  have:=hold x ((mem x).1 (by simpa using hx)).1
  simp;omega
 simp only[old,new,Array.append_empty]
 by_cases h0:L.size=0
 ·left
  have hLe:L= #[]:=Array.eq_empty_of_size_eq_zero h0
  refine⟨fun e he=>?_,by subst hLe;simp[choose,Sem.run,Question.forced]⟩
  cases hs:seen.contains e.born with
  |true=>rfl
  |false=>have:=(mem e).2 ⟨he,hs⟩;rw[hLe] at this;cases this
 ·right
  have hne:L.isEmpty=false:=by simp[Array.isEmpty,h0]
  simp only[hne,Bool.false_eq_true,if_false,Array.empty_append,Array.size_map]
  obtain⟨j,w1,hj,hw,hrun⟩:∃ (j:Nat) (w1:World),j<L.size∧(w1=w∨w1=w.drew)∧(choose (Question.mapNext L.size)).run P w= .ok j w1:=by
   by_cases hf:L.size≤1
   ·exact⟨0,w,by omega,.inl rfl,by simp[choose,Sem.run,Question.forced,hf]⟩
   ·exact⟨_,w.drew,Nat.mod_lt _ (by omega),.inr rfl,by
     simp only[choose,Sem.run,Question.forced,decide_eq_true_eq,hf,if_false,Question.cut]
     rfl⟩
  have hheap:w1.heap=w.heap:=by rcases hw with rfl|rfl<;>rfl
  obtain⟨m1,m2⟩:=(mem L[j]).1 (by simp)
  refine⟨L[j],m1,m2,w1,hw,?_⟩
  have hset:∀ o':Obj,(setObj r o').run P w1= .ok () (w1.putObj r o'):=fun o'=>by
   have:w1.heap[r]? =some (.mapIter (some bm) clk seen clk):=by rw[hheap];exact hr
   simp only[setObj,Sem.run,this]
   rfl
  simp only[hrun,Array.getElem?_map,Array.getElem?_eq_getElem hj,Option.map_some,Sem.run_bind,hset,Result.andThen]
  rfl
theorem run_entry_at (w:World) (r bm clk:Nat) (seen:Array Nat) (es:Array MapEntry) (e:MapEntry) (hr:w.heap[r]? =some (.mapIter (some bm) clk (seen.push e.born) clk)) (hb:w.heap[bm]? =some (.map es clk)) (he:e∈es.toList) (hn:(es.toList.map (·.born)).Nodup):
 (Instr.entry (.pointer (some ⟨r,0,none⟩))).run P w= .ok (.tuple #[e.key,e.val]) w:=by
 have hf:es.find? (·.born==e.born)=some e:=by rw[← Array.find?_toList];exact find_born e es.toList hn he
 simp only[Instr.entry,getObj,Sem.run_bind,Sem.run,hr,hb,Result.andThen,Array.back?_push,bne_self_eq_false,Bool.false_eq_true,if_false,hf]
 rfl
theorem run_range_at (w:World) (t k e:TypeId) (bm clk:Nat) (es:Array MapEntry) (ht:P.underlying t=some (.map k e)) (hb:w.heap[bm]? =some (.map es clk)):
 (Instr.range t (.map (some bm))).run P w= .ok (.pointer (some ⟨w.heap.size,0,none⟩)) (w.alloc (.mapIter (some bm) clk #[] clk)):=run_range_map w t k e bm es clk ht hb
end
section
variable {P:Program} {G:Gl} {T:Tab} {own:List Nat} {nt B:Nat} {ρ:Option Nat} {C:Cx} {rs:List ResultVar} {R:SV→List Blk→Prop} {env env2:Env} {H H':List Blk} {k:List It}
variable {all r:List Oper} {ty d j dj:Nat} {op:Op} {pos:String} {after:Array Edge} {v:SV}
theorem Rep.kill_both {θ:Nat→Option (Nat×Nat)} {H:List Blk} {w:World} {io:Nat} {kd:Option MK} {es:List (SV×SV)} (hm:H[io]? =some (.map kd es)):
 (∀ x v,Rep ⟨θ,H,w⟩ x v→Rep ⟨θ,H.set io .dead,w⟩ x v)∧(∀ xs vs,RepL ⟨θ,H,w⟩ xs vs→RepL ⟨θ,H.set io .dead,w⟩ xs vs):=by
 have hlt:=(List.getElem?_eq_some_iff.1 hm).1
 have himm:∀ b,Cx.imm ⟨θ,H,w⟩ b→Cx.imm ⟨θ,H.set io .dead,w⟩ b:=fun b ⟨h1,h2⟩=>⟨h1,fun⟨id,o,⟨B,hB,hl⟩,ht⟩=>h2 ⟨id,o,⟨B,by
  have hB':(H.set io .dead)[id]? =some B:=hB
  rw[List.getElem?_set] at hB'
  split at hB'
  ·cases hB';cases hl
  ·exact hB',hl⟩,ht⟩⟩
 have hget:∀ id:Nat,(H.set io .dead)[id]? =if io=id then some .dead else H[id]? :=fun id=>by
  rw[List.getElem?_set]
  by_cases e:io=id
  ·rw[if_pos e,if_pos e,if_pos (e ▸ hlt)]
  ·rw[if_neg e,if_neg e]
 apply SV.both
 ·intro x h1 h2 h3 h4 h5 h6 v h
  cases x with
  |agg fs=>exact absurd rfl (h1 fs)
  |list n xs=>exact absurd rfl (h2 n xs)
  |pto y=>exact absurd rfl (h3 y)
  |fn f a b=>exact absurd rfl (h4 f a b)
  |tuple xs=>exact absurd rfl (h5 xs)
  |imap b clk born kd ks vs=>exact absurd rfl (h6 b clk born kd ks vs)
  |ptr id g i off=>
   simp only[Rep,hget] at h ⊢
   by_cases e:io=id
   ·simp only[if_pos e];exact⟨h.1,trivial⟩
   ·simp only[if_neg e];exact h
  |sl id g off len=>
   simp only[Rep,hget] at h ⊢
   by_cases e:io=id
   ·simp only[if_pos e];exact⟨h.1,trivial⟩
   ·simp only[if_neg e];exact h
  |map id=>
   simp only[Rep,hget] at h ⊢
   by_cases e:io=id
   ·simp only[if_pos e];exact⟨h.1,trivial⟩
   ·simp only[if_neg e];exact h
  |it id=>
   simp only[Rep,hget] at h ⊢
   by_cases e:io=id
   ·simp only[if_pos e];exact⟨h.1,trivial⟩
   ·simp only[if_neg e];exact h
  |_=>exact h
 ·intro fs ih v h
  simp only[Rep] at h ⊢
  obtain⟨vs,h1,h2⟩:=h
  exact⟨vs,ih vs h1,h2⟩
 ·intro sz xs ih v h
  simp only[Rep] at h ⊢
  obtain⟨a,cap,h0,h1,h2,h3⟩:=h
  refine⟨a,cap,h0,h1,h2,?_⟩
  rcases h3 with h3|⟨b,o,vs,h3,h4,h5,h6,h7⟩
  ·exact .inl h3
  ·exact .inr ⟨b,o,vs,h3,ih vs h4,h5,h6,himm b h7⟩
 ·intro x ih v h
  simp only[Rep] at h ⊢
  obtain⟨b,o,u,h0,h1,h2,h3,h4⟩:=h
  exact⟨b,o,u,h0,ih u h1,h2,h3,himm b h4⟩
 ·intro f xs ys ih1 ih2 v h
  simp only[Rep] at h ⊢
  obtain⟨us,vs,h0,h1,h2⟩:=h
  exact⟨us,vs,ih1 us h0,ih2 vs h1,h2⟩
 ·intro xs ih v h
  simp only[Rep] at h ⊢
  obtain⟨vs,h0,h1⟩:=h
  exact⟨vs,ih vs h0,h1⟩
 ·intro b clk born kd ks vs ih1 ih2 v h
  simp only[Rep] at h ⊢
  obtain⟨h0,h1,ents,h2,h3,h4,h5,h6,h7⟩:=h
  exact⟨h0,himm b h1,ents,h2,h3,h4,ih1 _ h5,ih2 _ h6,h7⟩
 ·intro vs h;simpa [RepL] using h
 ·intro x xs ih1 ih2 vs h
  obtain⟨u,us,h1,h2,h3⟩:=RepL.cons_iff.1 h
  exact RepL.cons_iff.2 ⟨u,us,ih1 u h1,ih2 us h2,h3⟩
theorem RepE.lists {c:Cx}:∀ {es:List (SV×SV)} {l:List MapEntry},RepE c es l→RepL c (es.map Prod.fst) (l.map (·.key))∧RepL c (es.map Prod.snd) (l.map (·.val))
 |[],l,h=>by simp only[RepE] at h;subst h;exact⟨RepL.mk_nil,RepL.mk_nil⟩
 |(q,x)::es,l,h=>by
  simp only[RepE] at h
  obtain⟨e,es',h1,h2,h3,rfl⟩:=h
  obtain⟨a,b⟩:=RepE.lists h3
  exact⟨RepL.mk_cons h1 a,RepL.mk_cons h2 b⟩
theorem RepE.mono {c c':Cx} (hr:∀ x v,Rep c x v→Rep c' x v):∀ {es:List (SV×SV)} {l:List MapEntry},RepE c es l→RepE c' es l
 |[],l,h=>by simpa [RepE] using h
 |(q,x)::es,l,h=>by
  simp only[RepE] at h ⊢
  obtain⟨e,es',h1,h2,h3,h4⟩:=h
  exact⟨e,es',hr _ _ h1,hr _ _ h2,RepE.mono hr h3,h4⟩
theorem Cx.kill {θ:Nat→Option (Nat×Nat)} {H:List Blk} {w:World} {io:Nat} {kd:Option MK} {es:List (SV×SV)} (hm:H[io]? =some (.map kd es)) (hc:HeapOK ⟨θ,H,w⟩) (hC:C.H.length≤io):
 HeapOK ⟨θ,H.set io .dead,w⟩∧(∀ C0:Cx,C0.H.length≤io→Grow C0 ⟨θ,H,w⟩→Grow C0 ⟨θ,H.set io .dead,w⟩)∧
 ∃ b clk born,θ io=some (b,0)∧born.length=es.length∧born.Nodup∧Rep ⟨θ,H.set io .dead,w⟩ (.imap b clk born kd (es.map Prod.fst) (es.map Prod.snd)) (.map (some b)):=by
 have hlt:=(List.getElem?_eq_some_iff.1 hm).1
 have hget:∀ (id:Nat) (B:Blk),(H.set io .dead)[id]? =some B→B= .dead∨(id≠io∧H[id]? =some B):=fun id B hB=>by
  rw[List.getElem?_set] at hB
  split at hB
  ·cases hB;exact .inl rfl
  ·rename_i h;exact .inr ⟨fun e=>h e.symm,hB⟩
 obtain⟨rk,rkl⟩:=Rep.kill_both (θ:=θ) (w:=w) hm
 refine⟨⟨fun id B hB=>?_,fun i j b o o' ⟨Bi,h1,h2⟩ ⟨Bj,h3,h4⟩ h5 h6=>?_⟩,fun C0 h0 hg=>?_,?_⟩
 ·rcases hget id B hB with rfl|⟨_,hB⟩
  ·trivial
  ·have hb:=hc.blk id B hB
   cases B with
   |dead=>trivial
   |obj o=>exact hb
   |cells g sz vals=>
    rcases hb with hb|⟨b,o,cs,T,fr,vs,h1,h2,h3,h4,h5,h6⟩
    ·exact .inl hb
    ·exact .inr ⟨b,o,cs,T,fr,vs,h1,h2,h3,rkl _ _ h4,h5,h6⟩
   |map kd es=>
    obtain⟨b,ents,clk,h1,h2,h3,h4⟩:=hb
    exact⟨b,ents,clk,h1,h2,RepE.mono rk h3,h4⟩
 ·rcases hget i Bi h1 with rfl|⟨_,h1⟩
  ·cases h2
  ·rcases hget j Bj h3 with rfl|⟨_,h3⟩
   ·cases h4
   ·exact hc.inj i j b o o' ⟨Bi,h1,h2⟩ ⟨Bj,h3,h4⟩ h5 h6
 ·refine⟨hg.os,hg.tape,hg.output,hg.size,hg.old,hg.shape,fun id B hB=>?_,fun id b o hn hl ht=>?_⟩
  ·obtain⟨B',h1,h2⟩:=hg.ids id B hB
   have hid:id<C0.H.length:=(List.getElem?_eq_some_iff.1 hB).1
   exact⟨B',by show(H.set io .dead)[id]? =_;rw[List.getElem?_set_ne (by omega)];exact h1,h2⟩
  ·obtain⟨B,h1,h2⟩:=hl
   rcases hget id B h1 with rfl|⟨_,h1⟩
   ·cases h2
   ·exact hg.new id b o hn ⟨B,h1,h2⟩ ht
 ·obtain⟨b,ents,clk,h1,h2,h3,h4,h5⟩:=hc.blk io _ hm
  obtain⟨l1,l2⟩:=(RepE.mono rk h3).lists
  refine⟨b,clk,ents.toList.map (·.born),h1,?_,h5.2.1,?_⟩
  ·have:=l1.length;simp only[List.length_map] at this ⊢;exact this.symm ▸ rfl
  ·simp only[Rep]
   refine⟨trivial,⟨(Array.getElem?_eq_some_iff.1 h2).1,fun⟨id,o,⟨B,hB,hl⟩,ht⟩=>?_⟩,ents,h2,h5,rfl,l1,l2,fun x hx=>?_⟩
   ·rcases hget id B hB with rfl|⟨hne,hB⟩
    ·cases hl
    ·exact hne (hc.inj id io b o 0 ⟨B,hB,hl⟩ ⟨_,hm,rfl⟩ ht h1)
   ·obtain⟨p,hp,rfl⟩:=List.mem_map.1 hx
    exact h4 p hp
theorem go_pin {c0:Code} {t io:Nat} {kd:Option MK} {es:List (SV×SV)} (hm:H[io]? =some (.map kd es)) (hC:C.H.length≤io) (hB:Based G C.H.length) (ht:look env t=some (.map io))
 (h:∀ b clk born,born.length=es.length→born.Nodup→(Out P G T own nt ρ C rs R) (.code c0::k) .normal ((t,.imap b clk born kd (es.map Prod.fst) (es.map Prod.snd))::env) (H.set io .dead)):(Out P G T own nt ρ C rs R) (.code c0::k) .normal env H:=by
 rintro⟨θ,Hc,w⟩ a hc hi hg
 simp only at hc
 subst hc
 obtain⟨k1,k2,b,clk,born,k3,k4,k5,k6⟩:=Cx.kill (C:=C) hm hi.heap hC
 refine h b clk born k4 k5 ⟨θ,Hc.set io .dead,w⟩ a rfl ⟨k1,⟨fun p hp=>(Rep.kill_both hm).1 _ _ (hi.glob.1 p hp),fun C0 h0=>k2 C0 (Nat.le_trans (hB C0 h0) hC) (hi.glob.2 C0 h0)⟩,hi.size,fun t' x hx=>?_,?_⟩ (k2 C hC hg)
 ·simp only[look] at hx
  split at hx
  ·rename_i e
   cases hx
   subst e
   have hv:=hi.env t' _ ht
   simp only[Rep,hm] at hv
   obtain⟨_,b',e1,e2⟩:=hv
   rw[k3] at e1
   cases e1
   rw[e2];exact k6
  ·exact(Rep.kill_both hm).1 _ _ (hi.env t' x hx)
 ·refine⟨fun d hd=>?_,hi.defs.2⟩
  obtain⟨r,q1,q2,q3,q4⟩:=hi.defs.1 d hd
  refine⟨r,q1,q2,⟨q3.1,fun⟨id,o,⟨B,hB',hl⟩,ht'⟩=>q3.2 ⟨id,o,⟨B,?_,hl⟩,ht'⟩⟩,q4⟩
  have hB2:(Hc.set io .dead)[id]? =some B:=hB'
  rw[List.getElem?_set] at hB2
  split at hB2
  ·split at hB2
   ·cases hB2;cases hl
   ·cases hB2
  ·exact hB2
theorem go_ownNil (t sz:Nat) {c0:Code} (ht:look env t=some .nil) (h:(Out P G T own nt ρ C rs R) (.code c0::k) .normal ((t,.sl H.length 0 0 0)::env) (H++[.cells 0 sz []])):(Out P G T own nt ρ C rs R) (.code c0::k) .normal env H:=by
 intro c a hc hi hg
 obtain⟨g1,g2⟩:=Cx.fresh hi.heap (w':=c.w) c.w.heap.size (Nat.le_refl _) 0 none (.inl rfl) (.cells 0 sz []) (fun _ _=>rfl) (Nat.le_refl _) rfl rfl rfl (fun _=> .inl ⟨by simp,rfl⟩)
 generalize hc2:(⟨fun i=>if i=c.H.length then none else c.θ i,c.H++[.cells 0 sz []],c.w⟩:Cx)=c2 at g1 g2
 have hH:c2.H=H++[.cells 0 sz []]:=by rw[← hc2];show c.H++_=_;rw[hc]
 have hw:c2.w=c.w:=by rw[← hc2]
 rw[← hw]
 refine h c2 a hH ⟨g2,hi.glob.grow g1,hi.size,fun t' x hx=>?_,hi.defs.grow g1⟩ (hg.trans g1)
 simp only[look] at hx
 split at hx
 ·rename_i e
  cases hx
  subst e
  have hv:=hi.env t' _ ht
  simp only[Rep] at hv
  rw[hv]
  simp only[Rep,hH]
  refine⟨rfl,?_⟩
  simp only[List.getElem?_append_right (Nat.le_refl _),Nat.sub_self,List.getElem?_cons_zero]
  exact .inr ⟨trivial,Nat.le_refl _,none,0,rfl,Nat.le_refl _,Nat.zero_le _,.inl ⟨rfl,.inr (Nat.le_refl _)⟩⟩
 ·exact(hi.env t' x hx).grow g1
theorem go_range {x:Operand} {t bm clk:Nat} {born:List Nat} {kd:Option MK} {ks vs:List SV} {ti:TI} (h1:ev G env x=some (.imap bm clk born kd ks vs)) (h2:mapTypes T t=some (kd,ti)) (hd:Nat.blt d nt=true)
 (hk:(Out P G T own nt ρ C rs R) (.ops all r::k) .normal ((d,.it H.length)::env) (H++[.obj (.mapIter (some bm) clk #[] clk)])):(Out P G T own nt ρ C rs R) (.ops all (⟨some d,.range t x,ty,pos,after,none⟩::r)::k) .normal env H:=by
 refine OW.law (R0:=fun y H'=>y= .it H.length∧H'=H++[.obj (.mapIter (some bm) clk #[] clk)]) rfl rfl hd (fun hT c a o' hs hc hi hg next Q hn=>?_) (fun y H' hy=>by obtain⟨rfl,rfl⟩:=hy;exact hk)
 have hv:=ev_ok hi h1
 simp only[Rep] at hv
 obtain⟨e1,e2,ents,e3,_⟩:=hv
 have hu:∃ kk e,P.underlying t=some (.map kk e):=by
  unfold mapTypes at h2
  split at h2
  ·rename_i q;exact⟨_,_,(hT _ _ q).1⟩
  ·cases h2
 obtain⟨kk,e,hu⟩:=hu
 obtain⟨g1,g2⟩:=Cx.fresh hi.heap (w':=c.w.alloc (.mapIter (some bm) clk #[] clk)) c.w.heap.size (Nat.le_refl _) 0 (some (c.w.heap.size,0)) (.inr rfl) (.obj (.mapIter (some bm) clk #[] clk)) (fun b hb=>Go.RowKit.Below.heap_alloc _ _ b hb) (by simp) rfl rfl rfl
  (fun _=>⟨c.w.heap.size,by simp,World.alloc_heap_new _ _,fun ds e=>by cases e⟩)
 obtain⟨s1,s2,s3⟩:=hs
 refine wp_val (u:= .pointer (some ⟨c.w.heap.size,0,none⟩)) (w':=c.w.alloc (.mapIter (some bm) clk #[] clk)) (by rw[s2];intro _ e;cases e) ?_ ?_
 ·simp[execOp,s2,e1,run_range_at c.w t kk e bm clk ents hu e3]
 ·rw[s1]
  have:=hn (.it c.H.length) _ (.pointer (some ⟨c.w.heap.size,0,none⟩)) (by rw[hc];exact⟨rfl,rfl⟩) g2 (by
   simp only[Rep]
   refine⟨rfl,?_⟩
   simp only[List.getElem?_append_right (Nat.le_refl _),Nat.sub_self,List.getElem?_cons_zero]
   exact⟨c.w.heap.size,by simp,rfl⟩) g1
  exact this
theorem RepL.at {c:Cx} {α:Type} {f:α→Value}:∀ {xs:List SV} {l:List α},RepL c xs (l.map f)→∀ {i:Nat} {e:α},l[i]? =some e→∃ x,xs[i]? =some x∧Rep c x (f e)
 |[],l,h,i,e,he=>by
  have:=RepL.nil_iff.1 h
  rw[List.map_eq_nil_iff] at this
  subst this;cases he
 |x::xs,l,h,i,e,he=>by
  cases l with
  |nil=>cases he
  |cons y l=>
   obtain⟨u,us,h1,h2,h3⟩:=RepL.cons_iff.1 h
   rw[List.map_cons,List.cons.injEq] at h3
   obtain⟨rfl,rfl⟩:=h3
   cases i with
   |zero=>cases he;exact⟨x,rfl,h1⟩
   |succ i=>exact RepL.at h2 (i:=i) he
theorem go_next {x:Operand} {tm iid bm clk:Nat} {seen:Array Nat} {born:List Nat} {kd:Option MK} {ks vs:List SV} (h1:ev G env x=some (.it iid)) (h2:look env tm=some (.imap bm clk born kd ks vs)) (h3:H[iid]? =some (.obj (.mapIter (some bm) clk seen clk))) (hd:Nat.blt d nt=true)
 (hk0:(∀ b∈born,seen.contains b=true)→(Out P G T own nt ρ C rs R) (.ops all r::k) .normal ((d,.tuple [.bool false])::env) H)
 (hk1:∀ (i b:Nat) (q y:SV),born[i]? =some b→seen.contains b=false→ks[i]? =some q→vs[i]? =some y→(Out P G T own nt ρ C rs R) (.ops all r::k) .normal ((d,.tuple [.bool true,q,y])::env) (H.set iid (.obj (.mapIter (some bm) clk (seen.push b) clk)))):
 (Out P G T own nt ρ C rs R) (.ops all (⟨some d,.next x false,ty,pos,after,none⟩::r)::k) .normal env H:=by
 refine OW.law (R0:=fun z H'=>((∀ b∈born,seen.contains b=true)∧z= .tuple [.bool false]∧H'=H)∨∃ (i b:Nat) (q y:SV),born[i]? =some b∧seen.contains b=false∧ks[i]? =some q∧vs[i]? =some y∧z= .tuple [.bool true,q,y]∧H'=H.set iid (.obj (.mapIter (some bm) clk (seen.push b) clk)))
  rfl rfl hd (fun hT c a o' hs hc hi hg next Q hn=>?_) (fun z H' hz=>by
   rcases hz with⟨q1,rfl,rfl⟩|⟨i,b,q,y,q1,q2,q3,q4,rfl,rfl⟩
   ·exact hk0 q1
   ·exact hk1 i b q y q1 q2 q3 q4)
 have hv:=ev_ok hi h1
 have hm:=hi.env tm _ h2
 rw[← hc] at h3
 simp only[Rep,h3] at hv
 obtain⟨_,rb,r1,r2⟩:=hv
 simp only[Rep] at hm
 obtain⟨_,m1,ents,m2,m3,m4,m5,m6,m7⟩:=hm
 obtain⟨b',q1,q2⟩:=obj_at hi.heap h3
 rw[r1] at q1;cases q1
 obtain⟨s1,s2,s3⟩:=hs
 have r2':a.eval x= .pointer (some ⟨rb,0,none⟩):=r2
 rcases run_next_at (P:=P) c.w o'.type rb bm clk seen ents q2 m2 m3.1 with⟨n1,n2⟩|⟨e,n1,n2,w1,n3,n4⟩
 ·refine wp_val (u:= .tuple #[.bool false]) (w':=c.w) (by rw[s2];intro _ e;cases e) ?_ ?_
  ·simp[execOp,s2,r2',n2]
  ·rw[s1]
   exact hn (.tuple [.bool false]) c _ (.inl ⟨fun b hb=>by
    rw[← m4] at hb
    obtain⟨e,he,rfl⟩:=List.mem_map.1 hb
    exact n1 e he,rfl,hc⟩) hi.heap (by simp only[Rep];exact⟨[.bool false],RepL.mk_cons (rep_bool c false) RepL.mk_nil,rfl⟩) (Grow.refl c)
 ·obtain⟨i,hi'⟩:=List.getElem?_of_mem n1
  obtain⟨y1,y2,y3⟩:=RepL.at m5 hi'
  obtain⟨z1,z2,z3⟩:=RepL.at m6 hi'
  have hb:born[i]? =some e.born:=by rw[← m4,List.getElem?_map,hi'];rfl
  obtain⟨c1,hc1,hg1,hh1⟩:∃ c1:Cx,c1={ c with w:=w1}∧Grow c c1∧HeapOK c1:=by
   have:=Cx.world hi.heap (w':=w1) (fun b _=>by rcases n3 with rfl|rfl<;>rfl) (by rcases n3 with rfl|rfl<;>exact Nat.le_refl _) (by rcases n3 with rfl|rfl<;>rfl) (by rcases n3 with rfl|rfl<;>rfl) (by rcases n3 with rfl|rfl<;>rfl)
   exact⟨_,rfl,this.1,this.2⟩
  obtain⟨c2,g1,g2,g3,g4⟩:=obj_turn (o:= .mapIter (some bm) clk seen clk) (o':= .mapIter (some bm) clk (seen.push e.born) clk) hh1 (id:=iid) (b:=rb) (by rw[hc1];exact h3) (by rw[hc1];exact r1) rfl (fun _ _ _ e=>by cases e) (fun _ e=>by cases e)
  refine wp_val (u:= .tuple #[.bool true,e.key,e.val]) (w':=w1.putObj rb (.mapIter (some bm) clk (seen.push e.born) clk)) (by rw[s2];intro _ e;cases e) ?_ ?_
  ·simp[execOp,s2,r2',n4]
  ·rw[s1]
   have:=hn (.tuple [.bool true,y1,z1]) c2 (.tuple #[.bool true,e.key,e.val]) (.inr ⟨i,e.born,y1,z1,hb,n2,y2,z2,rfl,by rw[g1,hc1];show c.H.set _ _=_;rw[hc]⟩) g4 (by
    simp only[Rep]
    exact⟨[.bool true,e.key,e.val],RepL.mk_cons (rep_bool c2 true) (RepL.mk_cons (y3.grow (hg1.trans g3)) (RepL.mk_cons (z3.grow (hg1.trans g3)) RepL.mk_nil)),rfl⟩) (hg1.trans g3)
   rw[g2,hc1] at this
   exact this
theorem go_entry {x:Operand} {tm iid bm clk i b:Nat} {seen:Array Nat} {born:List Nat} {kd:Option MK} {ks vs:List SV} {q y:SV} (h1:ev G env x=some (.it iid)) (h2:look env tm=some (.imap bm clk born kd ks vs)) (h3:H[iid]? =some (.obj (.mapIter (some bm) clk (seen.push b) clk)))
 (hb:born[i]? =some b) (hq:ks[i]? =some q) (hy:vs[i]? =some y) (hd:Nat.blt d nt=true)
 (hk:(Out P G T own nt ρ C rs R) (.ops all r::k) .normal ((d,.tuple [q,y])::env) H):
 (Out P G T own nt ρ C rs R) (.ops all (⟨some d,.entry x,ty,pos,after,none⟩::r)::k) .normal env H:=by
 refine OW.law (R0:=fun z H'=>z= .tuple [q,y]∧H'=H) rfl rfl hd (fun hT c a o' hs hc hi hg next Q hn=>?_) (fun z H' hz=>by obtain⟨rfl,rfl⟩:=hz;exact hk)
 have hv:=ev_ok hi h1
 have hm:=hi.env tm _ h2
 rw[← hc] at h3
 simp only[Rep,h3] at hv
 obtain⟨_,rb,r1,r2⟩:=hv
 simp only[Rep] at hm
 obtain⟨_,m1,ents,m2,m3,m4,m5,m6,m7⟩:=hm
 obtain⟨b',q1,q2⟩:=obj_at hi.heap h3
 rw[r1] at q1;cases q1
 obtain⟨s1,s2,s3⟩:=hs
 have r2':a.eval x= .pointer (some ⟨rb,0,none⟩):=r2
 rw[← m4,List.getElem?_map] at hb
 obtain⟨e,he,rfl⟩:=Option.map_eq_some_iff.1 hb
 obtain⟨y1,y2,y3⟩:=RepL.at m5 he
 obtain⟨z1,z2,z3⟩:=RepL.at m6 he
 rw[hq] at y2;cases y2
 rw[hy] at z2;cases z2
 refine wp_val (u:= .tuple #[e.key,e.val]) (w':=c.w) (by rw[s2];intro _ e;cases e) ?_ ?_
 ·simp[execOp,s2,r2',run_entry_at (P:=P) c.w rb bm clk seen ents e q2 m2 (List.mem_of_getElem? he) m3.2.1]
 ·rw[s1]
  exact hn (.tuple [q,y]) c _ ⟨rfl,hc⟩ hi.heap (by simp only[Rep];exact⟨[e.key,e.val],RepL.mk_cons y3 (RepL.mk_cons z3 RepL.mk_nil),rfl⟩) (Grow.refl c)
end
end
section
open Go Go.ChangeShapes Go.WideShapes Go.RowKit
def rdC (W:World):Cx:=⟨fun _=>none,[],W⟩
theorem rdC_imm {W:World} {b:Nat} (h:b<W.heap.size):(rdC W).imm b:=⟨h,fun⟨_,_,_,ht⟩=>by cases ht⟩
theorem rdC_ok (W:World):HeapOK (rdC W):=⟨fun id B h=>by simp[rdC] at h,fun i j b o o' _ _ h=>by cases h⟩
section
variable {H:Type} {enc:TypeId×Value→H} {P:Program} {W:World} {sp:Nat→Bool}
def Good (W:World) (xs:List SV) (cs:List Value):Prop:=RepL (rdC W) xs cs∧∀ v∈cs,v.oneCell'=true
def Rd (enc:TypeId×Value→H) (P:Program) (W:World) (sp:Nat→Bool) (n:Nat) (t:TypeId) {α:Type} (f:α→List SV) (wt:α→Nat):Prop:=
 ∀ cs x,DataW.trod enc P W 0 sp true n t cs=some x→∃ a:α,Good W (f a) cs∧cs.length=P.cellsOf t∧wt a≤Rows.uptoBulk x.1
theorem Good.nil:Good W [] []:=⟨RepL.mk_nil,by simp⟩
theorem Good.append {xs ys:List SV} {cs ds:List Value} (h:Good W xs cs) (h':Good W ys ds):Good W (xs++ys) (cs++ds):=
 ⟨h.1.append h'.1,fun v hv=>(List.mem_append.1 hv).elim (h.2 v) (h'.2 v)⟩
theorem Good.cut {xs ys:List SV} {cs:List Value} {o k:Nat} (h:Good W xs ((cs.drop o).take k)) (h':Good W ys (cs.drop (o+k))):Good W (xs++ys) (cs.drop o):=by
 have:=h.append h'
 rwa[← List.drop_drop,List.take_append_drop] at this
theorem Good.one {x:SV} {v:Value} (h:Rep (rdC W) x v) (hv:v.oneCell'=true):Good W [x] [v]:=
 ⟨by simp only[RepL];exact⟨v,[],h,rfl,rfl⟩,by simpa using hv⟩
theorem wf_range {k:IntKind} {n:Int} (h:(Lit.int k n).wf=true):k.min≤n∧n≤k.max:=by
 simpa [Lit.wf] using h
theorem rd_int {n:Nat} {t:TypeId} {k:IntKind} (ht:P.underlying t=some (.int k)) (hc:P.cellsOf t=1):Rd enc P W sp n t (fun i:Int=>[.int k i]) (fun _=>1):=by
 intro cs x h
 obtain⟨i,rfl,rfl,hw⟩:=DataW.trod_int ht h
 exact⟨i,.one (by simp only[Rep];exact⟨trivial,wf_range hw⟩) rfl,by simp[hc],by simp[Rows.uptoBulk]⟩
theorem rd_str {n:Nat} {t:TypeId} (ht:P.underlying t=some .string) (hc:P.cellsOf t=1):Rd enc P W sp n t (fun s:Str=>[.str s]) (fun s=>s.length+1):=by
 intro cs x h
 obtain⟨i,rfl,rfl,hs⟩:=DataW.trod_string ht h
 exact⟨i.data.toList,.one (by simp only[Rep];exact⟨trivial,by simpa using hs⟩) rfl,by simp[hc],by simp[Rows.uptoBulk]⟩
theorem cells_range {a:Addr} {n:Nat} {cs:List Value} (hn:0<n) (h:W.cells? 0 a n=some cs):a.spot=none∧cs.length=n∧W.rangeAt a.block a.off cs∧a.block<W.heap.size:=by
 obtain⟨_,hl,hc⟩:=World.cells?_some h
 have h0:=hc 0 hn
 obtain⟨c0,e0⟩:∃ c0,cs[0]? =some c0:=⟨cs[0],by simp[hl,hn]⟩
 rw[e0] at h0
 have hs:a.spot=none:=by simpa [Addr.add] using World.cell?_spot h0
 obtain⟨b,o,s⟩:=a
 cases hs
 refine⟨rfl,hl,fun j v hv=>?_,?_⟩
 ·have hj:j<n:=by
   rcases Nat.lt_or_ge j n with h1|h1
   ·exact h1
   ·rw[List.getElem?_eq_none (by omega)] at hv;cases hv
  have:=hc j hj
  rwa[Addr.add_mid,hv] at this
 ·have h1:W.cell? ⟨b,o,none⟩=some c0:=by simpa [Addr.add] using h0
  have:W.heap[b]? ≠none:=fun e=>by simp[World.cell?,e] at h1
  simpa using this
def bx (b:Bool) (x:List SV):SV:=if b then .agg x else x.headD .nil
def bxv (b:Bool) (v:List Value):Value:=if b then .agg v.toArray else v.headD (.bool false)
theorem bx_rep {b:Bool} {xs:List SV} {cs:List Value} {n:Nat} (h:Good W xs cs) (hl:cs.length=n) (hb:b=true∨n=1):Rep (rdC W) (bx b xs) (bxv b cs)∧(bxv b cs).cells.toList=cs:=by
 cases b with
 |true=>exact⟨by simp only[bx,bxv,Rep,if_true];exact⟨cs,h.1,h.2,rfl⟩,by simp[bxv,Value.cells]⟩
 |false=>
  have hn:n=1:=by simpa using hb
  subst hn
  match cs,hl with
  |[v],_=>
   obtain⟨h1,h2⟩:=h
   match xs,h1 with
   |[],h1=>simp[RepL] at h1
   |x::xs,h1=>
    simp only[RepL] at h1
    obtain⟨u,us,h3,_,h4⟩:=h1
    cases h4
    have hv:v.oneCell'=true:=h2 v (by simp)
    exact⟨h3,by cases v<;>simp_all [bxv,Value.cells,Value.oneCell']⟩
theorem slice_parts {α:Type} {e:TypeId} {b:Bool} {f:α→List SV} {wt:α→Nat} {n m:Nat} (hsz:P.cellsOf e=n) (hn:0<n) (hb:b=true∨n=1) (he:Rd enc P W sp m e f wt):
 ∀ (len:Nat) (blk off:Nat) (elems:List (DataW H×List MemPlace)),elems.length=len→
  (∀ i,i<len→(W.cells? 0 ⟨blk,off+i*n,none⟩ n).bind (DataW.trod enc P W 0 sp true m e)=elems[i]?)→
  ∃ (l:List α) (vs:List Value),l.length=len∧RepL (rdC W) (l.map fun x=>bx b (f x)) vs∧(∀ u∈vs,u.cells.size=n∧okCells u)∧W.rangeAt blk off (cellsOf vs)∧(len=0∨blk<W.heap.size)∧
   (l.map wt).sum≤Rows.uptoBulkAll (elems.map (·.1))
 |0,blk,off,elems,hl,_=>by
  have:elems=[]:=List.length_eq_zero_iff.1 hl
  subst this
  exact⟨[],[],rfl,RepL.mk_nil,by simp,by intro j v hv;simp[cellsOf] at hv,.inl rfl,by simp⟩
 |len+1,blk,off,[],hl,_=>by simp at hl
 |len+1,blk,off,y::elems,hl,hi=>by
  have h0:=hi 0 (by omega)
  simp only[Nat.zero_mul,Nat.add_zero,List.getElem?_cons_zero,Option.bind_eq_some_iff] at h0
  obtain⟨cs,hc,ht⟩:=h0
  obtain⟨_,hlen,hr,hblk⟩:=cells_range hn hc
  obtain⟨a,ha,_,hw⟩:=he cs y ht
  obtain⟨l,vs,h1,h2,h3,h4,_,h5⟩:=slice_parts hsz hn hb he len blk (off+n) elems (by simpa using hl) (fun i hi'=>by
   have:=hi (i+1) (by omega)
   rw[List.getElem?_cons_succ] at this
   rw[← this]
   have:off+n+i*n=off+(i+1)*n:=by rw[Nat.succ_mul];omega
   rw[this])
  obtain⟨h6,h7⟩:=bx_rep (b:=b) ha hlen hb
  refine⟨a::l,bxv b cs::vs,by simp[h1],?_,?_,?_,.inr hblk,?_⟩
  ·simp only[List.map_cons,RepL];exact⟨_,_,h6,h2,rfl⟩
  ·intro u hu
   rcases List.mem_cons.1 hu with rfl|hu
   ·refine⟨by rw[← Array.length_toList,h7,hlen],fun v hv=>?_⟩
    rw[h7] at hv
    exact ha.2 v hv
   ·exact h3 u hu
  ·have:cellsOf (bxv b cs::vs)=cs++cellsOf vs:=by simp[cellsOf,h7]
   rw[this]
   exact rangeAt_append hr (by rw[hlen];exact h4)
  ·simp only[List.map_cons,List.sum_cons,Rows.uptoBulkAll];omega
theorem rd_slice {α:Type} {t e:TypeId} (b:Bool) {f:α→List SV} {wt:α→Nat} {n N:Nat} (ht:P.underlying t=some (.slice e)) (hc:P.cellsOf t=1) (hsz:P.cellsOf e=n) (hn:0<n) (hb:b=true∨n=1)
 (he:∀ m,N=m+1→Rd enc P W sp m e f wt):Rd enc P W sp N t (fun l:List α=>[.list n (l.map fun x=>bx b (f x))]) (fun l=>1+(l.map wt).sum):=by
 intro cs x h
 rcases DataW.trod_slice ht h with⟨rfl,rfl⟩|⟨a,len,cap,elems,rest,m,rfl,rfl,rfl,_,hlc,hcm,hel,hi,_⟩
 ·exact⟨[],.one (by simp only[Rep];exact⟨none,0,rfl,Nat.le_refl _,Nat.zero_le _,.inl rfl⟩) rfl,by simp[hc],by simp[Rows.uptoBulk]⟩
 ·rw[hsz] at hi
  rcases Nat.eq_zero_or_pos len with rfl|hpos
  ·have:elems=[]:=List.length_eq_zero_iff.1 hel
   subst this
   exact⟨[],.one (by simp only[Rep];exact⟨some a,cap,rfl,Nat.zero_le _,hcm,.inl rfl⟩) rfl,by simp[hc],by simp[Rows.uptoBulk]⟩
  ·have h0:=hi 0 hpos
   obtain⟨y0,hy0⟩:∃ y,elems[0]? =some y:=⟨elems[0],by simp[hel,hpos]⟩
   rw[hy0,Option.bind_eq_some_iff] at h0
   obtain⟨cs0,hc0,_⟩:=h0
   have hs:a.spot=none:=by
    have:=(cells_range hn hc0).1
    simpa [Addr.add] using this
   obtain⟨blk,off,s⟩:=a
   cases hs
   obtain⟨l,vs,h1,h2,h3,h4,h5,h6⟩:=slice_parts hsz hn hb (he m rfl) len blk off elems hel (fun i hi'=>by
    have:=hi i hi'
    rwa[Addr.add_mid] at this)
   refine⟨l,.one ?_ rfl,by simp[hc],by simp only[Rows.uptoBulk];omega⟩
   simp only[Rep]
   refine⟨some ⟨blk,off,none⟩,cap,by simp[h1],by simpa [h1] using hlc,hcm,.inr ⟨blk,off,vs,rfl,h2,h3,h4,?_⟩⟩
   rcases h5 with h5|h5
   ·omega
   ·exact rdC_imm h5
theorem len_two {α:Type}:∀ {xs:List α},xs.length=2→∃ z0 z1,xs=[z0,z1]
 |[z0,z1],_=>⟨z0,z1,rfl⟩
theorem len_five {α:Type}:∀ {xs:List α},xs.length=5→∃ z0 z1 z2 z3 z4,xs=[z0,z1,z2,z3,z4]
 |[z0,z1,z2,z3,z4],_=>⟨z0,z1,z2,z3,z4,rfl⟩
theorem len_eight {α:Type}:∀ {xs:List α},xs.length=8→∃ z0 z1 z2 z3 z4 z5 z6 z7,xs=[z0,z1,z2,z3,z4,z5,z6,z7]
 |[z0,z1,z2,z3,z4,z5,z6,z7],_=>⟨z0,z1,z2,z3,z4,z5,z6,z7,rfl⟩
theorem field_of {cs:List Value} {xs:List (DataW H×List MemPlace)} {fs:Array Field} {n:Nat}
 (hf:∀ (i:Nat) (f:Field),fs[i]? =some f→DataW.trod enc P W 0 sp true n f.type ((cs.drop f.offset).take (P.cellsOf f.type))=xs[i]?) (i:Nat) {t:Nat} (o k:Nat)
 (h:(fs[i]?).map (fun f=>(f.type,f.offset))=some (t,o)) (hk:P.cellsOf t=k) {α:Type} {g:α→List SV} {wt:α→Nat} (hr:Rd enc P W sp n t g wt) (hl:i<xs.length):
 ∃ (y:DataW H×List MemPlace) (a:α),xs[i]? =some y∧Good W (g a) ((cs.drop o).take k)∧wt a≤Rows.uptoBulk y.1:=by
 cases hi:fs[i]? with
 |none=>rw[hi] at h;cases h
 |some f=>
  rw[hi] at h
  simp only[Option.map_some,Option.some.injEq,Prod.mk.injEq] at h
  obtain⟨rfl,rfl⟩:=h
  subst hk
  have hy:xs[i]? =some xs[i]:=by simp[hl]
  obtain⟨a,h1,_,h2⟩:=hr _ _ ((hf i f hi).trans hy)
  exact⟨_,a,hy,h1,h2⟩
end
theorem sum_wt {α:Type} (f:List α→Nat) (g:α→Nat) (h0:f []=0) (h1:∀ x l,f (x::l)=g x+f l):∀ l,f l=(l.map g).sum
 |[]=>by simp[h0]
 |x::l=>by rw[h1,sum_wt f g h0 h1 l];simp
theorem strsWt_sum (l:List Str):strsWt l=(l.map fun s=>s.length+1).sum:=sum_wt strsWt _ (by simp[strsWt]) (fun x l=>by simp only[strsWt];omega) l
theorem exsWt_sum (l:List Ex):exsWt l=(l.map Ex.wt).sum:=sum_wt exsWt _ (by simp[exsWt]) (fun x l=>by simp only[exsWt]) l
theorem bdsWt_sum (l:List Bd):bdsWt l=(l.map Bd.wt).sum:=sum_wt bdsWt _ (by simp[bdsWt]) (fun x l=>by simp only[bdsWt]) l
theorem alsWt_sum (l:List Al):alsWt l=(l.map Al.wt).sum:=sum_wt alsWt _ (by simp[alsWt]) (fun x l=>by simp only[alsWt]) l
theorem Grow.below {W W':World} {c':Cx} (h:Grow (rdC W) c') (e:c'.w=W'):Below W.heap.size W W':=by
 subst e
 exact⟨h.os,h.tape,h.output,h.size,fun k hk=>h.old k hk (rdC_imm hk).2⟩
section
variable {H:Type} {enc:TypeId×Value→H} {P:Program} {W W':World}
theorem trodAll_stays (hl:laidOutB P=true) (hb:Below W.heap.size W W') {sp:Nat→Bool}:∀ {ts:List TypeId} {vs:List Value} {ds:List (DataW H)} {ps:List MemPlace},
 (∀ t∈ts,P.readableRec t=true∧t<P.types.size)→DataW.TrodAll enc P W 0 (fun _=>true) true ts vs ds ps→(∀ p∈ps,p.block<W.heap.size)→(∀ p∈ps,sp p.block=true)→
 DataW.TrodAll enc P W' 0 sp true ts vs ds ps
 |[],vs,ds,ps,_,h,_,_=>by
  obtain⟨rfl,rfl,rfl⟩:=trodAll_nil h
  exact trodAll_mk0
 |t::ts,vs,ds,ps,hr,h,hlt,hs=>by
  obtain⟨v,vs',d,ds',p,q,rfl,rfl,rfl,h1,h2⟩:=trodAll_cons h
  refine trodAll_cons_mk (WideElems.Trod_stays hl (hr t (by simp)).1 (hr t (by simp)).2 h1 (fun x hx=>hb.same (hlt x (by simp[hx]))) (fun x hx=>hs x (by simp[hx]))) ?_
  exact trodAll_stays hl hb (fun t ht=>hr t (by simp[ht])) h2 (fun x hx=>hlt x (by simp[hx])) (fun x hx=>hs x (by simp[hx]))
theorem law_post (hl:laidOutB P=true) {f:Func} {s:ChangeSpec} (hsv:s.vars=[]) {args:Array Value} {ds gs:List (DataW H)} {before:List MemPlace}
 (hW:DataW.Whole enc P f.params.toList s.vars false W args.toList ds gs before) (hr:∀ t∈f.params.toList,P.readableRec t=true∧t<P.types.size)
 {tb:TypeId} (hrt:f.resultTypes= #[tb]) (htb:P.underlying tb=some .bool) (h1:(s.fn H (ds++gs)).results=[.lit (.bool true)]) (h2:(s.fn H (ds++gs)).args=ds) (h3:(s.fn H (ds++gs)).vars=[])
 (hb:Below W.heap.size W W'):s.post enc P f false true false false W args (.bool true) W':=by
 have hW0:=hW
 obtain⟨p,q,hA,hV,rfl,_,_⟩:=hW
 rw[hsv] at hV
 obtain⟨rfl,rfl⟩:=trodVars_none hV
 have hlt:∀ x∈p,x.block<W.heap.size:=fun x hx=>hW0.lt x (by simp[hx])
 refine⟨ds,[],p++[],[],p,[],hW0,?_,?_,?_,?_,fun h=>by cases h⟩
 ·rw[hrt,h1]
  exact trodAll_cons_mk (p':=[]) (shut_bool htb true) trodAll_mk0
 ·rw[h2]
  exact trodAll_stays hl hb hr hA hlt (fun x hx=>by simpa using hlt x hx)
 ·rw[hsv,h3];rfl
 ·exact World.keptBut_mono (fun x hx=>⟨hx,.inr (.inl (by simpa using hx))⟩) (hb.frame (· ∈p++[]))
end
end
section
open Go Go.ChangeShapes Go.WideShapes Go.RowKit
section
variable {H:Type} {enc:TypeId×Value→H} {W:World} {sp:Nat→Bool}
theorem read_str (n:Nat):Rd enc Tryd.prog W sp n 9 (fun s:Str=>[.str s]) (fun s=>s.length+1):=rd_str (by kernel_rfl) (by kernel_rfl)
theorem read_int (n:Nat):Rd enc Tryd.prog W sp n 3 (fun i:Int=>[.int .i64 i]) (fun _=>1):=rd_int (by kernel_rfl) (by kernel_rfl)
theorem read_strs (n:Nat):Rd enc Tryd.prog W sp n 26 (fun l:List Str=>[.list 1 (l.map .str)]) (fun l=>1+strsWt l):=by
 have h:=rd_slice (enc:=enc) (P:=Tryd.prog) (W:=W) (sp:=sp) (t:=26) (e:=9) false (f:=fun s:Str=>[SV.str s]) (wt:=fun s=>s.length+1) (n:=1) (N:=n) (by kernel_rfl) (by kernel_rfl) (by kernel_rfl) (by omega) (.inr rfl) (fun m _=>read_str m)
 intro cs x hx
 obtain⟨a,h1,h2,h3⟩:=h cs x hx
 exact⟨a,h1,h2,by show 1+strsWt a≤_;rw[strsWt_sum];exact h3⟩
theorem ex_cells (k:Int) (s:Str) (n o:Int) (l:List Str) (subs:List Ex) (binds:List Bd) (alts:List Al):
 (Ex.mk k s n o l subs binds alts).cells=[.int .i64 k]++([.str s]++([.int .i64 n]++([.int .i64 o]++([.list 1 (l.map .str)]++([.list 8 (subs.map fun x=>bx true x.cells)]++([.list 9 (binds.map fun x=>bx true x.cells)]++([.list 12 (alts.map fun x=>bx true x.cells)]++[]))))))):=by
 simp only[Ex.cells,exCells_map,bdCells_map,alCells_map];rfl
theorem read_ex (n:Nat):Rd enc Tryd.prog W sp n 37 Ex.cells Ex.wt∧Rd enc Tryd.prog W sp n 59 Bd.cells Bd.wt∧Rd enc Tryd.prog W sp n 85 Al.cells Al.wt:=by
 induction n using Nat.strongRecOn with
 |_ n ih=>
 have hE:Rd enc Tryd.prog W sp n 37 Ex.cells Ex.wt:=by
  intro cs x hx
  obtain⟨xs,m,rfl,rfl,hl,hlen,hf⟩:=DataW.trod_struct Tryd.underlying37 hx
  obtain⟨z0,z1,z2,z3,z4,z5,z6,z7,rfl⟩:=len_eight (show xs.length=8 from hlen)
  have hsz:Tryd.prog.cellsOf 37=8:=by kernel_rfl
  have hsubs:∀ m',m=m'+1→Rd enc Tryd.prog W sp m' 37 Ex.cells Ex.wt:=fun m' e=>(ih m' (by omega)).1
  have hbinds:∀ m',m=m'+1→Rd enc Tryd.prog W sp m' 59 Bd.cells Bd.wt:=fun m' e=>(ih m' (by omega)).2.1
  have halts:∀ m',m=m'+1→Rd enc Tryd.prog W sp m' 85 Al.cells Al.wt:=fun m' e=>(ih m' (by omega)).2.2
  obtain⟨y0,k,e0,g0,w0⟩:=field_of hf 0 0 1 (by kernel_rfl) (by kernel_rfl) (read_int m) (by simp)
  obtain⟨y1,s,e1,g1,w1⟩:=field_of hf 1 1 1 (by kernel_rfl) (by kernel_rfl) (read_str m) (by simp)
  obtain⟨y2,i,e2,g2,w2⟩:=field_of hf 2 2 1 (by kernel_rfl) (by kernel_rfl) (read_int m) (by simp)
  obtain⟨y3,o,e3,g3,w3⟩:=field_of hf 3 3 1 (by kernel_rfl) (by kernel_rfl) (read_int m) (by simp)
  obtain⟨y4,l,e4,g4,w4⟩:=field_of hf 4 4 1 (by kernel_rfl) (by kernel_rfl) (read_strs m) (by simp)
  obtain⟨y5,subs,e5,g5,w5⟩:=field_of hf 5 5 1 (by kernel_rfl) (by kernel_rfl) (rd_slice (t:=33) (e:=37) true (by kernel_rfl) (by kernel_rfl) (n:=8) (by kernel_rfl) (by omega) (.inl rfl) hsubs) (by simp)
  obtain⟨y6,binds,e6,g6,w6⟩:=field_of hf 6 6 1 (by kernel_rfl) (by kernel_rfl) (rd_slice (t:=34) (e:=59) true (by kernel_rfl) (by kernel_rfl) (n:=9) (by kernel_rfl) (by omega) (.inl rfl) hbinds) (by simp)
  obtain⟨y7,alts,e7,g7,w7⟩:=field_of hf 7 7 1 (by kernel_rfl) (by kernel_rfl) (rd_slice (t:=35) (e:=85) true (by kernel_rfl) (by kernel_rfl) (n:=12) (by kernel_rfl) (by omega) (.inl rfl) halts) (by simp)
  rw[hsz] at hl
  refine⟨.mk k s i o l subs binds alts,?_,by rw[hsz,hl],?_⟩
  ·rw[ex_cells,← List.drop_zero (l:=cs)]
   refine .cut g0 (.cut g1 (.cut g2 (.cut g3 (.cut g4 (.cut g5 (.cut g6 (.cut g7 ?_)))))))
   rw[List.drop_eq_nil_of_le (by omega)]
   exact .nil
  ·cases e0;cases e1;cases e2;cases e3;cases e4;cases e5;cases e6;cases e7
   simp only[Rows.uptoBulk,Rows.uptoBulkAll,List.map_cons,List.map_nil,Ex.wt,exsWt_sum,bdsWt_sum,alsWt_sum]
   omega
 have hE':∀ m,n=m+1→Rd enc Tryd.prog W sp m 37 Ex.cells Ex.wt:=fun m e=>(ih m (by omega)).1
 refine⟨hE,?_,?_⟩
 ·intro cs x hx
  obtain⟨xs,m,hm,rfl,hl,hlen,hf⟩:=DataW.trod_struct Tryd.underlying59 hx
  obtain⟨z0,z1,rfl⟩:=len_two (show xs.length=2 from hlen)
  have hsz:Tryd.prog.cellsOf 59=9:=by kernel_rfl
  obtain⟨y0,s,e0,g0,w0⟩:=field_of hf 0 0 1 (by kernel_rfl) (by kernel_rfl) (read_str m) (by simp)
  obtain⟨y1,e,e1,g1,w1⟩:=field_of hf 1 1 8 (by kernel_rfl) (by kernel_rfl) (hE' m hm) (by simp)
  rw[hsz] at hl
  refine⟨.mk s e,?_,by rw[hsz,hl],?_⟩
  ·have:(Bd.mk s e).cells=[.str s]++(e.cells++[]):=by simp[Bd.cells]
   rw[this,← List.drop_zero (l:=cs)]
   refine .cut g0 (.cut g1 ?_)
   rw[List.drop_eq_nil_of_le (by omega)]
   exact .nil
  ·cases e0;cases e1
   simp only[Rows.uptoBulk,Rows.uptoBulkAll,List.map_cons,List.map_nil,Bd.wt]
   omega
 ·intro cs x hx
  obtain⟨xs,m,hm,rfl,hl,hlen,hf⟩:=DataW.trod_struct Tryd.underlying85 hx
  obtain⟨z0,z1,z2,z3,z4,rfl⟩:=len_five (show xs.length=5 from hlen)
  have hsz:Tryd.prog.cellsOf 85=12:=by kernel_rfl
  obtain⟨y0,k,e0,g0,w0⟩:=field_of hf 0 0 1 (by kernel_rfl) (by kernel_rfl) (read_int m) (by simp)
  obtain⟨y1,s,e1,g1,w1⟩:=field_of hf 1 1 1 (by kernel_rfl) (by kernel_rfl) (read_str m) (by simp)
  obtain⟨y2,i,e2,g2,w2⟩:=field_of hf 2 2 1 (by kernel_rfl) (by kernel_rfl) (read_int m) (by simp)
  obtain⟨y3,l,e3,g3,w3⟩:=field_of hf 3 3 1 (by kernel_rfl) (by kernel_rfl) (read_strs m) (by simp)
  obtain⟨y4,e,e4,g4,w4⟩:=field_of hf 4 4 8 (by kernel_rfl) (by kernel_rfl) (hE' m hm) (by simp)
  rw[hsz] at hl
  refine⟨.mk k s i l e,?_,by rw[hsz,hl],?_⟩
  ·have:(Al.mk k s i l e).cells=[.int .i64 k]++([.str s]++([.int .i64 i]++([.list 1 (l.map .str)]++(e.cells++[])))):=by simp[Al.cells]
   rw[this,← List.drop_zero (l:=cs)]
   refine .cut g0 (.cut g1 (.cut g2 (.cut g3 (.cut g4 ?_))))
   rw[List.drop_eq_nil_of_le (by omega)]
   exact .nil
  ·cases e0;cases e1;cases e2;cases e3;cases e4
   simp only[Rows.uptoBulk,Rows.uptoBulkAll,List.map_cons,List.map_nil,Al.wt]
   omega
end
end
end Go.Proofs.YtggmfabkpnfodaaDoor
section
open Go
namespace Go.Proofs
open Go.Shelf
def Tryd.laysM171_ren:Go.Shelf.Ren:=⟨fun|171=>60|243=>79|246=>86|283=>88|284=>89|285=>90|286=>91|129=>75|317=>92|318=>93|319=>94|320=>95|337=>96|338=>97|n=>n,fun|3=>3|9=>9|2=>2|4=>4|171=>154|0=>0|53=>141|37=>156|5=>5|173=>157|212=>160|51=>139|20=>20|213=>161|46=>122|232=>163|233=>164|n=>n,fun|17=>0|18=>1|19=>2|n=>n⟩
theorem Tryd.laysM171:Go.Proofs.LaysM.n171 Tryd.prog Tryd.laysM171_ren:={
 mixed:=by kernel_rfl
 f129:=Tryd.func75.trans (congrArg some (by kernel_rfl))
 f171:=Tryd.func60.trans (congrArg some (by kernel_rfl))
 f243:=Tryd.func79.trans (congrArg some (by kernel_rfl))
 f246:=Tryd.func86.trans (congrArg some (by kernel_rfl))
 f283:=Tryd.func88.trans (congrArg some (by kernel_rfl))
 f284:=Tryd.func89.trans (congrArg some (by kernel_rfl))
 f285:=Tryd.func90.trans (congrArg some (by kernel_rfl))
 f286:=Tryd.func91.trans (congrArg some (by kernel_rfl))
 f317:=Tryd.func92.trans (congrArg some (by kernel_rfl))
 f318:=Tryd.func93.trans (congrArg some (by kernel_rfl))
 f319:=Tryd.func94.trans (congrArg some (by kernel_rfl))
 f320:=Tryd.func95.trans (congrArg some (by kernel_rfl))
 f337:=Tryd.func96.trans (congrArg some (by kernel_rfl))
 f338:=Tryd.func97.trans (congrArg some (by kernel_rfl))
 t0:=Tryd.underlying0
 a0:=Tryd.isAgg0
 z0:=Tryd.sizeOf0
 v0:=Tryd.zeroValue0
 t2:=Tryd.underlying2
 a2:=Tryd.isAgg2
 z2:=Tryd.sizeOf2
 v2:=Tryd.zeroValue2
 t3:=Tryd.underlying3
 a3:=Tryd.isAgg3
 z3:=Tryd.sizeOf3
 v3:=Tryd.zeroValue3
 t4:=Tryd.underlying4
 a4:=Tryd.isAgg4
 z4:=Tryd.sizeOf4
 v4:=Tryd.zeroValue4
 t5:=Tryd.underlying5
 a5:=Tryd.isAgg5
 z5:=Tryd.sizeOf5
 v5:=Tryd.zeroValue5
 t9:=Tryd.underlying9
 a9:=Tryd.isAgg9
 z9:=Tryd.sizeOf9
 v9:=Tryd.zeroValue9
 t20:=Tryd.underlying20
 a20:=Tryd.isAgg20
 z20:=Tryd.sizeOf20
 v20:=Tryd.zeroValue20
 t37:=Tryd.underlying156
 a37:=Tryd.isAgg156
 z37:=Tryd.sizeOf156
 v37:=Tryd.zeroValue156
 t46:=Tryd.underlying122
 a46:=Tryd.isAgg122
 z46:=Tryd.sizeOf122
 v46:=Tryd.zeroValue122
 t51:=Tryd.underlying139
 a51:=Tryd.isAgg139
 z51:=Tryd.sizeOf139
 v51:=Tryd.zeroValue139
 t53:=Tryd.underlying141
 a53:=Tryd.isAgg141
 z53:=Tryd.sizeOf141
 v53:=Tryd.zeroValue141
 t171:=Tryd.underlying154
 a171:=Tryd.isAgg154
 z171:=Tryd.sizeOf154
 v171:=Tryd.zeroValue154
 t173:=Tryd.underlying157
 a173:=Tryd.isAgg157
 z173:=Tryd.sizeOf157
 v173:=Tryd.zeroValue157
 t212:=Tryd.underlying160
 a212:=Tryd.isAgg160
 z212:=Tryd.sizeOf160
 v212:=Tryd.zeroValue160
 t213:=Tryd.underlying161
 a213:=Tryd.isAgg161
 z213:=Tryd.sizeOf161
 t232:=Tryd.underlying163
 a232:=Tryd.isAgg163
 z232:=Tryd.sizeOf163
 v232:=Tryd.zeroValue163
 t233:=Tryd.underlying164
 a233:=Tryd.isAgg164
 z233:=Tryd.sizeOf164
 v233:=Tryd.zeroValue164
 g17:=by kernel_rfl
 g18:=by kernel_rfl
 g19:=by kernel_rfl
 i0:=by kernel_rfl
 i2:=by kernel_rfl
 i3:=by kernel_rfl
 i4:=by kernel_rfl
 i5:=by kernel_rfl
 i9:=by kernel_rfl
 i20:=by kernel_rfl
 i37:=by kernel_rfl
 i46:=by kernel_rfl
 i51:=by kernel_rfl
 i53:=by kernel_rfl
 i171:=by kernel_rfl
 i173:=by kernel_rfl
 i212:=by kernel_rfl
 i232:=by kernel_rfl
 i233:=by kernel_rfl
 m17:=by kernel_rfl
 m18:=by kernel_rfl
 m19:=by kernel_rfl}
open Go.RowKit Go.Sort Go.Lib in
theorem Tryd.strconv_Itoa (n:Int) (h0: -9223372036854775808≤n) (h1:n≤9223372036854775807) (w:World) (htab:Lib.TabIs Tryd.prog w "internal/strconv.uint64pow10" .u64 Lib.pow10Tab):
 Calls Tryd.prog 60 #[.int .i64 n] w fun e w'=>e= .returned (.string ⟨(Lib.itoa n).toArray⟩)∧∃ k os,w'=grow (w.drewN k) os:=Any.strconv_Itoa Tryd.laysM171 n h0 h1 w htab
end Go.Proofs
end
namespace Go.Proofs.YtggmfabkpnfodaaDoor
open Go
end Go.Proofs.YtggmfabkpnfodaaDoor
