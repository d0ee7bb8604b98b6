/- A part of the proof: SwH. Names and spaces are cut short by program. -/
import Derived.Test.YtedejleokilohaaGreatDoorMd
import Derived.KernelRfl
set_option linter.unusedSimpArgs false
set_option linter.unusedVariables false
set_option maxRecDepth 10000
set_option maxHeartbeats 4000000
namespace Go.Proofs.YtedejleokilohaaGreatDoor
open Go
section
structure Imp (q p:Prop):Prop where
 go:q→p
theorem Imp.refl (p:Prop):Imp p p:=⟨id⟩
theorem Imp.via {q a b:Prop} (h:a→b) (k:Imp q a):Imp q b:=⟨fun x=>h (k.go x)⟩
structure Fork (c d:Prop) (A:c→Prop) (B:d→Prop):Prop where
 l:∀ x:c,A x
 r:∀ x:d,B x
structure Two (A B:Prop):Prop where
 l:A
 r:B
theorem Imp.fork {c d A B p:Prop} {qa:c→Prop} {qb:d→Prop} (h:(c→A)→(d→B)→p) (l:∀ x:c,Imp (qa x) A) (r:∀ x:d,Imp (qb x) B):Imp (Fork c d qa qb) p:=⟨fun f=>h (fun x=>(l x).go (f.l x)) (fun x=>(r x).go (f.r x))⟩
theorem Imp.two {A B qa qb p:Prop} (h:A→B→p) (l:Imp qa A) (r:Imp qb B):Imp (Two qa qb) p:=⟨fun f=>h (l.go f.l) (r.go f.r)⟩
theorem Imp.no {p:Prop} (h:False):Imp True p:=h.elim
def NoX:Prop:=(1=0)=False
theorem noX:NoX:=by unfold NoX;simp
theorem hsX {σ:Type} (Hs:σ→List Blk) (n0:Nat) (hlen:∀ i,(Hs i).length=n0):(∀ i,(Hs i).length=n0)∧(∀ i L,(Hs i++L)[n0]? =L[0]?)∧(∀ i L k,(Hs i++L)[n0+k]? =L[k]?)∧(∀ i L x,(Hs i++L).set n0 x=Hs i++L.set 0 x)∧(∀ i L k x,(Hs i++L).set (n0+k) x=Hs i++L.set k x):=
 ⟨hlen,fun i L=>by rw[← hlen i];exact get_app0 _ _,fun i L k=>by rw[← hlen i];exact get_app _ _ _,fun i L x=>by rw[← hlen i];exact set_app0 _ _ _,fun i L k x=>by rw[← hlen i];exact set_app _ _ _ _⟩
section
variable {qq qa qb:Prop}
variable {P:Program} {G:Gl} {T:Tab} {own:List Nat} {nt B:Nat} {ρ:Option Nat} {C:Cx} {rs:List ResultVar} {R:SV→List Blk→Prop} {env env2:Env} {H H':List Blk} {k:List It}
variable {all r:List Oper} {ty d j dj:Nat} {op:Op} {pos:String} {after:Array Edge} {v:SV} {want:Bool}
variable {R':SV→List Blk→Prop} {xs:List SV} {f:Operand} {fv:SV} {args:Array Operand} {tys:Array Nat} {g:FuncId}
theorem im_go_seq {x y:Code} (kq:Imp qq ((Out P G T own nt ρ C rs R) (.code x:: .code y::k) .normal env H)):Imp qq ((Out P G T own nt ρ C rs R) (.code (.seq x y)::k) .normal env H):=Imp.via (go_seq) kq
theorem im_go_q (h:qv G T own env H (some d) ty op=some v) (hd:Nat.blt d nt=true) (kq:Imp qq ((Out P G T own nt ρ C rs R) (.ops all r::k) .normal ((d,v)::env) H)):Imp qq ((Out P G T own nt ρ C rs R) (.ops all (⟨some d,op,ty,pos,after,none⟩::r)::k) .normal env H):=Imp.via (go_q h hd) kq
theorem im_go_q0 (h:qv G T own env H none ty op=some v) (kq:Imp qq ((Out P G T own nt ρ C rs R) (.ops all r::k) .normal env H)):Imp qq ((Out P G T own nt ρ C rs R) (.ops all (⟨none,op,ty,pos,after,none⟩::r)::k) .normal env H):=Imp.via (go_q0 h) kq
theorem im_go_nil {all:List Oper} (kq:Imp qq ((Out P G T own nt ρ C rs R) k .normal env H)):Imp qq ((Out P G T own nt ρ C rs R) (.ops all []::k) .normal env H):=Imp.via (go_nil) kq
theorem im_go_region (hT:TabOK P T) {id:Nat} {ops:Array Oper} {l:List Oper} (hl:ops=⟨l⟩) (kq:Imp qq ((Out P G T own nt ρ C rs R) (.ops l l::k) .normal env H)):Imp qq ((Out P G T own nt ρ C rs R) (.code (.region id ops false)::k) .normal env H):=Imp.via (go_region hT hl) kq
theorem im_go_skip (kq:Imp qq ((Out P G T own nt ρ C rs R) k .normal env H)):Imp qq ((Out P G T own nt ρ C rs R) (.code .skip::k) .normal env H):=Imp.via (go_skip) kq
theorem im_go_label {l:Nat} (kq:Imp qq ((Out P G T own nt ρ C rs R) k .normal env H)):Imp qq ((Out P G T own nt ρ C rs R) (.code (.label l)::k) .normal env H):=Imp.via (go_label) kq
theorem im_go_condT {t:Nat} {p q:Code} (h1:look env t=some (.bool true)) (kq:Imp qq ((Out P G T own nt ρ C rs R) (.code p::k) .normal env H)):Imp qq ((Out P G T own nt ρ C rs R) (.code (.cond (.tmp t) p q)::k) .normal env H):=Imp.via (go_condT h1) kq
theorem im_go_condF {t:Nat} {p q:Code} (h1:look env t=some (.bool false)) (kq:Imp qq ((Out P G T own nt ρ C rs R) (.code q::k) .normal env H)):Imp qq ((Out P G T own nt ρ C rs R) (.code (.cond (.tmp t) p q)::k) .normal env H):=Imp.via (go_condF h1) kq
theorem im_go_condDT {t:Nat} {p q:Code} {a:Prop} {inst:Decidable a} (h1:look env t=some (.bool (decide a))) (ha:a) (kq:Imp qq ((Out P G T own nt ρ C rs R) (.code p::k) .normal ((t,.bool true)::env) H)):Imp qq ((Out P G T own nt ρ C rs R) (.code (.cond (.tmp t) p q)::k) .normal env H):=Imp.via (go_condDT h1 ha) kq
theorem im_go_condDF {t:Nat} {p q:Code} {a:Prop} {inst:Decidable a} (h1:look env t=some (.bool (decide a))) (ha:¬ a) (kq:Imp qq ((Out P G T own nt ρ C rs R) (.code q::k) .normal ((t,.bool false)::env) H)):Imp qq ((Out P G T own nt ρ C rs R) (.code (.cond (.tmp t) p q)::k) .normal env H):=Imp.via (go_condDF h1 ha) kq
theorem im_go_block {id:Nat} {x:Code} (kq:Imp qq ((Out P G T own nt ρ C rs R) (.code x:: .blk id::k) .normal env H)):Imp qq ((Out P G T own nt ρ C rs R) (.code (.block id x)::k) .normal env H):=Imp.via (go_block) kq
theorem im_go_blk {id:Nat} (kq:Imp qq ((Out P G T own nt ρ C rs R) k .normal env H)):Imp qq ((Out P G T own nt ρ C rs R) (.blk id::k) .normal env H):=Imp.via (go_blk) kq
theorem im_go_exit {id:Nat} {k':List It} (hu:unw id k=some k') (kq:Imp qq ((Out P G T own nt ρ C rs R) k' .normal env H)):Imp qq ((Out P G T own nt ρ C rs R) (.code (.exit id)::k) .normal env H):=Imp.via (go_exit hu) kq
theorem im_go_l (h:lv G T own env H (some d) ty op=some (v,H')) (hd:Nat.blt d nt=true) (kq:Imp qq ((Out P G T own nt ρ C rs R) (.ops all r::k) .normal ((d,v)::env) H')):Imp qq ((Out P G T own nt ρ C rs R) (.ops all (⟨some d,op,ty,pos,after,none⟩::r)::k) .normal env H):=Imp.via (go_l h hd) kq
theorem im_go_l0 (h:lv G T own env H none ty op=some (v,H')) (kq:Imp qq ((Out P G T own nt ρ C rs R) (.ops all r::k) .normal env H')):Imp qq ((Out P G T own nt ρ C rs R) (.ops all (⟨none,op,ty,pos,after,none⟩::r)::k) .normal env H):=Imp.via (go_l0 h) kq
theorem im_go_gRun {dst:Option Nat} (h1:(all[j]?).bind (·.dst)=some dj) (h2:look env dj=some (.bool want)) (kq:Imp qq ((Out P G T own nt ρ C rs R) (.ops all (⟨dst,op,ty,pos,after,none⟩::r)::k) .normal env H)):Imp qq ((Out P G T own nt ρ C rs R) (.ops all (⟨dst,op,ty,pos,after,some (j,want)⟩::r)::k) .normal env H):=Imp.via (go_gRun h1 h2) kq
theorem im_go_gSkip {v:SV} {b:Option Bool} (h1:(all[j]?).bind (·.dst)=some dj) (h2:look env dj=some v) (h3:asG v=some b) (hb:(b==some want)=false) (hd:Nat.blt d nt=true) (kq:Imp qq ((Out P G T own nt ρ C rs R) (.ops all r::k) .normal ((d,.undef)::env) H)):Imp qq ((Out P G T own nt ρ C rs R) (.ops all (⟨some d,op,ty,pos,after,some (j,want)⟩::r)::k) .normal env H):=Imp.via (go_gSkip h1 h2 h3 hb hd) kq
theorem im_go_gSkip0 {v:SV} {b:Option Bool} (h1:(all[j]?).bind (·.dst)=some dj) (h2:look env dj=some v) (h3:asG v=some b) (hb:(b==some want)=false) (kq:Imp qq ((Out P G T own nt ρ C rs R) (.ops all r::k) .normal env H)):Imp qq ((Out P G T own nt ρ C rs R) (.ops all (⟨none,op,ty,pos,after,some (j,want)⟩::r)::k) .normal env H):=Imp.via (go_gSkip0 h1 h2 h3 hb) kq
theorem im_go_gM1 {b:Bool} (h1:(all[j]?).bind (·.dst)=some dj) (h2:look env dj=some (.bool b)) (hv:b=want→qv G T own env H (some d) ty op=some v) (hd:Nat.blt d nt=true) (kq:Imp qq ((Out P G T own nt ρ C rs R) (.ops all r::k) .normal ((d,gv b want v)::env) H)):Imp qq ((Out P G T own nt ρ C rs R) (.ops all (⟨some d,op,ty,pos,after,some (j,want)⟩::r)::k) .normal env H):=Imp.via (go_gM1 h1 h2 hv hd) kq
theorem im_go_gM2 {b b1 w1:Bool} (h1:(all[j]?).bind (·.dst)=some dj) (h2:look env dj=some (gv b1 w1 (.bool b))) (hv:b1=w1→b=want→qv G T own env H (some d) ty op=some v) (hd:Nat.blt d nt=true) (kq:Imp qq ((Out P G T own nt ρ C rs R) (.ops all r::k) .normal ((d,gv b1 w1 (gv b want v))::env) H)):Imp qq ((Out P G T own nt ρ C rs R) (.ops all (⟨some d,op,ty,pos,after,some (j,want)⟩::r)::k) .normal env H):=Imp.via (go_gM2 h1 h2 hv hd) kq
theorem im_go_gM3 {b b1 w1 b2 w2:Bool} (h1:(all[j]?).bind (·.dst)=some dj) (h2:look env dj=some (gv b1 w1 (gv b2 w2 (.bool b)))) (hv:b1=w1→b2=w2→b=want→qv G T own env H (some d) ty op=some v) (hd:Nat.blt d nt=true) (kq:Imp qq ((Out P G T own nt ρ C rs R) (.ops all r::k) .normal ((d,gv b1 w1 (gv b2 w2 (gv b want v)))::env) H)):Imp qq ((Out P G T own nt ρ C rs R) (.ops all (⟨some d,op,ty,pos,after,some (j,want)⟩::r)::k) .normal env H):=Imp.via (go_gM3 h1 h2 hv hd) kq
theorem im_go_pred {K:Env→List Blk→Prop} (kq:Imp qq (K env H)):Imp qq ((Out P G T own nt ρ C rs R) (.pred K::k) .normal env H):=Imp.via (go_pred) kq
theorem im_go_ret {xs:List SV} (h1:resL T env H rs=some xs) (kq:Imp qq (Fin C H (resSV xs) R)):Imp qq ((Out P G T own nt ρ C rs R) (.code .ret::k) .normal env H):=Imp.via (go_ret h1) kq
theorem im_go_end {xs:List SV} (h1:resL T env H rs=some xs) (kq:Imp qq (Fin C H (resSV xs) R)):Imp qq ((Out P G T own nt ρ C rs R) [] .normal env H):=Imp.via (go_end h1) kq
theorem im_go_condB {t:Nat} {p q:Code} {b:Bool} (h1:look env t=some (.bool b)) {qa:b=true→Prop} {qb:b=false→Prop} (lq:∀ x:b=true,Imp (qa x) ((Out P G T own nt ρ C rs R) (.code p::k) .normal ((t,.bool true)::env) H)) (rq:∀ x:b=false,Imp (qb x) ((Out P G T own nt ρ C rs R) (.code q::k) .normal ((t,.bool false)::env) H)):Imp (Fork (b=true) (b=false) qa qb) ((Out P G T own nt ρ C rs R) (.code (.cond (.tmp t) p q)::k) .normal env H):=Imp.fork (go_condB h1) lq rq
theorem im_go_condD {t:Nat} {p q:Code} {a:Prop} {inst:Decidable a} (h1:look env t=some (.bool (decide a))) {qa:a→Prop} {qb:¬ a→Prop} (lq:∀ x:a,Imp (qa x) ((Out P G T own nt ρ C rs R) (.code p::k) .normal ((t,.bool true)::env) H)) (rq:∀ x:¬ a,Imp (qb x) ((Out P G T own nt ρ C rs R) (.code q::k) .normal ((t,.bool false)::env) H)):Imp (Fork (a) (¬ a) qa qb) ((Out P G T own nt ρ C rs R) (.code (.cond (.tmp t) p q)::k) .normal env H):=Imp.fork (go_condD h1) lq rq
theorem im_go_gB {o:Oper} {b:Bool} (hg:o.guard=some (j,want)) (h1:(all[j]?).bind (·.dst)=some dj) (h2:look env dj=some (.bool b)) {qa:b=true→Prop} {qb:b=false→Prop} (lq:∀ x:b=true,Imp (qa x) ((Out P G T own nt ρ C rs R) (.ops all (o::r)::k) .normal ((dj,.bool true)::env) H)) (rq:∀ x:b=false,Imp (qb x) ((Out P G T own nt ρ C rs R) (.ops all (o::r)::k) .normal ((dj,.bool false)::env) H)):Imp (Fork (b=true) (b=false) qa qb) ((Out P G T own nt ρ C rs R) (.ops all (o::r)::k) .normal env H):=Imp.fork (go_gB hg h1 h2) lq rq
theorem im_go_gD {o:Oper} {a:Prop} {inst:Decidable a} (hg:o.guard=some (j,want)) (h1:(all[j]?).bind (·.dst)=some dj) (h2:look env dj=some (.bool (decide a))) {qa:a→Prop} {qb:¬ a→Prop} (lq:∀ x:a,Imp (qa x) ((Out P G T own nt ρ C rs R) (.ops all (o::r)::k) .normal ((dj,.bool true)::env) H)) (rq:∀ x:¬ a,Imp (qb x) ((Out P G T own nt ρ C rs R) (.ops all (o::r)::k) .normal ((dj,.bool false)::env) H)):Imp (Fork (a) (¬ a) qa qb) ((Out P G T own nt ρ C rs R) (.ops all (o::r)::k) .normal env H):=Imp.fork (go_gD hg h1 h2) lq rq
theorem im_go_nilE {x y:Operand} {X:SV} {t yt n:Nat} (h1:ev G env x=some X) (h2:ev G env y=some .nil) (h3:kindT T t=2) (h4:slLen H X=some n) (hd:Nat.blt d nt=true) {qa:n=0→Prop} {qb:True→Prop} (lq:∀ x:n=0,Imp (qa x) ((Out P G T own nt ρ C rs R) (.ops all r::k) .normal ((d,.bool true)::env) H)) (rq:∀ x:True,Imp (qb x) ((Out P G T own nt ρ C rs R) (.ops all r::k) .normal ((d,.bool false)::env) H)):Imp (Fork (n=0) (True) qa qb) ((Out P G T own nt ρ C rs R) (.ops all (⟨some d,.binOp .eql t x y yt,ty,pos,after,none⟩::r)::k) .normal env H):=Imp.fork (go_nilE h1 h2 h3 h4 hd) lq rq
theorem im_go_nilN {x y:Operand} {X:SV} {t yt n:Nat} (h1:ev G env x=some X) (h2:ev G env y=some .nil) (h3:kindT T t=2) (h4:slLen H X=some n) (hd:Nat.blt d nt=true) {qa:n=0→Prop} {qb:True→Prop} (lq:∀ x:n=0,Imp (qa x) ((Out P G T own nt ρ C rs R) (.ops all r::k) .normal ((d,.bool false)::env) H)) (rq:∀ x:True,Imp (qb x) ((Out P G T own nt ρ C rs R) (.ops all r::k) .normal ((d,.bool true)::env) H)):Imp (Fork (n=0) (True) qa qb) ((Out P G T own nt ρ C rs R) (.ops all (⟨some d,.binOp .neq t x y yt,ty,pos,after,none⟩::r)::k) .normal env H):=Imp.fork (go_nilN h1 h2 h3 h4 hd) lq rq
theorem im_go_gX {o:Oper} {b1 w1:Bool} {u:SV} (hg:o.guard=some (j,want)) (h1:(all[j]?).bind (·.dst)=some dj) (h2:look env dj=some (gv b1 w1 u)) {qa:b1=true→Prop} {qb:b1=false→Prop} (lq:∀ x:b1=true,Imp (qa x) ((Out P G T own nt ρ C rs R) (.ops all (o::r)::k) .normal env H)) (rq:∀ x:b1=false,Imp (qb x) ((Out P G T own nt ρ C rs R) (.ops all (o::r)::k) .normal env H)):Imp (Fork (b1=true) (b1=false) qa qb) ((Out P G T own nt ρ C rs R) (.ops all (o::r)::k) .normal env H):=Imp.fork (fun l r=>go_gX hg h1 h2 fun c e=>by cases c with
 |true=>exact l e
 |false=>exact r e) lq rq
end
section
variable {qq qa qb:Prop}
variable {P:Program} {G:Gl} {T:Tab} {own:List Nat} {nt B:Nat} {ρ:Option Nat} {C:Cx} {rs:List ResultVar} {R:SV→List Blk→Prop} {env env2:Env} {H H':List Blk} {k:List It}
variable {all:List Oper} {L:List Nat} {n i j ty d:Nat} {op:Op} {pos:String} {after:Array Edge} {v:SV} {o:Oper} {K:Env→List Blk→Prop}
variable {m:Nat} {ex:List Nat} {kk:SV→List Blk→Prop} {dst:Option Nat} {want b:Bool} {dj i0:Nat}
variable {R':SV→List Blk→Prop} {xs:List SV} {f:Operand} {fv:SV} {args:Array Operand} {tys:Array Nat} {g:FuncId}
theorem im_go_draw (hT:TabOK P T) (hm:P.follows .mixedOrders=true) {id:Nat} {ops:Array Oper} {l:List Oper} (hl:ops=⟨l⟩) (hok:drawOK nt l=true) (kq:Imp qq (DrP P G T own l 200 0 [] env H (fun env H=>(Out P G T own nt ρ C rs R) k .normal env H))):Imp qq ((Out P G T own nt ρ C rs R) (.code (.region id ops true)::k) .normal env H):=Imp.via (go_draw hT hm hl hok) kq
theorem im_dr_s {m2:Nat} (hs:stepQ own all m ex=some o) (hm:m+1=m2) (kq:Imp qq ((StG P G T own all) n m2 ex o env H K)):Imp qq ((DrP P G T own all) (n+1) m ex env H K):=Imp.via (dr_s hs hm) kq
theorem im_dr_adv2 {m2:Nat} (hm:memN m ex=true) (h2:m+1=m2) (kq:Imp qq ((DrP P G T own all) n m2 ex env H K)):Imp qq ((DrP P G T own all) n m ex env H K):=Imp.via (dr_adv2 hm h2) kq
theorem im_dr_done (hm:Nat.ble all.length m=true) (kq:Imp qq ((Out P G T own nt ρ C rs R) k .normal env H)):Imp qq ((DrP P G T own all) (n+1) m ex env H (fun env H=>(Out P G T own nt ρ C rs R) k .normal env H)):=Imp.via (dr_done hm) kq
theorem im_dr_so (hf:firstQP own m ex 0 all=some i) (ho:all[i]? =some o) (kq:Imp qq ((StG P G T own all) n m (i::ex) o env H K)):Imp qq ((DrP P G T own all) (n+1) m ex env H K):=Imp.via (dr_so hf ho) kq
theorem im_dr_L1 (hf:firstQP own m ex 0 all=none) (hr:readyP m ex 0 all=[j]) (ho:all[j]? =some o) (kq:Imp qq ((Ld P G T own all) n m ex j o env H K)):Imp qq ((DrP P G T own all) (n+1) m ex env H K):=Imp.via (dr_L1 hf hr ho) kq
theorem im_sg_q (hv:qv G T own env H (some d) ty op=some v) (kq:Imp qq ((DrP P G T own all) n m ex ((d,v)::env) H K)):Imp qq ((StG P G T own all) n m ex ⟨some d,op,ty,pos,after,none⟩ env H K):=Imp.via (sg_q hv) kq
theorem im_sg_run {dj:Nat} {want:Bool} (h1:(all[j]?).bind (·.dst)=some dj) (h2:look env dj=some (.bool want)) (hv:qv G T own env H (some d) ty op=some v) (kq:Imp qq ((DrP P G T own all) n m ex ((d,v)::env) H K)):Imp qq ((StG P G T own all) n m ex ⟨some d,op,ty,pos,after,some (j,want)⟩ env H K):=Imp.via (sg_run h1 h2 hv) kq
theorem im_sg_skip {dj:Nat} {want:Bool} {u:SV} {b:Option Bool} (h1:(all[j]?).bind (·.dst)=some dj) (h2:look env dj=some u) (h3:asG u=some b) (hb:(b==some want)=false) (kq:Imp qq ((DrP P G T own all) n m ex ((d,.undef)::env) H K)):Imp qq ((StG P G T own all) n m ex ⟨some d,op,ty,pos,after,some (j,want)⟩ env H K):=Imp.via (sg_skip h1 h2 h3 hb) kq
theorem im_sg_M1 {dj:Nat} {want b:Bool} (h1:(all[j]?).bind (·.dst)=some dj) (h2:look env dj=some (.bool b)) (hv:b=want→qv G T own env H (some d) ty op=some v) (kq:Imp qq ((DrP P G T own all) n m ex ((d,gv b want v)::env) H K)):Imp qq ((StG P G T own all) n m ex ⟨some d,op,ty,pos,after,some (j,want)⟩ env H K):=Imp.via (sg_M1 h1 h2 hv) kq
theorem im_sg_M2 {dj:Nat} {want b b1 w1:Bool} (h1:(all[j]?).bind (·.dst)=some dj) (h2:look env dj=some (gv b1 w1 (.bool b))) (hv:b1=w1→b=want→qv G T own env H (some d) ty op=some v) (kq:Imp qq ((DrP P G T own all) n m ex ((d,gv b1 w1 (gv b want v))::env) H K)):Imp qq ((StG P G T own all) n m ex ⟨some d,op,ty,pos,after,some (j,want)⟩ env H K):=Imp.via (sg_M2 h1 h2 hv) kq
theorem im_sg_M3 {dj:Nat} {want b b1 w1 b2 w2:Bool} (h1:(all[j]?).bind (·.dst)=some dj) (h2:look env dj=some (gv b1 w1 (gv b2 w2 (.bool b)))) (hv:b1=w1→b2=w2→b=want→qv G T own env H (some d) ty op=some v) (kq:Imp qq ((DrP P G T own all) n m ex ((d,gv b1 w1 (gv b2 w2 (gv b want v)))::env) H K)):Imp qq ((StG P G T own all) n m ex ⟨some d,op,ty,pos,after,some (j,want)⟩ env H K):=Imp.via (sg_M3 h1 h2 hv) kq
theorem im_ld_go {dst:Option Nat} (kq:Imp qq (exG P G T own all ⟨dst,op,ty,pos,after,none⟩ env H fun x H'=>AgP G T own all i0 m ex (putE dst x env) H'∧(DrP P G T own all) n m (i0::ex) (putE dst x env) H' K)):Imp qq ((Ld P G T own all) n m ex i0 ⟨dst,op,ty,pos,after,none⟩ env H K):=Imp.via (ld_go) kq
theorem im_ld_run {dst:Option Nat} {dj:Nat} {want:Bool} (h1:(all[j]?).bind (·.dst)=some dj) (h2:look env dj=some (.bool want)) (kq:Imp qq (exG P G T own all ⟨dst,op,ty,pos,after,none⟩ env H fun x H'=>AgP G T own all i0 m ex (putE dst x env) H'∧(DrP P G T own all) n m (i0::ex) (putE dst x env) H' K)):Imp qq ((Ld P G T own all) n m ex i0 ⟨dst,op,ty,pos,after,some (j,want)⟩ env H K):=Imp.via (ld_run h1 h2) kq
theorem im_ld_skip {dst:Option Nat} {dj:Nat} {want:Bool} {u:SV} {bo:Option Bool} (h1:(all[j]?).bind (·.dst)=some dj) (h2:look env dj=some u) (h3:asG u=some bo) (hb:(bo==some want)=false) (kq:Imp qq (AgP G T own all i0 m ex (putE dst .undef env) H∧(DrP P G T own all) n m (i0::ex) (putE dst .undef env) H K)):Imp qq ((Ld P G T own all) n m ex i0 ⟨dst,op,ty,pos,after,some (j,want)⟩ env H K):=Imp.via (ld_skip h1 h2 h3 hb) kq
theorem im_xg_l (h:lv G T own env H dst ty op=some (v,H')) (kq:Imp qq (kk v H')):Imp qq (exG P G T own all ⟨dst,op,ty,pos,after,none⟩ env H kk):=Imp.via (xg_l h) kq
theorem im_xg_q (h:qv G T own env H dst ty op=some v) (kq:Imp qq (kk v H)):Imp qq (exG P G T own all ⟨dst,op,ty,pos,after,none⟩ env H kk):=Imp.via (xg_q h) kq
theorem im_ag_mkS {x:SV} {l:List Nat} (h1:agR own all (getL (clo all) j) m++agL own all (getL (clo all) j) ex=l) (h2:AgAll G T own all ((d,x)::env) H l) (kq:Imp qq ((DrP P G T own all) n m (j::ex) ((d,x)::env) H K)):Imp qq (AgP G T own all j m ex (putE (some d) x env) H∧(DrP P G T own all) n m (j::ex) (putE (some d) x env) H K):=Imp.via (ag_mkS h1 h2) kq
theorem im_ag_mkN {x:SV} {l:List Nat} (h1:agR own all (getL (clo all) j) m++agL own all (getL (clo all) j) ex=l) (h2:AgAll G T own all env H l) (kq:Imp qq ((DrP P G T own all) n m (j::ex) env H K)):Imp qq (AgP G T own all j m ex (putE none x env) H∧(DrP P G T own all) n m (j::ex) (putE none x env) H K):=Imp.via (ag_mkN h1 h2) kq
theorem im_sg_B {dj:Nat} {want b:Bool} (h1:(all[j]?).bind (·.dst)=some dj) (h2:look env dj=some (.bool b)) {qa:b=true→Prop} {qb:b=false→Prop} (lq:∀ x:b=true,Imp (qa x) ((StG P G T own all) n m ex ⟨some d,op,ty,pos,after,some (j,want)⟩ ((dj,.bool true)::env) H (fun env H=>(Out P G T own nt ρ C rs R) k .normal env H))) (rq:∀ x:b=false,Imp (qb x) ((StG P G T own all) n m ex ⟨some d,op,ty,pos,after,some (j,want)⟩ ((dj,.bool false)::env) H (fun env H=>(Out P G T own nt ρ C rs R) k .normal env H))):Imp (Fork (b=true) (b=false) qa qb) ((StG P G T own all) n m ex ⟨some d,op,ty,pos,after,some (j,want)⟩ env H (fun env H=>(Out P G T own nt ρ C rs R) k .normal env H)):=Imp.fork (sg_B h1 h2) lq rq
theorem im_sg_D {dj:Nat} {want:Bool} {a:Prop} {inst:Decidable a} (h1:(all[j]?).bind (·.dst)=some dj) (h2:look env dj=some (.bool (decide a))) {qa:a→Prop} {qb:¬ a→Prop} (lq:∀ x:a,Imp (qa x) ((StG P G T own all) n m ex ⟨some d,op,ty,pos,after,some (j,want)⟩ ((dj,.bool true)::env) H (fun env H=>(Out P G T own nt ρ C rs R) k .normal env H))) (rq:∀ x:¬ a,Imp (qb x) ((StG P G T own all) n m ex ⟨some d,op,ty,pos,after,some (j,want)⟩ ((dj,.bool false)::env) H (fun env H=>(Out P G T own nt ρ C rs R) k .normal env H))):Imp (Fork (a) (¬ a) qa qb) ((StG P G T own all) n m ex ⟨some d,op,ty,pos,after,some (j,want)⟩ env H (fun env H=>(Out P G T own nt ρ C rs R) k .normal env H)):=Imp.fork (sg_D h1 h2) lq rq
theorem im_ld_B {dst:Option Nat} {dj:Nat} {want b:Bool} (h1:(all[j]?).bind (·.dst)=some dj) (h2:look env dj=some (.bool b)) {qa:b=true→Prop} {qb:b=false→Prop} (lq:∀ x:b=true,Imp (qa x) ((Ld P G T own all) n m ex i0 ⟨dst,op,ty,pos,after,some (j,want)⟩ ((dj,.bool true)::env) H (fun env H=>(Out P G T own nt ρ C rs R) k .normal env H))) (rq:∀ x:b=false,Imp (qb x) ((Ld P G T own all) n m ex i0 ⟨dst,op,ty,pos,after,some (j,want)⟩ ((dj,.bool false)::env) H (fun env H=>(Out P G T own nt ρ C rs R) k .normal env H))):Imp (Fork (b=true) (b=false) qa qb) ((Ld P G T own all) n m ex i0 ⟨dst,op,ty,pos,after,some (j,want)⟩ env H (fun env H=>(Out P G T own nt ρ C rs R) k .normal env H)):=Imp.fork (ld_B h1 h2) lq rq
theorem im_ld_D {dst:Option Nat} {dj:Nat} {want:Bool} {a:Prop} {inst:Decidable a} (h1:(all[j]?).bind (·.dst)=some dj) (h2:look env dj=some (.bool (decide a))) {qa:a→Prop} {qb:¬ a→Prop} (lq:∀ x:a,Imp (qa x) ((Ld P G T own all) n m ex i0 ⟨dst,op,ty,pos,after,some (j,want)⟩ ((dj,.bool true)::env) H (fun env H=>(Out P G T own nt ρ C rs R) k .normal env H))) (rq:∀ x:¬ a,Imp (qb x) ((Ld P G T own all) n m ex i0 ⟨dst,op,ty,pos,after,some (j,want)⟩ ((dj,.bool false)::env) H (fun env H=>(Out P G T own nt ρ C rs R) k .normal env H))):Imp (Fork (a) (¬ a) qa qb) ((Ld P G T own all) n m ex i0 ⟨dst,op,ty,pos,after,some (j,want)⟩ env H (fun env H=>(Out P G T own nt ρ C rs R) k .normal env H)):=Imp.fork (ld_D h1 h2) lq rq
theorem im_ld_X {dst:Option Nat} {dj:Nat} {want b1 w1:Bool} {u:SV} (h1:(all[j]?).bind (·.dst)=some dj) (h2:look env dj=some (gv b1 w1 u)) {qa:b1=true→Prop} {qb:b1=false→Prop} (lq:∀ x:b1=true,Imp (qa x) ((Ld P G T own all) n m ex i0 ⟨dst,op,ty,pos,after,some (j,want)⟩ env H K)) (rq:∀ x:b1=false,Imp (qb x) ((Ld P G T own all) n m ex i0 ⟨dst,op,ty,pos,after,some (j,want)⟩ env H K)):Imp (Fork (b1=true) (b1=false) qa qb) ((Ld P G T own all) n m ex i0 ⟨dst,op,ty,pos,after,some (j,want)⟩ env H K):=Imp.fork (fun l r=>ld_X h1 h2 fun c e=>by cases c with
 |true=>exact l e
 |false=>exact r e) lq rq
theorem im_dr_L2 {j2:Nat} {o2:Oper} (hf:firstQP own m ex 0 all=none) (hr:readyP m ex 0 all=[j,j2]) (ho:all[j]? =some o) (ho2:all[j2]? =some o2) (lq:Imp qa ((Ld P G T own all) n m ex j o env H K)) (rq:Imp qb ((Ld P G T own all) n m ex j2 o2 env H K)):Imp (Two qa qb) ((DrP P G T own all) (n+1) m ex env H K):=Imp.two (dr_L2 hf hr ho ho2) lq rq
theorem im_callE2 {vr:SV} {H2:List Blk} {r:List Oper} (h2:evs G env args.toList=some xs) (hc:ACall P G g xs H (fun x H'=>H'=H2∧x=vr)) (hd:Nat.blt d nt=true) (kq:Imp qq (Out P G T own nt ρ C rs R (.ops all r::k) .normal ((d,vr)::env) H2)):Imp qq (Out P G T own nt ρ C rs R (.ops all (⟨some d,.call ⟨.value (.func g),args,tys⟩,ty,pos,after,none⟩::r)::k) .normal env H):=
 Imp.via (fun hk=>go_call h2 hd hc fun x H' hx=>by obtain⟨rfl,rfl⟩:=hx;exact hk) kq
theorem im_xcallE2 {vr:SV} {H2:List Blk} (h2:evs G env args.toList=some xs) (hc:ACall P G g xs H (fun x H'=>H'=H2∧x=vr)) (kq:Imp qq (kk vr H2)):Imp qq (exG P G T own all ⟨dst,.call ⟨.value (.func g),args,tys⟩,ty,pos,after,none⟩ env H kk):=
 Imp.via (fun hk=>xg_call h2 hc fun x H' hx=>by obtain⟨rfl,rfl⟩:=hx;exact hk) kq
theorem im_callE {vr:SV} {H2:List Blk} {r:List Oper} (hc:ACall P G g xs H (fun x H'=>H'=H2∧x=vr)) (h2:evs G env args.toList=some xs) (hd:Nat.blt d nt=true) (kq:Imp qq (Out P G T own nt ρ C rs R (.ops all r::k) .normal ((d,vr)::env) H2)):Imp qq (Out P G T own nt ρ C rs R (.ops all (⟨some d,.call ⟨.value (.func g),args,tys⟩,ty,pos,after,none⟩::r)::k) .normal env H):=
 Imp.via (fun hk=>go_call h2 hd hc fun x H' hx=>by obtain⟨rfl,rfl⟩:=hx;exact hk) kq
theorem im_xcallE {vr:SV} {H2:List Blk} (hc:ACall P G g xs H (fun x H'=>H'=H2∧x=vr)) (h2:evs G env args.toList=some xs) (kq:Imp qq (kk vr H2)):Imp qq (exG P G T own all ⟨dst,.call ⟨.value (.func g),args,tys⟩,ty,pos,after,none⟩ env H kk):=
 Imp.via (fun hk=>xg_call h2 hc fun x H' hx=>by obtain⟨rfl,rfl⟩:=hx;exact hk) kq
theorem im_callC {vr:SV} {H2:List Blk} {r:List Oper} (h1:ev G env f=some fv) (h2:evs G env args.toList=some xs) (hc:ACallV P G fv xs H (fun x H'=>H'=H2∧x=vr)) (hd:Nat.blt d nt=true) (kq:Imp qq (Out P G T own nt ρ C rs R (.ops all r::k) .normal ((d,vr)::env) H2)):Imp qq (Out P G T own nt ρ C rs R (.ops all (⟨some d,.call ⟨.value f,args,tys⟩,ty,pos,after,none⟩::r)::k) .normal env H):=
 Imp.via (fun hk=>go_callV h1 h2 hd hc fun x H' hx=>by obtain⟨rfl,rfl⟩:=hx;exact hk) kq
theorem im_xcallC {vr:SV} {H2:List Blk} (h1:ev G env f=some fv) (h2:evs G env args.toList=some xs) (hc:ACallV P G fv xs H (fun x H'=>H'=H2∧x=vr)) (kq:Imp qq (kk vr H2)):Imp qq (exG P G T own all ⟨dst,.call ⟨.value f,args,tys⟩,ty,pos,after,none⟩ env H kk):=
 Imp.via (fun hk=>xg_callV h1 h2 hc fun x H' hx=>by obtain⟨rfl,rfl⟩:=hx;exact hk) kq
end
attribute [go_sem ↓] gv_T
attribute [go_sem ↓] gv_F
attribute [go_sem ↓] gv_dT
attribute [go_sem ↓] gv_dF
attribute [go_sem] gv_tt
attribute [go_sem] gv_ff
attribute [go_sem] gv_tf
attribute [go_sem] gv_ft
attribute [go_sem] pk_true
attribute [go_sem] pk_false
attribute [go_sem] pk_gvT
attribute [go_sem] pk_gvF
attribute [go_sem] pk_bT
attribute [go_sem] pk_bF
attribute [go_sem] pk_bTr
attribute [go_sem] pk_bFl
attribute [go_sem] qv
attribute [go_sem] lv
attribute [go_sem ↓] ob_some
attribute [go_sem ↓] bb_true
attribute [go_sem ↓] bb_false
attribute [go_sem ↓] chk_true
attribute [go_sem] and_self
attribute [go_sem] and_true
attribute [go_sem] true_and
attribute [go_sem] beq_self_eq_true
attribute [go_sem] beq_true
attribute [go_sem] beq_false
attribute [go_sem] Bool.and_true
attribute [go_sem] Bool.true_and
attribute [go_sem] Bool.and_self
attribute [go_sem] Bool.and_false
attribute [go_sem] Bool.false_and
attribute [go_sem] Bool.or_true
attribute [go_sem] Bool.true_or
attribute [go_sem] Bool.or_false
attribute [go_sem] Bool.false_or
attribute [go_sem] Bool.not_true
attribute [go_sem] Bool.not_false
attribute [go_sem] Int.toNat_natCast
attribute [go_sem] decide_not'
attribute [go_sem] ne_eq
attribute [go_sem] not_true_eq_false
attribute [go_sem] not_false_eq_true
attribute [go_sem ↓] binV.eq_def
attribute [go_sem ↓] unV.eq_def
attribute [go_sem ↓] appV.eq_def
attribute [go_sem ↓] lenV.eq_def
attribute [go_sem ↓] putK.eq_def
attribute [go_sem ↓] copyV.eq_def
attribute [go_sem ↓] clearV.eq_def
attribute [go_sem ↓] evs.eq_1
attribute [go_sem ↓] evs.eq_2
attribute [go_sem ↓] look.eq_1
attribute [go_sem ↓] look.eq_2
attribute [go_sem ↓] isIn.eq_1
attribute [go_sem ↓] isIn.eq_2
attribute [go_sem ↓] initEnv.eq_1
attribute [go_sem ↓] initEnv.eq_2
attribute [go_sem ↓] putAll.eq_1
attribute [go_sem ↓] putAll.eq_2
attribute [go_sem ↓] fillAll.eq_1
attribute [go_sem ↓] fillAll.eq_2
attribute [go_sem ↓] findSV.eq_1
attribute [go_sem ↓] findSV.eq_2
attribute [go_sem ↓] setSV.eq_1
attribute [go_sem ↓] setSV.eq_2
attribute [go_sem ↓] resL.eq_1
attribute [go_sem ↓] resL.eq_2
attribute [go_sem ↓] codeT.eq_1
attribute [go_sem ↓] codeT.eq_2
attribute [go_sem ↓] codeSV.eq_1
attribute [go_sem ↓] codeSV.eq_2
attribute [go_sem ↓] eqSL.eq_1
attribute [go_sem ↓] eqSL.eq_2
attribute [go_sem ↓] resL.eq_3
attribute [go_sem ↓] ev.eq_def
attribute [go_sem ↓] asB.eq_def
attribute [go_sem ↓] asI.eq_def
attribute [go_sem ↓] loadSV.eq_def
attribute [go_sem ↓] storeSV.eq_def
attribute [go_sem ↓] sub.eq_def
attribute [go_sem ↓] fits.eq_def
attribute [go_sem ↓] seqOf.eq_def
attribute [go_sem ↓] elemOf.eq_def
attribute [go_sem ↓] arrOf.eq_def
attribute [go_sem ↓] isPtr.eq_def
attribute [go_sem ↓] fieldOf.eq_def
attribute [go_sem ↓] lenFits.eq_def
attribute [go_sem ↓] lenSV.eq_def
attribute [go_sem ↓] cutSV.eq_def
attribute [go_sem ↓] szOK.eq_def
attribute [go_sem ↓] okPtr.eq_def
attribute [go_sem ↓] fieldPtr.eq_def
attribute [go_sem ↓] boundOf.eq_def
attribute [go_sem ↓] kindT.eq_def
attribute [go_sem ↓] isMapB.eq_def
attribute [go_sem ↓] slLen.eq_def
attribute [go_sem ↓] nilH.eq_def
attribute [go_sem ↓] isNilC.eq_def
attribute [go_sem ↓] fieldsKnown.eq_def
attribute [go_sem ↓] partsOf.eq_def
attribute [go_sem ↓] subPut.eq_def
attribute [go_sem ↓] resSV.eq_def
attribute [go_sem ↓] SV.isAgg.eq_def
attribute [go_sem ↓] SV.leaf.eq_def
attribute [go_sem ↓] SV.size.eq_def
attribute [go_sem ↓] TD.agg.eq_def
attribute [go_sem ↓] blkOf.eq_def
attribute [go_sem ↓] mapOf.eq_def
attribute [go_sem ↓] mapTypes.eq_def
attribute [go_sem ↓] keyIs.eq_def
attribute [go_sem ↓] eqSV.eq_def
attribute [go_sem ↓] digSV.eq_def
attribute [go_sem ↓] digT.eq_def
attribute [go_sem ↓] capSV.eq_def
attribute [go_sem ↓] isU8.eq_def
attribute [go_sem ↓] sliceU8.eq_def
attribute [go_sem] constSV_i64
attribute [go_sem] constSV_u8
attribute [go_sem] constSV_bool
attribute [go_sem] constSV_nil
attribute [go_sem] constSV_nilptr
attribute [go_sem] constSV_nilmap
attribute [go_sem] Option.bind_some
attribute [go_sem] Option.isSome_some
attribute [go_sem] List.length_map
attribute [go_sem] List.length_cons
attribute [go_sem] List.length_nil
attribute [go_sem] List.getElem?_map
attribute [go_sem] List.getElem?_eq_getElem
attribute [go_sem] Int.natCast_nonneg
attribute [go_sem] List.getElem?_cons_zero
attribute [go_sem] List.getElem?_cons_succ
attribute [go_sem] Option.map_some
attribute [go_sem] wrap_i64
attribute [go_sem] get_app0
attribute [go_sem] get_app
attribute [go_sem] set_app0
attribute [go_sem] set_app
attribute [go_sem] get_app0S
attribute [go_sem] get_appS
attribute [go_sem] set_app0S
attribute [go_sem] set_appS
attribute [go_sem] get_app0SS
attribute [go_sem] get_appSS
attribute [go_sem] set_app0SS
attribute [go_sem] set_appSS
attribute [go_sem] get_oldS
attribute [go_sem] set_oldS
attribute [go_sem] get_old
attribute [go_sem] set_old
attribute [go_sem] List.set_set
attribute [go_sem] List.getElem?_set_self
attribute [go_sem] List.length_set
attribute [go_sem] List.append_assoc
attribute [go_sem] List.cons_append
attribute [go_sem] List.nil_append
attribute [go_sem] List.length_append
attribute [go_sem] Nat.add_assoc
attribute [go_sem] List.set_cons_zero
attribute [go_sem] List.set_cons_succ
attribute [go_sem] Ex.cells_len
attribute [go_sem] Bd.cells_len
attribute [go_sem] Al.cells_len
attribute [go_sem] Ex.cells_take
attribute [go_sem] Ex.sv
attribute [go_sem] Ex.cells.eq_1
attribute [go_sem] exCells_len
attribute [go_sem] bdCells_len
attribute [go_sem] alCells_len
attribute [go_sem] exCells_get
attribute [go_sem] bdCells_get
attribute [go_sem] alCells_get
attribute [go_sem] List.drop_zero
attribute [go_sem] List.drop_succ_cons
attribute [go_sem] int_le_true
attribute [go_sem] nat_le_true
attribute [go_sem] nat_lt_true
attribute [go_sem] List.take_succ_cons
attribute [go_sem] List.take_zero
attribute [go_sem] List.replicate_succ
attribute [go_sem] List.replicate_zero
attribute [go_sem] List.length_take
attribute [go_sem] Nat.zero_add
attribute [go_sem] Nat.lt_one_iff
attribute [go_sem] true_or
attribute [go_sem] or_true
attribute [go_sem] false_and
attribute [go_sem] and_false
attribute [go_sem] List.length_replicate
attribute [go_sem] strOf_bytes
theorem constSV_s0:constSV (.string (ByteArray.mk #[]))=some (.str []):=by simp[constSV,constCell,maxLen]
attribute [go_sem] constSV_s0
theorem constSV_s1 (a0:UInt8):constSV (.string (ByteArray.mk #[a0]))=some (.str [a0]):=by simp[constSV,constCell,maxLen]
attribute [go_sem] constSV_s1
theorem constSV_s2 (a0 a1:UInt8):constSV (.string (ByteArray.mk #[a0,a1]))=some (.str [a0,a1]):=by simp[constSV,constCell,maxLen]
attribute [go_sem] constSV_s2
theorem constSV_s3 (a0 a1 a2:UInt8):constSV (.string (ByteArray.mk #[a0,a1,a2]))=some (.str [a0,a1,a2]):=by simp[constSV,constCell,maxLen]
attribute [go_sem] constSV_s3
theorem constSV_s4 (a0 a1 a2 a3:UInt8):constSV (.string (ByteArray.mk #[a0,a1,a2,a3]))=some (.str [a0,a1,a2,a3]):=by simp[constSV,constCell,maxLen]
attribute [go_sem] constSV_s4
theorem constSV_s5 (a0 a1 a2 a3 a4:UInt8):constSV (.string (ByteArray.mk #[a0,a1,a2,a3,a4]))=some (.str [a0,a1,a2,a3,a4]):=by simp[constSV,constCell,maxLen]
attribute [go_sem] constSV_s5
theorem constSV_s6 (a0 a1 a2 a3 a4 a5:UInt8):constSV (.string (ByteArray.mk #[a0,a1,a2,a3,a4,a5]))=some (.str [a0,a1,a2,a3,a4,a5]):=by simp[constSV,constCell,maxLen]
attribute [go_sem] constSV_s6
theorem constSV_s7 (a0 a1 a2 a3 a4 a5 a6:UInt8):constSV (.string (ByteArray.mk #[a0,a1,a2,a3,a4,a5,a6]))=some (.str [a0,a1,a2,a3,a4,a5,a6]):=by simp[constSV,constCell,maxLen]
attribute [go_sem] constSV_s7
theorem constSV_s8 (a0 a1 a2 a3 a4 a5 a6 a7:UInt8):constSV (.string (ByteArray.mk #[a0,a1,a2,a3,a4,a5,a6,a7]))=some (.str [a0,a1,a2,a3,a4,a5,a6,a7]):=by simp[constSV,constCell,maxLen]
attribute [go_sem] constSV_s8
theorem constSV_s9 (a0 a1 a2 a3 a4 a5 a6 a7 a8:UInt8):constSV (.string (ByteArray.mk #[a0,a1,a2,a3,a4,a5,a6,a7,a8]))=some (.str [a0,a1,a2,a3,a4,a5,a6,a7,a8]):=by simp[constSV,constCell,maxLen]
attribute [go_sem] constSV_s9
theorem constSV_s10 (a0 a1 a2 a3 a4 a5 a6 a7 a8 a9:UInt8):constSV (.string (ByteArray.mk #[a0,a1,a2,a3,a4,a5,a6,a7,a8,a9]))=some (.str [a0,a1,a2,a3,a4,a5,a6,a7,a8,a9]):=by simp[constSV,constCell,maxLen]
attribute [go_sem] constSV_s10
theorem constSV_s11 (a0 a1 a2 a3 a4 a5 a6 a7 a8 a9 a10:UInt8):constSV (.string (ByteArray.mk #[a0,a1,a2,a3,a4,a5,a6,a7,a8,a9,a10]))=some (.str [a0,a1,a2,a3,a4,a5,a6,a7,a8,a9,a10]):=by simp[constSV,constCell,maxLen]
attribute [go_sem] constSV_s11
theorem constSV_s12 (a0 a1 a2 a3 a4 a5 a6 a7 a8 a9 a10 a11:UInt8):constSV (.string (ByteArray.mk #[a0,a1,a2,a3,a4,a5,a6,a7,a8,a9,a10,a11]))=some (.str [a0,a1,a2,a3,a4,a5,a6,a7,a8,a9,a10,a11]):=by simp[constSV,constCell,maxLen]
attribute [go_sem] constSV_s12
theorem constSV_s13 (a0 a1 a2 a3 a4 a5 a6 a7 a8 a9 a10 a11 a12:UInt8):constSV (.string (ByteArray.mk #[a0,a1,a2,a3,a4,a5,a6,a7,a8,a9,a10,a11,a12]))=some (.str [a0,a1,a2,a3,a4,a5,a6,a7,a8,a9,a10,a11,a12]):=by simp[constSV,constCell,maxLen]
attribute [go_sem] constSV_s13
theorem constSV_s14 (a0 a1 a2 a3 a4 a5 a6 a7 a8 a9 a10 a11 a12 a13:UInt8):constSV (.string (ByteArray.mk #[a0,a1,a2,a3,a4,a5,a6,a7,a8,a9,a10,a11,a12,a13]))=some (.str [a0,a1,a2,a3,a4,a5,a6,a7,a8,a9,a10,a11,a12,a13]):=by simp[constSV,constCell,maxLen]
attribute [go_sem] constSV_s14
theorem constSV_s15 (a0 a1 a2 a3 a4 a5 a6 a7 a8 a9 a10 a11 a12 a13 a14:UInt8):constSV (.string (ByteArray.mk #[a0,a1,a2,a3,a4,a5,a6,a7,a8,a9,a10,a11,a12,a13,a14]))=some (.str [a0,a1,a2,a3,a4,a5,a6,a7,a8,a9,a10,a11,a12,a13,a14]):=by simp[constSV,constCell,maxLen]
attribute [go_sem] constSV_s15
theorem constSV_s16 (a0 a1 a2 a3 a4 a5 a6 a7 a8 a9 a10 a11 a12 a13 a14 a15:UInt8):constSV (.string (ByteArray.mk #[a0,a1,a2,a3,a4,a5,a6,a7,a8,a9,a10,a11,a12,a13,a14,a15]))=some (.str [a0,a1,a2,a3,a4,a5,a6,a7,a8,a9,a10,a11,a12,a13,a14,a15]):=by simp[constSV,constCell,maxLen]
attribute [go_sem] constSV_s16
theorem constSV_s17 (a0 a1 a2 a3 a4 a5 a6 a7 a8 a9 a10 a11 a12 a13 a14 a15 a16:UInt8):constSV (.string (ByteArray.mk #[a0,a1,a2,a3,a4,a5,a6,a7,a8,a9,a10,a11,a12,a13,a14,a15,a16]))=some (.str [a0,a1,a2,a3,a4,a5,a6,a7,a8,a9,a10,a11,a12,a13,a14,a15,a16]):=by simp[constSV,constCell,maxLen]
attribute [go_sem] constSV_s17
theorem constSV_s18 (a0 a1 a2 a3 a4 a5 a6 a7 a8 a9 a10 a11 a12 a13 a14 a15 a16 a17:UInt8):constSV (.string (ByteArray.mk #[a0,a1,a2,a3,a4,a5,a6,a7,a8,a9,a10,a11,a12,a13,a14,a15,a16,a17]))=some (.str [a0,a1,a2,a3,a4,a5,a6,a7,a8,a9,a10,a11,a12,a13,a14,a15,a16,a17]):=by simp[constSV,constCell,maxLen]
attribute [go_sem] constSV_s18
theorem constSV_s19 (a0 a1 a2 a3 a4 a5 a6 a7 a8 a9 a10 a11 a12 a13 a14 a15 a16 a17 a18:UInt8):constSV (.string (ByteArray.mk #[a0,a1,a2,a3,a4,a5,a6,a7,a8,a9,a10,a11,a12,a13,a14,a15,a16,a17,a18]))=some (.str [a0,a1,a2,a3,a4,a5,a6,a7,a8,a9,a10,a11,a12,a13,a14,a15,a16,a17,a18]):=by simp[constSV,constCell,maxLen]
attribute [go_sem] constSV_s19
theorem constSV_s20 (a0 a1 a2 a3 a4 a5 a6 a7 a8 a9 a10 a11 a12 a13 a14 a15 a16 a17 a18 a19:UInt8):constSV (.string (ByteArray.mk #[a0,a1,a2,a3,a4,a5,a6,a7,a8,a9,a10,a11,a12,a13,a14,a15,a16,a17,a18,a19]))=some (.str [a0,a1,a2,a3,a4,a5,a6,a7,a8,a9,a10,a11,a12,a13,a14,a15,a16,a17,a18,a19]):=by simp[constSV,constCell,maxLen]
attribute [go_sem] constSV_s20
theorem constSV_s21 (a0 a1 a2 a3 a4 a5 a6 a7 a8 a9 a10 a11 a12 a13 a14 a15 a16 a17 a18 a19 a20:UInt8):constSV (.string (ByteArray.mk #[a0,a1,a2,a3,a4,a5,a6,a7,a8,a9,a10,a11,a12,a13,a14,a15,a16,a17,a18,a19,a20]))=some (.str [a0,a1,a2,a3,a4,a5,a6,a7,a8,a9,a10,a11,a12,a13,a14,a15,a16,a17,a18,a19,a20]):=by simp[constSV,constCell,maxLen]
attribute [go_sem] constSV_s21
theorem constSV_s22 (a0 a1 a2 a3 a4 a5 a6 a7 a8 a9 a10 a11 a12 a13 a14 a15 a16 a17 a18 a19 a20 a21:UInt8):constSV (.string (ByteArray.mk #[a0,a1,a2,a3,a4,a5,a6,a7,a8,a9,a10,a11,a12,a13,a14,a15,a16,a17,a18,a19,a20,a21]))=some (.str [a0,a1,a2,a3,a4,a5,a6,a7,a8,a9,a10,a11,a12,a13,a14,a15,a16,a17,a18,a19,a20,a21]):=by simp[constSV,constCell,maxLen]
attribute [go_sem] constSV_s22
theorem constSV_s23 (a0 a1 a2 a3 a4 a5 a6 a7 a8 a9 a10 a11 a12 a13 a14 a15 a16 a17 a18 a19 a20 a21 a22:UInt8):constSV (.string (ByteArray.mk #[a0,a1,a2,a3,a4,a5,a6,a7,a8,a9,a10,a11,a12,a13,a14,a15,a16,a17,a18,a19,a20,a21,a22]))=some (.str [a0,a1,a2,a3,a4,a5,a6,a7,a8,a9,a10,a11,a12,a13,a14,a15,a16,a17,a18,a19,a20,a21,a22]):=by simp[constSV,constCell,maxLen]
attribute [go_sem] constSV_s23
theorem constSV_s24 (a0 a1 a2 a3 a4 a5 a6 a7 a8 a9 a10 a11 a12 a13 a14 a15 a16 a17 a18 a19 a20 a21 a22 a23:UInt8):constSV (.string (ByteArray.mk #[a0,a1,a2,a3,a4,a5,a6,a7,a8,a9,a10,a11,a12,a13,a14,a15,a16,a17,a18,a19,a20,a21,a22,a23]))=some (.str [a0,a1,a2,a3,a4,a5,a6,a7,a8,a9,a10,a11,a12,a13,a14,a15,a16,a17,a18,a19,a20,a21,a22,a23]):=by simp[constSV,constCell,maxLen]
attribute [go_sem] constSV_s24
theorem take_mapAll {α β:Type} (l:List α) (f:α→β):(l.map f).take l.length=l.map f:=List.take_of_length_le (by simp)
attribute [go_sem] take_mapAll List.getElem?_take_of_lt List.getElem?_drop
theorem constSV_nilI:constSV .nilIface=some (.ifc true):=rfl
attribute [go_sem] constSV_nilI
attribute [go_sem ↓] isNilI.eq_def
attribute [go_sem ↓] ifcV.eq_def
attribute [go_sem ↓] isIfc.eq_def
theorem evS {p:Prop} (h:p:=by (simp -implicitDefEqProofs (disch:=first|assumption|omega) only[go_sem,X,Int.reduceToNat,Nat.reduceAdd,Nat.reduceSub,Nat.reduceMul,Nat.reduceLT,Nat.reduceLeDiff,Nat.reduceEqDiff,Nat.reduceBEq,Nat.reduceBNe,↓reduceIte,reduceCtorEq]<;>rfl)):p:=h
theorem evS1 {p:Prop} (h:p:=by intro hw1;have hw1p:=hw1;(try simp only[Bool.and_eq_true,Bool.or_eq_true,decide_eq_true_eq,decide_eq_false_iff_not,Bool.not_eq_true',Bool.and_eq_false_iff,Bool.or_eq_false_iff,Bool.not_eq_false'] at hw1p);exact evS):p:=h
theorem evS2 {p:Prop} (h:p:=by intro hw1 hw2;have hw1p:=hw1;(try simp only[Bool.and_eq_true,Bool.or_eq_true,decide_eq_true_eq,decide_eq_false_iff_not,Bool.not_eq_true',Bool.and_eq_false_iff,Bool.or_eq_false_iff,Bool.not_eq_false'] at hw1p);have hw2p:=hw2;(try simp only[Bool.and_eq_true,Bool.or_eq_true,decide_eq_true_eq,decide_eq_false_iff_not,Bool.not_eq_true',Bool.and_eq_false_iff,Bool.or_eq_false_iff,Bool.not_eq_false'] at hw2p);exact evS):p:=h
theorem evS3 {p:Prop} (h:p:=by intro hw1 hw2 hw3;have hw1p:=hw1;(try simp only[Bool.and_eq_true,Bool.or_eq_true,decide_eq_true_eq,decide_eq_false_iff_not,Bool.not_eq_true',Bool.and_eq_false_iff,Bool.or_eq_false_iff,Bool.not_eq_false'] at hw1p);have hw2p:=hw2;(try simp only[Bool.and_eq_true,Bool.or_eq_true,decide_eq_true_eq,decide_eq_false_iff_not,Bool.not_eq_true',Bool.and_eq_false_iff,Bool.or_eq_false_iff,Bool.not_eq_false'] at hw2p);have hw3p:=hw3;(try simp only[Bool.and_eq_true,Bool.or_eq_true,decide_eq_true_eq,decide_eq_false_iff_not,Bool.not_eq_true',Bool.and_eq_false_iff,Bool.or_eq_false_iff,Bool.not_eq_false'] at hw3p);exact evS):p:=h
theorem agS {p:Prop} (h:p:=by repeat' (first|exact ag_nil|((with_reducible apply ag_c0);(· rfl);(· rfl);(· exact evS))|((with_reducible apply ag_cR);(· rfl);(· rfl);(· rfl);(· rfl);(· exact evS);(· first|rfl|(simp (disch:=first|assumption|omega) only[gv_T,gv_F,gv_dT,gv_dF];done)))|((with_reducible apply ag_cS);(· rfl);(· rfl);(· rfl);(· rfl);(· rfl);(· rfl);(· first|rfl|(simp (disch:=first|assumption|omega) only[gv_T,gv_F,gv_dT,gv_dF,gv_dTu,gv_dFu,gv_Tu,gv_Fu];done)))|((with_reducible apply ag_cM1);(· rfl);(· rfl);(· rfl);(· rfl);(· exact evS1))|((with_reducible apply ag_cM2);(· rfl);(· rfl);(· rfl);(· rfl);(· exact evS2))|((with_reducible apply ag_cM3);(· rfl);(· rfl);(· rfl);(· rfl);(· exact evS3))|fail)):p:=h
theorem under_ints {n:Nat} {k:IntKind} (l:List Int):SV.underL n (l.map (SV.int k))=true:=SV.underL_map fun _ _=>rfl
theorem under_bools {n:Nat} (l:List Bool):SV.underL n (l.map SV.bool)=true:=SV.underL_map fun _ _=>rfl
theorem hbS {p:Prop} (h:p:=by (first|rfl|(simp only[X,get_app0,get_app,get_app0S,get_appS,get_app0SS,get_appSS,get_old,List.getElem?_cons_zero,List.getElem?_cons_succ,List.append_assoc,List.cons_append,List.nil_append,List.length_set]<;>rfl)|(simp only[get_app0,get_app,get_app0S,get_appS,get_app0SS,get_appSS,get_old,List.getElem?_cons_zero,List.getElem?_cons_succ,List.append_assoc,List.cons_append,List.nil_append,List.length_set]<;>rfl))):p:=h
theorem SV.underL_replicate {n m:Nat} {x:SV} (h:x.under n=true):SV.underL n (List.replicate m x)=true:=by
 induction m with
 |zero=>rfl
 |succ m ih=>rw[List.replicate_succ];simp only[SV.underL,h,ih,Bool.and_self]
theorem undS {p:Prop} (h:p:=by (first|rfl|assumption|(simp only[SV.under.eq_def,SV.underL.eq_1,SV.underL.eq_2,Ex.cells_under,exCells_under,bdCells_under,alCells_under,strs_under,Ex.sv_under,Bool.and_true,Bool.true_and,Bool.and_self,decide_eq_true_eq,Nat.zero_le,List.drop_zero,Function.comp_def,SV.underL_append,under_mstr,under_mint,under_mbool,under_bde,under_alb,under_ints,under_bools,List.drop_succ_cons]<;>omega)|exact SV.underL_map fun _ _=>rfl|((try simp only[List.drop_zero,SV.underL_append,SV.underL.eq_2,SV.underL.eq_1,SV.under.eq_def,Bool.and_true,Bool.and_self,Bool.and_eq_true,decide_eq_true_eq])<;>(repeat' (first|exact True.intro|refine And.intro ?_ ?_|exact SV.underL_map fun _ _=>rfl|exact SV.underL_replicate rfl|rfl|omega))<;>fail))):p:=h
theorem FrzE.same {H:List Blk} {n:Nat} {ks:Keep}:∀ {es:List (SV×SV)},belowE n es=true→FrzE H n ks es es
 |[],_=> .nil
 |(k,x)::es,h=>by
  simp only[belowE,Bool.and_eq_true] at h
  exact .cons _ _ _ _ _ h.1.1 (.same _ h.1.2) (FrzE.same h.2)
theorem frzLT {p:Prop} (h:p:=by repeat' (first|exact FrzL.nil|(refine FrzL.cons _ _ _ _ ?_ ?_)|(first|(apply Frz.same;exact undS)|exact Frz.nil _|(apply Frz.int;omega)|(apply Frz.kp 0 rfl;(· exact hbS);(· omega);(· omega);(· omega))|(apply Frz.kp 1 rfl;(· exact hbS);(· omega);(· omega);(· omega))|(apply Frz.kp 2 rfl;(· exact hbS);(· omega);(· omega);(· omega))|(apply Frz.kp 3 rfl;(· exact hbS);(· omega);(· omega);(· omega))|(apply Frz.kp 4 rfl;(· exact hbS);(· omega);(· omega);(· omega))|(apply Frz.kp 5 rfl;(· exact hbS);(· omega);(· omega);(· omega))|(apply Frz.kp 6 rfl;(· exact hbS);(· omega);(· omega);(· omega))|(apply Frz.kp 7 rfl;(· exact hbS);(· omega);(· omega);(· omega))|(apply Frz.ks 0 rfl;(· exact hbS);(· omega);(· omega);(· omega);(· omega))|(apply Frz.ks 1 rfl;(· exact hbS);(· omega);(· omega);(· omega);(· omega))|(apply Frz.ks 2 rfl;(· exact hbS);(· omega);(· omega);(· omega);(· omega))|(apply Frz.ks 3 rfl;(· exact hbS);(· omega);(· omega);(· omega);(· omega))|(apply Frz.ks 4 rfl;(· exact hbS);(· omega);(· omega);(· omega);(· omega))|(apply Frz.ks 5 rfl;(· exact hbS);(· omega);(· omega);(· omega);(· omega))|(apply Frz.ks 6 rfl;(· exact hbS);(· omega);(· omega);(· omega);(· omega))|(apply Frz.ks 7 rfl;(· exact hbS);(· omega);(· omega);(· omega);(· omega))|(apply Frz.km 0 rfl;(· exact hbS);(· omega))|(apply Frz.km 1 rfl;(· exact hbS);(· omega))|(apply Frz.km 2 rfl;(· exact hbS);(· omega))|(apply Frz.km 3 rfl;(· exact hbS);(· omega))|(apply Frz.km 4 rfl;(· exact hbS);(· omega))|(apply Frz.km 5 rfl;(· exact hbS);(· omega))|(apply Frz.km 6 rfl;(· exact hbS);(· omega))|(apply Frz.km 7 rfl;(· exact hbS);(· omega))|(apply Frz.sf;(· exact hbS);(· omega);(· simp<;>omega);(· first|rfl|(simp[Function.comp_def,List.take_of_length_le];done));(· exact undS))|fail))):p:=h
theorem frzLS {p:Prop} (h:p:=by repeat' (first|exact FrzL.nil|(refine FrzL.cons _ _ _ _ ?_ ?_)|(first|(apply Frz.same;exact undS)|exact Frz.nil _|(apply Frz.int;omega)|(apply Frz.kp 0 rfl;(· exact hbS);(· omega);(· omega);(· omega))|(apply Frz.kp 1 rfl;(· exact hbS);(· omega);(· omega);(· omega))|(apply Frz.kp 2 rfl;(· exact hbS);(· omega);(· omega);(· omega))|(apply Frz.kp 3 rfl;(· exact hbS);(· omega);(· omega);(· omega))|(apply Frz.kp 4 rfl;(· exact hbS);(· omega);(· omega);(· omega))|(apply Frz.kp 5 rfl;(· exact hbS);(· omega);(· omega);(· omega))|(apply Frz.kp 6 rfl;(· exact hbS);(· omega);(· omega);(· omega))|(apply Frz.kp 7 rfl;(· exact hbS);(· omega);(· omega);(· omega))|(apply Frz.ks 0 rfl;(· exact hbS);(· omega);(· omega);(· omega);(· omega))|(apply Frz.ks 1 rfl;(· exact hbS);(· omega);(· omega);(· omega);(· omega))|(apply Frz.ks 2 rfl;(· exact hbS);(· omega);(· omega);(· omega);(· omega))|(apply Frz.ks 3 rfl;(· exact hbS);(· omega);(· omega);(· omega);(· omega))|(apply Frz.ks 4 rfl;(· exact hbS);(· omega);(· omega);(· omega);(· omega))|(apply Frz.ks 5 rfl;(· exact hbS);(· omega);(· omega);(· omega);(· omega))|(apply Frz.ks 6 rfl;(· exact hbS);(· omega);(· omega);(· omega);(· omega))|(apply Frz.ks 7 rfl;(· exact hbS);(· omega);(· omega);(· omega);(· omega))|(apply Frz.km 0 rfl;(· exact hbS);(· omega))|(apply Frz.km 1 rfl;(· exact hbS);(· omega))|(apply Frz.km 2 rfl;(· exact hbS);(· omega))|(apply Frz.km 3 rfl;(· exact hbS);(· omega))|(apply Frz.km 4 rfl;(· exact hbS);(· omega))|(apply Frz.km 5 rfl;(· exact hbS);(· omega))|(apply Frz.km 6 rfl;(· exact hbS);(· omega))|(apply Frz.km 7 rfl;(· exact hbS);(· omega))|(apply Frz.sf;(· exact hbS);(· omega);(· simp<;>omega);(· first|rfl|(simp[Function.comp_def,List.take_of_length_le];done));(· exact undS))|(apply Frz.agg;exact frzLT)|fail))):p:=h
theorem frzS {p:Prop} (h:p:=by repeat' (first|exact True.intro|exact KeepB.nil|(refine And.intro ⟨_,rfl,?_⟩ ?_)|(apply KeepB.c;(· exact hbS);(· omega);(· first|omega|(simp<;>omega));(· first|(apply FrzL.same;exact undS)|exact frzLS))|(apply KeepB.m;(· exact hbS);(· omega);(· first|exact FrzE.same (esB_under _ _)|exact FrzE.same (esO_under _ _)|(apply FrzE.same;rfl)))|(first|(apply Frz.same;exact undS)|exact Frz.nil _|(apply Frz.int;omega)|(apply Frz.kp 0 rfl;(· exact hbS);(· omega);(· omega);(· omega))|(apply Frz.kp 1 rfl;(· exact hbS);(· omega);(· omega);(· omega))|(apply Frz.kp 2 rfl;(· exact hbS);(· omega);(· omega);(· omega))|(apply Frz.kp 3 rfl;(· exact hbS);(· omega);(· omega);(· omega))|(apply Frz.kp 4 rfl;(· exact hbS);(· omega);(· omega);(· omega))|(apply Frz.kp 5 rfl;(· exact hbS);(· omega);(· omega);(· omega))|(apply Frz.kp 6 rfl;(· exact hbS);(· omega);(· omega);(· omega))|(apply Frz.kp 7 rfl;(· exact hbS);(· omega);(· omega);(· omega))|(apply Frz.ks 0 rfl;(· exact hbS);(· omega);(· omega);(· omega);(· omega))|(apply Frz.ks 1 rfl;(· exact hbS);(· omega);(· omega);(· omega);(· omega))|(apply Frz.ks 2 rfl;(· exact hbS);(· omega);(· omega);(· omega);(· omega))|(apply Frz.ks 3 rfl;(· exact hbS);(· omega);(· omega);(· omega);(· omega))|(apply Frz.ks 4 rfl;(· exact hbS);(· omega);(· omega);(· omega);(· omega))|(apply Frz.ks 5 rfl;(· exact hbS);(· omega);(· omega);(· omega);(· omega))|(apply Frz.ks 6 rfl;(· exact hbS);(· omega);(· omega);(· omega);(· omega))|(apply Frz.ks 7 rfl;(· exact hbS);(· omega);(· omega);(· omega);(· omega))|(apply Frz.km 0 rfl;(· exact hbS);(· omega))|(apply Frz.km 1 rfl;(· exact hbS);(· omega))|(apply Frz.km 2 rfl;(· exact hbS);(· omega))|(apply Frz.km 3 rfl;(· exact hbS);(· omega))|(apply Frz.km 4 rfl;(· exact hbS);(· omega))|(apply Frz.km 5 rfl;(· exact hbS);(· omega))|(apply Frz.km 6 rfl;(· exact hbS);(· omega))|(apply Frz.km 7 rfl;(· exact hbS);(· omega))|(apply Frz.sf;(· exact hbS);(· omega);(· simp<;>omega);(· first|rfl|(simp[Function.comp_def,List.take_of_length_le];done));(· exact undS))|(apply Frz.agg;exact frzLS)|fail)|fail)):p:=h
theorem run {qq p:Prop} (k:qq) (h:Imp qq p:=by
 repeat' (first
  |((with_reducible apply im_go_seq))
  |((with_reducible apply im_go_q);(· exact evS);(· rfl))
  |((with_reducible apply im_go_nil))
  |((with_reducible apply im_go_region);(· exact tabOK);(· first|(simp only[List.append_eq,List.cons_append,List.nil_append];rfl)|rfl))
  |((with_reducible apply im_go_skip))
  |((with_reducible apply im_go_condT);(· rfl))
  |((with_reducible apply im_go_condF);(· rfl))
  |((with_reducible apply im_go_condDT);(· rfl);(· assumption))
  |((with_reducible apply im_go_condDF);(· rfl);(· assumption))
  |((with_reducible apply im_go_condD);(· rfl);(intro hb);(rotate_left);(intro hb);(rotate_right))
  |((with_reducible apply im_go_condB);(· rfl);(intro hb);(rotate_left);(intro hb);(rotate_right))
  |((with_reducible apply im_go_block))
  |((with_reducible apply im_go_blk))
  |((with_reducible apply im_go_exit);(· rfl))
  |((with_reducible apply im_go_l);(· exact evS);(· rfl))
  |((with_reducible apply im_go_l0);(· exact evS))
  |((with_reducible apply im_go_gRun);(· rfl);(· rfl))
  |((with_reducible apply im_go_gSkip);(· rfl);(· rfl);(· rfl);(· rfl);(· rfl))
  |((with_reducible apply im_go_gSkip0);(· rfl);(· rfl);(· rfl);(· rfl))
  |((with_reducible apply im_go_gM1);(· rfl);(· rfl);(· exact evS1);(· rfl))
  |((with_reducible apply im_go_gM2);(· rfl);(· rfl);(· exact evS2);(· rfl))
  |((with_reducible apply im_go_gM3);(· rfl);(· rfl);(· exact evS3);(· rfl))
  |((with_reducible apply im_go_gX);(· rfl);(· rfl);(· rfl);(intro hb);(try simp only[hb]);(try simp only[gv_tt,gv_ff,gv_tf,gv_ft,Bool.true_and,Bool.false_and,Bool.true_or,Bool.false_or,pk_true,pk_false]);(rotate_left);(intro hb);(try simp only[hb]);(try simp only[gv_tt,gv_ff,gv_tf,gv_ft,Bool.true_and,Bool.false_and,Bool.true_or,Bool.false_or,pk_true,pk_false]);(rotate_right))
  |((with_reducible apply im_go_gD);(· rfl);(· rfl);(· rfl);(intro hb);(rotate_left);(intro hb);(rotate_right))
  |((with_reducible apply im_go_gB);(· rfl);(· rfl);(· rfl);(intro hb);(rotate_left);(intro hb);(rotate_right))
  |((with_reducible apply im_go_q0);(· exact evS))
  |((with_reducible apply im_go_nilE);(· exact evS);(· exact evS);(· exact evS);(· exact evS);(· rfl);(intro hb);(rotate_left);(intro hb);(rotate_right))
  |((with_reducible apply im_go_nilN);(· exact evS);(· exact evS);(· exact evS);(· exact evS);(· rfl);(intro hb);(rotate_left);(intro hb);(rotate_right))
  |((with_reducible apply im_go_draw);(· exact tabOK);(· exact mixOK);(· first|(simp only[List.append_eq,List.cons_append,List.nil_append];rfl)|rfl);(· kernel_rfl))
  |((with_reducible apply im_dr_s);(· rfl);(· simp only[Nat.reduceAdd];rfl))
  |((with_reducible apply im_sg_q);(· exact evS))
  |((with_reducible apply im_sg_run);(· rfl);(· rfl);(· exact evS))
  |((with_reducible apply im_sg_skip);(· rfl);(· rfl);(· rfl);(· rfl))
  |((with_reducible apply im_sg_M1);(· rfl);(· rfl);(· exact evS1))
  |((with_reducible apply im_sg_M2);(· rfl);(· rfl);(· exact evS2))
  |((with_reducible apply im_sg_M3);(· rfl);(· rfl);(· exact evS3))
  |((with_reducible apply im_sg_D);(· rfl);(· rfl);(intro hb);(rotate_left);(intro hb);(rotate_right))
  |((with_reducible apply im_sg_B);(· rfl);(· rfl);(intro hb);(rotate_left);(intro hb);(rotate_right))
  |((with_reducible apply im_dr_adv2);(· rfl);(· simp only[Nat.reduceAdd];rfl))
  |((with_reducible apply im_dr_done);(· rfl))
  |((with_reducible apply im_dr_so);(· rfl);(· rfl))
  |((with_reducible apply im_dr_L1);(· rfl);(· rfl);(· rfl))
  |((with_reducible apply im_dr_L2);(· rfl);(· rfl);(· rfl);(· rfl))
  |((with_reducible apply im_ld_go))
  |((with_reducible apply im_ld_run);(· rfl);(· rfl))
  |((with_reducible apply im_ld_skip);(· rfl);(· rfl);(· rfl);(· rfl))
  |((with_reducible apply im_ld_X);(· rfl);(· rfl);(intro hb);(try simp only[hb]);(try simp only[gv_tt,gv_ff,gv_tf,gv_ft,Bool.true_and,Bool.false_and,Bool.true_or,Bool.false_or,pk_true,pk_false]);(rotate_left);(intro hb);(try simp only[hb]);(try simp only[gv_tt,gv_ff,gv_tf,gv_ft,Bool.true_and,Bool.false_and,Bool.true_or,Bool.false_or,pk_true,pk_false]);(rotate_right))
  |((with_reducible apply im_ld_D);(· rfl);(· rfl);(intro hb);(rotate_left);(intro hb);(rotate_right))
  |((with_reducible apply im_ld_B);(· rfl);(· rfl);(intro hb);(rotate_left);(intro hb);(rotate_right))
  |((with_reducible apply im_xg_l);(· exact evS))
  |((with_reducible apply im_xg_q);(· exact evS))
  |((with_reducible apply im_ag_mkS);(· conv=>lhs;reduce);(· exact agS))
  |((with_reducible apply im_ag_mkN);(· conv=>lhs;reduce);(· exact agS))
  |((with_reducible apply im_go_label))
  |((with_reducible apply im_go_pred))
  |((with_reducible apply im_go_ret);(· exact evS))
  |((with_reducible apply im_go_end);(· exact evS))
  |((with_reducible apply im_callE);(· first|exact c1|exact c1 _|exact c2|exact c2 _|exact c3|exact c3 _|exact c4|exact c4 _|exact c5|exact c5 _|exact c6|exact c6 _);(· exact evS);(· rfl))
  |((with_reducible apply im_callE2);(· exact evS);(· first|exact c1|exact c1 _|exact c1 _ _|exact c1 _ _ _|exact c2|exact c2 _|exact c2 _ _|exact c2 _ _ _|exact c3|exact c3 _|exact c3 _ _|exact c3 _ _ _|exact c4|exact c4 _|exact c4 _ _|exact c4 _ _ _|exact c5|exact c5 _|exact c5 _ _|exact c5 _ _ _|exact c6|exact c6 _|exact c6 _ _|exact c6 _ _ _);(· rfl))
  |((with_reducible apply im_xcallE2);(· exact evS);(· first|exact c1|exact c1 _|exact c1 _ _|exact c1 _ _ _|exact c2|exact c2 _|exact c2 _ _|exact c2 _ _ _|exact c3|exact c3 _|exact c3 _ _|exact c3 _ _ _|exact c4|exact c4 _|exact c4 _ _|exact c4 _ _ _|exact c5|exact c5 _|exact c5 _ _|exact c5 _ _ _|exact c6|exact c6 _|exact c6 _ _|exact c6 _ _ _))
  |((with_reducible apply im_xcallE);(· first|exact c1|exact c1 _|exact c2|exact c2 _|exact c3|exact c3 _|exact c4|exact c4 _|exact c5|exact c5 _|exact c6|exact c6 _);(· exact evS))
  |((with_reducible apply im_callC);(· exact evS);(· exact evS);(· first|exact v1|exact v1 _|exact v1 _ _|exact v2|exact v2 _|exact v2 _ _|exact v3|exact v3 _|exact v3 _ _);(· rfl))
  |((with_reducible apply im_xcallC);(· exact evS);(· exact evS);(· first|exact v1|exact v1 _|exact v1 _ _|exact v2|exact v2 _|exact v2 _ _|exact v3|exact v3 _|exact v3 _ _))
  |(refine Imp.no ?_;omega)
  |exact Imp.refl _)):p:=h.go k
theorem runO {qq p:Prop} (k:qq) (h:Imp qq p:=by
 repeat' (first
  |((with_reducible apply im_go_seq))
  |((with_reducible apply im_go_q);(· exact evS);(· rfl))
  |((with_reducible apply im_go_nil))
  |((with_reducible apply im_go_region);(· exact tabOK);(· first|(simp only[List.append_eq,List.cons_append,List.nil_append];rfl)|rfl))
  |((with_reducible apply im_go_skip))
  |((with_reducible apply im_go_condT);(· rfl))
  |((with_reducible apply im_go_condF);(· rfl))
  |((with_reducible apply im_go_condDT);(· rfl);(· assumption))
  |((with_reducible apply im_go_condDF);(· rfl);(· assumption))
  |((with_reducible apply im_go_condD);(· rfl);(intro hb);(rotate_left);(intro hb);(rotate_right))
  |((with_reducible apply im_go_condB);(· rfl);(intro hb);(rotate_left);(intro hb);(rotate_right))
  |((with_reducible apply im_go_block))
  |((with_reducible apply im_go_blk))
  |((with_reducible apply im_go_exit);(· rfl))
  |((with_reducible apply im_go_l);(· exact evS);(· rfl))
  |((with_reducible apply im_go_l0);(· exact evS))
  |((with_reducible apply im_go_gRun);(· rfl);(· rfl))
  |((with_reducible apply im_go_gSkip);(· rfl);(· rfl);(· rfl);(· rfl);(· rfl))
  |((with_reducible apply im_go_gSkip0);(· rfl);(· rfl);(· rfl);(· rfl))
  |((with_reducible apply im_go_gD);(· rfl);(· rfl);(· rfl);(intro hb);(rotate_left);(intro hb);(rotate_right))
  |((with_reducible apply im_go_gB);(· rfl);(· rfl);(· rfl);(intro hb);(rotate_left);(intro hb);(rotate_right))
  |((with_reducible apply im_go_q0);(· exact evS))
  |((with_reducible apply im_go_nilE);(· exact evS);(· exact evS);(· exact evS);(· exact evS);(· rfl);(intro hb);(rotate_left);(intro hb);(rotate_right))
  |((with_reducible apply im_go_nilN);(· exact evS);(· exact evS);(· exact evS);(· exact evS);(· rfl);(intro hb);(rotate_left);(intro hb);(rotate_right))
  |((with_reducible apply im_go_draw);(· exact tabOK);(· exact mixOK);(· first|(simp only[List.append_eq,List.cons_append,List.nil_append];rfl)|rfl);(· kernel_rfl))
  |((with_reducible apply im_dr_s);(· rfl);(· simp only[Nat.reduceAdd];rfl))
  |((with_reducible apply im_sg_q);(· exact evS))
  |((with_reducible apply im_sg_run);(· rfl);(· rfl);(· exact evS))
  |((with_reducible apply im_sg_skip);(· rfl);(· rfl);(· rfl);(· rfl))
  |((with_reducible apply im_sg_D);(· rfl);(· rfl);(intro hb);(rotate_left);(intro hb);(rotate_right))
  |((with_reducible apply im_sg_B);(· rfl);(· rfl);(intro hb);(rotate_left);(intro hb);(rotate_right))
  |((with_reducible apply im_dr_adv2);(· rfl);(· simp only[Nat.reduceAdd];rfl))
  |((with_reducible apply im_dr_done);(· rfl))
  |((with_reducible apply im_dr_so);(· rfl);(· rfl))
  |((with_reducible apply im_dr_L1);(· rfl);(· rfl);(· rfl))
  |((with_reducible apply im_dr_L2);(· rfl);(· rfl);(· rfl);(· rfl))
  |((with_reducible apply im_ld_go))
  |((with_reducible apply im_ld_run);(· rfl);(· rfl))
  |((with_reducible apply im_ld_skip);(· rfl);(· rfl);(· rfl);(· rfl))
  |((with_reducible apply im_ld_D);(· rfl);(· rfl);(intro hb);(rotate_left);(intro hb);(rotate_right))
  |((with_reducible apply im_ld_B);(· rfl);(· rfl);(intro hb);(rotate_left);(intro hb);(rotate_right))
  |((with_reducible apply im_xg_l);(· exact evS))
  |((with_reducible apply im_xg_q);(· exact evS))
  |((with_reducible apply im_ag_mkS);(· conv=>lhs;reduce);(· exact agS))
  |((with_reducible apply im_ag_mkN);(· conv=>lhs;reduce);(· exact agS))
  |((with_reducible apply im_go_label))
  |((with_reducible apply im_go_pred))
  |((with_reducible apply im_go_ret);(· exact evS))
  |((with_reducible apply im_go_end);(· exact evS))
  |((with_reducible apply im_callE);(· first|exact c1|exact c1 _|exact c2|exact c2 _|exact c3|exact c3 _|exact c4|exact c4 _|exact c5|exact c5 _|exact c6|exact c6 _);(· exact evS);(· rfl))
  |((with_reducible apply im_callE2);(· exact evS);(· first|exact c1|exact c1 _|exact c1 _ _|exact c1 _ _ _|exact c2|exact c2 _|exact c2 _ _|exact c2 _ _ _|exact c3|exact c3 _|exact c3 _ _|exact c3 _ _ _|exact c4|exact c4 _|exact c4 _ _|exact c4 _ _ _|exact c5|exact c5 _|exact c5 _ _|exact c5 _ _ _|exact c6|exact c6 _|exact c6 _ _|exact c6 _ _ _);(· rfl))
  |((with_reducible apply im_xcallE2);(· exact evS);(· first|exact c1|exact c1 _|exact c1 _ _|exact c1 _ _ _|exact c2|exact c2 _|exact c2 _ _|exact c2 _ _ _|exact c3|exact c3 _|exact c3 _ _|exact c3 _ _ _|exact c4|exact c4 _|exact c4 _ _|exact c4 _ _ _|exact c5|exact c5 _|exact c5 _ _|exact c5 _ _ _|exact c6|exact c6 _|exact c6 _ _|exact c6 _ _ _))
  |((with_reducible apply im_xcallE);(· first|exact c1|exact c1 _|exact c2|exact c2 _|exact c3|exact c3 _|exact c4|exact c4 _|exact c5|exact c5 _|exact c6|exact c6 _);(· exact evS))
  |((with_reducible apply im_callC);(· exact evS);(· exact evS);(· first|exact v1|exact v1 _|exact v1 _ _|exact v2|exact v2 _|exact v2 _ _|exact v3|exact v3 _|exact v3 _ _);(· rfl))
  |((with_reducible apply im_xcallC);(· exact evS);(· exact evS);(· first|exact v1|exact v1 _|exact v1 _ _|exact v2|exact v2 _|exact v2 _ _|exact v3|exact v3 _|exact v3 _ _))
  |(refine Imp.no ?_;omega)
  |exact Imp.refl _)):p:=h.go k
theorem runB {qq p:Prop} (k:qq) (h:Imp qq p:=by
 repeat' (first
  |((with_reducible apply im_go_seq))
  |((with_reducible apply im_go_q);(· exact evS);(· rfl))
  |((with_reducible apply im_go_nil))
  |((with_reducible apply im_go_region);(· exact tabOK);(· first|(simp only[List.append_eq,List.cons_append,List.nil_append];rfl)|rfl))
  |((with_reducible apply im_go_skip))
  |((with_reducible apply im_go_condT);(· rfl))
  |((with_reducible apply im_go_condF);(· rfl))
  |((with_reducible apply im_go_condDT);(· rfl);(· assumption))
  |((with_reducible apply im_go_condDF);(· rfl);(· assumption))
  |((with_reducible apply im_go_condD);(· rfl);(intro hb);(rotate_left);(intro hb);(rotate_right))
  |((with_reducible apply im_go_condB);(· rfl);(intro hb);(rotate_left);(intro hb);(rotate_right))
  |((with_reducible apply im_go_blk))
  |((with_reducible apply im_go_exit);(· rfl))
  |((with_reducible apply im_go_l);(· exact evS);(· rfl))
  |((with_reducible apply im_go_l0);(· exact evS))
  |((with_reducible apply im_go_gRun);(· rfl);(· rfl))
  |((with_reducible apply im_go_gSkip);(· rfl);(· rfl);(· rfl);(· rfl);(· rfl))
  |((with_reducible apply im_go_gSkip0);(· rfl);(· rfl);(· rfl);(· rfl))
  |((with_reducible apply im_go_gD);(· rfl);(· rfl);(· rfl);(intro hb);(rotate_left);(intro hb);(rotate_right))
  |((with_reducible apply im_go_gB);(· rfl);(· rfl);(· rfl);(intro hb);(rotate_left);(intro hb);(rotate_right))
  |((with_reducible apply im_go_q0);(· exact evS))
  |((with_reducible apply im_go_nilE);(· exact evS);(· exact evS);(· exact evS);(· exact evS);(· rfl);(intro hb);(rotate_left);(intro hb);(rotate_right))
  |((with_reducible apply im_go_nilN);(· exact evS);(· exact evS);(· exact evS);(· exact evS);(· rfl);(intro hb);(rotate_left);(intro hb);(rotate_right))
  |((with_reducible apply im_go_draw);(· exact tabOK);(· exact mixOK);(· first|(simp only[List.append_eq,List.cons_append,List.nil_append];rfl)|rfl);(· kernel_rfl))
  |((with_reducible apply im_dr_s);(· rfl);(· simp only[Nat.reduceAdd];rfl))
  |((with_reducible apply im_sg_q);(· exact evS))
  |((with_reducible apply im_sg_run);(· rfl);(· rfl);(· exact evS))
  |((with_reducible apply im_sg_skip);(· rfl);(· rfl);(· rfl);(· rfl))
  |((with_reducible apply im_sg_D);(· rfl);(· rfl);(intro hb);(rotate_left);(intro hb);(rotate_right))
  |((with_reducible apply im_sg_B);(· rfl);(· rfl);(intro hb);(rotate_left);(intro hb);(rotate_right))
  |((with_reducible apply im_dr_adv2);(· rfl);(· simp only[Nat.reduceAdd];rfl))
  |((with_reducible apply im_dr_done);(· rfl))
  |((with_reducible apply im_dr_so);(· rfl);(· rfl))
  |((with_reducible apply im_dr_L1);(· rfl);(· rfl);(· rfl))
  |((with_reducible apply im_dr_L2);(· rfl);(· rfl);(· rfl);(· rfl))
  |((with_reducible apply im_ld_go))
  |((with_reducible apply im_ld_run);(· rfl);(· rfl))
  |((with_reducible apply im_ld_skip);(· rfl);(· rfl);(· rfl);(· rfl))
  |((with_reducible apply im_ld_D);(· rfl);(· rfl);(intro hb);(rotate_left);(intro hb);(rotate_right))
  |((with_reducible apply im_ld_B);(· rfl);(· rfl);(intro hb);(rotate_left);(intro hb);(rotate_right))
  |((with_reducible apply im_xg_l);(· exact evS))
  |((with_reducible apply im_xg_q);(· exact evS))
  |((with_reducible apply im_ag_mkS);(· conv=>lhs;reduce);(· exact agS))
  |((with_reducible apply im_ag_mkN);(· conv=>lhs;reduce);(· exact agS))
  |((with_reducible apply im_go_label))
  |((with_reducible apply im_go_pred))
  |((with_reducible apply im_go_ret);(· exact evS))
  |((with_reducible apply im_go_end);(· exact evS))
  |((with_reducible apply im_callE);(· first|exact c1|exact c1 _|exact c2|exact c2 _|exact c3|exact c3 _|exact c4|exact c4 _|exact c5|exact c5 _|exact c6|exact c6 _);(· exact evS);(· rfl))
  |((with_reducible apply im_callE2);(· exact evS);(· first|exact c1|exact c1 _|exact c1 _ _|exact c1 _ _ _|exact c2|exact c2 _|exact c2 _ _|exact c2 _ _ _|exact c3|exact c3 _|exact c3 _ _|exact c3 _ _ _|exact c4|exact c4 _|exact c4 _ _|exact c4 _ _ _|exact c5|exact c5 _|exact c5 _ _|exact c5 _ _ _|exact c6|exact c6 _|exact c6 _ _|exact c6 _ _ _);(· rfl))
  |((with_reducible apply im_xcallE2);(· exact evS);(· first|exact c1|exact c1 _|exact c1 _ _|exact c1 _ _ _|exact c2|exact c2 _|exact c2 _ _|exact c2 _ _ _|exact c3|exact c3 _|exact c3 _ _|exact c3 _ _ _|exact c4|exact c4 _|exact c4 _ _|exact c4 _ _ _|exact c5|exact c5 _|exact c5 _ _|exact c5 _ _ _|exact c6|exact c6 _|exact c6 _ _|exact c6 _ _ _))
  |((with_reducible apply im_xcallE);(· first|exact c1|exact c1 _|exact c2|exact c2 _|exact c3|exact c3 _|exact c4|exact c4 _|exact c5|exact c5 _|exact c6|exact c6 _);(· exact evS))
  |((with_reducible apply im_callC);(· exact evS);(· exact evS);(· first|exact v1|exact v1 _|exact v1 _ _|exact v2|exact v2 _|exact v2 _ _|exact v3|exact v3 _|exact v3 _ _);(· rfl))
  |((with_reducible apply im_xcallC);(· exact evS);(· exact evS);(· first|exact v1|exact v1 _|exact v1 _ _|exact v2|exact v2 _|exact v2 _ _|exact v3|exact v3 _|exact v3 _ _))
  |(refine Imp.no ?_;omega)
  |exact Imp.refl _)):p:=h.go k
theorem runC {qq p:Prop} (k:qq) (h:Imp qq p:=by
 repeat' (first
  |((with_reducible apply im_go_seq))
  |((with_reducible apply im_go_q);(· exact evS);(· rfl))
  |((with_reducible apply im_go_nil))
  |((with_reducible apply im_go_region);(· exact tabOK);(· first|(simp only[List.append_eq,List.cons_append,List.nil_append];rfl)|rfl))
  |((with_reducible apply im_go_skip))
  |((with_reducible apply im_go_block))
  |((with_reducible apply im_go_blk))
  |((with_reducible apply im_go_exit);(· rfl))
  |((with_reducible apply im_go_l);(· exact evS);(· rfl))
  |((with_reducible apply im_go_l0);(· exact evS))
  |((with_reducible apply im_go_gRun);(· rfl);(· rfl))
  |((with_reducible apply im_go_gSkip);(· rfl);(· rfl);(· rfl);(· rfl);(· rfl))
  |((with_reducible apply im_go_gSkip0);(· rfl);(· rfl);(· rfl);(· rfl))
  |((with_reducible apply im_go_gM1);(· rfl);(· rfl);(· exact evS1);(· rfl))
  |((with_reducible apply im_go_gM2);(· rfl);(· rfl);(· exact evS2);(· rfl))
  |((with_reducible apply im_go_gM3);(· rfl);(· rfl);(· exact evS3);(· rfl))
  |((with_reducible apply im_go_gX);(· rfl);(· rfl);(· rfl);(intro hb);(try simp only[hb]);(try simp only[gv_tt,gv_ff,gv_tf,gv_ft,Bool.true_and,Bool.false_and,Bool.true_or,Bool.false_or,pk_true,pk_false]);(rotate_left);(intro hb);(try simp only[hb]);(try simp only[gv_tt,gv_ff,gv_tf,gv_ft,Bool.true_and,Bool.false_and,Bool.true_or,Bool.false_or,pk_true,pk_false]);(rotate_right))
  |((with_reducible apply im_go_gD);(· rfl);(· rfl);(· rfl);(intro hb);(rotate_left);(intro hb);(rotate_right))
  |((with_reducible apply im_go_gB);(· rfl);(· rfl);(· rfl);(intro hb);(rotate_left);(intro hb);(rotate_right))
  |((with_reducible apply im_go_q0);(· exact evS))
  |((with_reducible apply im_go_nilE);(· exact evS);(· exact evS);(· exact evS);(· exact evS);(· rfl);(intro hb);(rotate_left);(intro hb);(rotate_right))
  |((with_reducible apply im_go_nilN);(· exact evS);(· exact evS);(· exact evS);(· exact evS);(· rfl);(intro hb);(rotate_left);(intro hb);(rotate_right))
  |((with_reducible apply im_go_draw);(· exact tabOK);(· exact mixOK);(· first|(simp only[List.append_eq,List.cons_append,List.nil_append];rfl)|rfl);(· kernel_rfl))
  |((with_reducible apply im_dr_s);(· rfl);(· simp only[Nat.reduceAdd];rfl))
  |((with_reducible apply im_sg_q);(· exact evS))
  |((with_reducible apply im_sg_run);(· rfl);(· rfl);(· exact evS))
  |((with_reducible apply im_sg_skip);(· rfl);(· rfl);(· rfl);(· rfl))
  |((with_reducible apply im_sg_M1);(· rfl);(· rfl);(· exact evS1))
  |((with_reducible apply im_sg_M2);(· rfl);(· rfl);(· exact evS2))
  |((with_reducible apply im_sg_M3);(· rfl);(· rfl);(· exact evS3))
  |((with_reducible apply im_sg_D);(· rfl);(· rfl);(intro hb);(rotate_left);(intro hb);(rotate_right))
  |((with_reducible apply im_sg_B);(· rfl);(· rfl);(intro hb);(rotate_left);(intro hb);(rotate_right))
  |((with_reducible apply im_dr_adv2);(· rfl);(· simp only[Nat.reduceAdd];rfl))
  |((with_reducible apply im_dr_done);(· rfl))
  |((with_reducible apply im_dr_so);(· rfl);(· rfl))
  |((with_reducible apply im_dr_L1);(· rfl);(· rfl);(· rfl))
  |((with_reducible apply im_dr_L2);(· rfl);(· rfl);(· rfl);(· rfl))
  |((with_reducible apply im_ld_go))
  |((with_reducible apply im_ld_run);(· rfl);(· rfl))
  |((with_reducible apply im_ld_skip);(· rfl);(· rfl);(· rfl);(· rfl))
  |((with_reducible apply im_ld_X);(· rfl);(· rfl);(intro hb);(try simp only[hb]);(try simp only[gv_tt,gv_ff,gv_tf,gv_ft,Bool.true_and,Bool.false_and,Bool.true_or,Bool.false_or,pk_true,pk_false]);(rotate_left);(intro hb);(try simp only[hb]);(try simp only[gv_tt,gv_ff,gv_tf,gv_ft,Bool.true_and,Bool.false_and,Bool.true_or,Bool.false_or,pk_true,pk_false]);(rotate_right))
  |((with_reducible apply im_ld_D);(· rfl);(· rfl);(intro hb);(rotate_left);(intro hb);(rotate_right))
  |((with_reducible apply im_ld_B);(· rfl);(· rfl);(intro hb);(rotate_left);(intro hb);(rotate_right))
  |((with_reducible apply im_xg_l);(· exact evS))
  |((with_reducible apply im_xg_q);(· exact evS))
  |((with_reducible apply im_ag_mkS);(· conv=>lhs;reduce);(· exact agS))
  |((with_reducible apply im_ag_mkN);(· conv=>lhs;reduce);(· exact agS))
  |((with_reducible apply im_go_label))
  |((with_reducible apply im_go_pred))
  |((with_reducible apply im_go_ret);(· exact evS))
  |((with_reducible apply im_go_end);(· exact evS))
  |((with_reducible apply im_callE);(· first|exact c1|exact c1 _|exact c2|exact c2 _|exact c3|exact c3 _|exact c4|exact c4 _|exact c5|exact c5 _|exact c6|exact c6 _);(· exact evS);(· rfl))
  |((with_reducible apply im_callE2);(· exact evS);(· first|exact c1|exact c1 _|exact c1 _ _|exact c1 _ _ _|exact c2|exact c2 _|exact c2 _ _|exact c2 _ _ _|exact c3|exact c3 _|exact c3 _ _|exact c3 _ _ _|exact c4|exact c4 _|exact c4 _ _|exact c4 _ _ _|exact c5|exact c5 _|exact c5 _ _|exact c5 _ _ _|exact c6|exact c6 _|exact c6 _ _|exact c6 _ _ _);(· rfl))
  |((with_reducible apply im_xcallE2);(· exact evS);(· first|exact c1|exact c1 _|exact c1 _ _|exact c1 _ _ _|exact c2|exact c2 _|exact c2 _ _|exact c2 _ _ _|exact c3|exact c3 _|exact c3 _ _|exact c3 _ _ _|exact c4|exact c4 _|exact c4 _ _|exact c4 _ _ _|exact c5|exact c5 _|exact c5 _ _|exact c5 _ _ _|exact c6|exact c6 _|exact c6 _ _|exact c6 _ _ _))
  |((with_reducible apply im_xcallE);(· first|exact c1|exact c1 _|exact c2|exact c2 _|exact c3|exact c3 _|exact c4|exact c4 _|exact c5|exact c5 _|exact c6|exact c6 _);(· exact evS))
  |((with_reducible apply im_callC);(· exact evS);(· exact evS);(· first|exact v1|exact v1 _|exact v1 _ _|exact v2|exact v2 _|exact v2 _ _|exact v3|exact v3 _|exact v3 _ _);(· rfl))
  |((with_reducible apply im_xcallC);(· exact evS);(· exact evS);(· first|exact v1|exact v1 _|exact v1 _ _|exact v2|exact v2 _|exact v2 _ _|exact v3|exact v3 _|exact v3 _ _))
  |(refine Imp.no ?_;omega)
  |exact Imp.refl _)):p:=h.go k
section
variable {P:Program} {G:Gl} {T:Tab} {own:List Nat} {nt B:Nat} {ρ:Option Nat} {C:Cx} {rs:List ResultVar} {R:SV→List Blk→Prop} {env env2:Env} {H X KB:List Blk} {k:List It}
theorem wkS (ks:Keep) {n0:Nat} (hG:GClosed G) (hB:Based G C.H.length) (hC:C.H.length=n0) (hcl:closed H) (hn:H.length=n0:=by first|rfl|(simp;done)|exact hlen _) (hk:KeepB (H++X) n0 ks ks KB:=by exact frzS) (hd:(ks.map (·.1)).Nodup:=by first|rfl|decide|simp) (he:subEnvF (H++X) n0 ks env2 env:=by exact frzS):Wk G nt C ⟨env,H++X⟩ ⟨env2,H++KB⟩:=Wk.keepN ks hG hB hn hC hcl hk hd he
variable {all r:List Oper} {ty d j dj:Nat} {op:Op} {pos:String} {after:Array Edge} {v:SV} {want:Bool} {dst:Option Nat} {kk:SV→List Blk→Prop}
variable {R':SV→List Blk→Prop} {xs:List SV} {f:Operand} {fv:SV} {args:Array Operand} {tys:Array Nat} {g:FuncId}
theorem callS (hc:ACall P G g xs H R') (hk:∀ x H',R' x H'→(Out P G T own nt ρ C rs R) (.ops all r::k) .normal ((d,x)::env) H') (h2:evs G env args.toList=some xs:=by exact evS) (hd:Nat.blt d nt=true:=by rfl):(Out P G T own nt ρ C rs R) (.ops all (⟨some d,.call ⟨.value (.func g),args,tys⟩,ty,pos,after,none⟩::r)::k) .normal env H:=go_call h2 hd hc hk
theorem callV (hc:ACallV P G fv xs H R') (hk:∀ x H',R' x H'→(Out P G T own nt ρ C rs R) (.ops all r::k) .normal ((d,x)::env) H') (h1:ev G env f=some fv:=by exact evS) (h2:evs G env args.toList=some xs:=by exact evS) (hd:Nat.blt d nt=true:=by rfl):(Out P G T own nt ρ C rs R) (.ops all (⟨some d,.call ⟨.value f,args,tys⟩,ty,pos,after,none⟩::r)::k) .normal env H:=go_callV h1 h2 hd hc hk
theorem xcallS (hc:ACall P G g xs H R') (hk:∀ x H',R' x H'→kk x H') (h2:evs G env args.toList=some xs:=by exact evS):exG P G T own all ⟨dst,.call ⟨.value (.func g),args,tys⟩,ty,pos,after,none⟩ env H kk:=xg_call h2 hc hk
theorem finS {R0:SV→List Blk→Prop} {n0:Nat} (hR:Back (∀ y H',R0 y H'→R y H')) (hC:C.H.length=n0) (hcl:closed H) {x y:SV} (hx:Frz (H++X) n0 [] x y) (h:R0 y H) (hn:H.length=n0:=by first|rfl|(simp;done)|exact hlen _):Fin C (H++X) x R:=Fin.tellN hR hn hC hcl hx h
theorem finK (ks:Keep) {R0:SV→List Blk→Prop} {n0:Nat} (y:SV) (KB:List Blk) (hR:Back (∀ y H',R0 y H'→R y H')) (hC:C.H.length=n0) (hcl:closed H) {x:SV} (h:R0 y (H++KB)) (hk:KeepB (H++X) n0 ks ks KB:=by exact frzS) (hd:(ks.map (·.1)).Nodup:=by first|rfl|decide|simp) (hx:Frz (H++X) n0 ks x y:=by exact frzS) (hn:H.length=n0:=by first|rfl|(simp;done)|exact hlen _):Fin C (H++X) x R:=Fin.keepN ks hR hn hC hcl hk hd hx h
end
end
end Go.Proofs.YtedejleokilohaaGreatDoor
