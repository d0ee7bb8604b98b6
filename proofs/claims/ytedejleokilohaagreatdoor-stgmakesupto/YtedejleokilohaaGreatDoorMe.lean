/- A part of the proof: SwH. Names and spaces are cut short by program. -/
import Derived.Test.YtedejleokilohaaGreatDoorMd
import Derived.KernelRfl
set_option linter.unusedSimpArgs false
set_option linter.unusedVariables false
set_option maxRecDepth 10000
set_option maxHeartbeats 4000000
namespace Go.Proofs.YtedejleokilohaaGreatDoor
open Go
section
structure bD (q p:Prop):Prop where
 go:q→p
theorem bD.refl (p:Prop):bD p p:=⟨id⟩
theorem bD.via {q a b:Prop} (h:a→b) (k:bD q a):bD q b:=⟨fun x=>h (k.go x)⟩
structure af (c d:Prop) (A:c→Prop) (B:d→Prop):Prop where
 l:∀ x:c,A x
 r:∀ x:d,B x
structure ax (A B:Prop):Prop where
 l:A
 r:B
theorem bD.fork {c d A B p:Prop} {qa:c→Prop} {qb:d→Prop} (h:(c→A)→(d→B)→p) (l:∀ x:c,bD (qa x) A) (r:∀ x:d,bD (qb x) B):bD (af c d qa qb) p:=⟨fun f=>h (fun x=>(l x).go (f.l x)) (fun x=>(r x).go (f.r x))⟩
theorem bD.two {A B qa qb p:Prop} (h:A→B→p) (l:bD qa A) (r:bD qb B):bD (ax qa qb) p:=⟨fun f=>h (l.go f.l) (r.go f.r)⟩
theorem bD.no {p:Prop} (h:False):bD True p:=h.elim
def MN:Prop:=(1=0)=False
theorem aO:MN:=by unfold MN;simp
theorem Ig {σ:Type} (Hs:σ→List az) (n0:Nat) (hlen:∀ i,(Hs i).length=n0):(∀ i,(Hs i).length=n0)∧(∀ i L,(Hs i++L)[n0]? =L[0]?)∧(∀ i L k,(Hs i++L)[n0+k]? =L[k]?)∧(∀ i L x,(Hs i++L).set n0 x=Hs i++L.set 0 x)∧(∀ i L k x,(Hs i++L).set (n0+k) x=Hs i++L.set k x):=
 ⟨hlen,fun i L=>by rw[← hlen i];exact dh _ _,fun i L k=>by rw[← hlen i];exact bJ _ _ _,fun i L x=>by rw[← hlen i];exact dB _ _ _,fun i L k x=>by rw[← hlen i];exact cq _ _ _ _⟩
section
variable {qq qa qb:Prop}
variable {P:Program} {G:Gl} {T:aE} {own:List Nat} {nt B:Nat} {ρ:Option Nat} {C:Cx} {rs:List ResultVar} {R:SV→List az→Prop} {env env2:Env} {H H':List az} {k:List It}
variable {all r:List Oper} {ty d j dj:Nat} {op:Op} {pos:String} {after:Array Edge} {v:SV} {want:Bool}
variable {R':SV→List az→Prop} {xs:List SV} {f:Operand} {fv:SV} {args:Array Operand} {tys:Array Nat} {g:FuncId}
theorem j1 {x y:Code} (kq:bD qq ((Out P G T own nt ρ C rs R) (.code x:: .code y::k) .normal env H)):bD qq ((Out P G T own nt ρ C rs R) (.code (.seq x y)::k) .normal env H):=bD.via (C2) kq
theorem oc (h:qv G T own env H (some d) ty op=some v) (hd:Nat.blt d nt=true) (kq:bD qq ((Out P G T own nt ρ C rs R) (.ops all r::k) .normal ((d,v)::env) H)):bD qq ((Out P G T own nt ρ C rs R) (.ops all (⟨some d,op,ty,pos,after,none⟩::r)::k) .normal env H):=bD.via (Ia h hd) kq
theorem lQ (h:qv G T own env H none ty op=some v) (kq:bD qq ((Out P G T own nt ρ C rs R) (.ops all r::k) .normal env H)):bD qq ((Out P G T own nt ρ C rs R) (.ops all (⟨none,op,ty,pos,after,none⟩::r)::k) .normal env H):=bD.via (Ib h) kq
theorem jY {all:List Oper} (kq:bD qq ((Out P G T own nt ρ C rs R) k .normal env H)):bD qq ((Out P G T own nt ρ C rs R) (.ops all []::k) .normal env H):=bD.via (CY) kq
theorem fR (hT:aq P T) {id:Nat} {ops:Array Oper} {l:List Oper} (hl:ops=⟨l⟩) (kq:bD qq ((Out P G T own nt ρ C rs R) (.ops l l::k) .normal env H)):bD qq ((Out P G T own nt ρ C rs R) (.code (.region id ops false)::k) .normal env H):=bD.via (A5 hT hl) kq
theorem iE (kq:bD qq ((Out P G T own nt ρ C rs R) k .normal env H)):bD qq ((Out P G T own nt ρ C rs R) (.code .skip::k) .normal env H):=bD.via (zT) kq
theorem gE {l:Nat} (kq:bD qq ((Out P G T own nt ρ C rs R) k .normal env H)):bD qq ((Out P G T own nt ρ C rs R) (.code (.label l)::k) .normal env H):=bD.via (CX) kq
theorem jf {t:Nat} {p q:Code} (h1:look env t=some (.bool true)) (kq:bD qq ((Out P G T own nt ρ C rs R) (.code p::k) .normal env H)):bD qq ((Out P G T own nt ρ C rs R) (.code (.cond (.tmp t) p q)::k) .normal env H):=bD.via (CT h1) kq
theorem je {t:Nat} {p q:Code} (h1:look env t=some (.bool false)) (kq:bD qq ((Out P G T own nt ρ C rs R) (.code q::k) .normal env H)):bD qq ((Out P G T own nt ρ C rs R) (.code (.cond (.tmp t) p q)::k) .normal env H):=bD.via (rC h1) kq
theorem gP {t:Nat} {p q:Code} {a:Prop} {inst:Decidable a} (h1:look env t=some (.bool (decide a))) (ha:a) (kq:bD qq ((Out P G T own nt ρ C rs R) (.code p::k) .normal ((t,.bool true)::env) H)):bD qq ((Out P G T own nt ρ C rs R) (.code (.cond (.tmp t) p q)::k) .normal env H):=bD.via (gd h1 ha) kq
theorem gO {t:Nat} {p q:Code} {a:Prop} {inst:Decidable a} (h1:look env t=some (.bool (decide a))) (ha:¬ a) (kq:bD qq ((Out P G T own nt ρ C rs R) (.code q::k) .normal ((t,.bool false)::env) H)):bD qq ((Out P G T own nt ρ C rs R) (.code (.cond (.tmp t) p q)::k) .normal env H):=bD.via (gV h1 ha) kq
theorem jb {id:Nat} {x:Code} (kq:bD qq ((Out P G T own nt ρ C rs R) (.code x:: .eS id::k) .normal env H)):bD qq ((Out P G T own nt ρ C rs R) (.code (.block id x)::k) .normal env H):=bD.via (CS) kq
theorem jW {id:Nat} (kq:bD qq ((Out P G T own nt ρ C rs R) k .normal env H)):bD qq ((Out P G T own nt ρ C rs R) (.eS id::k) .normal env H):=bD.via (GK) kq
theorem iz {id:Nat} {k':List It} (hu:HI id k=some k') (kq:bD qq ((Out P G T own nt ρ C rs R) k' .normal env H)):bD qq ((Out P G T own nt ρ C rs R) (.code (.exit id)::k) .normal env H):=bD.via (Fg hu) kq
theorem n9 (h:lv G T own env H (some d) ty op=some (v,H')) (hd:Nat.blt d nt=true) (kq:bD qq ((Out P G T own nt ρ C rs R) (.ops all r::k) .normal ((d,v)::env) H')):bD qq ((Out P G T own nt ρ C rs R) (.ops all (⟨some d,op,ty,pos,after,none⟩::r)::k) .normal env H):=bD.via (KZ h hd) kq
theorem lP (h:lv G T own env H none ty op=some (v,H')) (kq:bD qq ((Out P G T own nt ρ C rs R) (.ops all r::k) .normal env H')):bD qq ((Out P G T own nt ρ C rs R) (.ops all (⟨none,op,ty,pos,after,none⟩::r)::k) .normal env H):=bD.via (H9 h) kq
theorem iA {dst:Option Nat} (h1:(all[j]?).bind (·.dst)=some dj) (h2:look env dj=some (.bool want)) (kq:bD qq ((Out P G T own nt ρ C rs R) (.ops all (⟨dst,op,ty,pos,after,none⟩::r)::k) .normal env H)):bD qq ((Out P G T own nt ρ C rs R) (.ops all (⟨dst,op,ty,pos,after,some (j,want)⟩::r)::k) .normal env H):=bD.via (zS h1 h2) kq
theorem gD {v:SV} {b:Option Bool} (h1:(all[j]?).bind (·.dst)=some dj) (h2:look env dj=some v) (h3:uI v=some b) (hb:(b==some want)=false) (hd:Nat.blt d nt=true) (kq:bD qq ((Out P G T own nt ρ C rs R) (.ops all r::k) .normal ((d,.undef)::env) H)):bD qq ((Out P G T own nt ρ C rs R) (.ops all (⟨some d,op,ty,pos,after,some (j,want)⟩::r)::k) .normal env H):=bD.via (nY h1 h2 h3 hb hd) kq
theorem fQ {v:SV} {b:Option Bool} (h1:(all[j]?).bind (·.dst)=some dj) (h2:look env dj=some v) (h3:uI v=some b) (hb:(b==some want)=false) (kq:bD qq ((Out P G T own nt ρ C rs R) (.ops all r::k) .normal env H)):bD qq ((Out P G T own nt ρ C rs R) (.ops all (⟨none,op,ty,pos,after,some (j,want)⟩::r)::k) .normal env H):=bD.via (A3 h1 h2 h3 hb) kq
theorem pg {b:Bool} (h1:(all[j]?).bind (·.dst)=some dj) (h2:look env dj=some (.bool b)) (hv:b=want→qv G T own env H (some d) ty op=some v) (hd:Nat.blt d nt=true) (kq:bD qq ((Out P G T own nt ρ C rs R) (.ops all r::k) .normal ((d,gv b want v)::env) H)):bD qq ((Out P G T own nt ρ C rs R) (.ops all (⟨some d,op,ty,pos,after,some (j,want)⟩::r)::k) .normal env H):=bD.via (CV h1 h2 hv hd) kq
theorem ph {b b1 w1:Bool} (h1:(all[j]?).bind (·.dst)=some dj) (h2:look env dj=some (gv b1 w1 (.bool b))) (hv:b1=w1→b=want→qv G T own env H (some d) ty op=some v) (hd:Nat.blt d nt=true) (kq:bD qq ((Out P G T own nt ρ C rs R) (.ops all r::k) .normal ((d,gv b1 w1 (gv b want v))::env) H)):bD qq ((Out P G T own nt ρ C rs R) (.ops all (⟨some d,op,ty,pos,after,some (j,want)⟩::r)::k) .normal env H):=bD.via (CW h1 h2 hv hd) kq
theorem pj {b b1 w1 b2 w2:Bool} (h1:(all[j]?).bind (·.dst)=some dj) (h2:look env dj=some (gv b1 w1 (gv b2 w2 (.bool b)))) (hv:b1=w1→b2=w2→b=want→qv G T own env H (some d) ty op=some v) (hd:Nat.blt d nt=true) (kq:bD qq ((Out P G T own nt ρ C rs R) (.ops all r::k) .normal ((d,gv b1 w1 (gv b2 w2 (gv b want v)))::env) H)):bD qq ((Out P G T own nt ρ C rs R) (.ops all (⟨some d,op,ty,pos,after,some (j,want)⟩::r)::k) .normal env H):=bD.via (GM h1 h2 hv hd) kq
theorem iD {K:Env→List az→Prop} (kq:bD qq (K env H)):bD qq ((Out P G T own nt ρ C rs R) (.pred K::k) .normal env H):=bD.via (Fk) kq
theorem jZ {xs:List SV} (h1:iJ T env H rs=some xs) (kq:bD qq (Fin C H (bA xs) R)):bD qq ((Out P G T own nt ρ C rs R) (.code .ret::k) .normal env H):=bD.via (GO h1) kq
theorem jX {xs:List SV} (h1:iJ T env H rs=some xs) (kq:bD qq (Fin C H (bA xs) R)):bD qq ((Out P G T own nt ρ C rs R) [] .normal env H):=bD.via (GL h1) kq
theorem jc {t:Nat} {p q:Code} {b:Bool} (h1:look env t=some (.bool b)) {qa:b=true→Prop} {qb:b=false→Prop} (lq:∀ x:b=true,bD (qa x) ((Out P G T own nt ρ C rs R) (.code p::k) .normal ((t,.bool true)::env) H)) (rq:∀ x:b=false,bD (qb x) ((Out P G T own nt ρ C rs R) (.code q::k) .normal ((t,.bool false)::env) H)):bD (af (b=true) (b=false) qa qb) ((Out P G T own nt ρ C rs R) (.code (.cond (.tmp t) p q)::k) .normal env H):=bD.fork (wU h1) lq rq
theorem jd {t:Nat} {p q:Code} {a:Prop} {inst:Decidable a} (h1:look env t=some (.bool (decide a))) {qa:a→Prop} {qb:¬ a→Prop} (lq:∀ x:a,bD (qa x) ((Out P G T own nt ρ C rs R) (.code p::k) .normal ((t,.bool true)::env) H)) (rq:∀ x:¬ a,bD (qb x) ((Out P G T own nt ρ C rs R) (.code q::k) .normal ((t,.bool false)::env) H)):bD (af (a) (¬ a) qa qb) ((Out P G T own nt ρ C rs R) (.code (.cond (.tmp t) p q)::k) .normal env H):=bD.fork (nX h1) lq rq
theorem lN {o:Oper} {b:Bool} (hg:o.guard=some (j,want)) (h1:(all[j]?).bind (·.dst)=some dj) (h2:look env dj=some (.bool b)) {qa:b=true→Prop} {qb:b=false→Prop} (lq:∀ x:b=true,bD (qa x) ((Out P G T own nt ρ C rs R) (.ops all (o::r)::k) .normal ((dj,.bool true)::env) H)) (rq:∀ x:b=false,bD (qb x) ((Out P G T own nt ρ C rs R) (.ops all (o::r)::k) .normal ((dj,.bool false)::env) H)):bD (af (b=true) (b=false) qa qb) ((Out P G T own nt ρ C rs R) (.ops all (o::r)::k) .normal env H):=bD.fork (Gh hg h1 h2) lq rq
theorem lO {o:Oper} {a:Prop} {inst:Decidable a} (hg:o.guard=some (j,want)) (h1:(all[j]?).bind (·.dst)=some dj) (h2:look env dj=some (.bool (decide a))) {qa:a→Prop} {qb:¬ a→Prop} (lq:∀ x:a,bD (qa x) ((Out P G T own nt ρ C rs R) (.ops all (o::r)::k) .normal ((dj,.bool true)::env) H)) (rq:∀ x:¬ a,bD (qb x) ((Out P G T own nt ρ C rs R) (.ops all (o::r)::k) .normal ((dj,.bool false)::env) H)):bD (af (a) (¬ a) qa qb) ((Out P G T own nt ρ C rs R) (.ops all (o::r)::k) .normal env H):=bD.fork (H7 hg h1 h2) lq rq
theorem iB {x y:Operand} {X:SV} {t yt n:Nat} (h1:ev G env x=some X) (h2:ev G env y=some .nil) (h3:fE T t=2) (h4:oP H X=some n) (hd:Nat.blt d nt=true) {qa:n=0→Prop} {qb:True→Prop} (lq:∀ x:n=0,bD (qa x) ((Out P G T own nt ρ C rs R) (.ops all r::k) .normal ((d,.bool true)::env) H)) (rq:∀ x:True,bD (qb x) ((Out P G T own nt ρ C rs R) (.ops all r::k) .normal ((d,.bool false)::env) H)):bD (af (n=0) (True) qa qb) ((Out P G T own nt ρ C rs R) (.ops all (⟨some d,.binOp .eql t x y yt,ty,pos,after,none⟩::r)::k) .normal env H):=bD.fork (Fi h1 h2 h3 h4 hd) lq rq
theorem iC {x y:Operand} {X:SV} {t yt n:Nat} (h1:ev G env x=some X) (h2:ev G env y=some .nil) (h3:fE T t=2) (h4:oP H X=some n) (hd:Nat.blt d nt=true) {qa:n=0→Prop} {qb:True→Prop} (lq:∀ x:n=0,bD (qa x) ((Out P G T own nt ρ C rs R) (.ops all r::k) .normal ((d,.bool false)::env) H)) (rq:∀ x:True,bD (qb x) ((Out P G T own nt ρ C rs R) (.ops all r::k) .normal ((d,.bool true)::env) H)):bD (af (n=0) (True) qa qb) ((Out P G T own nt ρ C rs R) (.ops all (⟨some d,.binOp .neq t x y yt,ty,pos,after,none⟩::r)::k) .normal env H):=bD.fork (Fj h1 h2 h3 h4 hd) lq rq
theorem rG {o:Oper} {b1 w1:Bool} {u:SV} (hg:o.guard=some (j,want)) (h1:(all[j]?).bind (·.dst)=some dj) (h2:look env dj=some (gv b1 w1 u)) {qa:b1=true→Prop} {qb:b1=false→Prop} (lq:∀ x:b1=true,bD (qa x) ((Out P G T own nt ρ C rs R) (.ops all (o::r)::k) .normal env H)) (rq:∀ x:b1=false,bD (qb x) ((Out P G T own nt ρ C rs R) (.ops all (o::r)::k) .normal env H)):bD (af (b1=true) (b1=false) qa qb) ((Out P G T own nt ρ C rs R) (.ops all (o::r)::k) .normal env H):=bD.fork (fun l r=>H8 hg h1 h2 fun c e=>by cases c with
 |true=>exact l e
 |false=>exact r e) lq rq
end
section
variable {qq qa qb:Prop}
variable {P:Program} {G:Gl} {T:aE} {own:List Nat} {nt B:Nat} {ρ:Option Nat} {C:Cx} {rs:List ResultVar} {R:SV→List az→Prop} {env env2:Env} {H H':List az} {k:List It}
variable {all:List Oper} {L:List Nat} {n i j ty d:Nat} {op:Op} {pos:String} {after:Array Edge} {v:SV} {o:Oper} {K:Env→List az→Prop}
variable {m:Nat} {ex:List Nat} {kk:SV→List az→Prop} {dst:Option Nat} {want b:Bool} {dj i0:Nat}
variable {R':SV→List az→Prop} {xs:List SV} {f:Operand} {fv:SV} {args:Array Operand} {tys:Array Nat} {g:FuncId}
theorem kK (hT:aq P T) (hm:P.follows .mixedOrders=true) {id:Nat} {ops:Array Oper} {l:List Oper} (hl:ops=⟨l⟩) (hok:eG nt l=true) (kq:bD qq (fx P G T own l 200 0 [] env H (fun env H=>(Out P G T own nt ρ C rs R) k .normal env H))):bD qq ((Out P G T own nt ρ C rs R) (.code (.region id ops true)::k) .normal env H):=bD.via (Ff hT hm hl hok) kq
theorem n8 {m2:Nat} (hs:xV own all m ex=some o) (hm:m+1=m2) (kq:bD qq ((mL P G T own all) n m2 ex o env H K)):bD qq ((fx P G T own all) (n+1) m ex env H K):=bD.via (KV hs hm) kq
theorem iw {m2:Nat} (hm:fq m ex=true) (h2:m+1=m2) (kq:bD qq ((fx P G T own all) n m2 ex env H K)):bD qq ((fx P G T own all) n m ex env H K):=bD.via (E5 hm h2) kq
theorem iy (hm:Nat.ble all.length m=true) (kq:bD qq ((Out P G T own nt ρ C rs R) k .normal env H)):bD qq ((fx P G T own all) (n+1) m ex env H (fun env H=>(Out P G T own nt ρ C rs R) k .normal env H)):=bD.via (E6 hm) kq
theorem lM (hf:eH own m ex 0 all=some i) (ho:all[i]? =some o) (kq:bD qq ((mL P G T own all) n m (i::ex) o env H K)):bD qq ((fx P G T own all) (n+1) m ex env H K):=bD.via (H3 hf ho) kq
theorem lK (hf:eH own m ex 0 all=none) (hr:fe m ex 0 all=[j]) (ho:all[j]? =some o) (kq:bD qq ((Ld P G T own all) n m ex j o env H K)):bD qq ((fx P G T own all) (n+1) m ex env H K):=bD.via (HW hf hr ho) kq
theorem om (hv:qv G T own env H (some d) ty op=some v) (kq:bD qq ((fx P G T own all) n m ex ((d,v)::env) H K)):bD qq ((mL P G T own all) n m ex ⟨some d,op,ty,pos,after,none⟩ env H K):=bD.via (MH hv) kq
theorem j4 {dj:Nat} {want:Bool} (h1:(all[j]?).bind (·.dst)=some dj) (h2:look env dj=some (.bool want)) (hv:qv G T own env H (some d) ty op=some v) (kq:bD qq ((fx P G T own all) n m ex ((d,v)::env) H K)):bD qq ((mL P G T own all) n m ex ⟨some d,op,ty,pos,after,some (j,want)⟩ env H K):=bD.via (D9 h1 h2 hv) kq
theorem iG {dj:Nat} {want:Bool} {u:SV} {b:Option Bool} (h1:(all[j]?).bind (·.dst)=some dj) (h2:look env dj=some u) (h3:uI u=some b) (hb:(b==some want)=false) (kq:bD qq ((fx P G T own all) n m ex ((d,.undef)::env) H K)):bD qq ((mL P G T own all) n m ex ⟨some d,op,ty,pos,after,some (j,want)⟩ env H K):=bD.via (qE h1 h2 h3 hb) kq
theorem rH {dj:Nat} {want b:Bool} (h1:(all[j]?).bind (·.dst)=some dj) (h2:look env dj=some (.bool b)) (hv:b=want→qv G T own env H (some d) ty op=some v) (kq:bD qq ((fx P G T own all) n m ex ((d,gv b want v)::env) H K)):bD qq ((mL P G T own all) n m ex ⟨some d,op,ty,pos,after,some (j,want)⟩ env H K):=bD.via (Gn h1 h2 hv) kq
theorem rI {dj:Nat} {want b b1 w1:Bool} (h1:(all[j]?).bind (·.dst)=some dj) (h2:look env dj=some (gv b1 w1 (.bool b))) (hv:b1=w1→b=want→qv G T own env H (some d) ty op=some v) (kq:bD qq ((fx P G T own all) n m ex ((d,gv b1 w1 (gv b want v))::env) H K)):bD qq ((mL P G T own all) n m ex ⟨some d,op,ty,pos,after,some (j,want)⟩ env H K):=bD.via (Gp h1 h2 hv) kq
theorem rJ {dj:Nat} {want b b1 w1 b2 w2:Bool} (h1:(all[j]?).bind (·.dst)=some dj) (h2:look env dj=some (gv b1 w1 (gv b2 w2 (.bool b)))) (hv:b1=w1→b2=w2→b=want→qv G T own env H (some d) ty op=some v) (kq:bD qq ((fx P G T own all) n m ex ((d,gv b1 w1 (gv b2 w2 (gv b want v)))::env) H K)):bD qq ((mL P G T own all) n m ex ⟨some d,op,ty,pos,after,some (j,want)⟩ env H K):=bD.via (Ky h1 h2 hv) kq
theorem lR {dst:Option Nat} (kq:bD qq (la P G T own all ⟨dst,op,ty,pos,after,none⟩ env H fun x H'=>uC G T own all i0 m ex (cX dst x env) H'∧(fx P G T own all) n m (i0::ex) (cX dst x env) H' K)):bD qq ((Ld P G T own all) n m ex i0 ⟨dst,op,ty,pos,after,none⟩ env H K):=bD.via (Ij) kq
theorem j3 {dst:Option Nat} {dj:Nat} {want:Bool} (h1:(all[j]?).bind (·.dst)=some dj) (h2:look env dj=some (.bool want)) (kq:bD qq (la P G T own all ⟨dst,op,ty,pos,after,none⟩ env H fun x H'=>uC G T own all i0 m ex (cX dst x env) H'∧(fx P G T own all) n m (i0::ex) (cX dst x env) H' K)):bD qq ((Ld P G T own all) n m ex i0 ⟨dst,op,ty,pos,after,some (j,want)⟩ env H K):=bD.via (GW h1 h2) kq
theorem iF {dst:Option Nat} {dj:Nat} {want:Bool} {u:SV} {bo:Option Bool} (h1:(all[j]?).bind (·.dst)=some dj) (h2:look env dj=some u) (h3:uI u=some bo) (hb:(bo==some want)=false) (kq:bD qq (uC G T own all i0 m ex (cX dst .undef env) H∧(fx P G T own all) n m (i0::ex) (cX dst .undef env) H K)):bD qq ((Ld P G T own all) n m ex i0 ⟨dst,op,ty,pos,after,some (j,want)⟩ env H K):=bD.via (Fu h1 h2 h3 hb) kq
theorem oq (h:lv G T own env H dst ty op=some (v,H')) (kq:bD qq (kk v H')):bD qq (la P G T own all ⟨dst,op,ty,pos,after,none⟩ env H kk):=bD.via (MK h) kq
theorem ot (h:qv G T own env H dst ty op=some v) (kq:bD qq (kk v H)):bD qq (la P G T own all ⟨dst,op,ty,pos,after,none⟩ env H kk):=bD.via (ML h) kq
theorem jU {x:SV} {l:List Nat} (h1:yc own all (di (jE all) j) m++yb own all (di (jE all) j) ex=l) (h2:eI G T own all ((d,x)::env) H l) (kq:bD qq ((fx P G T own all) n m (j::ex) ((d,x)::env) H K)):bD qq (uC G T own all j m ex (cX (some d) x env) H∧(fx P G T own all) n m (j::ex) (cX (some d) x env) H K):=bD.via (Gx h1 h2) kq
theorem jT {x:SV} {l:List Nat} (h1:yc own all (di (jE all) j) m++yb own all (di (jE all) j) ex=l) (h2:eI G T own all env H l) (kq:bD qq ((fx P G T own all) n m (j::ex) env H K)):bD qq (uC G T own all j m ex (cX none x env) H∧(fx P G T own all) n m (j::ex) (cX none x env) H K):=bD.via (Gw h1 h2) kq
theorem og {dj:Nat} {want b:Bool} (h1:(all[j]?).bind (·.dst)=some dj) (h2:look env dj=some (.bool b)) {qa:b=true→Prop} {qb:b=false→Prop} (lq:∀ x:b=true,bD (qa x) ((mL P G T own all) n m ex ⟨some d,op,ty,pos,after,some (j,want)⟩ ((dj,.bool true)::env) H (fun env H=>(Out P G T own nt ρ C rs R) k .normal env H))) (rq:∀ x:b=false,bD (qb x) ((mL P G T own all) n m ex ⟨some d,op,ty,pos,after,some (j,want)⟩ ((dj,.bool false)::env) H (fun env H=>(Out P G T own nt ρ C rs R) k .normal env H))):bD (af (b=true) (b=false) qa qb) ((mL P G T own all) n m ex ⟨some d,op,ty,pos,after,some (j,want)⟩ env H (fun env H=>(Out P G T own nt ρ C rs R) k .normal env H)):=bD.fork (Kx h1 h2) lq rq
theorem oh {dj:Nat} {want:Bool} {a:Prop} {inst:Decidable a} (h1:(all[j]?).bind (·.dst)=some dj) (h2:look env dj=some (.bool (decide a))) {qa:a→Prop} {qb:¬ a→Prop} (lq:∀ x:a,bD (qa x) ((mL P G T own all) n m ex ⟨some d,op,ty,pos,after,some (j,want)⟩ ((dj,.bool true)::env) H (fun env H=>(Out P G T own nt ρ C rs R) k .normal env H))) (rq:∀ x:¬ a,bD (qb x) ((mL P G T own all) n m ex ⟨some d,op,ty,pos,after,some (j,want)⟩ ((dj,.bool false)::env) H (fun env H=>(Out P G T own nt ρ C rs R) k .normal env H))):bD (af (a) (¬ a) qa qb) ((mL P G T own all) n m ex ⟨some d,op,ty,pos,after,some (j,want)⟩ env H (fun env H=>(Out P G T own nt ρ C rs R) k .normal env H)):=bD.fork (MG h1 h2) lq rq
theorem od {dst:Option Nat} {dj:Nat} {want b:Bool} (h1:(all[j]?).bind (·.dst)=some dj) (h2:look env dj=some (.bool b)) {qa:b=true→Prop} {qb:b=false→Prop} (lq:∀ x:b=true,bD (qa x) ((Ld P G T own all) n m ex i0 ⟨dst,op,ty,pos,after,some (j,want)⟩ ((dj,.bool true)::env) H (fun env H=>(Out P G T own nt ρ C rs R) k .normal env H))) (rq:∀ x:b=false,bD (qb x) ((Ld P G T own all) n m ex i0 ⟨dst,op,ty,pos,after,some (j,want)⟩ ((dj,.bool false)::env) H (fun env H=>(Out P G T own nt ρ C rs R) k .normal env H))):bD (af (b=true) (b=false) qa qb) ((Ld P G T own all) n m ex i0 ⟨dst,op,ty,pos,after,some (j,want)⟩ env H (fun env H=>(Out P G T own nt ρ C rs R) k .normal env H)):=bD.fork (Ii h1 h2) lq rq
theorem oe {dst:Option Nat} {dj:Nat} {want:Bool} {a:Prop} {inst:Decidable a} (h1:(all[j]?).bind (·.dst)=some dj) (h2:look env dj=some (.bool (decide a))) {qa:a→Prop} {qb:¬ a→Prop} (lq:∀ x:a,bD (qa x) ((Ld P G T own all) n m ex i0 ⟨dst,op,ty,pos,after,some (j,want)⟩ ((dj,.bool true)::env) H (fun env H=>(Out P G T own nt ρ C rs R) k .normal env H))) (rq:∀ x:¬ a,bD (qb x) ((Ld P G T own all) n m ex i0 ⟨dst,op,ty,pos,after,some (j,want)⟩ ((dj,.bool false)::env) H (fun env H=>(Out P G T own nt ρ C rs R) k .normal env H))):bD (af (a) (¬ a) qa qb) ((Ld P G T own all) n m ex i0 ⟨dst,op,ty,pos,after,some (j,want)⟩ env H (fun env H=>(Out P G T own nt ρ C rs R) k .normal env H)):=bD.fork (K6 h1 h2) lq rq
theorem u7 {dst:Option Nat} {dj:Nat} {want b1 w1:Bool} {u:SV} (h1:(all[j]?).bind (·.dst)=some dj) (h2:look env dj=some (gv b1 w1 u)) {qa:b1=true→Prop} {qb:b1=false→Prop} (lq:∀ x:b1=true,bD (qa x) ((Ld P G T own all) n m ex i0 ⟨dst,op,ty,pos,after,some (j,want)⟩ env H K)) (rq:∀ x:b1=false,bD (qb x) ((Ld P G T own all) n m ex i0 ⟨dst,op,ty,pos,after,some (j,want)⟩ env H K)):bD (af (b1=true) (b1=false) qa qb) ((Ld P G T own all) n m ex i0 ⟨dst,op,ty,pos,after,some (j,want)⟩ env H K):=bD.fork (fun l r=>K7 h1 h2 fun c e=>by cases c with
 |true=>exact l e
 |false=>exact r e) lq rq
theorem lL {j2:Nat} {o2:Oper} (hf:eH own m ex 0 all=none) (hr:fe m ex 0 all=[j,j2]) (ho:all[j]? =some o) (ho2:all[j2]? =some o2) (lq:bD qa ((Ld P G T own all) n m ex j o env H K)) (rq:bD qb ((Ld P G T own all) n m ex j2 o2 env H K)):bD (ax qa qb) ((fx P G T own all) (n+1) m ex env H K):=bD.two (HX hf hr ho ho2) lq rq
theorem jV {vr:SV} {H2:List az} {r:List Oper} (h2:jL G env args.toList=some xs) (hc:ag P G g xs H (fun x H'=>H'=H2∧x=vr)) (hd:Nat.blt d nt=true) (kq:bD qq (Out P G T own nt ρ C rs R (.ops all r::k) .normal ((d,vr)::env) H2)):bD qq (Out P G T own nt ρ C rs R (.ops all (⟨some d,.call ⟨.value (.func g),args,tys⟩,ty,pos,after,none⟩::r)::k) .normal env H):=
 bD.via (fun hk=>fg h2 hd hc fun x H' hx=>by obtain⟨rfl,rfl⟩:=hx;exact hk) kq
theorem iH {vr:SV} {H2:List az} (h2:jL G env args.toList=some xs) (hc:ag P G g xs H (fun x H'=>H'=H2∧x=vr)) (kq:bD qq (kk vr H2)):bD qq (la P G T own all ⟨dst,.call ⟨.value (.func g),args,tys⟩,ty,pos,after,none⟩ env H kk):=
 bD.via (fun hk=>qI h2 hc fun x H' hx=>by obtain⟨rfl,rfl⟩:=hx;exact hk) kq
theorem lJ {vr:SV} {H2:List az} {r:List Oper} (hc:ag P G g xs H (fun x H'=>H'=H2∧x=vr)) (h2:jL G env args.toList=some xs) (hd:Nat.blt d nt=true) (kq:bD qq (Out P G T own nt ρ C rs R (.ops all r::k) .normal ((d,vr)::env) H2)):bD qq (Out P G T own nt ρ C rs R (.ops all (⟨some d,.call ⟨.value (.func g),args,tys⟩,ty,pos,after,none⟩::r)::k) .normal env H):=
 bD.via (fun hk=>fg h2 hd hc fun x H' hx=>by obtain⟨rfl,rfl⟩:=hx;exact hk) kq
theorem j6 {vr:SV} {H2:List az} (hc:ag P G g xs H (fun x H'=>H'=H2∧x=vr)) (h2:jL G env args.toList=some xs) (kq:bD qq (kk vr H2)):bD qq (la P G T own all ⟨dst,.call ⟨.value (.func g),args,tys⟩,ty,pos,after,none⟩ env H kk):=
 bD.via (fun hk=>qI h2 hc fun x H' hx=>by obtain⟨rfl,rfl⟩:=hx;exact hk) kq
theorem lI {vr:SV} {H2:List az} {r:List Oper} (h1:ev G env f=some fv) (h2:jL G env args.toList=some xs) (hc:bL P G fv xs H (fun x H'=>H'=H2∧x=vr)) (hd:Nat.blt d nt=true) (kq:bD qq (Out P G T own nt ρ C rs R (.ops all r::k) .normal ((d,vr)::env) H2)):bD qq (Out P G T own nt ρ C rs R (.ops all (⟨some d,.call ⟨.value f,args,tys⟩,ty,pos,after,none⟩::r)::k) .normal env H):=
 bD.via (fun hk=>nW h1 h2 hd hc fun x H' hx=>by obtain⟨rfl,rfl⟩:=hx;exact hk) kq
theorem j5 {vr:SV} {H2:List az} (h1:ev G env f=some fv) (h2:jL G env args.toList=some xs) (hc:bL P G fv xs H (fun x H'=>H'=H2∧x=vr)) (kq:bD qq (kk vr H2)):bD qq (la P G T own all ⟨dst,.call ⟨.value f,args,tys⟩,ty,pos,after,none⟩ env H kk):=
 bD.via (fun hk=>ya h1 h2 hc fun x H' hx=>by obtain⟨rfl,rfl⟩:=hx;exact hk) kq
end
attribute [go_sem ↓] GQ
attribute [go_sem ↓] GP
attribute [go_sem ↓] C6
attribute [go_sem ↓] C5
attribute [go_sem] jS
attribute [go_sem] jP
attribute [go_sem] jR
attribute [go_sem] jQ
attribute [go_sem] fh
attribute [go_sem] eu
attribute [go_sem] Hd
attribute [go_sem] Ha
attribute [go_sem] Kw
attribute [go_sem] Kv
attribute [go_sem] G9
attribute [go_sem] G8
attribute [go_sem] qv
attribute [go_sem] lv
attribute [go_sem ↓] mE
attribute [go_sem ↓] uL
attribute [go_sem ↓] qQ
attribute [go_sem ↓] Cs
attribute [go_sem] and_self
attribute [go_sem] and_true
attribute [go_sem] true_and
attribute [go_sem] beq_self_eq_true
attribute [go_sem] beq_true
attribute [go_sem] beq_false
attribute [go_sem] Bool.and_true
attribute [go_sem] Bool.true_and
attribute [go_sem] Bool.and_self
attribute [go_sem] Bool.and_false
attribute [go_sem] Bool.false_and
attribute [go_sem] Bool.or_true
attribute [go_sem] Bool.true_or
attribute [go_sem] Bool.or_false
attribute [go_sem] Bool.false_or
attribute [go_sem] Bool.not_true
attribute [go_sem] Bool.not_false
attribute [go_sem] Int.toNat_natCast
attribute [go_sem] lB
attribute [go_sem] ne_eq
attribute [go_sem] not_true_eq_false
attribute [go_sem] not_false_eq_true
attribute [go_sem ↓] EW.eq_def
attribute [go_sem ↓] MI.eq_def
attribute [go_sem ↓] Ca.eq_def
attribute [go_sem ↓] GX.eq_def
attribute [go_sem ↓] kM.eq_def
attribute [go_sem ↓] copyV.eq_def
attribute [go_sem ↓] yq.eq_def
attribute [go_sem ↓] jL.eq_1
attribute [go_sem ↓] jL.eq_2
attribute [go_sem ↓] look.eq_1
attribute [go_sem ↓] look.eq_2
attribute [go_sem ↓] pq.eq_1
attribute [go_sem ↓] pq.eq_2
attribute [go_sem ↓] au.eq_1
attribute [go_sem ↓] au.eq_2
attribute [go_sem ↓] lY.eq_1
attribute [go_sem ↓] lY.eq_2
attribute [go_sem ↓] dr.eq_1
attribute [go_sem ↓] dr.eq_2
attribute [go_sem ↓] cM.eq_1
attribute [go_sem ↓] cM.eq_2
attribute [go_sem ↓] dw.eq_1
attribute [go_sem ↓] dw.eq_2
attribute [go_sem ↓] iJ.eq_1
attribute [go_sem ↓] iJ.eq_2
attribute [go_sem ↓] nM.eq_1
attribute [go_sem ↓] nM.eq_2
attribute [go_sem ↓] dY.eq_1
attribute [go_sem ↓] dY.eq_2
attribute [go_sem ↓] o9.eq_1
attribute [go_sem ↓] o9.eq_2
attribute [go_sem ↓] iJ.eq_3
attribute [go_sem ↓] ev.eq_def
attribute [go_sem ↓] GA.eq_def
attribute [go_sem ↓] BP.eq_def
attribute [go_sem ↓] lU.eq_def
attribute [go_sem ↓] mJ.eq_def
attribute [go_sem ↓] sub.eq_def
attribute [go_sem ↓] fits.eq_def
attribute [go_sem ↓] ee.eq_def
attribute [go_sem ↓] elemOf.eq_def
attribute [go_sem ↓] vS.eq_def
attribute [go_sem ↓] zW.eq_def
attribute [go_sem ↓] kG.eq_def
attribute [go_sem ↓] mB.eq_def
attribute [go_sem ↓] fp.eq_def
attribute [go_sem ↓] rh.eq_def
attribute [go_sem ↓] kU.eq_def
attribute [go_sem ↓] mV.eq_def
attribute [go_sem ↓] fC.eq_def
attribute [go_sem ↓] cG.eq_def
attribute [go_sem ↓] fE.eq_def
attribute [go_sem ↓] jy.eq_def
attribute [go_sem ↓] oP.eq_def
attribute [go_sem ↓] xp.eq_def
attribute [go_sem ↓] yW.eq_def
attribute [go_sem ↓] ja.eq_def
attribute [go_sem ↓] partsOf.eq_def
attribute [go_sem ↓] me.eq_def
attribute [go_sem ↓] bA.eq_def
attribute [go_sem ↓] SV.isAgg.eq_def
attribute [go_sem ↓] SV.leaf.eq_def
attribute [go_sem ↓] SV.size.eq_def
attribute [go_sem ↓] TD.agg.eq_def
attribute [go_sem ↓] db.eq_def
attribute [go_sem ↓] mapOf.eq_def
attribute [go_sem ↓] dT.eq_def
attribute [go_sem ↓] eX.eq_def
attribute [go_sem ↓] s9.eq_def
attribute [go_sem ↓] iY.eq_def
attribute [go_sem ↓] wJ.eq_def
attribute [go_sem ↓] qV.eq_def
attribute [go_sem ↓] xb.eq_def
attribute [go_sem ↓] mI.eq_def
attribute [go_sem] wg
attribute [go_sem] yI
attribute [go_sem] uO
attribute [go_sem] wh
attribute [go_sem] re
attribute [go_sem] ra
attribute [go_sem] Option.bind_some
attribute [go_sem] Option.isSome_some
attribute [go_sem] List.length_map
attribute [go_sem] List.length_cons
attribute [go_sem] List.length_nil
attribute [go_sem] List.getElem?_map
attribute [go_sem] List.getElem?_eq_getElem
attribute [go_sem] Int.natCast_nonneg
attribute [go_sem] List.getElem?_cons_zero
attribute [go_sem] List.getElem?_cons_succ
attribute [go_sem] Option.map_some
attribute [go_sem] wrap_i64
attribute [go_sem] dh
attribute [go_sem] bJ
attribute [go_sem] dB
attribute [go_sem] cq
attribute [go_sem] pd
attribute [go_sem] rB
attribute [go_sem] uo
attribute [go_sem] xR
attribute [go_sem] nk
attribute [go_sem] pf
attribute [go_sem] zg
attribute [go_sem] BC
attribute [go_sem] jO
attribute [go_sem] iL
attribute [go_sem] du
attribute [go_sem] fV
attribute [go_sem] List.set_set
attribute [go_sem] List.getElem?_set_self
attribute [go_sem] List.length_set
attribute [go_sem] List.append_assoc
attribute [go_sem] List.cons_append
attribute [go_sem] List.nil_append
attribute [go_sem] List.length_append
attribute [go_sem] Nat.add_assoc
attribute [go_sem] List.set_cons_zero
attribute [go_sem] List.set_cons_succ
attribute [go_sem] Ex.aH
attribute [go_sem] Bd.aH
attribute [go_sem] Al.aH
attribute [go_sem] Ex.aU
attribute [go_sem] Ex.sv
attribute [go_sem] Ex.cells.eq_1
attribute [go_sem] ct
attribute [go_sem] iV
attribute [go_sem] iU
attribute [go_sem] wM
attribute [go_sem] vU
attribute [go_sem] gy
attribute [go_sem] List.drop_zero
attribute [go_sem] List.drop_succ_cons
attribute [go_sem] xa
attribute [go_sem] xm
attribute [go_sem] xo
attribute [go_sem] List.take_succ_cons
attribute [go_sem] List.take_zero
attribute [go_sem] List.replicate_succ
attribute [go_sem] List.replicate_zero
attribute [go_sem] List.length_take
attribute [go_sem] Nat.zero_add
attribute [go_sem] Nat.lt_one_iff
attribute [go_sem] true_or
attribute [go_sem] or_true
attribute [go_sem] false_and
attribute [go_sem] and_false
attribute [go_sem] List.length_replicate
attribute [go_sem] qi
theorem yx:aZ (.string (ByteArray.mk #[]))=some (.str []):=by simp[aZ,bg,maxLen]
attribute [go_sem] yx
theorem yz (a0:UInt8):aZ (.string (ByteArray.mk #[a0]))=some (.str [a0]):=by simp[aZ,bg,maxLen]
attribute [go_sem] yz
theorem yA (a0 a1:UInt8):aZ (.string (ByteArray.mk #[a0,a1]))=some (.str [a0,a1]):=by simp[aZ,bg,maxLen]
attribute [go_sem] yA
theorem yB (a0 a1 a2:UInt8):aZ (.string (ByteArray.mk #[a0,a1,a2]))=some (.str [a0,a1,a2]):=by simp[aZ,bg,maxLen]
attribute [go_sem] yB
theorem yC (a0 a1 a2 a3:UInt8):aZ (.string (ByteArray.mk #[a0,a1,a2,a3]))=some (.str [a0,a1,a2,a3]):=by simp[aZ,bg,maxLen]
attribute [go_sem] yC
theorem yD (a0 a1 a2 a3 a4:UInt8):aZ (.string (ByteArray.mk #[a0,a1,a2,a3,a4]))=some (.str [a0,a1,a2,a3,a4]):=by simp[aZ,bg,maxLen]
attribute [go_sem] yD
theorem yE (a0 a1 a2 a3 a4 a5:UInt8):aZ (.string (ByteArray.mk #[a0,a1,a2,a3,a4,a5]))=some (.str [a0,a1,a2,a3,a4,a5]):=by simp[aZ,bg,maxLen]
attribute [go_sem] yE
theorem yF (a0 a1 a2 a3 a4 a5 a6:UInt8):aZ (.string (ByteArray.mk #[a0,a1,a2,a3,a4,a5,a6]))=some (.str [a0,a1,a2,a3,a4,a5,a6]):=by simp[aZ,bg,maxLen]
attribute [go_sem] yF
theorem yG (a0 a1 a2 a3 a4 a5 a6 a7:UInt8):aZ (.string (ByteArray.mk #[a0,a1,a2,a3,a4,a5,a6,a7]))=some (.str [a0,a1,a2,a3,a4,a5,a6,a7]):=by simp[aZ,bg,maxLen]
attribute [go_sem] yG
theorem yH (a0 a1 a2 a3 a4 a5 a6 a7 a8:UInt8):aZ (.string (ByteArray.mk #[a0,a1,a2,a3,a4,a5,a6,a7,a8]))=some (.str [a0,a1,a2,a3,a4,a5,a6,a7,a8]):=by simp[aZ,bg,maxLen]
attribute [go_sem] yH
theorem wi (a0 a1 a2 a3 a4 a5 a6 a7 a8 a9:UInt8):aZ (.string (ByteArray.mk #[a0,a1,a2,a3,a4,a5,a6,a7,a8,a9]))=some (.str [a0,a1,a2,a3,a4,a5,a6,a7,a8,a9]):=by simp[aZ,bg,maxLen]
attribute [go_sem] wi
theorem wj (a0 a1 a2 a3 a4 a5 a6 a7 a8 a9 a10:UInt8):aZ (.string (ByteArray.mk #[a0,a1,a2,a3,a4,a5,a6,a7,a8,a9,a10]))=some (.str [a0,a1,a2,a3,a4,a5,a6,a7,a8,a9,a10]):=by simp[aZ,bg,maxLen]
attribute [go_sem] wj
theorem wm (a0 a1 a2 a3 a4 a5 a6 a7 a8 a9 a10 a11:UInt8):aZ (.string (ByteArray.mk #[a0,a1,a2,a3,a4,a5,a6,a7,a8,a9,a10,a11]))=some (.str [a0,a1,a2,a3,a4,a5,a6,a7,a8,a9,a10,a11]):=by simp[aZ,bg,maxLen]
attribute [go_sem] wm
theorem wo (a0 a1 a2 a3 a4 a5 a6 a7 a8 a9 a10 a11 a12:UInt8):aZ (.string (ByteArray.mk #[a0,a1,a2,a3,a4,a5,a6,a7,a8,a9,a10,a11,a12]))=some (.str [a0,a1,a2,a3,a4,a5,a6,a7,a8,a9,a10,a11,a12]):=by simp[aZ,bg,maxLen]
attribute [go_sem] wo
theorem wq (a0 a1 a2 a3 a4 a5 a6 a7 a8 a9 a10 a11 a12 a13:UInt8):aZ (.string (ByteArray.mk #[a0,a1,a2,a3,a4,a5,a6,a7,a8,a9,a10,a11,a12,a13]))=some (.str [a0,a1,a2,a3,a4,a5,a6,a7,a8,a9,a10,a11,a12,a13]):=by simp[aZ,bg,maxLen]
attribute [go_sem] wq
theorem wu (a0 a1 a2 a3 a4 a5 a6 a7 a8 a9 a10 a11 a12 a13 a14:UInt8):aZ (.string (ByteArray.mk #[a0,a1,a2,a3,a4,a5,a6,a7,a8,a9,a10,a11,a12,a13,a14]))=some (.str [a0,a1,a2,a3,a4,a5,a6,a7,a8,a9,a10,a11,a12,a13,a14]):=by simp[aZ,bg,maxLen]
attribute [go_sem] wu
theorem wv (a0 a1 a2 a3 a4 a5 a6 a7 a8 a9 a10 a11 a12 a13 a14 a15:UInt8):aZ (.string (ByteArray.mk #[a0,a1,a2,a3,a4,a5,a6,a7,a8,a9,a10,a11,a12,a13,a14,a15]))=some (.str [a0,a1,a2,a3,a4,a5,a6,a7,a8,a9,a10,a11,a12,a13,a14,a15]):=by simp[aZ,bg,maxLen]
attribute [go_sem] wv
theorem wx (a0 a1 a2 a3 a4 a5 a6 a7 a8 a9 a10 a11 a12 a13 a14 a15 a16:UInt8):aZ (.string (ByteArray.mk #[a0,a1,a2,a3,a4,a5,a6,a7,a8,a9,a10,a11,a12,a13,a14,a15,a16]))=some (.str [a0,a1,a2,a3,a4,a5,a6,a7,a8,a9,a10,a11,a12,a13,a14,a15,a16]):=by simp[aZ,bg,maxLen]
attribute [go_sem] wx
theorem wy (a0 a1 a2 a3 a4 a5 a6 a7 a8 a9 a10 a11 a12 a13 a14 a15 a16 a17:UInt8):aZ (.string (ByteArray.mk #[a0,a1,a2,a3,a4,a5,a6,a7,a8,a9,a10,a11,a12,a13,a14,a15,a16,a17]))=some (.str [a0,a1,a2,a3,a4,a5,a6,a7,a8,a9,a10,a11,a12,a13,a14,a15,a16,a17]):=by simp[aZ,bg,maxLen]
attribute [go_sem] wy
theorem wz (a0 a1 a2 a3 a4 a5 a6 a7 a8 a9 a10 a11 a12 a13 a14 a15 a16 a17 a18:UInt8):aZ (.string (ByteArray.mk #[a0,a1,a2,a3,a4,a5,a6,a7,a8,a9,a10,a11,a12,a13,a14,a15,a16,a17,a18]))=some (.str [a0,a1,a2,a3,a4,a5,a6,a7,a8,a9,a10,a11,a12,a13,a14,a15,a16,a17,a18]):=by simp[aZ,bg,maxLen]
attribute [go_sem] wz
theorem wA (a0 a1 a2 a3 a4 a5 a6 a7 a8 a9 a10 a11 a12 a13 a14 a15 a16 a17 a18 a19:UInt8):aZ (.string (ByteArray.mk #[a0,a1,a2,a3,a4,a5,a6,a7,a8,a9,a10,a11,a12,a13,a14,a15,a16,a17,a18,a19]))=some (.str [a0,a1,a2,a3,a4,a5,a6,a7,a8,a9,a10,a11,a12,a13,a14,a15,a16,a17,a18,a19]):=by simp[aZ,bg,maxLen]
attribute [go_sem] wA
theorem wB (a0 a1 a2 a3 a4 a5 a6 a7 a8 a9 a10 a11 a12 a13 a14 a15 a16 a17 a18 a19 a20:UInt8):aZ (.string (ByteArray.mk #[a0,a1,a2,a3,a4,a5,a6,a7,a8,a9,a10,a11,a12,a13,a14,a15,a16,a17,a18,a19,a20]))=some (.str [a0,a1,a2,a3,a4,a5,a6,a7,a8,a9,a10,a11,a12,a13,a14,a15,a16,a17,a18,a19,a20]):=by simp[aZ,bg,maxLen]
attribute [go_sem] wB
theorem wC (a0 a1 a2 a3 a4 a5 a6 a7 a8 a9 a10 a11 a12 a13 a14 a15 a16 a17 a18 a19 a20 a21:UInt8):aZ (.string (ByteArray.mk #[a0,a1,a2,a3,a4,a5,a6,a7,a8,a9,a10,a11,a12,a13,a14,a15,a16,a17,a18,a19,a20,a21]))=some (.str [a0,a1,a2,a3,a4,a5,a6,a7,a8,a9,a10,a11,a12,a13,a14,a15,a16,a17,a18,a19,a20,a21]):=by simp[aZ,bg,maxLen]
attribute [go_sem] wC
theorem wD (a0 a1 a2 a3 a4 a5 a6 a7 a8 a9 a10 a11 a12 a13 a14 a15 a16 a17 a18 a19 a20 a21 a22:UInt8):aZ (.string (ByteArray.mk #[a0,a1,a2,a3,a4,a5,a6,a7,a8,a9,a10,a11,a12,a13,a14,a15,a16,a17,a18,a19,a20,a21,a22]))=some (.str [a0,a1,a2,a3,a4,a5,a6,a7,a8,a9,a10,a11,a12,a13,a14,a15,a16,a17,a18,a19,a20,a21,a22]):=by simp[aZ,bg,maxLen]
attribute [go_sem] wD
theorem wE (a0 a1 a2 a3 a4 a5 a6 a7 a8 a9 a10 a11 a12 a13 a14 a15 a16 a17 a18 a19 a20 a21 a22 a23:UInt8):aZ (.string (ByteArray.mk #[a0,a1,a2,a3,a4,a5,a6,a7,a8,a9,a10,a11,a12,a13,a14,a15,a16,a17,a18,a19,a20,a21,a22,a23]))=some (.str [a0,a1,a2,a3,a4,a5,a6,a7,a8,a9,a10,a11,a12,a13,a14,a15,a16,a17,a18,a19,a20,a21,a22,a23]):=by simp[aZ,bg,maxLen]
attribute [go_sem] wE
theorem xZ {α β:Type} (l:List α) (f:α→β):(l.map f).take l.length=l.map f:=List.take_of_length_le (by simp)
attribute [go_sem] xZ List.getElem?_take_of_lt List.getElem?_drop
theorem uP:aZ .nilIface=some (.gW true):=rfl
attribute [go_sem] uP
attribute [go_sem ↓] np.eq_def
attribute [go_sem ↓] Fo.eq_def
attribute [go_sem ↓] tR.eq_def
theorem cv {p:Prop} (h:p:=by (simp -implicitDefEqProofs (disch:=first|assumption|omega) only[go_sem,X,Int.reduceToNat,Nat.reduceAdd,Nat.reduceSub,Nat.reduceMul,Nat.reduceLT,Nat.reduceLeDiff,Nat.reduceEqDiff,Nat.reduceBEq,Nat.reduceBNe,↓reduceIte,reduceCtorEq]<;>rfl)):p:=h
theorem yL {p:Prop} (h:p:=by intro hw1;have hw1p:=hw1;(try simp only[Bool.and_eq_true,Bool.or_eq_true,decide_eq_true_eq,decide_eq_false_iff_not,Bool.not_eq_true',Bool.and_eq_false_iff,Bool.or_eq_false_iff,Bool.not_eq_false'] at hw1p);exact cv):p:=h
theorem yM {p:Prop} (h:p:=by intro hw1 hw2;have hw1p:=hw1;(try simp only[Bool.and_eq_true,Bool.or_eq_true,decide_eq_true_eq,decide_eq_false_iff_not,Bool.not_eq_true',Bool.and_eq_false_iff,Bool.or_eq_false_iff,Bool.not_eq_false'] at hw1p);have hw2p:=hw2;(try simp only[Bool.and_eq_true,Bool.or_eq_true,decide_eq_true_eq,decide_eq_false_iff_not,Bool.not_eq_true',Bool.and_eq_false_iff,Bool.or_eq_false_iff,Bool.not_eq_false'] at hw2p);exact cv):p:=h
theorem yN {p:Prop} (h:p:=by intro hw1 hw2 hw3;have hw1p:=hw1;(try simp only[Bool.and_eq_true,Bool.or_eq_true,decide_eq_true_eq,decide_eq_false_iff_not,Bool.not_eq_true',Bool.and_eq_false_iff,Bool.or_eq_false_iff,Bool.not_eq_false'] at hw1p);have hw2p:=hw2;(try simp only[Bool.and_eq_true,Bool.or_eq_true,decide_eq_true_eq,decide_eq_false_iff_not,Bool.not_eq_true',Bool.and_eq_false_iff,Bool.or_eq_false_iff,Bool.not_eq_false'] at hw2p);have hw3p:=hw3;(try simp only[Bool.and_eq_true,Bool.or_eq_true,decide_eq_true_eq,decide_eq_false_iff_not,Bool.not_eq_true',Bool.and_eq_false_iff,Bool.or_eq_false_iff,Bool.not_eq_false'] at hw3p);exact cv):p:=h
theorem Ey {p:Prop} (h:p:=by repeat' (first|exact Gy|((with_reducible apply HR);(· rfl);(· rfl);(· exact cv))|((with_reducible apply F6);(· rfl);(· rfl);(· rfl);(· rfl);(· exact cv);(· first|rfl|(simp (disch:=first|assumption|omega) only[GQ,GP,C6,C5];done)))|((with_reducible apply zA);(· rfl);(· rfl);(· rfl);(· rfl);(· rfl);(· rfl);(· first|rfl|(simp (disch:=first|assumption|omega) only[GQ,GP,C6,C5,GS,GR,Ie,Ic];done)))|((with_reducible apply B1);(· rfl);(· rfl);(· rfl);(· rfl);(· exact yL))|((with_reducible apply B3);(· rfl);(· rfl);(· rfl);(· rfl);(· exact yM))|((with_reducible apply Gv);(· rfl);(· rfl);(· rfl);(· rfl);(· exact yN))|fail)):p:=h
theorem bF {n:Nat} {k:IntKind} (l:List Int):SV.aB n (l.map (SV.int k))=true:=SV.bX fun _ _=>rfl
theorem dp {n:Nat} (l:List Bool):SV.aB n (l.map SV.bool)=true:=SV.bX fun _ _=>rfl
theorem dL {p:Prop} (h:p:=by (first|rfl|(simp only[X,dh,bJ,pd,rB,nk,pf,du,List.getElem?_cons_zero,List.getElem?_cons_succ,List.append_assoc,List.cons_append,List.nil_append,List.length_set]<;>rfl)|(simp only[dh,bJ,pd,rB,nk,pf,du,List.getElem?_cons_zero,List.getElem?_cons_succ,List.append_assoc,List.cons_append,List.nil_append,List.length_set]<;>rfl))):p:=h
theorem SV.kn {n m:Nat} {x:SV} (h:x.under n=true):SV.aB n (List.replicate m x)=true:=by
 induction m with
 |zero=>rfl
 |succ m ih=>rw[List.replicate_succ];simp only[SV.aB,h,ih,Bool.and_self]
theorem kX {p:Prop} (h:p:=by (first|rfl|assumption|(simp only[SV.under.eq_def,SV.aB.eq_1,SV.aB.eq_2,Ex.aP,eN,jr,jq,cm,Ex.Ef,Bool.and_true,Bool.true_and,Bool.and_self,decide_eq_true_eq,Nat.zero_le,List.drop_zero,Function.comp_def,SV.fG,zp,dJ,mg,ko,BJ,bF,dp,List.drop_succ_cons]<;>omega)|exact SV.bX fun _ _=>rfl|((try simp only[List.drop_zero,SV.fG,SV.aB.eq_2,SV.aB.eq_1,SV.under.eq_def,Bool.and_true,Bool.and_self,Bool.and_eq_true,decide_eq_true_eq])<;>(repeat' (first|exact True.intro|refine And.intro ?_ ?_|exact SV.bX fun _ _=>rfl|exact SV.kn rfl|rfl|omega))<;>fail))):p:=h
theorem jG.same {H:List az} {n:Nat} {ks:ez}:∀ {es:List (SV×SV)},dX n es=true→jG H n ks es es
 |[],_=> .nil
 |(k,x)::es,h=>by
  simp only[dX,Bool.and_eq_true] at h
  exact .cons _ _ _ _ _ h.1.1 (.same _ h.1.2) (jG.same h.2)
theorem H6 {p:Prop} (h:p:=by repeat' (first|exact de.nil|(refine de.cons _ _ _ _ ?_ ?_)|(first|(apply bV.same;exact kX)|exact bV.nil _|(apply bV.int;omega)|(apply bV.kp 0 rfl;(· exact dL);(· omega);(· omega);(· omega))|(apply bV.kp 1 rfl;(· exact dL);(· omega);(· omega);(· omega))|(apply bV.kp 2 rfl;(· exact dL);(· omega);(· omega);(· omega))|(apply bV.kp 3 rfl;(· exact dL);(· omega);(· omega);(· omega))|(apply bV.kp 4 rfl;(· exact dL);(· omega);(· omega);(· omega))|(apply bV.kp 5 rfl;(· exact dL);(· omega);(· omega);(· omega))|(apply bV.kp 6 rfl;(· exact dL);(· omega);(· omega);(· omega))|(apply bV.kp 7 rfl;(· exact dL);(· omega);(· omega);(· omega))|(apply bV.ks 0 rfl;(· exact dL);(· omega);(· omega);(· omega);(· omega))|(apply bV.ks 1 rfl;(· exact dL);(· omega);(· omega);(· omega);(· omega))|(apply bV.ks 2 rfl;(· exact dL);(· omega);(· omega);(· omega);(· omega))|(apply bV.ks 3 rfl;(· exact dL);(· omega);(· omega);(· omega);(· omega))|(apply bV.ks 4 rfl;(· exact dL);(· omega);(· omega);(· omega);(· omega))|(apply bV.ks 5 rfl;(· exact dL);(· omega);(· omega);(· omega);(· omega))|(apply bV.ks 6 rfl;(· exact dL);(· omega);(· omega);(· omega);(· omega))|(apply bV.ks 7 rfl;(· exact dL);(· omega);(· omega);(· omega);(· omega))|(apply bV.km 0 rfl;(· exact dL);(· omega))|(apply bV.km 1 rfl;(· exact dL);(· omega))|(apply bV.km 2 rfl;(· exact dL);(· omega))|(apply bV.km 3 rfl;(· exact dL);(· omega))|(apply bV.km 4 rfl;(· exact dL);(· omega))|(apply bV.km 5 rfl;(· exact dL);(· omega))|(apply bV.km 6 rfl;(· exact dL);(· omega))|(apply bV.km 7 rfl;(· exact dL);(· omega))|(apply bV.sf;(· exact dL);(· omega);(· simp<;>omega);(· first|rfl|(simp[Function.comp_def,List.take_of_length_le];done));(· exact kX))|fail))):p:=h
theorem wS {p:Prop} (h:p:=by repeat' (first|exact de.nil|(refine de.cons _ _ _ _ ?_ ?_)|(first|(apply bV.same;exact kX)|exact bV.nil _|(apply bV.int;omega)|(apply bV.kp 0 rfl;(· exact dL);(· omega);(· omega);(· omega))|(apply bV.kp 1 rfl;(· exact dL);(· omega);(· omega);(· omega))|(apply bV.kp 2 rfl;(· exact dL);(· omega);(· omega);(· omega))|(apply bV.kp 3 rfl;(· exact dL);(· omega);(· omega);(· omega))|(apply bV.kp 4 rfl;(· exact dL);(· omega);(· omega);(· omega))|(apply bV.kp 5 rfl;(· exact dL);(· omega);(· omega);(· omega))|(apply bV.kp 6 rfl;(· exact dL);(· omega);(· omega);(· omega))|(apply bV.kp 7 rfl;(· exact dL);(· omega);(· omega);(· omega))|(apply bV.ks 0 rfl;(· exact dL);(· omega);(· omega);(· omega);(· omega))|(apply bV.ks 1 rfl;(· exact dL);(· omega);(· omega);(· omega);(· omega))|(apply bV.ks 2 rfl;(· exact dL);(· omega);(· omega);(· omega);(· omega))|(apply bV.ks 3 rfl;(· exact dL);(· omega);(· omega);(· omega);(· omega))|(apply bV.ks 4 rfl;(· exact dL);(· omega);(· omega);(· omega);(· omega))|(apply bV.ks 5 rfl;(· exact dL);(· omega);(· omega);(· omega);(· omega))|(apply bV.ks 6 rfl;(· exact dL);(· omega);(· omega);(· omega);(· omega))|(apply bV.ks 7 rfl;(· exact dL);(· omega);(· omega);(· omega);(· omega))|(apply bV.km 0 rfl;(· exact dL);(· omega))|(apply bV.km 1 rfl;(· exact dL);(· omega))|(apply bV.km 2 rfl;(· exact dL);(· omega))|(apply bV.km 3 rfl;(· exact dL);(· omega))|(apply bV.km 4 rfl;(· exact dL);(· omega))|(apply bV.km 5 rfl;(· exact dL);(· omega))|(apply bV.km 6 rfl;(· exact dL);(· omega))|(apply bV.km 7 rfl;(· exact dL);(· omega))|(apply bV.sf;(· exact dL);(· omega);(· simp<;>omega);(· first|rfl|(simp[Function.comp_def,List.take_of_length_le];done));(· exact kX))|(apply bV.agg;exact H6)|fail))):p:=h
theorem A2 {p:Prop} (h:p:=by repeat' (first|exact True.intro|exact en.nil|(refine And.intro ⟨_,rfl,?_⟩ ?_)|(apply en.c;(· exact dL);(· omega);(· first|omega|(simp<;>omega));(· first|(apply de.same;exact kX)|exact wS))|(apply en.m;(· exact dL);(· omega);(· first|exact jG.same (mv _ _)|exact jG.same (mw _ _)|(apply jG.same;rfl)))|(first|(apply bV.same;exact kX)|exact bV.nil _|(apply bV.int;omega)|(apply bV.kp 0 rfl;(· exact dL);(· omega);(· omega);(· omega))|(apply bV.kp 1 rfl;(· exact dL);(· omega);(· omega);(· omega))|(apply bV.kp 2 rfl;(· exact dL);(· omega);(· omega);(· omega))|(apply bV.kp 3 rfl;(· exact dL);(· omega);(· omega);(· omega))|(apply bV.kp 4 rfl;(· exact dL);(· omega);(· omega);(· omega))|(apply bV.kp 5 rfl;(· exact dL);(· omega);(· omega);(· omega))|(apply bV.kp 6 rfl;(· exact dL);(· omega);(· omega);(· omega))|(apply bV.kp 7 rfl;(· exact dL);(· omega);(· omega);(· omega))|(apply bV.ks 0 rfl;(· exact dL);(· omega);(· omega);(· omega);(· omega))|(apply bV.ks 1 rfl;(· exact dL);(· omega);(· omega);(· omega);(· omega))|(apply bV.ks 2 rfl;(· exact dL);(· omega);(· omega);(· omega);(· omega))|(apply bV.ks 3 rfl;(· exact dL);(· omega);(· omega);(· omega);(· omega))|(apply bV.ks 4 rfl;(· exact dL);(· omega);(· omega);(· omega);(· omega))|(apply bV.ks 5 rfl;(· exact dL);(· omega);(· omega);(· omega);(· omega))|(apply bV.ks 6 rfl;(· exact dL);(· omega);(· omega);(· omega);(· omega))|(apply bV.ks 7 rfl;(· exact dL);(· omega);(· omega);(· omega);(· omega))|(apply bV.km 0 rfl;(· exact dL);(· omega))|(apply bV.km 1 rfl;(· exact dL);(· omega))|(apply bV.km 2 rfl;(· exact dL);(· omega))|(apply bV.km 3 rfl;(· exact dL);(· omega))|(apply bV.km 4 rfl;(· exact dL);(· omega))|(apply bV.km 5 rfl;(· exact dL);(· omega))|(apply bV.km 6 rfl;(· exact dL);(· omega))|(apply bV.km 7 rfl;(· exact dL);(· omega))|(apply bV.sf;(· exact dL);(· omega);(· simp<;>omega);(· first|rfl|(simp[Function.comp_def,List.take_of_length_le];done));(· exact kX))|(apply bV.agg;exact wS)|fail)|fail)):p:=h
theorem run {qq p:Prop} (k:qq) (h:bD qq p:=by
 repeat' (first
  |((with_reducible apply j1))
  |((with_reducible apply oc);(· exact cv);(· rfl))
  |((with_reducible apply jY))
  |((with_reducible apply fR);(· exact aF);(· first|(simp only[List.append_eq,List.cons_append,List.nil_append];rfl)|rfl))
  |((with_reducible apply iE))
  |((with_reducible apply jf);(· rfl))
  |((with_reducible apply je);(· rfl))
  |((with_reducible apply gP);(· rfl);(· assumption))
  |((with_reducible apply gO);(· rfl);(· assumption))
  |((with_reducible apply jd);(· rfl);(intro hb);(rotate_left);(intro hb);(rotate_right))
  |((with_reducible apply jc);(· rfl);(intro hb);(rotate_left);(intro hb);(rotate_right))
  |((with_reducible apply jb))
  |((with_reducible apply jW))
  |((with_reducible apply iz);(· rfl))
  |((with_reducible apply n9);(· exact cv);(· rfl))
  |((with_reducible apply lP);(· exact cv))
  |((with_reducible apply iA);(· rfl);(· rfl))
  |((with_reducible apply gD);(· rfl);(· rfl);(· rfl);(· rfl);(· rfl))
  |((with_reducible apply fQ);(· rfl);(· rfl);(· rfl);(· rfl))
  |((with_reducible apply pg);(· rfl);(· rfl);(· exact yL);(· rfl))
  |((with_reducible apply ph);(· rfl);(· rfl);(· exact yM);(· rfl))
  |((with_reducible apply pj);(· rfl);(· rfl);(· exact yN);(· rfl))
  |((with_reducible apply rG);(· rfl);(· rfl);(· rfl);(intro hb);(try simp only[hb]);(try simp only[jS,jP,jR,jQ,Bool.true_and,Bool.false_and,Bool.true_or,Bool.false_or,fh,eu]);(rotate_left);(intro hb);(try simp only[hb]);(try simp only[jS,jP,jR,jQ,Bool.true_and,Bool.false_and,Bool.true_or,Bool.false_or,fh,eu]);(rotate_right))
  |((with_reducible apply lO);(· rfl);(· rfl);(· rfl);(intro hb);(rotate_left);(intro hb);(rotate_right))
  |((with_reducible apply lN);(· rfl);(· rfl);(· rfl);(intro hb);(rotate_left);(intro hb);(rotate_right))
  |((with_reducible apply lQ);(· exact cv))
  |((with_reducible apply iB);(· exact cv);(· exact cv);(· exact cv);(· exact cv);(· rfl);(intro hb);(rotate_left);(intro hb);(rotate_right))
  |((with_reducible apply iC);(· exact cv);(· exact cv);(· exact cv);(· exact cv);(· rfl);(intro hb);(rotate_left);(intro hb);(rotate_right))
  |((with_reducible apply kK);(· exact aF);(· exact xl);(· first|(simp only[List.append_eq,List.cons_append,List.nil_append];rfl)|rfl);(· kernel_rfl))
  |((with_reducible apply n8);(· rfl);(· simp only[Nat.reduceAdd];rfl))
  |((with_reducible apply om);(· exact cv))
  |((with_reducible apply j4);(· rfl);(· rfl);(· exact cv))
  |((with_reducible apply iG);(· rfl);(· rfl);(· rfl);(· rfl))
  |((with_reducible apply rH);(· rfl);(· rfl);(· exact yL))
  |((with_reducible apply rI);(· rfl);(· rfl);(· exact yM))
  |((with_reducible apply rJ);(· rfl);(· rfl);(· exact yN))
  |((with_reducible apply oh);(· rfl);(· rfl);(intro hb);(rotate_left);(intro hb);(rotate_right))
  |((with_reducible apply og);(· rfl);(· rfl);(intro hb);(rotate_left);(intro hb);(rotate_right))
  |((with_reducible apply iw);(· rfl);(· simp only[Nat.reduceAdd];rfl))
  |((with_reducible apply iy);(· rfl))
  |((with_reducible apply lM);(· rfl);(· rfl))
  |((with_reducible apply lK);(· rfl);(· rfl);(· rfl))
  |((with_reducible apply lL);(· rfl);(· rfl);(· rfl);(· rfl))
  |((with_reducible apply lR))
  |((with_reducible apply j3);(· rfl);(· rfl))
  |((with_reducible apply iF);(· rfl);(· rfl);(· rfl);(· rfl))
  |((with_reducible apply u7);(· rfl);(· rfl);(intro hb);(try simp only[hb]);(try simp only[jS,jP,jR,jQ,Bool.true_and,Bool.false_and,Bool.true_or,Bool.false_or,fh,eu]);(rotate_left);(intro hb);(try simp only[hb]);(try simp only[jS,jP,jR,jQ,Bool.true_and,Bool.false_and,Bool.true_or,Bool.false_or,fh,eu]);(rotate_right))
  |((with_reducible apply oe);(· rfl);(· rfl);(intro hb);(rotate_left);(intro hb);(rotate_right))
  |((with_reducible apply od);(· rfl);(· rfl);(intro hb);(rotate_left);(intro hb);(rotate_right))
  |((with_reducible apply oq);(· exact cv))
  |((with_reducible apply ot);(· exact cv))
  |((with_reducible apply jU);(· conv=>lhs;reduce);(· exact Ey))
  |((with_reducible apply jT);(· conv=>lhs;reduce);(· exact Ey))
  |((with_reducible apply gE))
  |((with_reducible apply iD))
  |((with_reducible apply jZ);(· exact cv))
  |((with_reducible apply jX);(· exact cv))
  |((with_reducible apply lJ);(· first|exact c1|exact c1 _|exact c2|exact c2 _|exact c3|exact c3 _|exact c4|exact c4 _|exact c5|exact c5 _|exact c6|exact c6 _);(· exact cv);(· rfl))
  |((with_reducible apply jV);(· exact cv);(· first|exact c1|exact c1 _|exact c1 _ _|exact c1 _ _ _|exact c2|exact c2 _|exact c2 _ _|exact c2 _ _ _|exact c3|exact c3 _|exact c3 _ _|exact c3 _ _ _|exact c4|exact c4 _|exact c4 _ _|exact c4 _ _ _|exact c5|exact c5 _|exact c5 _ _|exact c5 _ _ _|exact c6|exact c6 _|exact c6 _ _|exact c6 _ _ _);(· rfl))
  |((with_reducible apply iH);(· exact cv);(· first|exact c1|exact c1 _|exact c1 _ _|exact c1 _ _ _|exact c2|exact c2 _|exact c2 _ _|exact c2 _ _ _|exact c3|exact c3 _|exact c3 _ _|exact c3 _ _ _|exact c4|exact c4 _|exact c4 _ _|exact c4 _ _ _|exact c5|exact c5 _|exact c5 _ _|exact c5 _ _ _|exact c6|exact c6 _|exact c6 _ _|exact c6 _ _ _))
  |((with_reducible apply j6);(· first|exact c1|exact c1 _|exact c2|exact c2 _|exact c3|exact c3 _|exact c4|exact c4 _|exact c5|exact c5 _|exact c6|exact c6 _);(· exact cv))
  |((with_reducible apply lI);(· exact cv);(· exact cv);(· first|exact v1|exact v1 _|exact v1 _ _|exact v2|exact v2 _|exact v2 _ _|exact v3|exact v3 _|exact v3 _ _);(· rfl))
  |((with_reducible apply j5);(· exact cv);(· exact cv);(· first|exact v1|exact v1 _|exact v1 _ _|exact v2|exact v2 _|exact v2 _ _|exact v3|exact v3 _|exact v3 _ _))
  |(refine bD.no ?_;omega)
  |exact bD.refl _)):p:=h.go k
theorem bP {qq p:Prop} (k:qq) (h:bD qq p:=by
 repeat' (first
  |((with_reducible apply j1))
  |((with_reducible apply oc);(· exact cv);(· rfl))
  |((with_reducible apply jY))
  |((with_reducible apply fR);(· exact aF);(· first|(simp only[List.append_eq,List.cons_append,List.nil_append];rfl)|rfl))
  |((with_reducible apply iE))
  |((with_reducible apply jf);(· rfl))
  |((with_reducible apply je);(· rfl))
  |((with_reducible apply gP);(· rfl);(· assumption))
  |((with_reducible apply gO);(· rfl);(· assumption))
  |((with_reducible apply jd);(· rfl);(intro hb);(rotate_left);(intro hb);(rotate_right))
  |((with_reducible apply jc);(· rfl);(intro hb);(rotate_left);(intro hb);(rotate_right))
  |((with_reducible apply jb))
  |((with_reducible apply jW))
  |((with_reducible apply iz);(· rfl))
  |((with_reducible apply n9);(· exact cv);(· rfl))
  |((with_reducible apply lP);(· exact cv))
  |((with_reducible apply iA);(· rfl);(· rfl))
  |((with_reducible apply gD);(· rfl);(· rfl);(· rfl);(· rfl);(· rfl))
  |((with_reducible apply fQ);(· rfl);(· rfl);(· rfl);(· rfl))
  |((with_reducible apply lO);(· rfl);(· rfl);(· rfl);(intro hb);(rotate_left);(intro hb);(rotate_right))
  |((with_reducible apply lN);(· rfl);(· rfl);(· rfl);(intro hb);(rotate_left);(intro hb);(rotate_right))
  |((with_reducible apply lQ);(· exact cv))
  |((with_reducible apply iB);(· exact cv);(· exact cv);(· exact cv);(· exact cv);(· rfl);(intro hb);(rotate_left);(intro hb);(rotate_right))
  |((with_reducible apply iC);(· exact cv);(· exact cv);(· exact cv);(· exact cv);(· rfl);(intro hb);(rotate_left);(intro hb);(rotate_right))
  |((with_reducible apply kK);(· exact aF);(· exact xl);(· first|(simp only[List.append_eq,List.cons_append,List.nil_append];rfl)|rfl);(· kernel_rfl))
  |((with_reducible apply n8);(· rfl);(· simp only[Nat.reduceAdd];rfl))
  |((with_reducible apply om);(· exact cv))
  |((with_reducible apply j4);(· rfl);(· rfl);(· exact cv))
  |((with_reducible apply iG);(· rfl);(· rfl);(· rfl);(· rfl))
  |((with_reducible apply oh);(· rfl);(· rfl);(intro hb);(rotate_left);(intro hb);(rotate_right))
  |((with_reducible apply og);(· rfl);(· rfl);(intro hb);(rotate_left);(intro hb);(rotate_right))
  |((with_reducible apply iw);(· rfl);(· simp only[Nat.reduceAdd];rfl))
  |((with_reducible apply iy);(· rfl))
  |((with_reducible apply lM);(· rfl);(· rfl))
  |((with_reducible apply lK);(· rfl);(· rfl);(· rfl))
  |((with_reducible apply lL);(· rfl);(· rfl);(· rfl);(· rfl))
  |((with_reducible apply lR))
  |((with_reducible apply j3);(· rfl);(· rfl))
  |((with_reducible apply iF);(· rfl);(· rfl);(· rfl);(· rfl))
  |((with_reducible apply oe);(· rfl);(· rfl);(intro hb);(rotate_left);(intro hb);(rotate_right))
  |((with_reducible apply od);(· rfl);(· rfl);(intro hb);(rotate_left);(intro hb);(rotate_right))
  |((with_reducible apply oq);(· exact cv))
  |((with_reducible apply ot);(· exact cv))
  |((with_reducible apply jU);(· conv=>lhs;reduce);(· exact Ey))
  |((with_reducible apply jT);(· conv=>lhs;reduce);(· exact Ey))
  |((with_reducible apply gE))
  |((with_reducible apply iD))
  |((with_reducible apply jZ);(· exact cv))
  |((with_reducible apply jX);(· exact cv))
  |((with_reducible apply lJ);(· first|exact c1|exact c1 _|exact c2|exact c2 _|exact c3|exact c3 _|exact c4|exact c4 _|exact c5|exact c5 _|exact c6|exact c6 _);(· exact cv);(· rfl))
  |((with_reducible apply jV);(· exact cv);(· first|exact c1|exact c1 _|exact c1 _ _|exact c1 _ _ _|exact c2|exact c2 _|exact c2 _ _|exact c2 _ _ _|exact c3|exact c3 _|exact c3 _ _|exact c3 _ _ _|exact c4|exact c4 _|exact c4 _ _|exact c4 _ _ _|exact c5|exact c5 _|exact c5 _ _|exact c5 _ _ _|exact c6|exact c6 _|exact c6 _ _|exact c6 _ _ _);(· rfl))
  |((with_reducible apply iH);(· exact cv);(· first|exact c1|exact c1 _|exact c1 _ _|exact c1 _ _ _|exact c2|exact c2 _|exact c2 _ _|exact c2 _ _ _|exact c3|exact c3 _|exact c3 _ _|exact c3 _ _ _|exact c4|exact c4 _|exact c4 _ _|exact c4 _ _ _|exact c5|exact c5 _|exact c5 _ _|exact c5 _ _ _|exact c6|exact c6 _|exact c6 _ _|exact c6 _ _ _))
  |((with_reducible apply j6);(· first|exact c1|exact c1 _|exact c2|exact c2 _|exact c3|exact c3 _|exact c4|exact c4 _|exact c5|exact c5 _|exact c6|exact c6 _);(· exact cv))
  |((with_reducible apply lI);(· exact cv);(· exact cv);(· first|exact v1|exact v1 _|exact v1 _ _|exact v2|exact v2 _|exact v2 _ _|exact v3|exact v3 _|exact v3 _ _);(· rfl))
  |((with_reducible apply j5);(· exact cv);(· exact cv);(· first|exact v1|exact v1 _|exact v1 _ _|exact v2|exact v2 _|exact v2 _ _|exact v3|exact v3 _|exact v3 _ _))
  |(refine bD.no ?_;omega)
  |exact bD.refl _)):p:=h.go k
theorem vx {qq p:Prop} (k:qq) (h:bD qq p:=by
 repeat' (first
  |((with_reducible apply j1))
  |((with_reducible apply oc);(· exact cv);(· rfl))
  |((with_reducible apply jY))
  |((with_reducible apply fR);(· exact aF);(· first|(simp only[List.append_eq,List.cons_append,List.nil_append];rfl)|rfl))
  |((with_reducible apply iE))
  |((with_reducible apply jf);(· rfl))
  |((with_reducible apply je);(· rfl))
  |((with_reducible apply gP);(· rfl);(· assumption))
  |((with_reducible apply gO);(· rfl);(· assumption))
  |((with_reducible apply jd);(· rfl);(intro hb);(rotate_left);(intro hb);(rotate_right))
  |((with_reducible apply jc);(· rfl);(intro hb);(rotate_left);(intro hb);(rotate_right))
  |((with_reducible apply jW))
  |((with_reducible apply iz);(· rfl))
  |((with_reducible apply n9);(· exact cv);(· rfl))
  |((with_reducible apply lP);(· exact cv))
  |((with_reducible apply iA);(· rfl);(· rfl))
  |((with_reducible apply gD);(· rfl);(· rfl);(· rfl);(· rfl);(· rfl))
  |((with_reducible apply fQ);(· rfl);(· rfl);(· rfl);(· rfl))
  |((with_reducible apply lO);(· rfl);(· rfl);(· rfl);(intro hb);(rotate_left);(intro hb);(rotate_right))
  |((with_reducible apply lN);(· rfl);(· rfl);(· rfl);(intro hb);(rotate_left);(intro hb);(rotate_right))
  |((with_reducible apply lQ);(· exact cv))
  |((with_reducible apply iB);(· exact cv);(· exact cv);(· exact cv);(· exact cv);(· rfl);(intro hb);(rotate_left);(intro hb);(rotate_right))
  |((with_reducible apply iC);(· exact cv);(· exact cv);(· exact cv);(· exact cv);(· rfl);(intro hb);(rotate_left);(intro hb);(rotate_right))
  |((with_reducible apply kK);(· exact aF);(· exact xl);(· first|(simp only[List.append_eq,List.cons_append,List.nil_append];rfl)|rfl);(· kernel_rfl))
  |((with_reducible apply n8);(· rfl);(· simp only[Nat.reduceAdd];rfl))
  |((with_reducible apply om);(· exact cv))
  |((with_reducible apply j4);(· rfl);(· rfl);(· exact cv))
  |((with_reducible apply iG);(· rfl);(· rfl);(· rfl);(· rfl))
  |((with_reducible apply oh);(· rfl);(· rfl);(intro hb);(rotate_left);(intro hb);(rotate_right))
  |((with_reducible apply og);(· rfl);(· rfl);(intro hb);(rotate_left);(intro hb);(rotate_right))
  |((with_reducible apply iw);(· rfl);(· simp only[Nat.reduceAdd];rfl))
  |((with_reducible apply iy);(· rfl))
  |((with_reducible apply lM);(· rfl);(· rfl))
  |((with_reducible apply lK);(· rfl);(· rfl);(· rfl))
  |((with_reducible apply lL);(· rfl);(· rfl);(· rfl);(· rfl))
  |((with_reducible apply lR))
  |((with_reducible apply j3);(· rfl);(· rfl))
  |((with_reducible apply iF);(· rfl);(· rfl);(· rfl);(· rfl))
  |((with_reducible apply oe);(· rfl);(· rfl);(intro hb);(rotate_left);(intro hb);(rotate_right))
  |((with_reducible apply od);(· rfl);(· rfl);(intro hb);(rotate_left);(intro hb);(rotate_right))
  |((with_reducible apply oq);(· exact cv))
  |((with_reducible apply ot);(· exact cv))
  |((with_reducible apply jU);(· conv=>lhs;reduce);(· exact Ey))
  |((with_reducible apply jT);(· conv=>lhs;reduce);(· exact Ey))
  |((with_reducible apply gE))
  |((with_reducible apply iD))
  |((with_reducible apply jZ);(· exact cv))
  |((with_reducible apply jX);(· exact cv))
  |((with_reducible apply lJ);(· first|exact c1|exact c1 _|exact c2|exact c2 _|exact c3|exact c3 _|exact c4|exact c4 _|exact c5|exact c5 _|exact c6|exact c6 _);(· exact cv);(· rfl))
  |((with_reducible apply jV);(· exact cv);(· first|exact c1|exact c1 _|exact c1 _ _|exact c1 _ _ _|exact c2|exact c2 _|exact c2 _ _|exact c2 _ _ _|exact c3|exact c3 _|exact c3 _ _|exact c3 _ _ _|exact c4|exact c4 _|exact c4 _ _|exact c4 _ _ _|exact c5|exact c5 _|exact c5 _ _|exact c5 _ _ _|exact c6|exact c6 _|exact c6 _ _|exact c6 _ _ _);(· rfl))
  |((with_reducible apply iH);(· exact cv);(· first|exact c1|exact c1 _|exact c1 _ _|exact c1 _ _ _|exact c2|exact c2 _|exact c2 _ _|exact c2 _ _ _|exact c3|exact c3 _|exact c3 _ _|exact c3 _ _ _|exact c4|exact c4 _|exact c4 _ _|exact c4 _ _ _|exact c5|exact c5 _|exact c5 _ _|exact c5 _ _ _|exact c6|exact c6 _|exact c6 _ _|exact c6 _ _ _))
  |((with_reducible apply j6);(· first|exact c1|exact c1 _|exact c2|exact c2 _|exact c3|exact c3 _|exact c4|exact c4 _|exact c5|exact c5 _|exact c6|exact c6 _);(· exact cv))
  |((with_reducible apply lI);(· exact cv);(· exact cv);(· first|exact v1|exact v1 _|exact v1 _ _|exact v2|exact v2 _|exact v2 _ _|exact v3|exact v3 _|exact v3 _ _);(· rfl))
  |((with_reducible apply j5);(· exact cv);(· exact cv);(· first|exact v1|exact v1 _|exact v1 _ _|exact v2|exact v2 _|exact v2 _ _|exact v3|exact v3 _|exact v3 _ _))
  |(refine bD.no ?_;omega)
  |exact bD.refl _)):p:=h.go k
theorem MF {qq p:Prop} (k:qq) (h:bD qq p:=by
 repeat' (first
  |((with_reducible apply j1))
  |((with_reducible apply oc);(· exact cv);(· rfl))
  |((with_reducible apply jY))
  |((with_reducible apply fR);(· exact aF);(· first|(simp only[List.append_eq,List.cons_append,List.nil_append];rfl)|rfl))
  |((with_reducible apply iE))
  |((with_reducible apply jf);(· rfl))
  |((with_reducible apply je);(· rfl))
  |((with_reducible apply gP);(· rfl);(· assumption))
  |((with_reducible apply gO);(· rfl);(· assumption))
  |((with_reducible apply jd);(· rfl);(intro hb);(rotate_left);(intro hb);(rotate_right))
  |((with_reducible apply jc);(· rfl);(intro hb);(rotate_left);(intro hb);(rotate_right))
  |((with_reducible apply jb))
  |((with_reducible apply jW))
  |((with_reducible apply iz);(· rfl))
  |((with_reducible apply n9);(· exact cv);(· rfl))
  |((with_reducible apply lP);(· exact cv))
  |((with_reducible apply iA);(· rfl);(· rfl))
  |((with_reducible apply gD);(· rfl);(· rfl);(· rfl);(· rfl);(· rfl))
  |((with_reducible apply fQ);(· rfl);(· rfl);(· rfl);(· rfl))
  |((with_reducible apply pg);(· rfl);(· rfl);(· exact yL);(· rfl))
  |((with_reducible apply ph);(· rfl);(· rfl);(· exact yM);(· rfl))
  |((with_reducible apply pj);(· rfl);(· rfl);(· exact yN);(· rfl))
  |((with_reducible apply rG);(· rfl);(· rfl);(· rfl);(intro hb);(try simp only[hb]);(try simp only[jS,jP,jR,jQ,Bool.true_and,Bool.false_and,Bool.true_or,Bool.false_or,fh,eu]);(rotate_left);(intro hb);(try simp only[hb]);(try simp only[jS,jP,jR,jQ,Bool.true_and,Bool.false_and,Bool.true_or,Bool.false_or,fh,eu]);(rotate_right))
  |((with_reducible apply lO);(· rfl);(· rfl);(· rfl);(intro hb);(rotate_left);(intro hb);(rotate_right))
  |((with_reducible apply lN);(· rfl);(· rfl);(· rfl);(intro hb);(rotate_left);(intro hb);(rotate_right))
  |((with_reducible apply lQ);(· exact cv))
  |((with_reducible apply iB);(· exact cv);(· exact cv);(· exact cv);(· exact cv);(· rfl);(intro hb);(rotate_left);(intro hb);(rotate_right))
  |((with_reducible apply iC);(· exact cv);(· exact cv);(· exact cv);(· exact cv);(· rfl);(intro hb);(rotate_left);(intro hb);(rotate_right))
  |((with_reducible apply n8);(· rfl);(· simp only[Nat.reduceAdd];rfl))
  |((with_reducible apply om);(· exact cv))
  |((with_reducible apply j4);(· rfl);(· rfl);(· exact cv))
  |((with_reducible apply iG);(· rfl);(· rfl);(· rfl);(· rfl))
  |((with_reducible apply rH);(· rfl);(· rfl);(· exact yL))
  |((with_reducible apply rI);(· rfl);(· rfl);(· exact yM))
  |((with_reducible apply rJ);(· rfl);(· rfl);(· exact yN))
  |((with_reducible apply oh);(· rfl);(· rfl);(intro hb);(rotate_left);(intro hb);(rotate_right))
  |((with_reducible apply og);(· rfl);(· rfl);(intro hb);(rotate_left);(intro hb);(rotate_right))
  |((with_reducible apply iw);(· rfl);(· simp only[Nat.reduceAdd];rfl))
  |((with_reducible apply iy);(· rfl))
  |((with_reducible apply lM);(· rfl);(· rfl))
  |((with_reducible apply lK);(· rfl);(· rfl);(· rfl))
  |((with_reducible apply lL);(· rfl);(· rfl);(· rfl);(· rfl))
  |((with_reducible apply lR))
  |((with_reducible apply j3);(· rfl);(· rfl))
  |((with_reducible apply iF);(· rfl);(· rfl);(· rfl);(· rfl))
  |((with_reducible apply u7);(· rfl);(· rfl);(intro hb);(try simp only[hb]);(try simp only[jS,jP,jR,jQ,Bool.true_and,Bool.false_and,Bool.true_or,Bool.false_or,fh,eu]);(rotate_left);(intro hb);(try simp only[hb]);(try simp only[jS,jP,jR,jQ,Bool.true_and,Bool.false_and,Bool.true_or,Bool.false_or,fh,eu]);(rotate_right))
  |((with_reducible apply oe);(· rfl);(· rfl);(intro hb);(rotate_left);(intro hb);(rotate_right))
  |((with_reducible apply od);(· rfl);(· rfl);(intro hb);(rotate_left);(intro hb);(rotate_right))
  |((with_reducible apply oq);(· exact cv))
  |((with_reducible apply ot);(· exact cv))
  |((with_reducible apply jU);(· conv=>lhs;reduce);(· exact Ey))
  |((with_reducible apply jT);(· conv=>lhs;reduce);(· exact Ey))
  |((with_reducible apply gE))
  |((with_reducible apply iD))
  |((with_reducible apply jZ);(· exact cv))
  |((with_reducible apply jX);(· exact cv))
  |((with_reducible apply lJ);(· first|exact c1|exact c1 _|exact c2|exact c2 _|exact c3|exact c3 _|exact c4|exact c4 _|exact c5|exact c5 _|exact c6|exact c6 _);(· exact cv);(· rfl))
  |((with_reducible apply jV);(· exact cv);(· first|exact c1|exact c1 _|exact c1 _ _|exact c1 _ _ _|exact c2|exact c2 _|exact c2 _ _|exact c2 _ _ _|exact c3|exact c3 _|exact c3 _ _|exact c3 _ _ _|exact c4|exact c4 _|exact c4 _ _|exact c4 _ _ _|exact c5|exact c5 _|exact c5 _ _|exact c5 _ _ _|exact c6|exact c6 _|exact c6 _ _|exact c6 _ _ _);(· rfl))
  |((with_reducible apply iH);(· exact cv);(· first|exact c1|exact c1 _|exact c1 _ _|exact c1 _ _ _|exact c2|exact c2 _|exact c2 _ _|exact c2 _ _ _|exact c3|exact c3 _|exact c3 _ _|exact c3 _ _ _|exact c4|exact c4 _|exact c4 _ _|exact c4 _ _ _|exact c5|exact c5 _|exact c5 _ _|exact c5 _ _ _|exact c6|exact c6 _|exact c6 _ _|exact c6 _ _ _))
  |((with_reducible apply j6);(· first|exact c1|exact c1 _|exact c2|exact c2 _|exact c3|exact c3 _|exact c4|exact c4 _|exact c5|exact c5 _|exact c6|exact c6 _);(· exact cv))
  |((with_reducible apply lI);(· exact cv);(· exact cv);(· first|exact v1|exact v1 _|exact v1 _ _|exact v2|exact v2 _|exact v2 _ _|exact v3|exact v3 _|exact v3 _ _);(· rfl))
  |((with_reducible apply j5);(· exact cv);(· exact cv);(· first|exact v1|exact v1 _|exact v1 _ _|exact v2|exact v2 _|exact v2 _ _|exact v3|exact v3 _|exact v3 _ _))
  |(refine bD.no ?_;omega)
  |exact bD.refl _)):p:=h.go k
theorem jD {qq p:Prop} (k:qq) (h:bD qq p:=by
 repeat' (first
  |((with_reducible apply j1))
  |((with_reducible apply oc);(· exact cv);(· rfl))
  |((with_reducible apply jY))
  |((with_reducible apply fR);(· exact aF);(· first|(simp only[List.append_eq,List.cons_append,List.nil_append];rfl)|rfl))
  |((with_reducible apply iE))
  |((with_reducible apply jb))
  |((with_reducible apply jW))
  |((with_reducible apply iz);(· rfl))
  |((with_reducible apply n9);(· exact cv);(· rfl))
  |((with_reducible apply lP);(· exact cv))
  |((with_reducible apply iA);(· rfl);(· rfl))
  |((with_reducible apply gD);(· rfl);(· rfl);(· rfl);(· rfl);(· rfl))
  |((with_reducible apply fQ);(· rfl);(· rfl);(· rfl);(· rfl))
  |((with_reducible apply pg);(· rfl);(· rfl);(· exact yL);(· rfl))
  |((with_reducible apply ph);(· rfl);(· rfl);(· exact yM);(· rfl))
  |((with_reducible apply pj);(· rfl);(· rfl);(· exact yN);(· rfl))
  |((with_reducible apply rG);(· rfl);(· rfl);(· rfl);(intro hb);(try simp only[hb]);(try simp only[jS,jP,jR,jQ,Bool.true_and,Bool.false_and,Bool.true_or,Bool.false_or,fh,eu]);(rotate_left);(intro hb);(try simp only[hb]);(try simp only[jS,jP,jR,jQ,Bool.true_and,Bool.false_and,Bool.true_or,Bool.false_or,fh,eu]);(rotate_right))
  |((with_reducible apply lO);(· rfl);(· rfl);(· rfl);(intro hb);(rotate_left);(intro hb);(rotate_right))
  |((with_reducible apply lN);(· rfl);(· rfl);(· rfl);(intro hb);(rotate_left);(intro hb);(rotate_right))
  |((with_reducible apply lQ);(· exact cv))
  |((with_reducible apply iB);(· exact cv);(· exact cv);(· exact cv);(· exact cv);(· rfl);(intro hb);(rotate_left);(intro hb);(rotate_right))
  |((with_reducible apply iC);(· exact cv);(· exact cv);(· exact cv);(· exact cv);(· rfl);(intro hb);(rotate_left);(intro hb);(rotate_right))
  |((with_reducible apply kK);(· exact aF);(· exact xl);(· first|(simp only[List.append_eq,List.cons_append,List.nil_append];rfl)|rfl);(· kernel_rfl))
  |((with_reducible apply n8);(· rfl);(· simp only[Nat.reduceAdd];rfl))
  |((with_reducible apply om);(· exact cv))
  |((with_reducible apply j4);(· rfl);(· rfl);(· exact cv))
  |((with_reducible apply iG);(· rfl);(· rfl);(· rfl);(· rfl))
  |((with_reducible apply rH);(· rfl);(· rfl);(· exact yL))
  |((with_reducible apply rI);(· rfl);(· rfl);(· exact yM))
  |((with_reducible apply rJ);(· rfl);(· rfl);(· exact yN))
  |((with_reducible apply oh);(· rfl);(· rfl);(intro hb);(rotate_left);(intro hb);(rotate_right))
  |((with_reducible apply og);(· rfl);(· rfl);(intro hb);(rotate_left);(intro hb);(rotate_right))
  |((with_reducible apply iw);(· rfl);(· simp only[Nat.reduceAdd];rfl))
  |((with_reducible apply iy);(· rfl))
  |((with_reducible apply lM);(· rfl);(· rfl))
  |((with_reducible apply lK);(· rfl);(· rfl);(· rfl))
  |((with_reducible apply lL);(· rfl);(· rfl);(· rfl);(· rfl))
  |((with_reducible apply lR))
  |((with_reducible apply j3);(· rfl);(· rfl))
  |((with_reducible apply iF);(· rfl);(· rfl);(· rfl);(· rfl))
  |((with_reducible apply u7);(· rfl);(· rfl);(intro hb);(try simp only[hb]);(try simp only[jS,jP,jR,jQ,Bool.true_and,Bool.false_and,Bool.true_or,Bool.false_or,fh,eu]);(rotate_left);(intro hb);(try simp only[hb]);(try simp only[jS,jP,jR,jQ,Bool.true_and,Bool.false_and,Bool.true_or,Bool.false_or,fh,eu]);(rotate_right))
  |((with_reducible apply oe);(· rfl);(· rfl);(intro hb);(rotate_left);(intro hb);(rotate_right))
  |((with_reducible apply od);(· rfl);(· rfl);(intro hb);(rotate_left);(intro hb);(rotate_right))
  |((with_reducible apply oq);(· exact cv))
  |((with_reducible apply ot);(· exact cv))
  |((with_reducible apply jU);(· conv=>lhs;reduce);(· exact Ey))
  |((with_reducible apply jT);(· conv=>lhs;reduce);(· exact Ey))
  |((with_reducible apply gE))
  |((with_reducible apply iD))
  |((with_reducible apply jZ);(· exact cv))
  |((with_reducible apply jX);(· exact cv))
  |((with_reducible apply lJ);(· first|exact c1|exact c1 _|exact c2|exact c2 _|exact c3|exact c3 _|exact c4|exact c4 _|exact c5|exact c5 _|exact c6|exact c6 _);(· exact cv);(· rfl))
  |((with_reducible apply jV);(· exact cv);(· first|exact c1|exact c1 _|exact c1 _ _|exact c1 _ _ _|exact c2|exact c2 _|exact c2 _ _|exact c2 _ _ _|exact c3|exact c3 _|exact c3 _ _|exact c3 _ _ _|exact c4|exact c4 _|exact c4 _ _|exact c4 _ _ _|exact c5|exact c5 _|exact c5 _ _|exact c5 _ _ _|exact c6|exact c6 _|exact c6 _ _|exact c6 _ _ _);(· rfl))
  |((with_reducible apply iH);(· exact cv);(· first|exact c1|exact c1 _|exact c1 _ _|exact c1 _ _ _|exact c2|exact c2 _|exact c2 _ _|exact c2 _ _ _|exact c3|exact c3 _|exact c3 _ _|exact c3 _ _ _|exact c4|exact c4 _|exact c4 _ _|exact c4 _ _ _|exact c5|exact c5 _|exact c5 _ _|exact c5 _ _ _|exact c6|exact c6 _|exact c6 _ _|exact c6 _ _ _))
  |((with_reducible apply j6);(· first|exact c1|exact c1 _|exact c2|exact c2 _|exact c3|exact c3 _|exact c4|exact c4 _|exact c5|exact c5 _|exact c6|exact c6 _);(· exact cv))
  |((with_reducible apply lI);(· exact cv);(· exact cv);(· first|exact v1|exact v1 _|exact v1 _ _|exact v2|exact v2 _|exact v2 _ _|exact v3|exact v3 _|exact v3 _ _);(· rfl))
  |((with_reducible apply j5);(· exact cv);(· exact cv);(· first|exact v1|exact v1 _|exact v1 _ _|exact v2|exact v2 _|exact v2 _ _|exact v3|exact v3 _|exact v3 _ _))
  |(refine bD.no ?_;omega)
  |exact bD.refl _)):p:=h.go k
section
variable {P:Program} {G:Gl} {T:aE} {own:List Nat} {nt B:Nat} {ρ:Option Nat} {C:Cx} {rs:List ResultVar} {R:SV→List az→Prop} {env env2:Env} {H X KB:List az} {k:List It}
theorem bB (ks:ez) {n0:Nat} (hG:aw G) (hB:eJ G C.H.length) (hC:C.H.length=n0) (hcl:closed H) (hn:H.length=n0:=by first|rfl|(simp;done)|exact hlen _) (hk:en (H++X) n0 ks ks KB:=by exact A2) (hd:(ks.map (·.1)).Nodup:=by first|rfl|decide|simp) (he:gR (H++X) n0 ks env2 env:=by exact A2):Wk G nt C ⟨env,H++X⟩ ⟨env2,H++KB⟩:=Wk.xe ks hG hB hn hC hcl hk hd he
variable {all r:List Oper} {ty d j dj:Nat} {op:Op} {pos:String} {after:Array Edge} {v:SV} {want:Bool} {dst:Option Nat} {kk:SV→List az→Prop}
variable {R':SV→List az→Prop} {xs:List SV} {f:Operand} {fv:SV} {args:Array Operand} {tys:Array Nat} {g:FuncId}
theorem bh (hc:ag P G g xs H R') (hk:∀ x H',R' x H'→(Out P G T own nt ρ C rs R) (.ops all r::k) .normal ((d,x)::env) H') (h2:jL G env args.toList=some xs:=by exact cv) (hd:Nat.blt d nt=true:=by rfl):(Out P G T own nt ρ C rs R) (.ops all (⟨some d,.call ⟨.value (.func g),args,tys⟩,ty,pos,after,none⟩::r)::k) .normal env H:=fg h2 hd hc hk
theorem fB (hc:bL P G fv xs H R') (hk:∀ x H',R' x H'→(Out P G T own nt ρ C rs R) (.ops all r::k) .normal ((d,x)::env) H') (h1:ev G env f=some fv:=by exact cv) (h2:jL G env args.toList=some xs:=by exact cv) (hd:Nat.blt d nt=true:=by rfl):(Out P G T own nt ρ C rs R) (.ops all (⟨some d,.call ⟨.value f,args,tys⟩,ty,pos,after,none⟩::r)::k) .normal env H:=nW h1 h2 hd hc hk
theorem dq (hc:ag P G g xs H R') (hk:∀ x H',R' x H'→kk x H') (h2:jL G env args.toList=some xs:=by exact cv):la P G T own all ⟨dst,.call ⟨.value (.func g),args,tys⟩,ty,pos,after,none⟩ env H kk:=qI h2 hc hk
theorem aS {R0:SV→List az→Prop} {n0:Nat} (hR:nC (∀ y H',R0 y H'→R y H')) (hC:C.H.length=n0) (hcl:closed H) {x y:SV} (hx:bV (H++X) n0 [] x y) (h:R0 y H) (hn:H.length=n0:=by first|rfl|(simp;done)|exact hlen _):Fin C (H++X) x R:=Fin.dx hR hn hC hcl hx h
theorem jv (ks:ez) {R0:SV→List az→Prop} {n0:Nat} (y:SV) (KB:List az) (hR:nC (∀ y H',R0 y H'→R y H')) (hC:C.H.length=n0) (hcl:closed H) {x:SV} (h:R0 y (H++KB)) (hk:en (H++X) n0 ks ks KB:=by exact A2) (hd:(ks.map (·.1)).Nodup:=by first|rfl|decide|simp) (hx:bV (H++X) n0 ks x y:=by exact A2) (hn:H.length=n0:=by first|rfl|(simp;done)|exact hlen _):Fin C (H++X) x R:=Fin.xe ks hR hn hC hcl hk hd hx h
end
end
end Go.Proofs.YtedejleokilohaaGreatDoor
