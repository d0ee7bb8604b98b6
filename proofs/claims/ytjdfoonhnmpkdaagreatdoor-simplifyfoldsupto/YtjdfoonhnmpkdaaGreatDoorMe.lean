/- A part of the proof: SwH, Tab, SwI, SwJ. Names and spaces are cut short by program. -/
import Derived.Test.YtjdfoonhnmpkdaaGreatDoorMd
import Derived.KernelRfl
import Derived.Test.YtjdfoonhnmpkdaaGreatDoorChecked
import Derived.Sort.Grow
import Derived.Laws.IdiomRangeMap
set_option linter.unusedSimpArgs false
set_option linter.unusedVariables false
set_option maxRecDepth 10000
set_option maxHeartbeats 4000000
namespace Go.Proofs.YtjdfoonhnmpkdaaGreatDoor
open Go
section
structure bu (q p:Prop):Prop where
 go:q→p
theorem bu.refl (p:Prop):bu p p:=⟨id⟩
theorem bu.via {q a b:Prop} (h:a→b) (k:bu q a):bu q b:=⟨fun x=>h (k.go x)⟩
structure aJ (c d:Prop) (A:c→Prop) (B:d→Prop):Prop where
 l:∀ x:c,A x
 r:∀ x:d,B x
structure bN (A B:Prop):Prop where
 l:A
 r:B
theorem bu.fork {c d A B p:Prop} {qa:c→Prop} {qb:d→Prop} (h:(c→A)→(d→B)→p) (l:∀ x:c,bu (qa x) A) (r:∀ x:d,bu (qb x) B):bu (aJ c d qa qb) p:=⟨fun f=>h (fun x=>(l x).go (f.l x)) (fun x=>(r x).go (f.r x))⟩
theorem bu.two {A B qa qb p:Prop} (h:A→B→p) (l:bu qa A) (r:bu qb B):bu (bN qa qb) p:=⟨fun f=>h (l.go f.l) (r.go f.r)⟩
theorem bu.no {p:Prop} (h:False):bu True p:=h.elim
def QB:Prop:=(1=0)=False
theorem aO:QB:=by unfold QB;simp
theorem Px {σ:Type} (Hs:σ→List av) (n0:Nat) (hlen:∀ i,(Hs i).length=n0):(∀ i,(Hs i).length=n0)∧(∀ i L,(Hs i++L)[n0]? =L[0]?)∧(∀ i L k,(Hs i++L)[n0+k]? =L[k]?)∧(∀ i L x,(Hs i++L).set n0 x=Hs i++L.set 0 x)∧(∀ i L k x,(Hs i++L).set (n0+k) x=Hs i++L.set k x):=
 ⟨hlen,fun i L=>by rw[← hlen i];exact bL _ _,fun i L k=>by rw[← hlen i];exact aH _ _ _,fun i L x=>by rw[← hlen i];exact du _ _ _,fun i L k x=>by rw[← hlen i];exact bW _ _ _ _⟩
section
variable {qq qa qb:Prop}
variable {P:Program} {G:Gl} {T:bX} {own:List Nat} {nt B:Nat} {ρ:Option Nat} {C:Cx} {rs:List ResultVar} {R:SV→List av→Prop} {env env2:Env} {H H':List av} {k:List It}
variable {all r:List Oper} {ty d j dj:Nat} {op:Op} {pos:String} {after:Array Edge} {v:SV} {want:Bool}
variable {R':SV→List av→Prop} {xs:List SV} {f:Operand} {fv:SV} {args:Array Operand} {tys:Array Nat} {g:FuncId}
theorem nV {x y:Code} (kq:bu qq ((Out P G T own nt ρ C rs R) (.code x:: .code y::k) .normal env H)):bu qq ((Out P G T own nt ρ C rs R) (.code (.seq x y)::k) .normal env H):=bu.via (N9) kq
theorem s7 (h:qv G T own env H (some d) ty op=some v) (hd:Nat.blt d nt=true) (kq:bu qq ((Out P G T own nt ρ C rs R) (.ops all r::k) .normal ((d,v)::env) H)):bu qq ((Out P G T own nt ρ C rs R) (.ops all (⟨some d,op,ty,pos,after,none⟩::r)::k) .normal env H):=bu.via (Pt h hd) kq
theorem qw (h:qv G T own env H none ty op=some v) (kq:bu qq ((Out P G T own nt ρ C rs R) (.ops all r::k) .normal env H)):bu qq ((Out P G T own nt ρ C rs R) (.ops all (⟨none,op,ty,pos,after,none⟩::r)::k) .normal env H):=bu.via (Pu h) kq
theorem nT {all:List Oper} (kq:bu qq ((Out P G T own nt ρ C rs R) k .normal env H)):bu qq ((Out P G T own nt ρ C rs R) (.ops all []::k) .normal env H):=bu.via (IS) kq
theorem iL (hT:aI P T) {id:Nat} {ops:Array Oper} {l:List Oper} (hl:ops=⟨l⟩) (kq:bu qq ((Out P G T own nt ρ C rs R) (.ops l l::k) .normal env H)):bu qq ((Out P G T own nt ρ C rs R) (.code (.region id ops false)::k) .normal env H):=bu.via (Gt hT hl) kq
theorem lG (kq:bu qq ((Out P G T own nt ρ C rs R) k .normal env H)):bu qq ((Out P G T own nt ρ C rs R) (.code .skip::k) .normal env H):=bu.via (L5) kq
theorem jX {l:Nat} (kq:bu qq ((Out P G T own nt ρ C rs R) k .normal env H)):bu qq ((Out P G T own nt ρ C rs R) (.code (.label l)::k) .normal env H):=bu.via (IQ) kq
theorem mQ {t:Nat} {p q:Code} (h1:look env t=some (.bool true)) (kq:bu qq ((Out P G T own nt ρ C rs R) (.code p::k) .normal env H)):bu qq ((Out P G T own nt ρ C rs R) (.code (.cond (.tmp t) p q)::k) .normal env H):=bu.via (BE h1) kq
theorem mP {t:Nat} {p q:Code} (h1:look env t=some (.bool false)) (kq:bu qq ((Out P G T own nt ρ C rs R) (.code q::k) .normal env H)):bu qq ((Out P G T own nt ρ C rs R) (.code (.cond (.tmp t) p q)::k) .normal env H):=bu.via (uJ h1) kq
theorem ly {t:Nat} {p q:Code} {a:Prop} {inst:Decidable a} (h1:look env t=some (.bool (decide a))) (ha:a) (kq:bu qq ((Out P G T own nt ρ C rs R) (.code p::k) .normal ((t,.bool true)::env) H)):bu qq ((Out P G T own nt ρ C rs R) (.code (.cond (.tmp t) p q)::k) .normal env H):=bu.via (kN h1 ha) kq
theorem lx {t:Nat} {p q:Code} {a:Prop} {inst:Decidable a} (h1:look env t=some (.bool (decide a))) (ha:¬ a) (kq:bu qq ((Out P G T own nt ρ C rs R) (.code q::k) .normal ((t,.bool false)::env) H)):bu qq ((Out P G T own nt ρ C rs R) (.code (.cond (.tmp t) p q)::k) .normal env H):=bu.via (eh h1 ha) kq
theorem mL {id:Nat} {x:Code} (kq:bu qq ((Out P G T own nt ρ C rs R) (.code x:: .dQ id::k) .normal env H)):bu qq ((Out P G T own nt ρ C rs R) (.code (.block id x)::k) .normal env H):=bu.via (IM) kq
theorem nR {id:Nat} (kq:bu qq ((Out P G T own nt ρ C rs R) k .normal env H)):bu qq ((Out P G T own nt ρ C rs R) (.dQ id::k) .normal env H):=bu.via (N4) kq
theorem lB {id:Nat} {k':List It} (hu:O3 id k=some k') (kq:bu qq ((Out P G T own nt ρ C rs R) k' .normal env H)):bu qq ((Out P G T own nt ρ C rs R) (.code (.exit id)::k) .normal env H):=bu.via (LW hu) kq
theorem s6 (h:lv G T own env H (some d) ty op=some (v,H')) (hd:Nat.blt d nt=true) (kq:bu qq ((Out P G T own nt ρ C rs R) (.ops all r::k) .normal ((d,v)::env) H')):bu qq ((Out P G T own nt ρ C rs R) (.ops all (⟨some d,op,ty,pos,after,none⟩::r)::k) .normal env H):=bu.via (QR h hd) kq
theorem qu (h:lv G T own env H none ty op=some (v,H')) (kq:bu qq ((Out P G T own nt ρ C rs R) (.ops all r::k) .normal env H')):bu qq ((Out P G T own nt ρ C rs R) (.ops all (⟨none,op,ty,pos,after,none⟩::r)::k) .normal env H):=bu.via (Ps h) kq
theorem lC {dst:Option Nat} (h1:(all[j]?).bind (·.dst)=some dj) (h2:look env dj=some (.bool want)) (kq:bu qq ((Out P G T own nt ρ C rs R) (.ops all (⟨dst,op,ty,pos,after,none⟩::r)::k) .normal env H)):bu qq ((Out P G T own nt ρ C rs R) (.ops all (⟨dst,op,ty,pos,after,some (j,want)⟩::r)::k) .normal env H):=bu.via (ET h1 h2) kq
theorem jW {v:SV} {b:Option Bool} (h1:(all[j]?).bind (·.dst)=some dj) (h2:look env dj=some v) (h3:yF v=some b) (hb:(b==some want)=false) (hd:Nat.blt d nt=true) (kq:bu qq ((Out P G T own nt ρ C rs R) (.ops all r::k) .normal ((d,.undef)::env) H)):bu qq ((Out P G T own nt ρ C rs R) (.ops all (⟨some d,op,ty,pos,after,some (j,want)⟩::r)::k) .normal env H):=bu.via (pY h1 h2 h3 hb hd) kq
theorem iK {v:SV} {b:Option Bool} (h1:(all[j]?).bind (·.dst)=some dj) (h2:look env dj=some v) (h3:yF v=some b) (hb:(b==some want)=false) (kq:bu qq ((Out P G T own nt ρ C rs R) (.ops all r::k) .normal env H)):bu qq ((Out P G T own nt ρ C rs R) (.ops all (⟨none,op,ty,pos,after,some (j,want)⟩::r)::k) .normal env H):=bu.via (Gr h1 h2 h3 hb) kq
theorem xE {b:Bool} (h1:(all[j]?).bind (·.dst)=some dj) (h2:look env dj=some (.bool b)) (hv:b=want→qv G T own env H (some d) ty op=some v) (hd:Nat.blt d nt=true) (kq:bu qq ((Out P G T own nt ρ C rs R) (.ops all r::k) .normal ((d,gv b want v)::env) H)):bu qq ((Out P G T own nt ρ C rs R) (.ops all (⟨some d,op,ty,pos,after,some (j,want)⟩::r)::k) .normal env H):=bu.via (IN h1 h2 hv hd) kq
theorem xF {b b1 w1:Bool} (h1:(all[j]?).bind (·.dst)=some dj) (h2:look env dj=some (gv b1 w1 (.bool b))) (hv:b1=w1→b=want→qv G T own env H (some d) ty op=some v) (hd:Nat.blt d nt=true) (kq:bu qq ((Out P G T own nt ρ C rs R) (.ops all r::k) .normal ((d,gv b1 w1 (gv b want v))::env) H)):bu qq ((Out P G T own nt ρ C rs R) (.ops all (⟨some d,op,ty,pos,after,some (j,want)⟩::r)::k) .normal env H):=bu.via (IP h1 h2 hv hd) kq
theorem xG {b b1 w1 b2 w2:Bool} (h1:(all[j]?).bind (·.dst)=some dj) (h2:look env dj=some (gv b1 w1 (gv b2 w2 (.bool b)))) (hv:b1=w1→b2=w2→b=want→qv G T own env H (some d) ty op=some v) (hd:Nat.blt d nt=true) (kq:bu qq ((Out P G T own nt ρ C rs R) (.ops all r::k) .normal ((d,gv b1 w1 (gv b2 w2 (gv b want v)))::env) H)):bu qq ((Out P G T own nt ρ C rs R) (.ops all (⟨some d,op,ty,pos,after,some (j,want)⟩::r)::k) .normal env H):=bu.via (N6 h1 h2 hv hd) kq
theorem lF {K:Env→List av→Prop} (kq:bu qq (K env H)):bu qq ((Out P G T own nt ρ C rs R) (.pred K::k) .normal env H):=bu.via (L3) kq
theorem nU {xs:List SV} (h1:jA T env H rs=some xs) (kq:bu qq (Fin C H (aC xs) R)):bu qq ((Out P G T own nt ρ C rs R) (.code .ret::k) .normal env H):=bu.via (N8 h1) kq
theorem nS {xs:List SV} (h1:jA T env H rs=some xs) (kq:bu qq (Fin C H (aC xs) R)):bu qq ((Out P G T own nt ρ C rs R) [] .normal env H):=bu.via (N5 h1) kq
theorem mM {t:Nat} {p q:Code} {b:Bool} (h1:look env t=some (.bool b)) {qa:b=true→Prop} {qb:b=false→Prop} (lq:∀ x:b=true,bu (qa x) ((Out P G T own nt ρ C rs R) (.code p::k) .normal ((t,.bool true)::env) H)) (rq:∀ x:b=false,bu (qb x) ((Out P G T own nt ρ C rs R) (.code q::k) .normal ((t,.bool false)::env) H)):bu (aJ (b=true) (b=false) qa qb) ((Out P G T own nt ρ C rs R) (.code (.cond (.tmp t) p q)::k) .normal env H):=bu.fork (uH h1) lq rq
theorem mN {t:Nat} {p q:Code} {a:Prop} {inst:Decidable a} (h1:look env t=some (.bool (decide a))) {qa:a→Prop} {qb:¬ a→Prop} (lq:∀ x:a,bu (qa x) ((Out P G T own nt ρ C rs R) (.code p::k) .normal ((t,.bool true)::env) H)) (rq:∀ x:¬ a,bu (qb x) ((Out P G T own nt ρ C rs R) (.code q::k) .normal ((t,.bool false)::env) H)):bu (aJ (a) (¬ a) qa qb) ((Out P G T own nt ρ C rs R) (.code (.cond (.tmp t) p q)::k) .normal env H):=bu.fork (uI h1) lq rq
theorem qs {o:Oper} {b:Bool} (hg:o.guard=some (j,want)) (h1:(all[j]?).bind (·.dst)=some dj) (h2:look env dj=some (.bool b)) {qa:b=true→Prop} {qb:b=false→Prop} (lq:∀ x:b=true,bu (qa x) ((Out P G T own nt ρ C rs R) (.ops all (o::r)::k) .normal ((dj,.bool true)::env) H)) (rq:∀ x:b=false,bu (qb x) ((Out P G T own nt ρ C rs R) (.ops all (o::r)::k) .normal ((dj,.bool false)::env) H)):bu (aJ (b=true) (b=false) qa qb) ((Out P G T own nt ρ C rs R) (.ops all (o::r)::k) .normal env H):=bu.fork (Ni hg h1 h2) lq rq
theorem qt {o:Oper} {a:Prop} {inst:Decidable a} (hg:o.guard=some (j,want)) (h1:(all[j]?).bind (·.dst)=some dj) (h2:look env dj=some (.bool (decide a))) {qa:a→Prop} {qb:¬ a→Prop} (lq:∀ x:a,bu (qa x) ((Out P G T own nt ρ C rs R) (.ops all (o::r)::k) .normal ((dj,.bool true)::env) H)) (rq:∀ x:¬ a,bu (qb x) ((Out P G T own nt ρ C rs R) (.ops all (o::r)::k) .normal ((dj,.bool false)::env) H)):bu (aJ (a) (¬ a) qa qb) ((Out P G T own nt ρ C rs R) (.ops all (o::r)::k) .normal env H):=bu.fork (Pq hg h1 h2) lq rq
theorem lD {x y:Operand} {X:SV} {t yt n:Nat} (h1:ev G env x=some X) (h2:ev G env y=some .nil) (h3:fM T t=2) (h4:qT H X=some n) (hd:Nat.blt d nt=true) {qa:n=0→Prop} {qb:True→Prop} (lq:∀ x:n=0,bu (qa x) ((Out P G T own nt ρ C rs R) (.ops all r::k) .normal ((d,.bool true)::env) H)) (rq:∀ x:True,bu (qb x) ((Out P G T own nt ρ C rs R) (.ops all r::k) .normal ((d,.bool false)::env) H)):bu (aJ (n=0) (True) qa qb) ((Out P G T own nt ρ C rs R) (.ops all (⟨some d,.binOp .eql t x y yt,ty,pos,after,none⟩::r)::k) .normal env H):=bu.fork (LX h1 h2 h3 h4 hd) lq rq
theorem lE {x y:Operand} {X:SV} {t yt n:Nat} (h1:ev G env x=some X) (h2:ev G env y=some .nil) (h3:fM T t=2) (h4:qT H X=some n) (hd:Nat.blt d nt=true) {qa:n=0→Prop} {qb:True→Prop} (lq:∀ x:n=0,bu (qa x) ((Out P G T own nt ρ C rs R) (.ops all r::k) .normal ((d,.bool false)::env) H)) (rq:∀ x:True,bu (qb x) ((Out P G T own nt ρ C rs R) (.ops all r::k) .normal ((d,.bool true)::env) H)):bu (aJ (n=0) (True) qa qb) ((Out P G T own nt ρ C rs R) (.ops all (⟨some d,.binOp .neq t x y yt,ty,pos,after,none⟩::r)::k) .normal env H):=bu.fork (LY h1 h2 h3 h4 hd) lq rq
theorem BK {o:Oper} {b1 w1:Bool} {u:SV} (hg:o.guard=some (j,want)) (h1:(all[j]?).bind (·.dst)=some dj) (h2:look env dj=some (gv b1 w1 u)) {qa:b1=true→Prop} {qb:b1=false→Prop} (lq:∀ x:b1=true,bu (qa x) ((Out P G T own nt ρ C rs R) (.ops all (o::r)::k) .normal env H)) (rq:∀ x:b1=false,bu (qb x) ((Out P G T own nt ρ C rs R) (.ops all (o::r)::k) .normal env H)):bu (aJ (b1=true) (b1=false) qa qb) ((Out P G T own nt ρ C rs R) (.ops all (o::r)::k) .normal env H):=bu.fork (fun l r=>Pr hg h1 h2 fun c e=>by cases c with
 |true=>exact l e
 |false=>exact r e) lq rq
end
section
variable {qq qa qb:Prop}
variable {P:Program} {G:Gl} {T:bX} {own:List Nat} {nt B:Nat} {ρ:Option Nat} {C:Cx} {rs:List ResultVar} {R:SV→List av→Prop} {env env2:Env} {H H':List av} {k:List It}
variable {all:List Oper} {L:List Nat} {n i j ty d:Nat} {op:Op} {pos:String} {after:Array Edge} {v:SV} {o:Oper} {K:Env→List av→Prop}
variable {m:Nat} {ex:List Nat} {kk:SV→List av→Prop} {dst:Option Nat} {want b:Bool} {dj i0:Nat}
variable {R':SV→List av→Prop} {xs:List SV} {f:Operand} {fv:SV} {args:Array Operand} {tys:Array Nat} {g:FuncId}
theorem lz (hT:aI P T) (hm:P.follows .mixedOrders=true) {id:Nat} {ops:Array Oper} {l:List Oper} (hl:ops=⟨l⟩) (hok:eA nt l=true) (kq:bu qq (fF P G T own l 200 0 [] env H (fun env H=>(Out P G T own nt ρ C rs R) k .normal env H))):bu qq ((Out P G T own nt ρ C rs R) (.code (.region id ops true)::k) .normal env H):=bu.via (LU hT hm hl hok) kq
theorem s5 {m2:Nat} (hs:CM own all m ex=some o) (hm:m+1=m2) (kq:bu qq ((ou P G T own all) n m2 ex o env H K)):bu qq ((fF P G T own all) (n+1) m ex env H K):=bu.via (QN hs hm) kq
theorem lr {m2:Nat} (hm:fB m ex=true) (h2:m+1=m2) (kq:bu qq ((fF P G T own all) n m2 ex env H K)):bu qq ((fF P G T own all) n m ex env H K):=bu.via (LA hm h2) kq
theorem lu (hm:Nat.ble all.length m=true) (kq:bu qq ((Out P G T own nt ρ C rs R) k .normal env H)):bu qq ((fF P G T own all) (n+1) m ex env H (fun env H=>(Out P G T own nt ρ C rs R) k .normal env H)):=bu.via (LC hm) kq
theorem qp (hf:eB own m ex 0 all=some i) (ho:all[i]? =some o) (kq:bu qq ((ou P G T own all) n m (i::ex) o env H K)):bu qq ((fF P G T own all) (n+1) m ex env H K):=bu.via (Pl hf ho) kq
theorem qn (hf:eB own m ex 0 all=none) (hr:eY m ex 0 all=[j]) (ho:all[j]? =some o) (kq:bu qq ((Ld P G T own all) n m ex j o env H K)):bu qq ((fF P G T own all) (n+1) m ex env H K):=bu.via (Pf hf hr ho) kq
theorem tf (hv:qv G T own env H (some d) ty op=some v) (kq:bu qq ((fF P G T own all) n m ex ((d,v)::env) H K)):bu qq ((ou P G T own all) n m ex ⟨some d,op,ty,pos,after,none⟩ env H K):=bu.via (RI hv) kq
theorem nX {dj:Nat} {want:Bool} (h1:(all[j]?).bind (·.dst)=some dj) (h2:look env dj=some (.bool want)) (hv:qv G T own env H (some d) ty op=some v) (kq:bu qq ((fF P G T own all) n m ex ((d,v)::env) H K)):bu qq ((ou P G T own all) n m ex ⟨some d,op,ty,pos,after,some (j,want)⟩ env H K):=bu.via (Kf h1 h2 hv) kq
theorem lI {dj:Nat} {want:Bool} {u:SV} {b:Option Bool} (h1:(all[j]?).bind (·.dst)=some dj) (h2:look env dj=some u) (h3:yF u=some b) (hb:(b==some want)=false) (kq:bu qq ((fF P G T own all) n m ex ((d,.undef)::env) H K)):bu qq ((ou P G T own all) n m ex ⟨some d,op,ty,pos,after,some (j,want)⟩ env H K):=bu.via (tz h1 h2 h3 hb) kq
theorem BL {dj:Nat} {want b:Bool} (h1:(all[j]?).bind (·.dst)=some dj) (h2:look env dj=some (.bool b)) (hv:b=want→qv G T own env H (some d) ty op=some v) (kq:bu qq ((fF P G T own all) n m ex ((d,gv b want v)::env) H K)):bu qq ((ou P G T own all) n m ex ⟨some d,op,ty,pos,after,some (j,want)⟩ env H K):=bu.via (Nr h1 h2 hv) kq
theorem BM {dj:Nat} {want b b1 w1:Bool} (h1:(all[j]?).bind (·.dst)=some dj) (h2:look env dj=some (gv b1 w1 (.bool b))) (hv:b1=w1→b=want→qv G T own env H (some d) ty op=some v) (kq:bu qq ((fF P G T own all) n m ex ((d,gv b1 w1 (gv b want v))::env) H K)):bu qq ((ou P G T own all) n m ex ⟨some d,op,ty,pos,after,some (j,want)⟩ env H K):=bu.via (Ns h1 h2 hv) kq
theorem BN {dj:Nat} {want b b1 w1 b2 w2:Bool} (h1:(all[j]?).bind (·.dst)=some dj) (h2:look env dj=some (gv b1 w1 (gv b2 w2 (.bool b)))) (hv:b1=w1→b2=w2→b=want→qv G T own env H (some d) ty op=some v) (kq:bu qq ((fF P G T own all) n m ex ((d,gv b1 w1 (gv b2 w2 (gv b want v)))::env) H K)):bu qq ((ou P G T own all) n m ex ⟨some d,op,ty,pos,after,some (j,want)⟩ env H K):=bu.via (Qn h1 h2 hv) kq
theorem qy {dst:Option Nat} (kq:bu qq (ll P G T own all ⟨dst,op,ty,pos,after,none⟩ env H fun x H'=>yx G T own all i0 m ex (cE dst x env) H'∧(fF P G T own all) n m (i0::ex) (cE dst x env) H' K)):bu qq ((Ld P G T own all) n m ex i0 ⟨dst,op,ty,pos,after,none⟩ env H K):=bu.via (PB) kq
theorem nW {dst:Option Nat} {dj:Nat} {want:Bool} (h1:(all[j]?).bind (·.dst)=some dj) (h2:look env dj=some (.bool want)) (kq:bu qq (ll P G T own all ⟨dst,op,ty,pos,after,none⟩ env H fun x H'=>yx G T own all i0 m ex (cE dst x env) H'∧(fF P G T own all) n m (i0::ex) (cE dst x env) H' K)):bu qq ((Ld P G T own all) n m ex i0 ⟨dst,op,ty,pos,after,some (j,want)⟩ env H K):=bu.via (Ol h1 h2) kq
theorem lH {dst:Option Nat} {dj:Nat} {want:Bool} {u:SV} {bo:Option Bool} (h1:(all[j]?).bind (·.dst)=some dj) (h2:look env dj=some u) (h3:yF u=some bo) (hb:(bo==some want)=false) (kq:bu qq (yx G T own all i0 m ex (cE dst .undef env) H∧(fF P G T own all) n m (i0::ex) (cE dst .undef env) H K)):bu qq ((Ld P G T own all) n m ex i0 ⟨dst,op,ty,pos,after,some (j,want)⟩ env H K):=bu.via (Mg h1 h2 h3 hb) kq
theorem tg (h:lv G T own env H dst ty op=some (v,H')) (kq:bu qq (kk v H')):bu qq (ll P G T own all ⟨dst,op,ty,pos,after,none⟩ env H kk):=bu.via (RK h) kq
theorem th (h:qv G T own env H dst ty op=some v) (kq:bu qq (kk v H)):bu qq (ll P G T own all ⟨dst,op,ty,pos,after,none⟩ env H kk):=bu.via (RL h) kq
theorem nP {x:SV} {l:List Nat} (h1:C2 own all (cT (kA all) j) m++CZ own all (cT (kA all) j) ex=l) (h2:eG G T own all ((d,x)::env) H l) (kq:bu qq ((fF P G T own all) n m (j::ex) ((d,x)::env) H K)):bu qq (yx G T own all j m ex (cE (some d) x env) H∧(fF P G T own all) n m (j::ex) (cE (some d) x env) H K):=bu.via (NA h1 h2) kq
theorem nO {x:SV} {l:List Nat} (h1:C2 own all (cT (kA all) j) m++CZ own all (cT (kA all) j) ex=l) (h2:eG G T own all env H l) (kq:bu qq ((fF P G T own all) n m (j::ex) env H K)):bu qq (yx G T own all j m ex (cE none x env) H∧(fF P G T own all) n m (j::ex) (cE none x env) H K):=bu.via (Nz h1 h2) kq
theorem ta {dj:Nat} {want b:Bool} (h1:(all[j]?).bind (·.dst)=some dj) (h2:look env dj=some (.bool b)) {qa:b=true→Prop} {qb:b=false→Prop} (lq:∀ x:b=true,bu (qa x) ((ou P G T own all) n m ex ⟨some d,op,ty,pos,after,some (j,want)⟩ ((dj,.bool true)::env) H (fun env H=>(Out P G T own nt ρ C rs R) k .normal env H))) (rq:∀ x:b=false,bu (qb x) ((ou P G T own all) n m ex ⟨some d,op,ty,pos,after,some (j,want)⟩ ((dj,.bool false)::env) H (fun env H=>(Out P G T own nt ρ C rs R) k .normal env H))):bu (aJ (b=true) (b=false) qa qb) ((ou P G T own all) n m ex ⟨some d,op,ty,pos,after,some (j,want)⟩ env H (fun env H=>(Out P G T own nt ρ C rs R) k .normal env H)):=bu.fork (Qm h1 h2) lq rq
theorem tc {dj:Nat} {want:Bool} {a:Prop} {inst:Decidable a} (h1:(all[j]?).bind (·.dst)=some dj) (h2:look env dj=some (.bool (decide a))) {qa:a→Prop} {qb:¬ a→Prop} (lq:∀ x:a,bu (qa x) ((ou P G T own all) n m ex ⟨some d,op,ty,pos,after,some (j,want)⟩ ((dj,.bool true)::env) H (fun env H=>(Out P G T own nt ρ C rs R) k .normal env H))) (rq:∀ x:¬ a,bu (qb x) ((ou P G T own all) n m ex ⟨some d,op,ty,pos,after,some (j,want)⟩ ((dj,.bool false)::env) H (fun env H=>(Out P G T own nt ρ C rs R) k .normal env H))):bu (aJ (a) (¬ a) qa qb) ((ou P G T own all) n m ex ⟨some d,op,ty,pos,after,some (j,want)⟩ env H (fun env H=>(Out P G T own nt ρ C rs R) k .normal env H)):=bu.fork (RH h1 h2) lq rq
theorem s8 {dst:Option Nat} {dj:Nat} {want b:Bool} (h1:(all[j]?).bind (·.dst)=some dj) (h2:look env dj=some (.bool b)) {qa:b=true→Prop} {qb:b=false→Prop} (lq:∀ x:b=true,bu (qa x) ((Ld P G T own all) n m ex i0 ⟨dst,op,ty,pos,after,some (j,want)⟩ ((dj,.bool true)::env) H (fun env H=>(Out P G T own nt ρ C rs R) k .normal env H))) (rq:∀ x:b=false,bu (qb x) ((Ld P G T own all) n m ex i0 ⟨dst,op,ty,pos,after,some (j,want)⟩ ((dj,.bool false)::env) H (fun env H=>(Out P G T own nt ρ C rs R) k .normal env H))):bu (aJ (b=true) (b=false) qa qb) ((Ld P G T own all) n m ex i0 ⟨dst,op,ty,pos,after,some (j,want)⟩ env H (fun env H=>(Out P G T own nt ρ C rs R) k .normal env H)):=bu.fork (PA h1 h2) lq rq
theorem s9 {dst:Option Nat} {dj:Nat} {want:Bool} {a:Prop} {inst:Decidable a} (h1:(all[j]?).bind (·.dst)=some dj) (h2:look env dj=some (.bool (decide a))) {qa:a→Prop} {qb:¬ a→Prop} (lq:∀ x:a,bu (qa x) ((Ld P G T own all) n m ex i0 ⟨dst,op,ty,pos,after,some (j,want)⟩ ((dj,.bool true)::env) H (fun env H=>(Out P G T own nt ρ C rs R) k .normal env H))) (rq:∀ x:¬ a,bu (qb x) ((Ld P G T own all) n m ex i0 ⟨dst,op,ty,pos,after,some (j,want)⟩ ((dj,.bool false)::env) H (fun env H=>(Out P G T own nt ρ C rs R) k .normal env H))):bu (aJ (a) (¬ a) qa qb) ((Ld P G T own all) n m ex i0 ⟨dst,op,ty,pos,after,some (j,want)⟩ env H (fun env H=>(Out P G T own nt ρ C rs R) k .normal env H)):=bu.fork (QS h1 h2) lq rq
theorem E0 {dst:Option Nat} {dj:Nat} {want b1 w1:Bool} {u:SV} (h1:(all[j]?).bind (·.dst)=some dj) (h2:look env dj=some (gv b1 w1 u)) {qa:b1=true→Prop} {qb:b1=false→Prop} (lq:∀ x:b1=true,bu (qa x) ((Ld P G T own all) n m ex i0 ⟨dst,op,ty,pos,after,some (j,want)⟩ env H K)) (rq:∀ x:b1=false,bu (qb x) ((Ld P G T own all) n m ex i0 ⟨dst,op,ty,pos,after,some (j,want)⟩ env H K)):bu (aJ (b1=true) (b1=false) qa qb) ((Ld P G T own all) n m ex i0 ⟨dst,op,ty,pos,after,some (j,want)⟩ env H K):=bu.fork (fun l r=>QT h1 h2 fun c e=>by cases c with
 |true=>exact l e
 |false=>exact r e) lq rq
theorem qo {j2:Nat} {o2:Oper} (hf:eB own m ex 0 all=none) (hr:eY m ex 0 all=[j,j2]) (ho:all[j]? =some o) (ho2:all[j2]? =some o2) (lq:bu qa ((Ld P G T own all) n m ex j o env H K)) (rq:bu qb ((Ld P G T own all) n m ex j2 o2 env H K)):bu (bN qa qb) ((fF P G T own all) (n+1) m ex env H K):=bu.two (Ph hf hr ho ho2) lq rq
theorem nQ {vr:SV} {H2:List av} {r:List Oper} (h2:kJ G env args.toList=some xs) (hc:aq P G g xs H (fun x H'=>H'=H2∧x=vr)) (hd:Nat.blt d nt=true) (kq:bu qq (Out P G T own nt ρ C rs R (.ops all r::k) .normal ((d,vr)::env) H2)):bu qq (Out P G T own nt ρ C rs R (.ops all (⟨some d,.call ⟨.value (.func g),args,tys⟩,ty,pos,after,none⟩::r)::k) .normal env H):=
 bu.via (fun hk=>gS h2 hd hc fun x H' hx=>by obtain⟨rfl,rfl⟩:=hx;exact hk) kq
theorem lJ {vr:SV} {H2:List av} (h2:kJ G env args.toList=some xs) (hc:aq P G g xs H (fun x H'=>H'=H2∧x=vr)) (kq:bu qq (kk vr H2)):bu qq (ll P G T own all ⟨dst,.call ⟨.value (.func g),args,tys⟩,ty,pos,after,none⟩ env H kk):=
 bu.via (fun hk=>tE h2 hc fun x H' hx=>by obtain⟨rfl,rfl⟩:=hx;exact hk) kq
theorem ql {vr:SV} {H2:List av} {r:List Oper} (hc:aq P G g xs H (fun x H'=>H'=H2∧x=vr)) (h2:kJ G env args.toList=some xs) (hd:Nat.blt d nt=true) (kq:bu qq (Out P G T own nt ρ C rs R (.ops all r::k) .normal ((d,vr)::env) H2)):bu qq (Out P G T own nt ρ C rs R (.ops all (⟨some d,.call ⟨.value (.func g),args,tys⟩,ty,pos,after,none⟩::r)::k) .normal env H):=
 bu.via (fun hk=>gS h2 hd hc fun x H' hx=>by obtain⟨rfl,rfl⟩:=hx;exact hk) kq
theorem nZ {vr:SV} {H2:List av} (hc:aq P G g xs H (fun x H'=>H'=H2∧x=vr)) (h2:kJ G env args.toList=some xs) (kq:bu qq (kk vr H2)):bu qq (ll P G T own all ⟨dst,.call ⟨.value (.func g),args,tys⟩,ty,pos,after,none⟩ env H kk):=
 bu.via (fun hk=>tE h2 hc fun x H' hx=>by obtain⟨rfl,rfl⟩:=hx;exact hk) kq
theorem qj {vr:SV} {H2:List av} {r:List Oper} (h1:ev G env f=some fv) (h2:kJ G env args.toList=some xs) (hc:aY P G fv xs H (fun x H'=>H'=H2∧x=vr)) (hd:Nat.blt d nt=true) (kq:bu qq (Out P G T own nt ρ C rs R (.ops all r::k) .normal ((d,vr)::env) H2)):bu qq (Out P G T own nt ρ C rs R (.ops all (⟨some d,.call ⟨.value f,args,tys⟩,ty,pos,after,none⟩::r)::k) .normal env H):=
 bu.via (fun hk=>kM h1 h2 hd hc fun x H' hx=>by obtain⟨rfl,rfl⟩:=hx;exact hk) kq
theorem nY {vr:SV} {H2:List av} (h1:ev G env f=some fv) (h2:kJ G env args.toList=some xs) (hc:aY P G fv xs H (fun x H'=>H'=H2∧x=vr)) (kq:bu qq (kk vr H2)):bu qq (ll P G T own all ⟨dst,.call ⟨.value f,args,tys⟩,ty,pos,after,none⟩ env H kk):=
 bu.via (fun hk=>nC h1 h2 hc fun x H' hx=>by obtain⟨rfl,rfl⟩:=hx;exact hk) kq
end
attribute [go_sem ↓] Ob
attribute [go_sem ↓] Oa
attribute [go_sem ↓] IX
attribute [go_sem ↓] IW
attribute [go_sem] qh
attribute [go_sem] pZ
attribute [go_sem] qf
attribute [go_sem] qe
attribute [go_sem] iN
attribute [go_sem] gp
attribute [go_sem] OG
attribute [go_sem] OF
attribute [go_sem] Qj
attribute [go_sem] Qi
attribute [go_sem] OE
attribute [go_sem] OD
attribute [go_sem] qv
attribute [go_sem] lv
attribute [go_sem ↓] oc
attribute [go_sem ↓] yH
attribute [go_sem ↓] tM
attribute [go_sem ↓] HY
attribute [go_sem] and_self
attribute [go_sem] and_true
attribute [go_sem] true_and
attribute [go_sem] beq_self_eq_true
attribute [go_sem] beq_true
attribute [go_sem] beq_false
attribute [go_sem] Bool.and_true
attribute [go_sem] Bool.true_and
attribute [go_sem] Bool.and_self
attribute [go_sem] Bool.and_false
attribute [go_sem] Bool.false_and
attribute [go_sem] Bool.or_true
attribute [go_sem] Bool.true_or
attribute [go_sem] Bool.or_false
attribute [go_sem] Bool.false_or
attribute [go_sem] Bool.not_true
attribute [go_sem] Bool.not_false
attribute [go_sem] Int.toNat_natCast
attribute [go_sem] Bb
attribute [go_sem] ne_eq
attribute [go_sem] not_true_eq_false
attribute [go_sem] not_false_eq_true
attribute [go_sem ↓] Lj.eq_def
attribute [go_sem ↓] RJ.eq_def
attribute [go_sem ↓] HH.eq_def
attribute [go_sem ↓] Om.eq_def
attribute [go_sem ↓] lM.eq_def
attribute [go_sem ↓] copyV.eq_def
attribute [go_sem ↓] Df.eq_def
attribute [go_sem ↓] kJ.eq_1
attribute [go_sem ↓] kJ.eq_2
attribute [go_sem ↓] look.eq_1
attribute [go_sem ↓] look.eq_2
attribute [go_sem ↓] rC.eq_1
attribute [go_sem ↓] rC.eq_2
attribute [go_sem ↓] gk.eq_1
attribute [go_sem ↓] gk.eq_2
attribute [go_sem ↓] nc.eq_1
attribute [go_sem ↓] nc.eq_2
attribute [go_sem ↓] cY.eq_1
attribute [go_sem ↓] cY.eq_2
attribute [go_sem ↓] bO.eq_1
attribute [go_sem ↓] bO.eq_2
attribute [go_sem ↓] cN.eq_1
attribute [go_sem ↓] cN.eq_2
attribute [go_sem ↓] jA.eq_1
attribute [go_sem ↓] jA.eq_2
attribute [go_sem ↓] pL.eq_1
attribute [go_sem ↓] pL.eq_2
attribute [go_sem ↓] dR.eq_1
attribute [go_sem ↓] dR.eq_2
attribute [go_sem ↓] rm.eq_1
attribute [go_sem ↓] rm.eq_2
attribute [go_sem ↓] jA.eq_3
attribute [go_sem ↓] ev.eq_def
attribute [go_sem ↓] NK.eq_def
attribute [go_sem ↓] Hp.eq_def
attribute [go_sem ↓] mX.eq_def
attribute [go_sem ↓] oq.eq_def
attribute [go_sem ↓] sub.eq_def
attribute [go_sem ↓] fits.eq_def
attribute [go_sem ↓] dU.eq_def
attribute [go_sem ↓] elemOf.eq_def
attribute [go_sem ↓] AD.eq_def
attribute [go_sem ↓] E2.eq_def
attribute [go_sem ↓] ln.eq_def
attribute [go_sem ↓] n9.eq_def
attribute [go_sem ↓] fu.eq_def
attribute [go_sem ↓] ue.eq_def
attribute [go_sem ↓] lT.eq_def
attribute [go_sem ↓] oM.eq_def
attribute [go_sem ↓] fI.eq_def
attribute [go_sem ↓] cp.eq_def
attribute [go_sem ↓] fM.eq_def
attribute [go_sem ↓] kg.eq_def
attribute [go_sem ↓] qT.eq_def
attribute [go_sem ↓] Cl.eq_def
attribute [go_sem ↓] DN.eq_def
attribute [go_sem ↓] jU.eq_def
attribute [go_sem ↓] partsOf.eq_def
attribute [go_sem ↓] nr.eq_def
attribute [go_sem ↓] aC.eq_def
attribute [go_sem ↓] SV.isAgg.eq_def
attribute [go_sem ↓] SV.leaf.eq_def
attribute [go_sem ↓] SV.size.eq_def
attribute [go_sem ↓] TD.agg.eq_def
attribute [go_sem ↓] cG.eq_def
attribute [go_sem ↓] mapOf.eq_def
attribute [go_sem ↓] dJ.eq_def
attribute [go_sem ↓] eU.eq_def
attribute [go_sem ↓] wv.eq_def
attribute [go_sem ↓] jR.eq_def
attribute [go_sem ↓] Bg.eq_def
attribute [go_sem ↓] tU.eq_def
attribute [go_sem ↓] BV.eq_def
attribute [go_sem ↓] om.eq_def
attribute [go_sem] AS
attribute [go_sem] Dy
attribute [go_sem] yM
attribute [go_sem] AT
attribute [go_sem] ua
attribute [go_sem] tZ
attribute [go_sem] Option.bind_some
attribute [go_sem] Option.isSome_some
attribute [go_sem] List.length_map
attribute [go_sem] List.length_cons
attribute [go_sem] List.length_nil
attribute [go_sem] List.getElem?_map
attribute [go_sem] List.getElem?_eq_getElem
attribute [go_sem] Int.natCast_nonneg
attribute [go_sem] List.getElem?_cons_zero
attribute [go_sem] List.getElem?_cons_succ
attribute [go_sem] Option.map_some
attribute [go_sem] wrap_i64
attribute [go_sem] bL
attribute [go_sem] aH
attribute [go_sem] du
attribute [go_sem] bW
attribute [go_sem] rz
attribute [go_sem] uG
attribute [go_sem] yd
attribute [go_sem] CH
attribute [go_sem] pf
attribute [go_sem] rA
attribute [go_sem] Ea
attribute [go_sem] G5
attribute [go_sem] kL
attribute [go_sem] jD
attribute [go_sem] dx
attribute [go_sem] gY
attribute [go_sem] List.set_set
attribute [go_sem] List.getElem?_set_self
attribute [go_sem] List.length_set
attribute [go_sem] List.append_assoc
attribute [go_sem] List.cons_append
attribute [go_sem] List.nil_append
attribute [go_sem] List.length_append
attribute [go_sem] Nat.add_assoc
attribute [go_sem] List.set_cons_zero
attribute [go_sem] List.set_cons_succ
attribute [go_sem] Ex.au
attribute [go_sem] Bd.au
attribute [go_sem] Al.au
attribute [go_sem] Ex.ao
attribute [go_sem] Ex.sv
attribute [go_sem] Ex.cells.eq_1
attribute [go_sem] bV
attribute [go_sem] aR
attribute [go_sem] dF
attribute [go_sem] Bo
attribute [go_sem] AF
attribute [go_sem] Aw
attribute [go_sem] List.drop_zero
attribute [go_sem] List.drop_succ_cons
attribute [go_sem] BS
attribute [go_sem] Ci
attribute [go_sem] Cj
attribute [go_sem] List.take_succ_cons
attribute [go_sem] List.take_zero
attribute [go_sem] List.replicate_succ
attribute [go_sem] List.replicate_zero
attribute [go_sem] List.length_take
attribute [go_sem] Nat.zero_add
attribute [go_sem] Nat.lt_one_iff
attribute [go_sem] true_or
attribute [go_sem] or_true
attribute [go_sem] false_and
attribute [go_sem] and_false
attribute [go_sem] List.length_replicate
attribute [go_sem] sM
theorem Dm:aP (.string (ByteArray.mk #[]))=some (.str []):=by simp[aP,aQ,maxLen]
attribute [go_sem] Dm
theorem Dn (a0:UInt8):aP (.string (ByteArray.mk #[a0]))=some (.str [a0]):=by simp[aP,aQ,maxLen]
attribute [go_sem] Dn
theorem Dp (a0 a1:UInt8):aP (.string (ByteArray.mk #[a0,a1]))=some (.str [a0,a1]):=by simp[aP,aQ,maxLen]
attribute [go_sem] Dp
theorem Dq (a0 a1 a2:UInt8):aP (.string (ByteArray.mk #[a0,a1,a2]))=some (.str [a0,a1,a2]):=by simp[aP,aQ,maxLen]
attribute [go_sem] Dq
theorem Ds (a0 a1 a2 a3:UInt8):aP (.string (ByteArray.mk #[a0,a1,a2,a3]))=some (.str [a0,a1,a2,a3]):=by simp[aP,aQ,maxLen]
attribute [go_sem] Ds
theorem Dt (a0 a1 a2 a3 a4:UInt8):aP (.string (ByteArray.mk #[a0,a1,a2,a3,a4]))=some (.str [a0,a1,a2,a3,a4]):=by simp[aP,aQ,maxLen]
attribute [go_sem] Dt
theorem Du (a0 a1 a2 a3 a4 a5:UInt8):aP (.string (ByteArray.mk #[a0,a1,a2,a3,a4,a5]))=some (.str [a0,a1,a2,a3,a4,a5]):=by simp[aP,aQ,maxLen]
attribute [go_sem] Du
theorem Dv (a0 a1 a2 a3 a4 a5 a6:UInt8):aP (.string (ByteArray.mk #[a0,a1,a2,a3,a4,a5,a6]))=some (.str [a0,a1,a2,a3,a4,a5,a6]):=by simp[aP,aQ,maxLen]
attribute [go_sem] Dv
theorem Dw (a0 a1 a2 a3 a4 a5 a6 a7:UInt8):aP (.string (ByteArray.mk #[a0,a1,a2,a3,a4,a5,a6,a7]))=some (.str [a0,a1,a2,a3,a4,a5,a6,a7]):=by simp[aP,aQ,maxLen]
attribute [go_sem] Dw
theorem Dx (a0 a1 a2 a3 a4 a5 a6 a7 a8:UInt8):aP (.string (ByteArray.mk #[a0,a1,a2,a3,a4,a5,a6,a7,a8]))=some (.str [a0,a1,a2,a3,a4,a5,a6,a7,a8]):=by simp[aP,aQ,maxLen]
attribute [go_sem] Dx
theorem AU (a0 a1 a2 a3 a4 a5 a6 a7 a8 a9:UInt8):aP (.string (ByteArray.mk #[a0,a1,a2,a3,a4,a5,a6,a7,a8,a9]))=some (.str [a0,a1,a2,a3,a4,a5,a6,a7,a8,a9]):=by simp[aP,aQ,maxLen]
attribute [go_sem] AU
theorem AV (a0 a1 a2 a3 a4 a5 a6 a7 a8 a9 a10:UInt8):aP (.string (ByteArray.mk #[a0,a1,a2,a3,a4,a5,a6,a7,a8,a9,a10]))=some (.str [a0,a1,a2,a3,a4,a5,a6,a7,a8,a9,a10]):=by simp[aP,aQ,maxLen]
attribute [go_sem] AV
theorem AW (a0 a1 a2 a3 a4 a5 a6 a7 a8 a9 a10 a11:UInt8):aP (.string (ByteArray.mk #[a0,a1,a2,a3,a4,a5,a6,a7,a8,a9,a10,a11]))=some (.str [a0,a1,a2,a3,a4,a5,a6,a7,a8,a9,a10,a11]):=by simp[aP,aQ,maxLen]
attribute [go_sem] AW
theorem AX (a0 a1 a2 a3 a4 a5 a6 a7 a8 a9 a10 a11 a12:UInt8):aP (.string (ByteArray.mk #[a0,a1,a2,a3,a4,a5,a6,a7,a8,a9,a10,a11,a12]))=some (.str [a0,a1,a2,a3,a4,a5,a6,a7,a8,a9,a10,a11,a12]):=by simp[aP,aQ,maxLen]
attribute [go_sem] AX
theorem AY (a0 a1 a2 a3 a4 a5 a6 a7 a8 a9 a10 a11 a12 a13:UInt8):aP (.string (ByteArray.mk #[a0,a1,a2,a3,a4,a5,a6,a7,a8,a9,a10,a11,a12,a13]))=some (.str [a0,a1,a2,a3,a4,a5,a6,a7,a8,a9,a10,a11,a12,a13]):=by simp[aP,aQ,maxLen]
attribute [go_sem] AY
theorem AZ (a0 a1 a2 a3 a4 a5 a6 a7 a8 a9 a10 a11 a12 a13 a14:UInt8):aP (.string (ByteArray.mk #[a0,a1,a2,a3,a4,a5,a6,a7,a8,a9,a10,a11,a12,a13,a14]))=some (.str [a0,a1,a2,a3,a4,a5,a6,a7,a8,a9,a10,a11,a12,a13,a14]):=by simp[aP,aQ,maxLen]
attribute [go_sem] AZ
theorem A0 (a0 a1 a2 a3 a4 a5 a6 a7 a8 a9 a10 a11 a12 a13 a14 a15:UInt8):aP (.string (ByteArray.mk #[a0,a1,a2,a3,a4,a5,a6,a7,a8,a9,a10,a11,a12,a13,a14,a15]))=some (.str [a0,a1,a2,a3,a4,a5,a6,a7,a8,a9,a10,a11,a12,a13,a14,a15]):=by simp[aP,aQ,maxLen]
attribute [go_sem] A0
theorem A2 (a0 a1 a2 a3 a4 a5 a6 a7 a8 a9 a10 a11 a12 a13 a14 a15 a16:UInt8):aP (.string (ByteArray.mk #[a0,a1,a2,a3,a4,a5,a6,a7,a8,a9,a10,a11,a12,a13,a14,a15,a16]))=some (.str [a0,a1,a2,a3,a4,a5,a6,a7,a8,a9,a10,a11,a12,a13,a14,a15,a16]):=by simp[aP,aQ,maxLen]
attribute [go_sem] A2
theorem A3 (a0 a1 a2 a3 a4 a5 a6 a7 a8 a9 a10 a11 a12 a13 a14 a15 a16 a17:UInt8):aP (.string (ByteArray.mk #[a0,a1,a2,a3,a4,a5,a6,a7,a8,a9,a10,a11,a12,a13,a14,a15,a16,a17]))=some (.str [a0,a1,a2,a3,a4,a5,a6,a7,a8,a9,a10,a11,a12,a13,a14,a15,a16,a17]):=by simp[aP,aQ,maxLen]
attribute [go_sem] A3
theorem A4 (a0 a1 a2 a3 a4 a5 a6 a7 a8 a9 a10 a11 a12 a13 a14 a15 a16 a17 a18:UInt8):aP (.string (ByteArray.mk #[a0,a1,a2,a3,a4,a5,a6,a7,a8,a9,a10,a11,a12,a13,a14,a15,a16,a17,a18]))=some (.str [a0,a1,a2,a3,a4,a5,a6,a7,a8,a9,a10,a11,a12,a13,a14,a15,a16,a17,a18]):=by simp[aP,aQ,maxLen]
attribute [go_sem] A4
theorem A5 (a0 a1 a2 a3 a4 a5 a6 a7 a8 a9 a10 a11 a12 a13 a14 a15 a16 a17 a18 a19:UInt8):aP (.string (ByteArray.mk #[a0,a1,a2,a3,a4,a5,a6,a7,a8,a9,a10,a11,a12,a13,a14,a15,a16,a17,a18,a19]))=some (.str [a0,a1,a2,a3,a4,a5,a6,a7,a8,a9,a10,a11,a12,a13,a14,a15,a16,a17,a18,a19]):=by simp[aP,aQ,maxLen]
attribute [go_sem] A5
theorem A6 (a0 a1 a2 a3 a4 a5 a6 a7 a8 a9 a10 a11 a12 a13 a14 a15 a16 a17 a18 a19 a20:UInt8):aP (.string (ByteArray.mk #[a0,a1,a2,a3,a4,a5,a6,a7,a8,a9,a10,a11,a12,a13,a14,a15,a16,a17,a18,a19,a20]))=some (.str [a0,a1,a2,a3,a4,a5,a6,a7,a8,a9,a10,a11,a12,a13,a14,a15,a16,a17,a18,a19,a20]):=by simp[aP,aQ,maxLen]
attribute [go_sem] A6
theorem A7 (a0 a1 a2 a3 a4 a5 a6 a7 a8 a9 a10 a11 a12 a13 a14 a15 a16 a17 a18 a19 a20 a21:UInt8):aP (.string (ByteArray.mk #[a0,a1,a2,a3,a4,a5,a6,a7,a8,a9,a10,a11,a12,a13,a14,a15,a16,a17,a18,a19,a20,a21]))=some (.str [a0,a1,a2,a3,a4,a5,a6,a7,a8,a9,a10,a11,a12,a13,a14,a15,a16,a17,a18,a19,a20,a21]):=by simp[aP,aQ,maxLen]
attribute [go_sem] A7
theorem A8 (a0 a1 a2 a3 a4 a5 a6 a7 a8 a9 a10 a11 a12 a13 a14 a15 a16 a17 a18 a19 a20 a21 a22:UInt8):aP (.string (ByteArray.mk #[a0,a1,a2,a3,a4,a5,a6,a7,a8,a9,a10,a11,a12,a13,a14,a15,a16,a17,a18,a19,a20,a21,a22]))=some (.str [a0,a1,a2,a3,a4,a5,a6,a7,a8,a9,a10,a11,a12,a13,a14,a15,a16,a17,a18,a19,a20,a21,a22]):=by simp[aP,aQ,maxLen]
attribute [go_sem] A8
theorem A9 (a0 a1 a2 a3 a4 a5 a6 a7 a8 a9 a10 a11 a12 a13 a14 a15 a16 a17 a18 a19 a20 a21 a22 a23:UInt8):aP (.string (ByteArray.mk #[a0,a1,a2,a3,a4,a5,a6,a7,a8,a9,a10,a11,a12,a13,a14,a15,a16,a17,a18,a19,a20,a21,a22,a23]))=some (.str [a0,a1,a2,a3,a4,a5,a6,a7,a8,a9,a10,a11,a12,a13,a14,a15,a16,a17,a18,a19,a20,a21,a22,a23]):=by simp[aP,aQ,maxLen]
attribute [go_sem] A9
theorem CO {α β:Type} (l:List α) (f:α→β):(l.map f).take l.length=l.map f:=List.take_of_length_le (by simp)
attribute [go_sem] CO List.getElem?_take_of_lt List.getElem?_drop
theorem yN:aP .nilIface=some (.oI true):=rfl
attribute [go_sem] yN
attribute [go_sem ↓] pg.eq_def
attribute [go_sem ↓] Mc.eq_def
attribute [go_sem ↓] xI.eq_def
theorem cw {p:Prop} (h:p:=by (simp -implicitDefEqProofs (disch:=first|assumption|omega) only[go_sem,X,Int.reduceToNat,Nat.reduceAdd,Nat.reduceSub,Nat.reduceMul,Nat.reduceLT,Nat.reduceLeDiff,Nat.reduceEqDiff,Nat.reduceBEq,Nat.reduceBNe,↓reduceIte,reduceCtorEq]<;>rfl)):p:=h
theorem Ip {p:Prop} (h:p:=by intro hw1;have hw1p:=hw1;(try simp only[Bool.and_eq_true,Bool.or_eq_true,decide_eq_true_eq,decide_eq_false_iff_not,Bool.not_eq_true',Bool.and_eq_false_iff,Bool.or_eq_false_iff,Bool.not_eq_false'] at hw1p);exact cw):p:=h
theorem Iq {p:Prop} (h:p:=by intro hw1 hw2;have hw1p:=hw1;(try simp only[Bool.and_eq_true,Bool.or_eq_true,decide_eq_true_eq,decide_eq_false_iff_not,Bool.not_eq_true',Bool.and_eq_false_iff,Bool.or_eq_false_iff,Bool.not_eq_false'] at hw1p);have hw2p:=hw2;(try simp only[Bool.and_eq_true,Bool.or_eq_true,decide_eq_true_eq,decide_eq_false_iff_not,Bool.not_eq_true',Bool.and_eq_false_iff,Bool.or_eq_false_iff,Bool.not_eq_false'] at hw2p);exact cw):p:=h
theorem Ir {p:Prop} (h:p:=by intro hw1 hw2 hw3;have hw1p:=hw1;(try simp only[Bool.and_eq_true,Bool.or_eq_true,decide_eq_true_eq,decide_eq_false_iff_not,Bool.not_eq_true',Bool.and_eq_false_iff,Bool.or_eq_false_iff,Bool.not_eq_false'] at hw1p);have hw2p:=hw2;(try simp only[Bool.and_eq_true,Bool.or_eq_true,decide_eq_true_eq,decide_eq_false_iff_not,Bool.not_eq_true',Bool.and_eq_false_iff,Bool.or_eq_false_iff,Bool.not_eq_false'] at hw2p);have hw3p:=hw3;(try simp only[Bool.and_eq_true,Bool.or_eq_true,decide_eq_true_eq,decide_eq_false_iff_not,Bool.not_eq_true',Bool.and_eq_false_iff,Bool.or_eq_false_iff,Bool.not_eq_false'] at hw3p);exact cw):p:=h
theorem M7 {p:Prop} (h:p:=by repeat' (first|exact NC|((with_reducible apply Pc);(· rfl);(· rfl);(· exact cw))|((with_reducible apply M8);(· rfl);(· rfl);(· rfl);(· rfl);(· exact cw);(· first|rfl|(simp (disch:=first|assumption|omega) only[Ob,Oa,IX,IW];done)))|((with_reducible apply Ew);(· rfl);(· rfl);(· rfl);(· rfl);(· rfl);(· rfl);(· first|rfl|(simp (disch:=first|assumption|omega) only[Ob,Oa,IX,IW,Od,Oc,Pw,Pv];done)))|((with_reducible apply Hz);(· rfl);(· rfl);(· rfl);(· rfl);(· exact Ip))|((with_reducible apply HA);(· rfl);(· rfl);(· rfl);(· rfl);(· exact Iq))|((with_reducible apply Ny);(· rfl);(· rfl);(· rfl);(· rfl);(· exact Ir))|fail)):p:=h
theorem cC {n:Nat} {k:IntKind} (l:List Int):SV.aj n (l.map (SV.int k))=true:=SV.aT fun _ _=>rfl
theorem CR {n:Nat} (l:List Bool):SV.aj n (l.map SV.bool)=true:=SV.aT fun _ _=>rfl
theorem dA {p:Prop} (h:p:=by (first|rfl|(simp only[X,bL,aH,rz,uG,pf,rA,dx,List.getElem?_cons_zero,List.getElem?_cons_succ,List.append_assoc,List.cons_append,List.nil_append,List.length_set]<;>rfl)|(simp only[bL,aH,rz,uG,pf,rA,dx,List.getElem?_cons_zero,List.getElem?_cons_succ,List.append_assoc,List.cons_append,List.nil_append,List.length_set]<;>rfl))):p:=h
theorem SV.gP {n m:Nat} {x:SV} (h:x.under n=true):SV.aj n (List.replicate m x)=true:=by
 induction m with
 |zero=>rfl
 |succ m ih=>rw[List.replicate_succ];simp only[SV.aj,h,ih,Bool.and_self]
theorem jF {p:Prop} (h:p:=by (first|rfl|assumption|(simp only[SV.under.eq_def,SV.aj.eq_1,SV.aj.eq_2,Ex.aw,bc,aK,bA,bj,Ex.gx,Bool.and_true,Bool.true_and,Bool.and_self,decide_eq_true_eq,Nat.zero_le,List.drop_zero,Function.comp_def,SV.cK,Ek,Ej,CS,Hk,Hj,cC,CR,List.drop_succ_cons]<;>omega)|exact SV.aT fun _ _=>rfl|((try simp only[List.drop_zero,SV.cK,SV.aj.eq_2,SV.aj.eq_1,SV.under.eq_def,Bool.and_true,Bool.and_self,Bool.and_eq_true,decide_eq_true_eq])<;>(repeat' (first|exact True.intro|refine And.intro ?_ ?_|exact SV.aT fun _ _=>rfl|exact SV.gP rfl|rfl|omega))<;>fail))):p:=h
theorem iw.same {H:List av} {n:Nat} {ks:dP}:∀ {es:List (SV×SV)},dq n es=true→iw H n ks es es
 |[],_=> .nil
 |(k,x)::es,h=>by
  simp only[dq,Bool.and_eq_true] at h
  exact .cons _ _ _ _ _ h.1.1 (.same _ h.1.2) (iw.same h.2)
theorem Pp {p:Prop} (h:p:=by repeat' (first|exact b7.nil|(refine b7.cons _ _ _ _ ?_ ?_)|(first|(apply bF.same;exact jF)|exact bF.nil _|(apply bF.int;omega)|(apply bF.kp 0 rfl;(· exact dA);(· omega);(· omega);(· omega))|(apply bF.kp 1 rfl;(· exact dA);(· omega);(· omega);(· omega))|(apply bF.kp 2 rfl;(· exact dA);(· omega);(· omega);(· omega))|(apply bF.kp 3 rfl;(· exact dA);(· omega);(· omega);(· omega))|(apply bF.kp 4 rfl;(· exact dA);(· omega);(· omega);(· omega))|(apply bF.kp 5 rfl;(· exact dA);(· omega);(· omega);(· omega))|(apply bF.kp 6 rfl;(· exact dA);(· omega);(· omega);(· omega))|(apply bF.kp 7 rfl;(· exact dA);(· omega);(· omega);(· omega))|(apply bF.ks 0 rfl;(· exact dA);(· omega);(· omega);(· omega);(· omega))|(apply bF.ks 1 rfl;(· exact dA);(· omega);(· omega);(· omega);(· omega))|(apply bF.ks 2 rfl;(· exact dA);(· omega);(· omega);(· omega);(· omega))|(apply bF.ks 3 rfl;(· exact dA);(· omega);(· omega);(· omega);(· omega))|(apply bF.ks 4 rfl;(· exact dA);(· omega);(· omega);(· omega);(· omega))|(apply bF.ks 5 rfl;(· exact dA);(· omega);(· omega);(· omega);(· omega))|(apply bF.ks 6 rfl;(· exact dA);(· omega);(· omega);(· omega);(· omega))|(apply bF.ks 7 rfl;(· exact dA);(· omega);(· omega);(· omega);(· omega))|(apply bF.km 0 rfl;(· exact dA);(· omega))|(apply bF.km 1 rfl;(· exact dA);(· omega))|(apply bF.km 2 rfl;(· exact dA);(· omega))|(apply bF.km 3 rfl;(· exact dA);(· omega))|(apply bF.km 4 rfl;(· exact dA);(· omega))|(apply bF.km 5 rfl;(· exact dA);(· omega))|(apply bF.km 6 rfl;(· exact dA);(· omega))|(apply bF.km 7 rfl;(· exact dA);(· omega))|(apply bF.sf;(· exact dA);(· omega);(· simp<;>omega);(· first|rfl|(simp[Function.comp_def,List.take_of_length_le];done));(· exact jF))|fail))):p:=h
theorem gi {p:Prop} (h:p:=by repeat' (first|exact b7.nil|(refine b7.cons _ _ _ _ ?_ ?_)|(first|(apply bF.same;exact jF)|exact bF.nil _|(apply bF.int;omega)|(apply bF.kp 0 rfl;(· exact dA);(· omega);(· omega);(· omega))|(apply bF.kp 1 rfl;(· exact dA);(· omega);(· omega);(· omega))|(apply bF.kp 2 rfl;(· exact dA);(· omega);(· omega);(· omega))|(apply bF.kp 3 rfl;(· exact dA);(· omega);(· omega);(· omega))|(apply bF.kp 4 rfl;(· exact dA);(· omega);(· omega);(· omega))|(apply bF.kp 5 rfl;(· exact dA);(· omega);(· omega);(· omega))|(apply bF.kp 6 rfl;(· exact dA);(· omega);(· omega);(· omega))|(apply bF.kp 7 rfl;(· exact dA);(· omega);(· omega);(· omega))|(apply bF.ks 0 rfl;(· exact dA);(· omega);(· omega);(· omega);(· omega))|(apply bF.ks 1 rfl;(· exact dA);(· omega);(· omega);(· omega);(· omega))|(apply bF.ks 2 rfl;(· exact dA);(· omega);(· omega);(· omega);(· omega))|(apply bF.ks 3 rfl;(· exact dA);(· omega);(· omega);(· omega);(· omega))|(apply bF.ks 4 rfl;(· exact dA);(· omega);(· omega);(· omega);(· omega))|(apply bF.ks 5 rfl;(· exact dA);(· omega);(· omega);(· omega);(· omega))|(apply bF.ks 6 rfl;(· exact dA);(· omega);(· omega);(· omega);(· omega))|(apply bF.ks 7 rfl;(· exact dA);(· omega);(· omega);(· omega);(· omega))|(apply bF.km 0 rfl;(· exact dA);(· omega))|(apply bF.km 1 rfl;(· exact dA);(· omega))|(apply bF.km 2 rfl;(· exact dA);(· omega))|(apply bF.km 3 rfl;(· exact dA);(· omega))|(apply bF.km 4 rfl;(· exact dA);(· omega))|(apply bF.km 5 rfl;(· exact dA);(· omega))|(apply bF.km 6 rfl;(· exact dA);(· omega))|(apply bF.km 7 rfl;(· exact dA);(· omega))|(apply bF.sf;(· exact dA);(· omega);(· simp<;>omega);(· first|rfl|(simp[Function.comp_def,List.take_of_length_le];done));(· exact jF))|(apply bF.agg;exact Pp)|fail))):p:=h
theorem kc {p:Prop} (h:p:=by repeat' (first|exact True.intro|exact bH.nil|(refine And.intro ⟨_,rfl,?_⟩ ?_)|(apply bH.c;(· exact dA);(· omega);(· first|omega|(simp<;>omega));(· first|(apply b7.same;exact jF)|exact gi))|(apply bH.m;(· exact dA);(· omega);(· first|exact iw.same (gB _ _)|exact iw.same (nL _ _)|(apply iw.same;rfl)))|(first|(apply bF.same;exact jF)|exact bF.nil _|(apply bF.int;omega)|(apply bF.kp 0 rfl;(· exact dA);(· omega);(· omega);(· omega))|(apply bF.kp 1 rfl;(· exact dA);(· omega);(· omega);(· omega))|(apply bF.kp 2 rfl;(· exact dA);(· omega);(· omega);(· omega))|(apply bF.kp 3 rfl;(· exact dA);(· omega);(· omega);(· omega))|(apply bF.kp 4 rfl;(· exact dA);(· omega);(· omega);(· omega))|(apply bF.kp 5 rfl;(· exact dA);(· omega);(· omega);(· omega))|(apply bF.kp 6 rfl;(· exact dA);(· omega);(· omega);(· omega))|(apply bF.kp 7 rfl;(· exact dA);(· omega);(· omega);(· omega))|(apply bF.ks 0 rfl;(· exact dA);(· omega);(· omega);(· omega);(· omega))|(apply bF.ks 1 rfl;(· exact dA);(· omega);(· omega);(· omega);(· omega))|(apply bF.ks 2 rfl;(· exact dA);(· omega);(· omega);(· omega);(· omega))|(apply bF.ks 3 rfl;(· exact dA);(· omega);(· omega);(· omega);(· omega))|(apply bF.ks 4 rfl;(· exact dA);(· omega);(· omega);(· omega);(· omega))|(apply bF.ks 5 rfl;(· exact dA);(· omega);(· omega);(· omega);(· omega))|(apply bF.ks 6 rfl;(· exact dA);(· omega);(· omega);(· omega);(· omega))|(apply bF.ks 7 rfl;(· exact dA);(· omega);(· omega);(· omega);(· omega))|(apply bF.km 0 rfl;(· exact dA);(· omega))|(apply bF.km 1 rfl;(· exact dA);(· omega))|(apply bF.km 2 rfl;(· exact dA);(· omega))|(apply bF.km 3 rfl;(· exact dA);(· omega))|(apply bF.km 4 rfl;(· exact dA);(· omega))|(apply bF.km 5 rfl;(· exact dA);(· omega))|(apply bF.km 6 rfl;(· exact dA);(· omega))|(apply bF.km 7 rfl;(· exact dA);(· omega))|(apply bF.sf;(· exact dA);(· omega);(· simp<;>omega);(· first|rfl|(simp[Function.comp_def,List.take_of_length_le];done));(· exact jF))|(apply bF.agg;exact gi)|fail)|fail)):p:=h
theorem run {qq p:Prop} (k:qq) (h:bu qq p:=by
 repeat' (first
  |((with_reducible apply nV))
  |((with_reducible apply s7);(· exact cw);(· rfl))
  |((with_reducible apply nT))
  |((with_reducible apply iL);(· exact iD);(· first|(simp only[List.append_eq,List.cons_append,List.nil_append];rfl)|rfl))
  |((with_reducible apply lG))
  |((with_reducible apply mQ);(· rfl))
  |((with_reducible apply mP);(· rfl))
  |((with_reducible apply ly);(· rfl);(· assumption))
  |((with_reducible apply lx);(· rfl);(· assumption))
  |((with_reducible apply mN);(· rfl);(intro hb);(rotate_left);(intro hb);(rotate_right))
  |((with_reducible apply mM);(· rfl);(intro hb);(rotate_left);(intro hb);(rotate_right))
  |((with_reducible apply mL))
  |((with_reducible apply nR))
  |((with_reducible apply lB);(· rfl))
  |((with_reducible apply s6);(· exact cw);(· rfl))
  |((with_reducible apply qu);(· exact cw))
  |((with_reducible apply lC);(· rfl);(· rfl))
  |((with_reducible apply jW);(· rfl);(· rfl);(· rfl);(· rfl);(· rfl))
  |((with_reducible apply iK);(· rfl);(· rfl);(· rfl);(· rfl))
  |((with_reducible apply xE);(· rfl);(· rfl);(· exact Ip);(· rfl))
  |((with_reducible apply xF);(· rfl);(· rfl);(· exact Iq);(· rfl))
  |((with_reducible apply xG);(· rfl);(· rfl);(· exact Ir);(· rfl))
  |((with_reducible apply BK);(· rfl);(· rfl);(· rfl);(intro hb);(try simp only[hb]);(try simp only[qh,pZ,qf,qe,Bool.true_and,Bool.false_and,Bool.true_or,Bool.false_or,iN,gp]);(rotate_left);(intro hb);(try simp only[hb]);(try simp only[qh,pZ,qf,qe,Bool.true_and,Bool.false_and,Bool.true_or,Bool.false_or,iN,gp]);(rotate_right))
  |((with_reducible apply qt);(· rfl);(· rfl);(· rfl);(intro hb);(rotate_left);(intro hb);(rotate_right))
  |((with_reducible apply qs);(· rfl);(· rfl);(· rfl);(intro hb);(rotate_left);(intro hb);(rotate_right))
  |((with_reducible apply qw);(· exact cw))
  |((with_reducible apply lD);(· exact cw);(· exact cw);(· exact cw);(· exact cw);(· rfl);(intro hb);(rotate_left);(intro hb);(rotate_right))
  |((with_reducible apply lE);(· exact cw);(· exact cw);(· exact cw);(· exact cw);(· rfl);(intro hb);(rotate_left);(intro hb);(rotate_right))
  |((with_reducible apply lz);(· exact iD);(· exact Cc);(· first|(simp only[List.append_eq,List.cons_append,List.nil_append];rfl)|rfl);(· kernel_rfl))
  |((with_reducible apply s5);(· rfl);(· simp only[Nat.reduceAdd];rfl))
  |((with_reducible apply tf);(· exact cw))
  |((with_reducible apply nX);(· rfl);(· rfl);(· exact cw))
  |((with_reducible apply lI);(· rfl);(· rfl);(· rfl);(· rfl))
  |((with_reducible apply BL);(· rfl);(· rfl);(· exact Ip))
  |((with_reducible apply BM);(· rfl);(· rfl);(· exact Iq))
  |((with_reducible apply BN);(· rfl);(· rfl);(· exact Ir))
  |((with_reducible apply tc);(· rfl);(· rfl);(intro hb);(rotate_left);(intro hb);(rotate_right))
  |((with_reducible apply ta);(· rfl);(· rfl);(intro hb);(rotate_left);(intro hb);(rotate_right))
  |((with_reducible apply lr);(· rfl);(· simp only[Nat.reduceAdd];rfl))
  |((with_reducible apply lu);(· rfl))
  |((with_reducible apply qp);(· rfl);(· rfl))
  |((with_reducible apply qn);(· rfl);(· rfl);(· rfl))
  |((with_reducible apply qo);(· rfl);(· rfl);(· rfl);(· rfl))
  |((with_reducible apply qy))
  |((with_reducible apply nW);(· rfl);(· rfl))
  |((with_reducible apply lH);(· rfl);(· rfl);(· rfl);(· rfl))
  |((with_reducible apply E0);(· rfl);(· rfl);(intro hb);(try simp only[hb]);(try simp only[qh,pZ,qf,qe,Bool.true_and,Bool.false_and,Bool.true_or,Bool.false_or,iN,gp]);(rotate_left);(intro hb);(try simp only[hb]);(try simp only[qh,pZ,qf,qe,Bool.true_and,Bool.false_and,Bool.true_or,Bool.false_or,iN,gp]);(rotate_right))
  |((with_reducible apply s9);(· rfl);(· rfl);(intro hb);(rotate_left);(intro hb);(rotate_right))
  |((with_reducible apply s8);(· rfl);(· rfl);(intro hb);(rotate_left);(intro hb);(rotate_right))
  |((with_reducible apply tg);(· exact cw))
  |((with_reducible apply th);(· exact cw))
  |((with_reducible apply nP);(· conv=>lhs;reduce);(· exact M7))
  |((with_reducible apply nO);(· conv=>lhs;reduce);(· exact M7))
  |((with_reducible apply jX))
  |((with_reducible apply lF))
  |((with_reducible apply nU);(· exact cw))
  |((with_reducible apply nS);(· exact cw))
  |((with_reducible apply ql);(· first|exact c1|exact c1 _|exact c2|exact c2 _|exact c3|exact c3 _|exact c4|exact c4 _|exact c5|exact c5 _|exact c6|exact c6 _);(· exact cw);(· rfl))
  |((with_reducible apply nQ);(· exact cw);(· first|exact c1|exact c1 _|exact c1 _ _|exact c1 _ _ _|exact c2|exact c2 _|exact c2 _ _|exact c2 _ _ _|exact c3|exact c3 _|exact c3 _ _|exact c3 _ _ _|exact c4|exact c4 _|exact c4 _ _|exact c4 _ _ _|exact c5|exact c5 _|exact c5 _ _|exact c5 _ _ _|exact c6|exact c6 _|exact c6 _ _|exact c6 _ _ _);(· rfl))
  |((with_reducible apply lJ);(· exact cw);(· first|exact c1|exact c1 _|exact c1 _ _|exact c1 _ _ _|exact c2|exact c2 _|exact c2 _ _|exact c2 _ _ _|exact c3|exact c3 _|exact c3 _ _|exact c3 _ _ _|exact c4|exact c4 _|exact c4 _ _|exact c4 _ _ _|exact c5|exact c5 _|exact c5 _ _|exact c5 _ _ _|exact c6|exact c6 _|exact c6 _ _|exact c6 _ _ _))
  |((with_reducible apply nZ);(· first|exact c1|exact c1 _|exact c2|exact c2 _|exact c3|exact c3 _|exact c4|exact c4 _|exact c5|exact c5 _|exact c6|exact c6 _);(· exact cw))
  |((with_reducible apply qj);(· exact cw);(· exact cw);(· first|exact v1|exact v1 _|exact v1 _ _|exact v2|exact v2 _|exact v2 _ _|exact v3|exact v3 _|exact v3 _ _);(· rfl))
  |((with_reducible apply nY);(· exact cw);(· exact cw);(· first|exact v1|exact v1 _|exact v1 _ _|exact v2|exact v2 _|exact v2 _ _|exact v3|exact v3 _|exact v3 _ _))
  |(refine bu.no ?_;omega)
  |exact bu.refl _)):p:=h.go k
theorem bK {qq p:Prop} (k:qq) (h:bu qq p:=by
 repeat' (first
  |((with_reducible apply nV))
  |((with_reducible apply s7);(· exact cw);(· rfl))
  |((with_reducible apply nT))
  |((with_reducible apply iL);(· exact iD);(· first|(simp only[List.append_eq,List.cons_append,List.nil_append];rfl)|rfl))
  |((with_reducible apply lG))
  |((with_reducible apply mQ);(· rfl))
  |((with_reducible apply mP);(· rfl))
  |((with_reducible apply ly);(· rfl);(· assumption))
  |((with_reducible apply lx);(· rfl);(· assumption))
  |((with_reducible apply mN);(· rfl);(intro hb);(rotate_left);(intro hb);(rotate_right))
  |((with_reducible apply mM);(· rfl);(intro hb);(rotate_left);(intro hb);(rotate_right))
  |((with_reducible apply mL))
  |((with_reducible apply nR))
  |((with_reducible apply lB);(· rfl))
  |((with_reducible apply s6);(· exact cw);(· rfl))
  |((with_reducible apply qu);(· exact cw))
  |((with_reducible apply lC);(· rfl);(· rfl))
  |((with_reducible apply jW);(· rfl);(· rfl);(· rfl);(· rfl);(· rfl))
  |((with_reducible apply iK);(· rfl);(· rfl);(· rfl);(· rfl))
  |((with_reducible apply qt);(· rfl);(· rfl);(· rfl);(intro hb);(rotate_left);(intro hb);(rotate_right))
  |((with_reducible apply qs);(· rfl);(· rfl);(· rfl);(intro hb);(rotate_left);(intro hb);(rotate_right))
  |((with_reducible apply qw);(· exact cw))
  |((with_reducible apply lD);(· exact cw);(· exact cw);(· exact cw);(· exact cw);(· rfl);(intro hb);(rotate_left);(intro hb);(rotate_right))
  |((with_reducible apply lE);(· exact cw);(· exact cw);(· exact cw);(· exact cw);(· rfl);(intro hb);(rotate_left);(intro hb);(rotate_right))
  |((with_reducible apply lz);(· exact iD);(· exact Cc);(· first|(simp only[List.append_eq,List.cons_append,List.nil_append];rfl)|rfl);(· kernel_rfl))
  |((with_reducible apply s5);(· rfl);(· simp only[Nat.reduceAdd];rfl))
  |((with_reducible apply tf);(· exact cw))
  |((with_reducible apply nX);(· rfl);(· rfl);(· exact cw))
  |((with_reducible apply lI);(· rfl);(· rfl);(· rfl);(· rfl))
  |((with_reducible apply tc);(· rfl);(· rfl);(intro hb);(rotate_left);(intro hb);(rotate_right))
  |((with_reducible apply ta);(· rfl);(· rfl);(intro hb);(rotate_left);(intro hb);(rotate_right))
  |((with_reducible apply lr);(· rfl);(· simp only[Nat.reduceAdd];rfl))
  |((with_reducible apply lu);(· rfl))
  |((with_reducible apply qp);(· rfl);(· rfl))
  |((with_reducible apply qn);(· rfl);(· rfl);(· rfl))
  |((with_reducible apply qo);(· rfl);(· rfl);(· rfl);(· rfl))
  |((with_reducible apply qy))
  |((with_reducible apply nW);(· rfl);(· rfl))
  |((with_reducible apply lH);(· rfl);(· rfl);(· rfl);(· rfl))
  |((with_reducible apply s9);(· rfl);(· rfl);(intro hb);(rotate_left);(intro hb);(rotate_right))
  |((with_reducible apply s8);(· rfl);(· rfl);(intro hb);(rotate_left);(intro hb);(rotate_right))
  |((with_reducible apply tg);(· exact cw))
  |((with_reducible apply th);(· exact cw))
  |((with_reducible apply nP);(· conv=>lhs;reduce);(· exact M7))
  |((with_reducible apply nO);(· conv=>lhs;reduce);(· exact M7))
  |((with_reducible apply jX))
  |((with_reducible apply lF))
  |((with_reducible apply nU);(· exact cw))
  |((with_reducible apply nS);(· exact cw))
  |((with_reducible apply ql);(· first|exact c1|exact c1 _|exact c2|exact c2 _|exact c3|exact c3 _|exact c4|exact c4 _|exact c5|exact c5 _|exact c6|exact c6 _);(· exact cw);(· rfl))
  |((with_reducible apply nQ);(· exact cw);(· first|exact c1|exact c1 _|exact c1 _ _|exact c1 _ _ _|exact c2|exact c2 _|exact c2 _ _|exact c2 _ _ _|exact c3|exact c3 _|exact c3 _ _|exact c3 _ _ _|exact c4|exact c4 _|exact c4 _ _|exact c4 _ _ _|exact c5|exact c5 _|exact c5 _ _|exact c5 _ _ _|exact c6|exact c6 _|exact c6 _ _|exact c6 _ _ _);(· rfl))
  |((with_reducible apply lJ);(· exact cw);(· first|exact c1|exact c1 _|exact c1 _ _|exact c1 _ _ _|exact c2|exact c2 _|exact c2 _ _|exact c2 _ _ _|exact c3|exact c3 _|exact c3 _ _|exact c3 _ _ _|exact c4|exact c4 _|exact c4 _ _|exact c4 _ _ _|exact c5|exact c5 _|exact c5 _ _|exact c5 _ _ _|exact c6|exact c6 _|exact c6 _ _|exact c6 _ _ _))
  |((with_reducible apply nZ);(· first|exact c1|exact c1 _|exact c2|exact c2 _|exact c3|exact c3 _|exact c4|exact c4 _|exact c5|exact c5 _|exact c6|exact c6 _);(· exact cw))
  |((with_reducible apply qj);(· exact cw);(· exact cw);(· first|exact v1|exact v1 _|exact v1 _ _|exact v2|exact v2 _|exact v2 _ _|exact v3|exact v3 _|exact v3 _ _);(· rfl))
  |((with_reducible apply nY);(· exact cw);(· exact cw);(· first|exact v1|exact v1 _|exact v1 _ _|exact v2|exact v2 _|exact v2 _ _|exact v3|exact v3 _|exact v3 _ _))
  |(refine bu.no ?_;omega)
  |exact bu.refl _)):p:=h.go k
theorem CD {qq p:Prop} (k:qq) (h:bu qq p:=by
 repeat' (first
  |((with_reducible apply nV))
  |((with_reducible apply s7);(· exact cw);(· rfl))
  |((with_reducible apply nT))
  |((with_reducible apply iL);(· exact iD);(· first|(simp only[List.append_eq,List.cons_append,List.nil_append];rfl)|rfl))
  |((with_reducible apply lG))
  |((with_reducible apply mQ);(· rfl))
  |((with_reducible apply mP);(· rfl))
  |((with_reducible apply ly);(· rfl);(· assumption))
  |((with_reducible apply lx);(· rfl);(· assumption))
  |((with_reducible apply mN);(· rfl);(intro hb);(rotate_left);(intro hb);(rotate_right))
  |((with_reducible apply mM);(· rfl);(intro hb);(rotate_left);(intro hb);(rotate_right))
  |((with_reducible apply nR))
  |((with_reducible apply lB);(· rfl))
  |((with_reducible apply s6);(· exact cw);(· rfl))
  |((with_reducible apply qu);(· exact cw))
  |((with_reducible apply lC);(· rfl);(· rfl))
  |((with_reducible apply jW);(· rfl);(· rfl);(· rfl);(· rfl);(· rfl))
  |((with_reducible apply iK);(· rfl);(· rfl);(· rfl);(· rfl))
  |((with_reducible apply qt);(· rfl);(· rfl);(· rfl);(intro hb);(rotate_left);(intro hb);(rotate_right))
  |((with_reducible apply qs);(· rfl);(· rfl);(· rfl);(intro hb);(rotate_left);(intro hb);(rotate_right))
  |((with_reducible apply qw);(· exact cw))
  |((with_reducible apply lD);(· exact cw);(· exact cw);(· exact cw);(· exact cw);(· rfl);(intro hb);(rotate_left);(intro hb);(rotate_right))
  |((with_reducible apply lE);(· exact cw);(· exact cw);(· exact cw);(· exact cw);(· rfl);(intro hb);(rotate_left);(intro hb);(rotate_right))
  |((with_reducible apply lz);(· exact iD);(· exact Cc);(· first|(simp only[List.append_eq,List.cons_append,List.nil_append];rfl)|rfl);(· kernel_rfl))
  |((with_reducible apply s5);(· rfl);(· simp only[Nat.reduceAdd];rfl))
  |((with_reducible apply tf);(· exact cw))
  |((with_reducible apply nX);(· rfl);(· rfl);(· exact cw))
  |((with_reducible apply lI);(· rfl);(· rfl);(· rfl);(· rfl))
  |((with_reducible apply tc);(· rfl);(· rfl);(intro hb);(rotate_left);(intro hb);(rotate_right))
  |((with_reducible apply ta);(· rfl);(· rfl);(intro hb);(rotate_left);(intro hb);(rotate_right))
  |((with_reducible apply lr);(· rfl);(· simp only[Nat.reduceAdd];rfl))
  |((with_reducible apply lu);(· rfl))
  |((with_reducible apply qp);(· rfl);(· rfl))
  |((with_reducible apply qn);(· rfl);(· rfl);(· rfl))
  |((with_reducible apply qo);(· rfl);(· rfl);(· rfl);(· rfl))
  |((with_reducible apply qy))
  |((with_reducible apply nW);(· rfl);(· rfl))
  |((with_reducible apply lH);(· rfl);(· rfl);(· rfl);(· rfl))
  |((with_reducible apply s9);(· rfl);(· rfl);(intro hb);(rotate_left);(intro hb);(rotate_right))
  |((with_reducible apply s8);(· rfl);(· rfl);(intro hb);(rotate_left);(intro hb);(rotate_right))
  |((with_reducible apply tg);(· exact cw))
  |((with_reducible apply th);(· exact cw))
  |((with_reducible apply nP);(· conv=>lhs;reduce);(· exact M7))
  |((with_reducible apply nO);(· conv=>lhs;reduce);(· exact M7))
  |((with_reducible apply jX))
  |((with_reducible apply lF))
  |((with_reducible apply nU);(· exact cw))
  |((with_reducible apply nS);(· exact cw))
  |((with_reducible apply ql);(· first|exact c1|exact c1 _|exact c2|exact c2 _|exact c3|exact c3 _|exact c4|exact c4 _|exact c5|exact c5 _|exact c6|exact c6 _);(· exact cw);(· rfl))
  |((with_reducible apply nQ);(· exact cw);(· first|exact c1|exact c1 _|exact c1 _ _|exact c1 _ _ _|exact c2|exact c2 _|exact c2 _ _|exact c2 _ _ _|exact c3|exact c3 _|exact c3 _ _|exact c3 _ _ _|exact c4|exact c4 _|exact c4 _ _|exact c4 _ _ _|exact c5|exact c5 _|exact c5 _ _|exact c5 _ _ _|exact c6|exact c6 _|exact c6 _ _|exact c6 _ _ _);(· rfl))
  |((with_reducible apply lJ);(· exact cw);(· first|exact c1|exact c1 _|exact c1 _ _|exact c1 _ _ _|exact c2|exact c2 _|exact c2 _ _|exact c2 _ _ _|exact c3|exact c3 _|exact c3 _ _|exact c3 _ _ _|exact c4|exact c4 _|exact c4 _ _|exact c4 _ _ _|exact c5|exact c5 _|exact c5 _ _|exact c5 _ _ _|exact c6|exact c6 _|exact c6 _ _|exact c6 _ _ _))
  |((with_reducible apply nZ);(· first|exact c1|exact c1 _|exact c2|exact c2 _|exact c3|exact c3 _|exact c4|exact c4 _|exact c5|exact c5 _|exact c6|exact c6 _);(· exact cw))
  |((with_reducible apply qj);(· exact cw);(· exact cw);(· first|exact v1|exact v1 _|exact v1 _ _|exact v2|exact v2 _|exact v2 _ _|exact v3|exact v3 _|exact v3 _ _);(· rfl))
  |((with_reducible apply nY);(· exact cw);(· exact cw);(· first|exact v1|exact v1 _|exact v1 _ _|exact v2|exact v2 _|exact v2 _ _|exact v3|exact v3 _|exact v3 _ _))
  |(refine bu.no ?_;omega)
  |exact bu.refl _)):p:=h.go k
theorem iu {qq p:Prop} (k:qq) (h:bu qq p:=by
 repeat' (first
  |((with_reducible apply nV))
  |((with_reducible apply s7);(· exact cw);(· rfl))
  |((with_reducible apply nT))
  |((with_reducible apply iL);(· exact iD);(· first|(simp only[List.append_eq,List.cons_append,List.nil_append];rfl)|rfl))
  |((with_reducible apply lG))
  |((with_reducible apply mL))
  |((with_reducible apply nR))
  |((with_reducible apply lB);(· rfl))
  |((with_reducible apply s6);(· exact cw);(· rfl))
  |((with_reducible apply qu);(· exact cw))
  |((with_reducible apply lC);(· rfl);(· rfl))
  |((with_reducible apply jW);(· rfl);(· rfl);(· rfl);(· rfl);(· rfl))
  |((with_reducible apply iK);(· rfl);(· rfl);(· rfl);(· rfl))
  |((with_reducible apply xE);(· rfl);(· rfl);(· exact Ip);(· rfl))
  |((with_reducible apply xF);(· rfl);(· rfl);(· exact Iq);(· rfl))
  |((with_reducible apply xG);(· rfl);(· rfl);(· exact Ir);(· rfl))
  |((with_reducible apply BK);(· rfl);(· rfl);(· rfl);(intro hb);(try simp only[hb]);(try simp only[qh,pZ,qf,qe,Bool.true_and,Bool.false_and,Bool.true_or,Bool.false_or,iN,gp]);(rotate_left);(intro hb);(try simp only[hb]);(try simp only[qh,pZ,qf,qe,Bool.true_and,Bool.false_and,Bool.true_or,Bool.false_or,iN,gp]);(rotate_right))
  |((with_reducible apply qt);(· rfl);(· rfl);(· rfl);(intro hb);(rotate_left);(intro hb);(rotate_right))
  |((with_reducible apply qs);(· rfl);(· rfl);(· rfl);(intro hb);(rotate_left);(intro hb);(rotate_right))
  |((with_reducible apply qw);(· exact cw))
  |((with_reducible apply lD);(· exact cw);(· exact cw);(· exact cw);(· exact cw);(· rfl);(intro hb);(rotate_left);(intro hb);(rotate_right))
  |((with_reducible apply lE);(· exact cw);(· exact cw);(· exact cw);(· exact cw);(· rfl);(intro hb);(rotate_left);(intro hb);(rotate_right))
  |((with_reducible apply lz);(· exact iD);(· exact Cc);(· first|(simp only[List.append_eq,List.cons_append,List.nil_append];rfl)|rfl);(· kernel_rfl))
  |((with_reducible apply s5);(· rfl);(· simp only[Nat.reduceAdd];rfl))
  |((with_reducible apply tf);(· exact cw))
  |((with_reducible apply nX);(· rfl);(· rfl);(· exact cw))
  |((with_reducible apply lI);(· rfl);(· rfl);(· rfl);(· rfl))
  |((with_reducible apply BL);(· rfl);(· rfl);(· exact Ip))
  |((with_reducible apply BM);(· rfl);(· rfl);(· exact Iq))
  |((with_reducible apply BN);(· rfl);(· rfl);(· exact Ir))
  |((with_reducible apply tc);(· rfl);(· rfl);(intro hb);(rotate_left);(intro hb);(rotate_right))
  |((with_reducible apply ta);(· rfl);(· rfl);(intro hb);(rotate_left);(intro hb);(rotate_right))
  |((with_reducible apply lr);(· rfl);(· simp only[Nat.reduceAdd];rfl))
  |((with_reducible apply lu);(· rfl))
  |((with_reducible apply qp);(· rfl);(· rfl))
  |((with_reducible apply qn);(· rfl);(· rfl);(· rfl))
  |((with_reducible apply qo);(· rfl);(· rfl);(· rfl);(· rfl))
  |((with_reducible apply qy))
  |((with_reducible apply nW);(· rfl);(· rfl))
  |((with_reducible apply lH);(· rfl);(· rfl);(· rfl);(· rfl))
  |((with_reducible apply E0);(· rfl);(· rfl);(intro hb);(try simp only[hb]);(try simp only[qh,pZ,qf,qe,Bool.true_and,Bool.false_and,Bool.true_or,Bool.false_or,iN,gp]);(rotate_left);(intro hb);(try simp only[hb]);(try simp only[qh,pZ,qf,qe,Bool.true_and,Bool.false_and,Bool.true_or,Bool.false_or,iN,gp]);(rotate_right))
  |((with_reducible apply s9);(· rfl);(· rfl);(intro hb);(rotate_left);(intro hb);(rotate_right))
  |((with_reducible apply s8);(· rfl);(· rfl);(intro hb);(rotate_left);(intro hb);(rotate_right))
  |((with_reducible apply tg);(· exact cw))
  |((with_reducible apply th);(· exact cw))
  |((with_reducible apply nP);(· conv=>lhs;reduce);(· exact M7))
  |((with_reducible apply nO);(· conv=>lhs;reduce);(· exact M7))
  |((with_reducible apply jX))
  |((with_reducible apply lF))
  |((with_reducible apply nU);(· exact cw))
  |((with_reducible apply nS);(· exact cw))
  |((with_reducible apply ql);(· first|exact c1|exact c1 _|exact c2|exact c2 _|exact c3|exact c3 _|exact c4|exact c4 _|exact c5|exact c5 _|exact c6|exact c6 _);(· exact cw);(· rfl))
  |((with_reducible apply nQ);(· exact cw);(· first|exact c1|exact c1 _|exact c1 _ _|exact c1 _ _ _|exact c2|exact c2 _|exact c2 _ _|exact c2 _ _ _|exact c3|exact c3 _|exact c3 _ _|exact c3 _ _ _|exact c4|exact c4 _|exact c4 _ _|exact c4 _ _ _|exact c5|exact c5 _|exact c5 _ _|exact c5 _ _ _|exact c6|exact c6 _|exact c6 _ _|exact c6 _ _ _);(· rfl))
  |((with_reducible apply lJ);(· exact cw);(· first|exact c1|exact c1 _|exact c1 _ _|exact c1 _ _ _|exact c2|exact c2 _|exact c2 _ _|exact c2 _ _ _|exact c3|exact c3 _|exact c3 _ _|exact c3 _ _ _|exact c4|exact c4 _|exact c4 _ _|exact c4 _ _ _|exact c5|exact c5 _|exact c5 _ _|exact c5 _ _ _|exact c6|exact c6 _|exact c6 _ _|exact c6 _ _ _))
  |((with_reducible apply nZ);(· first|exact c1|exact c1 _|exact c2|exact c2 _|exact c3|exact c3 _|exact c4|exact c4 _|exact c5|exact c5 _|exact c6|exact c6 _);(· exact cw))
  |((with_reducible apply qj);(· exact cw);(· exact cw);(· first|exact v1|exact v1 _|exact v1 _ _|exact v2|exact v2 _|exact v2 _ _|exact v3|exact v3 _|exact v3 _ _);(· rfl))
  |((with_reducible apply nY);(· exact cw);(· exact cw);(· first|exact v1|exact v1 _|exact v1 _ _|exact v2|exact v2 _|exact v2 _ _|exact v3|exact v3 _|exact v3 _ _))
  |(refine bu.no ?_;omega)
  |exact bu.refl _)):p:=h.go k
section
variable {P:Program} {G:Gl} {T:bX} {own:List Nat} {nt B:Nat} {ρ:Option Nat} {C:Cx} {rs:List ResultVar} {R:SV→List av→Prop} {env env2:Env} {H X KB:List av} {k:List It}
theorem bI (ks:dP) {n0:Nat} (hG:ah G) (hB:dW G C.H.length) (hC:C.H.length=n0) (hcl:closed H) (hn:H.length=n0:=by first|rfl|(simp;done)|exact hlen _) (hk:bH (H++X) n0 ks ks KB:=by exact kc) (hd:(ks.map (·.1)).Nodup:=by first|rfl|decide|simp) (he:hY (H++X) n0 ks env2 env:=by exact kc):Wk G nt C ⟨env,H++X⟩ ⟨env2,H++KB⟩:=Wk.xJ ks hG hB hn hC hcl hk hd he
variable {all r:List Oper} {ty d j dj:Nat} {op:Op} {pos:String} {after:Array Edge} {v:SV} {want:Bool} {dst:Option Nat} {kk:SV→List av→Prop}
variable {R':SV→List av→Prop} {xs:List SV} {f:Operand} {fv:SV} {args:Array Operand} {tys:Array Nat} {g:FuncId}
theorem br (hc:aq P G g xs H R') (hk:∀ x H',R' x H'→(Out P G T own nt ρ C rs R) (.ops all r::k) .normal ((d,x)::env) H') (h2:kJ G env args.toList=some xs:=by exact cw) (hd:Nat.blt d nt=true:=by rfl):(Out P G T own nt ρ C rs R) (.ops all (⟨some d,.call ⟨.value (.func g),args,tys⟩,ty,pos,after,none⟩::r)::k) .normal env H:=gS h2 hd hc hk
theorem eS (hc:aY P G fv xs H R') (hk:∀ x H',R' x H'→(Out P G T own nt ρ C rs R) (.ops all r::k) .normal ((d,x)::env) H') (h1:ev G env f=some fv:=by exact cw) (h2:kJ G env args.toList=some xs:=by exact cw) (hd:Nat.blt d nt=true:=by rfl):(Out P G T own nt ρ C rs R) (.ops all (⟨some d,.call ⟨.value f,args,tys⟩,ty,pos,after,none⟩::r)::k) .normal env H:=kM h1 h2 hd hc hk
theorem nB (hc:aq P G g xs H R') (hk:∀ x H',R' x H'→kk x H') (h2:kJ G env args.toList=some xs:=by exact cw):ll P G T own all ⟨dst,.call ⟨.value (.func g),args,tys⟩,ty,pos,after,none⟩ env H kk:=tE h2 hc hk
theorem aZ {R0:SV→List av→Prop} {n0:Nat} (hR:oT (∀ y H',R0 y H'→R y H')) (hC:C.H.length=n0) (hcl:closed H) {x y:SV} (hx:bF (H++X) n0 [] x y) (h:R0 y H) (hn:H.length=n0:=by first|rfl|(simp;done)|exact hlen _):Fin C (H++X) x R:=Fin.aS hR hn hC hcl hx h
theorem gD (ks:dP) {R0:SV→List av→Prop} {n0:Nat} (y:SV) (KB:List av) (hR:oT (∀ y H',R0 y H'→R y H')) (hC:C.H.length=n0) (hcl:closed H) {x:SV} (h:R0 y (H++KB)) (hk:bH (H++X) n0 ks ks KB:=by exact kc) (hd:(ks.map (·.1)).Nodup:=by first|rfl|decide|simp) (hx:bF (H++X) n0 ks x y:=by exact kc) (hn:H.length=n0:=by first|rfl|(simp;done)|exact hlen _):Fin C (H++X) x R:=Fin.xJ ks hR hn hC hcl hk hd hx h
end
end
def t2:TI:=⟨.int .i64,1,8,.int .i64 0⟩
def t3:TI:=⟨.int .i64,1,8,.int .i64 0⟩
def t4:TI:=⟨.bool,1,1,.bool false⟩
def t5:TI:=⟨.int .u8,1,1,.int .u8 0⟩
def t9:TI:=⟨.str,1,16,.str []⟩
def t20:TI:=⟨.oI,1,16,.oI true⟩
def t21:TI:=⟨.int .i32,1,4,.int .i32 0⟩
def t22:TI:=⟨.slice 35,1,24,.nil⟩
def t23:TI:=⟨.slice 53,1,24,.nil⟩
def t25:TI:=⟨.struct [(0,22),(1,23)] false,2,48,.agg [.nil,.nil]⟩
def t29:TI:=⟨.int .i64,1,8,.int .i64 0⟩
def t35:TI:=⟨.struct [(0,9),(1,3),(2,3),(3,3)] true,4,40,.agg [.str [],.int .i64 0,.int .i64 0,.int .i64 0]⟩
def t37:TI:=⟨.map 9 4,1,8,.b9⟩
def t38:TI:=⟨.slice 9,1,24,.nil⟩
def t41:TI:=⟨.slice 43,1,24,.nil⟩
def t43:TI:=⟨.struct [(0,3),(1,3),(2,41)] false,3,40,.agg [.int .i64 0,.int .i64 0,.nil]⟩
def t44:TI:=⟨.slice 47,1,24,.nil⟩
def t45:TI:=⟨.slice 60,1,24,.nil⟩
def t47:TI:=⟨.struct [(0,3),(1,9),(2,3),(3,3),(4,38),(5,44),(6,23),(7,45)] false,8,136,.agg [.int .i64 0,.str [],.int .i64 0,.int .i64 0,.list 1 [],.list 8 [],.list 9 [],.list 12 []]⟩
def t48:TI:=⟨.func,1,8,.cZ⟩
def t50:TI:=⟨.func,1,8,.cZ⟩
def t51:TI:=⟨.func,1,8,.cZ⟩
def t52:TI:=⟨.struct [(0,9),(1,47)] false,9,152,.agg [.str [],.int .i64 0,.str [],.int .i64 0,.int .i64 0,.nil,.nil,.nil,.nil]⟩
def t53:TI:=⟨.struct [(0,9),(1,47)] false,9,152,.agg [.str [],.int .i64 0,.str [],.int .i64 0,.int .i64 0,.list 1 [],.list 8 [],.list 9 [],.list 12 []]⟩
def t54:TI:=⟨.func,1,8,.cZ⟩
def t55:TI:=⟨.func,1,8,.cZ⟩
def t56:TI:=⟨.func,1,8,.cZ⟩
def t57:TI:=⟨.func,1,8,.cZ⟩
def t60:TI:=⟨.struct [(0,3),(1,9),(2,3),(3,38),(4,47)] false,12,192,.agg [.int .i64 0,.str [],.int .i64 0,.list 1 [],.int .i64 0,.str [],.int .i64 0,.int .i64 0,.list 1 [],.list 8 [],.list 9 [],.list 12 []]⟩
def t64:TI:=⟨.func,1,8,.cZ⟩
def t67:TI:=⟨.func,1,8,.cZ⟩
def t69:TI:=⟨.ptr 72,1,8,.bt⟩
def t70:TI:=⟨.map 9 35,1,8,.b9⟩
def t72:TI:=⟨.struct [(0,70)] false,1,8,.agg [.b9]⟩
def t74:TI:=⟨.map 9 3,1,8,.b9⟩
def t77:TI:=⟨.array 4 35,16,160,.agg [.str [],.int .i64 0,.int .i64 0,.int .i64 0,.str [],.int .i64 0,.int .i64 0,.int .i64 0,.str [],.int .i64 0,.int .i64 0,.int .i64 0,.str [],.int .i64 0,.int .i64 0,.int .i64 0]⟩
def t82:TI:=⟨.struct [(0,3)] true,1,8,.agg [.int .i64 0]⟩
def t83:TI:=⟨.ptr 120,1,8,.bt⟩
def t96:TI:=⟨.oI,1,16,.oI true⟩
def t108:TI:=⟨.int .u64,1,8,.int .u64 0⟩
def t117:TI:=⟨.map 3 4,1,8,.b9⟩
def t120:TI:=⟨.struct [(0,83),(1,9),(2,47)] false,10,160,.agg [.bt,.str [],.int .i64 0,.str [],.int .i64 0,.int .i64 0,.nil,.nil,.nil,.nil]⟩
def t124:TI:=⟨.slice 3,1,24,.nil⟩
def t133:TI:=⟨.int .i64,1,8,.int .i64 0⟩
def t141:TI:=⟨.int .u32,1,4,.int .u32 0⟩
def t143:TI:=⟨.int .u64,1,8,.int .u64 0⟩
def t146:TI:=⟨.func,1,8,.cZ⟩
def t148:TI:=⟨.slice 124,1,24,.nil⟩
def t155:TI:=⟨.slice 38,1,24,.nil⟩
def t160:TI:=⟨.ptr 60,1,8,.bt⟩
def t172:TI:=⟨.int .i64,1,8,.int .i64 0⟩
def t173:TI:=⟨.slice 5,1,24,.nil⟩
def t176:TI:=⟨.ptr 212,1,8,.bt⟩
def t180:TI:=⟨.int .u64,1,8,.int .u64 0⟩
def t187:TI:=⟨.slice 117,1,24,.nil⟩
def t189:TI:=⟨.slice 4,1,24,.nil⟩
def t193:TI:=⟨.struct [(0,9),(1,3),(2,4)] true,3,32,.agg [.str [],.int .i64 0,.bool false]⟩
def t195:TI:=⟨.slice 44,1,24,.nil⟩
def t212:TI:=⟨.struct [(0,9),(1,9),(2,96)] false,3,48,.agg [.str [],.str [],.oI true]⟩
def t214:TI:=⟨.array 24 5,24,24,.agg [.int .u8 0,.int .u8 0,.int .u8 0,.int .u8 0,.int .u8 0,.int .u8 0,.int .u8 0,.int .u8 0,.int .u8 0,.int .u8 0,.int .u8 0,.int .u8 0,.int .u8 0,.int .u8 0,.int .u8 0,.int .u8 0,.int .u8 0,.int .u8 0,.int .u8 0,.int .u8 0,.int .u8 0,.int .u8 0,.int .u8 0,.int .u8 0]⟩
def t231:TI:=⟨.ptr 233,1,8,.bt⟩
def t233:TI:=⟨.struct [(0,9)] true,1,16,.agg [.str []]⟩
def t235:TI:=⟨.array 20 143,20,160,.agg [.int .u64 0,.int .u64 0,.int .u64 0,.int .u64 0,.int .u64 0,.int .u64 0,.int .u64 0,.int .u64 0,.int .u64 0,.int .u64 0,.int .u64 0,.int .u64 0,.int .u64 0,.int .u64 0,.int .u64 0,.int .u64 0,.int .u64 0,.int .u64 0,.int .u64 0,.int .u64 0]⟩
def t236:TI:=⟨.array 65 5,65,65,.agg [.int .u8 0,.int .u8 0,.int .u8 0,.int .u8 0,.int .u8 0,.int .u8 0,.int .u8 0,.int .u8 0,.int .u8 0,.int .u8 0,.int .u8 0,.int .u8 0,.int .u8 0,.int .u8 0,.int .u8 0,.int .u8 0,.int .u8 0,.int .u8 0,.int .u8 0,.int .u8 0,.int .u8 0,.int .u8 0,.int .u8 0,.int .u8 0,.int .u8 0,.int .u8 0,.int .u8 0,.int .u8 0,.int .u8 0,.int .u8 0,.int .u8 0,.int .u8 0,.int .u8 0,.int .u8 0,.int .u8 0,.int .u8 0,.int .u8 0,.int .u8 0,.int .u8 0,.int .u8 0,.int .u8 0,.int .u8 0,.int .u8 0,.int .u8 0,.int .u8 0,.int .u8 0,.int .u8 0,.int .u8 0,.int .u8 0,.int .u8 0,.int .u8 0,.int .u8 0,.int .u8 0,.int .u8 0,.int .u8 0,.int .u8 0,.int .u8 0,.int .u8 0,.int .u8 0,.int .u8 0,.int .u8 0,.int .u8 0,.int .u8 0,.int .u8 0,.int .u8 0]⟩
def t241:TI:=⟨.array 32 5,32,32,.agg [.int .u8 0,.int .u8 0,.int .u8 0,.int .u8 0,.int .u8 0,.int .u8 0,.int .u8 0,.int .u8 0,.int .u8 0,.int .u8 0,.int .u8 0,.int .u8 0,.int .u8 0,.int .u8 0,.int .u8 0,.int .u8 0,.int .u8 0,.int .u8 0,.int .u8 0,.int .u8 0,.int .u8 0,.int .u8 0,.int .u8 0,.int .u8 0,.int .u8 0,.int .u8 0,.int .u8 0,.int .u8 0,.int .u8 0,.int .u8 0,.int .u8 0,.int .u8 0]⟩
def t242:TI:=⟨.array 64 5,64,64,.agg [.int .u8 0,.int .u8 0,.int .u8 0,.int .u8 0,.int .u8 0,.int .u8 0,.int .u8 0,.int .u8 0,.int .u8 0,.int .u8 0,.int .u8 0,.int .u8 0,.int .u8 0,.int .u8 0,.int .u8 0,.int .u8 0,.int .u8 0,.int .u8 0,.int .u8 0,.int .u8 0,.int .u8 0,.int .u8 0,.int .u8 0,.int .u8 0,.int .u8 0,.int .u8 0,.int .u8 0,.int .u8 0,.int .u8 0,.int .u8 0,.int .u8 0,.int .u8 0,.int .u8 0,.int .u8 0,.int .u8 0,.int .u8 0,.int .u8 0,.int .u8 0,.int .u8 0,.int .u8 0,.int .u8 0,.int .u8 0,.int .u8 0,.int .u8 0,.int .u8 0,.int .u8 0,.int .u8 0,.int .u8 0,.int .u8 0,.int .u8 0,.int .u8 0,.int .u8 0,.int .u8 0,.int .u8 0,.int .u8 0,.int .u8 0,.int .u8 0,.int .u8 0,.int .u8 0,.int .u8 0,.int .u8 0,.int .u8 0,.int .u8 0,.int .u8 0]⟩
def TB:bX:=[(2,t2),(3,t3),(4,t4),(5,t5),(9,t9),(20,t20),(21,t21),(22,t22),(23,t23),(25,t25),(29,t29),(35,t35),(37,t37),(38,t38),(41,t41),(43,t43),(44,t44),(45,t45),(47,t47),(48,t48),(50,t50),(51,t51),(52,t52),(53,t53),(54,t54),(55,t55),(56,t56),(57,t57),(60,t60),(64,t64),(67,t67),(69,t69),(70,t70),(72,t72),(74,t74),(77,t77),(82,t82),(83,t83),(96,t96),(108,t108),(117,t117),(120,t120),(124,t124),(133,t133),(141,t141),(143,t143),(146,t146),(148,t148),(155,t155),(160,t160),(172,t172),(173,t173),(176,t176),(180,t180),(187,t187),(189,t189),(193,t193),(195,t195),(212,t212),(214,t214),(231,t231),(233,t233),(235,t235),(236,t236),(241,t241),(242,t242)]
set_option maxRecDepth 10000 in
theorem R5:bX.get TB 2=some ⟨.int .i64,1,8,.int .i64 0⟩∧
 bX.get TB 3=some ⟨.int .i64,1,8,.int .i64 0⟩∧
 bX.get TB 4=some ⟨.bool,1,1,.bool false⟩∧
 bX.get TB 5=some ⟨.int .u8,1,1,.int .u8 0⟩∧
 bX.get TB 9=some ⟨.str,1,16,.str []⟩∧
 bX.get TB 20=some ⟨.oI,1,16,.oI true⟩∧
 bX.get TB 21=some ⟨.int .i32,1,4,.int .i32 0⟩∧
 bX.get TB 22=some ⟨.slice 35,1,24,.nil⟩∧
 bX.get TB 23=some ⟨.slice 53,1,24,.nil⟩∧
 bX.get TB 25=some ⟨.struct [(0,22),(1,23)] false,2,48,.agg [.nil,.nil]⟩∧
 bX.get TB 29=some ⟨.int .i64,1,8,.int .i64 0⟩∧
 bX.get TB 35=some ⟨.struct [(0,9),(1,3),(2,3),(3,3)] true,4,40,.agg [.str [],.int .i64 0,.int .i64 0,.int .i64 0]⟩∧
 bX.get TB 37=some ⟨.map 9 4,1,8,.b9⟩∧
 bX.get TB 38=some ⟨.slice 9,1,24,.nil⟩∧
 bX.get TB 41=some ⟨.slice 43,1,24,.nil⟩∧
 bX.get TB 43=some ⟨.struct [(0,3),(1,3),(2,41)] false,3,40,.agg [.int .i64 0,.int .i64 0,.nil]⟩∧
 bX.get TB 44=some ⟨.slice 47,1,24,.nil⟩∧
 bX.get TB 45=some ⟨.slice 60,1,24,.nil⟩∧
 bX.get TB 47=some ⟨.struct [(0,3),(1,9),(2,3),(3,3),(4,38),(5,44),(6,23),(7,45)] false,8,136,.agg [.int .i64 0,.str [],.int .i64 0,.int .i64 0,.list 1 [],.list 8 [],.list 9 [],.list 12 []]⟩∧
 bX.get TB 48=some ⟨.func,1,8,.cZ⟩∧
 bX.get TB 50=some ⟨.func,1,8,.cZ⟩∧
 bX.get TB 51=some ⟨.func,1,8,.cZ⟩∧
 bX.get TB 52=some ⟨.struct [(0,9),(1,47)] false,9,152,.agg [.str [],.int .i64 0,.str [],.int .i64 0,.int .i64 0,.nil,.nil,.nil,.nil]⟩∧
 bX.get TB 53=some ⟨.struct [(0,9),(1,47)] false,9,152,.agg [.str [],.int .i64 0,.str [],.int .i64 0,.int .i64 0,.list 1 [],.list 8 [],.list 9 [],.list 12 []]⟩∧
 bX.get TB 54=some ⟨.func,1,8,.cZ⟩∧
 bX.get TB 55=some ⟨.func,1,8,.cZ⟩∧
 bX.get TB 56=some ⟨.func,1,8,.cZ⟩∧
 bX.get TB 57=some ⟨.func,1,8,.cZ⟩∧
 bX.get TB 60=some ⟨.struct [(0,3),(1,9),(2,3),(3,38),(4,47)] false,12,192,.agg [.int .i64 0,.str [],.int .i64 0,.list 1 [],.int .i64 0,.str [],.int .i64 0,.int .i64 0,.list 1 [],.list 8 [],.list 9 [],.list 12 []]⟩∧
 bX.get TB 64=some ⟨.func,1,8,.cZ⟩∧
 bX.get TB 67=some ⟨.func,1,8,.cZ⟩∧
 bX.get TB 69=some ⟨.ptr 72,1,8,.bt⟩∧
 bX.get TB 70=some ⟨.map 9 35,1,8,.b9⟩∧
 bX.get TB 72=some ⟨.struct [(0,70)] false,1,8,.agg [.b9]⟩∧
 bX.get TB 74=some ⟨.map 9 3,1,8,.b9⟩∧
 bX.get TB 77=some ⟨.array 4 35,16,160,.agg [.str [],.int .i64 0,.int .i64 0,.int .i64 0,.str [],.int .i64 0,.int .i64 0,.int .i64 0,.str [],.int .i64 0,.int .i64 0,.int .i64 0,.str [],.int .i64 0,.int .i64 0,.int .i64 0]⟩∧
 bX.get TB 82=some ⟨.struct [(0,3)] true,1,8,.agg [.int .i64 0]⟩∧
 bX.get TB 83=some ⟨.ptr 120,1,8,.bt⟩∧
 bX.get TB 96=some ⟨.oI,1,16,.oI true⟩∧
 bX.get TB 108=some ⟨.int .u64,1,8,.int .u64 0⟩∧
 bX.get TB 117=some ⟨.map 3 4,1,8,.b9⟩∧
 bX.get TB 120=some ⟨.struct [(0,83),(1,9),(2,47)] false,10,160,.agg [.bt,.str [],.int .i64 0,.str [],.int .i64 0,.int .i64 0,.nil,.nil,.nil,.nil]⟩∧
 bX.get TB 124=some ⟨.slice 3,1,24,.nil⟩∧
 bX.get TB 133=some ⟨.int .i64,1,8,.int .i64 0⟩∧
 bX.get TB 141=some ⟨.int .u32,1,4,.int .u32 0⟩∧
 bX.get TB 143=some ⟨.int .u64,1,8,.int .u64 0⟩∧
 bX.get TB 146=some ⟨.func,1,8,.cZ⟩∧
 bX.get TB 148=some ⟨.slice 124,1,24,.nil⟩∧
 bX.get TB 155=some ⟨.slice 38,1,24,.nil⟩∧
 bX.get TB 160=some ⟨.ptr 60,1,8,.bt⟩∧
 bX.get TB 172=some ⟨.int .i64,1,8,.int .i64 0⟩∧
 bX.get TB 173=some ⟨.slice 5,1,24,.nil⟩∧
 bX.get TB 176=some ⟨.ptr 212,1,8,.bt⟩∧
 bX.get TB 180=some ⟨.int .u64,1,8,.int .u64 0⟩∧
 bX.get TB 187=some ⟨.slice 117,1,24,.nil⟩∧
 bX.get TB 189=some ⟨.slice 4,1,24,.nil⟩∧
 bX.get TB 193=some ⟨.struct [(0,9),(1,3),(2,4)] true,3,32,.agg [.str [],.int .i64 0,.bool false]⟩∧
 bX.get TB 195=some ⟨.slice 44,1,24,.nil⟩∧
 bX.get TB 212=some ⟨.struct [(0,9),(1,9),(2,96)] false,3,48,.agg [.str [],.str [],.oI true]⟩∧
 bX.get TB 214=some ⟨.array 24 5,24,24,.agg [.int .u8 0,.int .u8 0,.int .u8 0,.int .u8 0,.int .u8 0,.int .u8 0,.int .u8 0,.int .u8 0,.int .u8 0,.int .u8 0,.int .u8 0,.int .u8 0,.int .u8 0,.int .u8 0,.int .u8 0,.int .u8 0,.int .u8 0,.int .u8 0,.int .u8 0,.int .u8 0,.int .u8 0,.int .u8 0,.int .u8 0,.int .u8 0]⟩∧
 bX.get TB 231=some ⟨.ptr 233,1,8,.bt⟩∧
 bX.get TB 233=some ⟨.struct [(0,9)] true,1,16,.agg [.str []]⟩∧
 bX.get TB 235=some ⟨.array 20 143,20,160,.agg [.int .u64 0,.int .u64 0,.int .u64 0,.int .u64 0,.int .u64 0,.int .u64 0,.int .u64 0,.int .u64 0,.int .u64 0,.int .u64 0,.int .u64 0,.int .u64 0,.int .u64 0,.int .u64 0,.int .u64 0,.int .u64 0,.int .u64 0,.int .u64 0,.int .u64 0,.int .u64 0]⟩∧
 bX.get TB 236=some ⟨.array 65 5,65,65,.agg [.int .u8 0,.int .u8 0,.int .u8 0,.int .u8 0,.int .u8 0,.int .u8 0,.int .u8 0,.int .u8 0,.int .u8 0,.int .u8 0,.int .u8 0,.int .u8 0,.int .u8 0,.int .u8 0,.int .u8 0,.int .u8 0,.int .u8 0,.int .u8 0,.int .u8 0,.int .u8 0,.int .u8 0,.int .u8 0,.int .u8 0,.int .u8 0,.int .u8 0,.int .u8 0,.int .u8 0,.int .u8 0,.int .u8 0,.int .u8 0,.int .u8 0,.int .u8 0,.int .u8 0,.int .u8 0,.int .u8 0,.int .u8 0,.int .u8 0,.int .u8 0,.int .u8 0,.int .u8 0,.int .u8 0,.int .u8 0,.int .u8 0,.int .u8 0,.int .u8 0,.int .u8 0,.int .u8 0,.int .u8 0,.int .u8 0,.int .u8 0,.int .u8 0,.int .u8 0,.int .u8 0,.int .u8 0,.int .u8 0,.int .u8 0,.int .u8 0,.int .u8 0,.int .u8 0,.int .u8 0,.int .u8 0,.int .u8 0,.int .u8 0,.int .u8 0,.int .u8 0]⟩∧
 bX.get TB 241=some ⟨.array 32 5,32,32,.agg [.int .u8 0,.int .u8 0,.int .u8 0,.int .u8 0,.int .u8 0,.int .u8 0,.int .u8 0,.int .u8 0,.int .u8 0,.int .u8 0,.int .u8 0,.int .u8 0,.int .u8 0,.int .u8 0,.int .u8 0,.int .u8 0,.int .u8 0,.int .u8 0,.int .u8 0,.int .u8 0,.int .u8 0,.int .u8 0,.int .u8 0,.int .u8 0,.int .u8 0,.int .u8 0,.int .u8 0,.int .u8 0,.int .u8 0,.int .u8 0,.int .u8 0,.int .u8 0]⟩∧
 bX.get TB 242=some ⟨.array 64 5,64,64,.agg [.int .u8 0,.int .u8 0,.int .u8 0,.int .u8 0,.int .u8 0,.int .u8 0,.int .u8 0,.int .u8 0,.int .u8 0,.int .u8 0,.int .u8 0,.int .u8 0,.int .u8 0,.int .u8 0,.int .u8 0,.int .u8 0,.int .u8 0,.int .u8 0,.int .u8 0,.int .u8 0,.int .u8 0,.int .u8 0,.int .u8 0,.int .u8 0,.int .u8 0,.int .u8 0,.int .u8 0,.int .u8 0,.int .u8 0,.int .u8 0,.int .u8 0,.int .u8 0,.int .u8 0,.int .u8 0,.int .u8 0,.int .u8 0,.int .u8 0,.int .u8 0,.int .u8 0,.int .u8 0,.int .u8 0,.int .u8 0,.int .u8 0,.int .u8 0,.int .u8 0,.int .u8 0,.int .u8 0,.int .u8 0,.int .u8 0,.int .u8 0,.int .u8 0,.int .u8 0,.int .u8 0,.int .u8 0,.int .u8 0,.int .u8 0,.int .u8 0,.int .u8 0,.int .u8 0,.int .u8 0,.int .u8 0,.int .u8 0,.int .u8 0,.int .u8 0]⟩:=⟨rfl,rfl,rfl,rfl,rfl,rfl,rfl,rfl,rfl,rfl,rfl,rfl,rfl,rfl,rfl,rfl,rfl,rfl,rfl,rfl,rfl,rfl,rfl,rfl,rfl,rfl,rfl,rfl,rfl,rfl,rfl,rfl,rfl,rfl,rfl,rfl,rfl,rfl,rfl,rfl,rfl,rfl,rfl,rfl,rfl,rfl,rfl,rfl,rfl,rfl,rfl,rfl,rfl,rfl,rfl,rfl,rfl,rfl,rfl,rfl,rfl,rfl,rfl,rfl,rfl,rfl⟩
theorem Sb:bT Tryz.prog 2 t2:=aN (.int .i64 0) (bC.refl _) Tryz.underlying2 (by kernel_rfl)
theorem Sc:bT Tryz.prog 3 t3:=aN (.int .i64 0) (bC.refl _) Tryz.underlying3 (by kernel_rfl)
theorem Sd:bT Tryz.prog 4 t4:=aN (.bool false) (bC.refl _) Tryz.underlying4 (by kernel_rfl)
theorem Se:bT Tryz.prog 5 t5:=aN (.int .u8 0) (bC.refl _) Tryz.underlying5 (by kernel_rfl)
theorem RT:bT Tryz.prog 9 t9:=aN (.str []) (bC.refl _) Tryz.underlying9 (by kernel_rfl)
theorem QY:bT Tryz.prog 20 t20:=aN (.oI true) (bC.refl _) ⟨_,Tryz.underlying20⟩ (by kernel_rfl)
theorem QZ:bT Tryz.prog 21 t21:=aN (.int .i32 0) (bC.refl _) Tryz.underlying21 (by kernel_rfl)
theorem Q0:bT Tryz.prog 22 t22:=aN (.nil) (bC.refl _) Tryz.underlying22 (by kernel_rfl)
theorem Q1:bT Tryz.prog 23 t23:=aN (.nil) (bC.refl _) Tryz.underlying23 (by kernel_rfl)
theorem Q2:bT Tryz.prog 25 t25:=aN (.agg [.nil,.nil]) (bC.refl _) ⟨⟨_,Tryz.underlying25,rfl⟩,fun h=>by cases h⟩ (by kernel_rfl)
theorem Q3:bT Tryz.prog 29 t29:=aN (.int .i64 0) (bC.refl _) Tryz.underlying29 (by kernel_rfl)
theorem Q4:bT Tryz.prog 35 t35:=aN (.agg [.str [],.int .i64 0,.int .i64 0,.int .i64 0]) (bC.refl _) ⟨⟨_,Tryz.underlying35,rfl⟩,fun _=>lh (by kernel_rfl)⟩ (by kernel_rfl)
theorem Q5:bT Tryz.prog 37 t37:=aN (.b9) (bC.refl _) Tryz.underlying37 (by kernel_rfl)
theorem Q6:bT Tryz.prog 38 t38:=aN (.nil) (bC.refl _) Tryz.underlying38 (by kernel_rfl)
theorem Q7:bT Tryz.prog 41 t41:=aN (.nil) (bC.refl _) Tryz.underlying41 (by kernel_rfl)
theorem Q8:bT Tryz.prog 43 t43:=aN (.agg [.int .i64 0,.int .i64 0,.nil]) (bC.refl _) ⟨⟨_,Tryz.underlying43,rfl⟩,fun h=>by cases h⟩ (by kernel_rfl)
theorem Q9:bT Tryz.prog 44 t44:=aN (.nil) (bC.refl _) Tryz.underlying44 (by kernel_rfl)
theorem Ra:bT Tryz.prog 45 t45:=aN (.nil) (bC.refl _) Tryz.underlying45 (by kernel_rfl)
theorem Qg:bT Tryz.prog 47 t47:=aN (.agg [.int .i64 0,.str [],.int .i64 0,.int .i64 0,.nil,.nil,.nil,.nil]) (by simp[bC,mg,Told,t47]) ⟨⟨_,Tryz.underlying47,rfl⟩,fun h=>by cases h⟩ (by kernel_rfl)
theorem Rb:bT Tryz.prog 48 t48:=aN (.cZ) (bC.refl _) ⟨_,_,_,Tryz.underlying48⟩ (by kernel_rfl)
theorem Rc:bT Tryz.prog 50 t50:=aN (.cZ) (bC.refl _) ⟨_,_,_,Tryz.underlying50⟩ (by kernel_rfl)
theorem Re:bT Tryz.prog 51 t51:=aN (.cZ) (bC.refl _) ⟨_,_,_,Tryz.underlying51⟩ (by kernel_rfl)
theorem Rf:bT Tryz.prog 52 t52:=aN (.agg [.str [],.int .i64 0,.str [],.int .i64 0,.int .i64 0,.nil,.nil,.nil,.nil]) (bC.refl _) ⟨⟨_,Tryz.underlying52,rfl⟩,fun h=>by cases h⟩ (by kernel_rfl)
theorem Rg:bT Tryz.prog 53 t53:=aN (.agg [.str [],.int .i64 0,.str [],.int .i64 0,.int .i64 0,.nil,.nil,.nil,.nil]) (by simp[bC,mg,Told,t53]) ⟨⟨_,Tryz.underlying53,rfl⟩,fun h=>by cases h⟩ (by kernel_rfl)
theorem Rh:bT Tryz.prog 54 t54:=aN (.cZ) (bC.refl _) ⟨_,_,_,Tryz.underlying54⟩ (by kernel_rfl)
theorem Ri:bT Tryz.prog 55 t55:=aN (.cZ) (bC.refl _) ⟨_,_,_,Tryz.underlying55⟩ (by kernel_rfl)
theorem Rj:bT Tryz.prog 56 t56:=aN (.cZ) (bC.refl _) ⟨_,_,_,Tryz.underlying56⟩ (by kernel_rfl)
theorem Rk:bT Tryz.prog 57 t57:=aN (.cZ) (bC.refl _) ⟨_,_,_,Tryz.underlying57⟩ (by kernel_rfl)
theorem Rl:bT Tryz.prog 60 t60:=aN (.agg [.int .i64 0,.str [],.int .i64 0,.nil,.int .i64 0,.str [],.int .i64 0,.int .i64 0,.nil,.nil,.nil,.nil]) (by simp[bC,mg,Told,t60]) ⟨⟨_,Tryz.underlying60,rfl⟩,fun h=>by cases h⟩ (by kernel_rfl)
theorem Rm:bT Tryz.prog 64 t64:=aN (.cZ) (bC.refl _) ⟨_,_,_,Tryz.underlying64⟩ (by kernel_rfl)
theorem Rn:bT Tryz.prog 67 t67:=aN (.cZ) (bC.refl _) ⟨_,_,_,Tryz.underlying67⟩ (by kernel_rfl)
theorem Ro:bT Tryz.prog 69 t69:=aN (.bt) (bC.refl _) Tryz.underlying69 (by kernel_rfl)
theorem Rp:bT Tryz.prog 70 t70:=aN (.b9) (bC.refl _) Tryz.underlying70 (by kernel_rfl)
theorem Rq:bT Tryz.prog 72 t72:=aN (.agg [.b9]) (bC.refl _) ⟨⟨_,Tryz.underlying72,rfl⟩,fun h=>by cases h⟩ (by kernel_rfl)
theorem Rr:bT Tryz.prog 74 t74:=aN (.b9) (bC.refl _) Tryz.underlying74 (by kernel_rfl)
theorem Rt:bT Tryz.prog 77 t77:=aN (.agg [.str [],.int .i64 0,.int .i64 0,.int .i64 0,.str [],.int .i64 0,.int .i64 0,.int .i64 0,.str [],.int .i64 0,.int .i64 0,.int .i64 0,.str [],.int .i64 0,.int .i64 0,.int .i64 0]) (bC.refl _) Tryz.underlying77 (by kernel_rfl)
theorem Ru:bT Tryz.prog 82 t82:=aN (.agg [.int .i64 0]) (bC.refl _) ⟨⟨_,Tryz.underlying82,rfl⟩,fun _=>lh (by kernel_rfl)⟩ (by kernel_rfl)
theorem Rv:bT Tryz.prog 83 t83:=aN (.bt) (bC.refl _) Tryz.underlying83 (by kernel_rfl)
theorem Rw:bT Tryz.prog 96 t96:=aN (.oI true) (bC.refl _) ⟨_,Tryz.underlying96⟩ (by kernel_rfl)
theorem PL:bT Tryz.prog 108 t108:=aN (.int .u64 0) (bC.refl _) Tryz.underlying108 (by kernel_rfl)
theorem PM:bT Tryz.prog 117 t117:=aN (.b9) (bC.refl _) Tryz.underlying117 (by kernel_rfl)
theorem PN:bT Tryz.prog 120 t120:=aN (.agg [.bt,.str [],.int .i64 0,.str [],.int .i64 0,.int .i64 0,.nil,.nil,.nil,.nil]) (bC.refl _) ⟨⟨_,Tryz.underlying120,rfl⟩,fun h=>by cases h⟩ (by kernel_rfl)
theorem PO:bT Tryz.prog 124 t124:=aN (.nil) (bC.refl _) Tryz.underlying124 (by kernel_rfl)
theorem PQ:bT Tryz.prog 133 t133:=aN (.int .i64 0) (bC.refl _) Tryz.underlying133 (by kernel_rfl)
theorem PR:bT Tryz.prog 141 t141:=aN (.int .u32 0) (bC.refl _) Tryz.underlying141 (by kernel_rfl)
theorem PS:bT Tryz.prog 143 t143:=aN (.int .u64 0) (bC.refl _) Tryz.underlying143 (by kernel_rfl)
theorem PT:bT Tryz.prog 146 t146:=aN (.cZ) (bC.refl _) ⟨_,_,_,Tryz.underlying146⟩ (by kernel_rfl)
theorem PU:bT Tryz.prog 148 t148:=aN (.nil) (bC.refl _) Tryz.underlying148 (by kernel_rfl)
theorem PV:bT Tryz.prog 155 t155:=aN (.nil) (bC.refl _) Tryz.underlying155 (by kernel_rfl)
theorem PW:bT Tryz.prog 160 t160:=aN (.bt) (bC.refl _) Tryz.underlying160 (by kernel_rfl)
theorem PX:bT Tryz.prog 172 t172:=aN (.int .i64 0) (bC.refl _) Tryz.underlying172 (by kernel_rfl)
theorem PY:bT Tryz.prog 173 t173:=aN (.nil) (bC.refl _) Tryz.underlying173 (by kernel_rfl)
theorem PZ:bT Tryz.prog 176 t176:=aN (.bt) (bC.refl _) Tryz.underlying176 (by kernel_rfl)
theorem P3:bT Tryz.prog 180 t180:=aN (.int .u64 0) (bC.refl _) Tryz.underlying180 (by kernel_rfl)
theorem P4:bT Tryz.prog 187 t187:=aN (.nil) (bC.refl _) Tryz.underlying187 (by kernel_rfl)
theorem P5:bT Tryz.prog 189 t189:=aN (.nil) (bC.refl _) Tryz.underlying189 (by kernel_rfl)
theorem P6:bT Tryz.prog 193 t193:=aN (.agg [.str [],.int .i64 0,.bool false]) (bC.refl _) ⟨⟨_,Tryz.underlying193,rfl⟩,fun _=>lh (by kernel_rfl)⟩ (by kernel_rfl)
theorem P7:bT Tryz.prog 195 t195:=aN (.nil) (bC.refl _) Tryz.underlying195 (by kernel_rfl)
theorem P8:bT Tryz.prog 212 t212:=aN (.agg [.str [],.str [],.oI true]) (bC.refl _) ⟨⟨_,Tryz.underlying212,rfl⟩,fun h=>by cases h⟩ (by kernel_rfl)
theorem P9:bT Tryz.prog 214 t214:=aN (.agg [.int .u8 0,.int .u8 0,.int .u8 0,.int .u8 0,.int .u8 0,.int .u8 0,.int .u8 0,.int .u8 0,.int .u8 0,.int .u8 0,.int .u8 0,.int .u8 0,.int .u8 0,.int .u8 0,.int .u8 0,.int .u8 0,.int .u8 0,.int .u8 0,.int .u8 0,.int .u8 0,.int .u8 0,.int .u8 0,.int .u8 0,.int .u8 0]) (bC.refl _) Tryz.underlying214 (by kernel_rfl)
theorem Qa:bT Tryz.prog 231 t231:=aN (.bt) (bC.refl _) Tryz.underlying231 (by kernel_rfl)
theorem Qb:bT Tryz.prog 233 t233:=aN (.agg [.str []]) (bC.refl _) ⟨⟨_,Tryz.underlying233,rfl⟩,fun _=>lh (by kernel_rfl)⟩ (by kernel_rfl)
theorem Qc:bT Tryz.prog 235 t235:=aN (.agg [.int .u64 0,.int .u64 0,.int .u64 0,.int .u64 0,.int .u64 0,.int .u64 0,.int .u64 0,.int .u64 0,.int .u64 0,.int .u64 0,.int .u64 0,.int .u64 0,.int .u64 0,.int .u64 0,.int .u64 0,.int .u64 0,.int .u64 0,.int .u64 0,.int .u64 0,.int .u64 0]) (bC.refl _) Tryz.underlying235 (by kernel_rfl)
theorem Qd:bT Tryz.prog 236 t236:=aN (.agg [.int .u8 0,.int .u8 0,.int .u8 0,.int .u8 0,.int .u8 0,.int .u8 0,.int .u8 0,.int .u8 0,.int .u8 0,.int .u8 0,.int .u8 0,.int .u8 0,.int .u8 0,.int .u8 0,.int .u8 0,.int .u8 0,.int .u8 0,.int .u8 0,.int .u8 0,.int .u8 0,.int .u8 0,.int .u8 0,.int .u8 0,.int .u8 0,.int .u8 0,.int .u8 0,.int .u8 0,.int .u8 0,.int .u8 0,.int .u8 0,.int .u8 0,.int .u8 0,.int .u8 0,.int .u8 0,.int .u8 0,.int .u8 0,.int .u8 0,.int .u8 0,.int .u8 0,.int .u8 0,.int .u8 0,.int .u8 0,.int .u8 0,.int .u8 0,.int .u8 0,.int .u8 0,.int .u8 0,.int .u8 0,.int .u8 0,.int .u8 0,.int .u8 0,.int .u8 0,.int .u8 0,.int .u8 0,.int .u8 0,.int .u8 0,.int .u8 0,.int .u8 0,.int .u8 0,.int .u8 0,.int .u8 0,.int .u8 0,.int .u8 0,.int .u8 0,.int .u8 0]) (bC.refl _) Tryz.underlying236 (by kernel_rfl)
theorem Qe:bT Tryz.prog 241 t241:=aN (.agg [.int .u8 0,.int .u8 0,.int .u8 0,.int .u8 0,.int .u8 0,.int .u8 0,.int .u8 0,.int .u8 0,.int .u8 0,.int .u8 0,.int .u8 0,.int .u8 0,.int .u8 0,.int .u8 0,.int .u8 0,.int .u8 0,.int .u8 0,.int .u8 0,.int .u8 0,.int .u8 0,.int .u8 0,.int .u8 0,.int .u8 0,.int .u8 0,.int .u8 0,.int .u8 0,.int .u8 0,.int .u8 0,.int .u8 0,.int .u8 0,.int .u8 0,.int .u8 0]) (bC.refl _) Tryz.underlying241 (by kernel_rfl)
theorem Qf:bT Tryz.prog 242 t242:=aN (.agg [.int .u8 0,.int .u8 0,.int .u8 0,.int .u8 0,.int .u8 0,.int .u8 0,.int .u8 0,.int .u8 0,.int .u8 0,.int .u8 0,.int .u8 0,.int .u8 0,.int .u8 0,.int .u8 0,.int .u8 0,.int .u8 0,.int .u8 0,.int .u8 0,.int .u8 0,.int .u8 0,.int .u8 0,.int .u8 0,.int .u8 0,.int .u8 0,.int .u8 0,.int .u8 0,.int .u8 0,.int .u8 0,.int .u8 0,.int .u8 0,.int .u8 0,.int .u8 0,.int .u8 0,.int .u8 0,.int .u8 0,.int .u8 0,.int .u8 0,.int .u8 0,.int .u8 0,.int .u8 0,.int .u8 0,.int .u8 0,.int .u8 0,.int .u8 0,.int .u8 0,.int .u8 0,.int .u8 0,.int .u8 0,.int .u8 0,.int .u8 0,.int .u8 0,.int .u8 0,.int .u8 0,.int .u8 0,.int .u8 0,.int .u8 0,.int .u8 0,.int .u8 0,.int .u8 0,.int .u8 0,.int .u8 0,.int .u8 0,.int .u8 0,.int .u8 0]) (bC.refl _) Tryz.underlying242 (by kernel_rfl)
attribute [go_sem] R5
theorem Cc:Tryz.prog.follows .mixedOrders=true:=by kernel_rfl
theorem iD:aI Tryz.prog TB:=
 aI.cons Sb<|
 aI.cons Sc<|
 aI.cons Sd<|
 aI.cons Se<|
 aI.cons RT<|
 aI.cons QY<|
 aI.cons QZ<|
 aI.cons Q0<|
 aI.cons Q1<|
 aI.cons Q2<|
 aI.cons Q3<|
 aI.cons Q4<|
 aI.cons Q5<|
 aI.cons Q6<|
 aI.cons Q7<|
 aI.cons Q8<|
 aI.cons Q9<|
 aI.cons Ra<|
 aI.cons Qg<|
 aI.cons Rb<|
 aI.cons Rc<|
 aI.cons Re<|
 aI.cons Rf<|
 aI.cons Rg<|
 aI.cons Rh<|
 aI.cons Ri<|
 aI.cons Rj<|
 aI.cons Rk<|
 aI.cons Rl<|
 aI.cons Rm<|
 aI.cons Rn<|
 aI.cons Ro<|
 aI.cons Rp<|
 aI.cons Rq<|
 aI.cons Rr<|
 aI.cons Rt<|
 aI.cons Ru<|
 aI.cons Rv<|
 aI.cons Rw<|
 aI.cons PL<|
 aI.cons PM<|
 aI.cons PN<|
 aI.cons PO<|
 aI.cons PQ<|
 aI.cons PR<|
 aI.cons PS<|
 aI.cons PT<|
 aI.cons PU<|
 aI.cons PV<|
 aI.cons PW<|
 aI.cons PX<|
 aI.cons PY<|
 aI.cons PZ<|
 aI.cons P3<|
 aI.cons P4<|
 aI.cons P5<|
 aI.cons P6<|
 aI.cons P7<|
 aI.cons P8<|
 aI.cons P9<|
 aI.cons Qa<|
 aI.cons Qb<|
 aI.cons Qc<|
 aI.cons Qd<|
 aI.cons Qe<|
 aI.cons Qf<|
 aI.nil
theorem bP (own:List Nat) {f:FuncId} {fn:Func} {cd:Code} {args:List SV} {R:SV→List av→Prop} {rs:List ResultVar} {nt:Nat} {G:Gl} {H:List av} {ie:Env} (hf:Tryz.prog.funcs[f]? =some fn) (hnt:fn.ntmps=nt)
 (h:∀ (C:Cx) (R':SV→List av→Prop),oT (∀ x H',R x H'→R' x H')→C.H=H→closed H→dW G C.H.length→C.H.length=H.length→QB→Out Tryz.prog G TB own nt none C rs R' [.code cd] .normal ie H)
 (hb:fn.body=some cd:=by exact rfl) (hname:(fn.name== "runtime.NumGoroutine")=false:=by decide) (hlen:args.length≤nt:=by simp) (hrs:fn.results=⟨rs⟩:=by exact rfl) (hie:gk args 0=ie:=by simp only[gk,Nat.reduceAdd];rfl):aq Tryz.prog G f args H R:=
 aq.PK TB own iD nt hf hb hname hnt hlen hrs hie fun C R' h1 h2 h3 h4=>h C R' h1 h2 h3 h4 (congrArg List.length h2) aO
section
theorem ax.all {c:Cx} {α:Type} {sv:α→SV} {enc:α→Value} {ok:α→Prop} (hrep:∀ (c:Cx) x v,aB c (sv x) v↔(v=enc x∧ok x)):∀ {zs:List α} {vs:List Value},ax c (zs.map sv) vs↔(vs=zs.map enc∧∀ x∈zs,ok x)
 |[],vs=>by simp[ax]
 |x::zs,vs=>by
  rw[List.map_cons,ax.bg]
  constructor
  ·rintro⟨u,us,h1,h2,rfl⟩
   obtain⟨rfl,h3⟩:=(hrep c x u).1 h1
   obtain⟨rfl,h4⟩:=(ax.all hrep).1 h2
   exact⟨rfl,fun y hy=>by rcases List.mem_cons.1 hy with rfl|hy;exact h3;exact h4 y hy⟩
  ·rintro⟨rfl,h⟩
   exact⟨_,_,(hrep c x _).2 ⟨rfl,h x (List.mem_cons_self ..)⟩,(ax.all hrep).2 ⟨rfl,fun y hy=>h y (List.mem_cons_of_mem _ hy)⟩,rfl⟩
theorem ld:∀ {vs:List Value},(∀ v∈vs,v.oneCell'=true)→cellsOf vs=vs
 |[],_=>rfl
 |v::vs,h=>by rw[ez,eJ (h v (List.mem_cons_self ..)),ld (fun u hu=>h u (List.mem_cons_of_mem _ hu))];rfl
section
variable {P:Program} {G:Gl} {α:Type} [Inhabited α]
open Go.Sort
theorem aq.Fy (enc:α→Value) (sv:α→SV) (ok:α→Prop) (hrep:∀ (c:Cx) x v,aB c (sv x) v↔(v=enc x∧ok x)) (hone:∀ x,(enc x).oneCell'=true) (le:α→α→Bool) {f:FuncId}
 (hf:∃ fn,P.funcs[f]? =some fn∧(fn.name== "runtime.NumGoroutine")=false∧fn.body.isNone=false)
 (hc:∀ (dQ off cap:Nat) (zs:List α) (w:World),Holds enc w dQ off zs.toArray→dQ<w.heap.size→zs.length<4611686018427387904→Calls P f #[.slice (some ⟨dQ,off,none⟩) zs.length cap] w fun e w'=>
  e= .returned (.tuple #[])∧∃ n os,w'=grow (putRow enc (Sort.ahead w n) dQ off (zs.mergeSort le).toArray) os)
 (h0:∀ (p:Option Addr) (cap:Nat) (w:World),Calls P f #[.slice p 0 cap] w fun e w'=>e= .returned (.tuple #[])∧w'=w)
 (id g:Nat) (zs:List α) (H:List av) (hH:H[id]? =some (.cells g 1 (zs.map sv))) (hl:zs.length<4611686018427387904):
 aq P G f [.sl id g 0 zs.length] H (fun r H'=>H'=H.set id (.cells g 1 ((zs.mergeSort le).map sv))∧r= .tuple []):=by
 refine⟨hf,fun c vs e1 hh hG hv=>?_⟩
 obtain⟨v,us,hv1,hv2,rfl⟩:=ax.bg.1 hv
 rw[ax.dm.1 hv2]
 have hB:c.H[id]? =some (.cells g 1 (zs.map sv)):=by rw[e1];exact hH
 simp only[aB,hB] at hv1
 have hperm:=List.mergeSort_perm zs le
 have hlen:(zs.mergeSort le).length=zs.length:=hperm.length_eq
 refine(callsIn_wide (n:=0)).2 ?_
 rcases hv1.2 with h|⟨_,h1,a,cap,rfl,h2,h3,h4⟩
 ·omega
 by_cases hz:zs=[]
 ·subst hz
  refine(h0 a cap c.w).mono ?_
  rintro e w' ⟨rfl,rfl⟩
  refine⟨_,.tuple [],c,rfl,rfl,⟨?_,rfl⟩,hh,by simp only[aB];exact⟨[],ax.bQ,rfl⟩,Grow.refl c⟩
  rw[e1]
  obtain⟨hlt,he⟩:=List.getElem?_eq_some_iff.1 hH
  have:(List.mergeSort ([]:List α) le).map sv=[]:=by simp
  rw[this]
  conv=>lhs;rw[← List.set_getElem_self hlt]
  rw[he];rfl
 have hpos:0<zs.length:=List.length_pos_iff.2 hz
 rcases h4 with h4|⟨b,o,cs,Ty,fr,h4,h5,h6,h7⟩
 ·omega
 rcases hh.dQ id _ hB with⟨h8,_⟩|⟨b',o',cs',Ty',fr',vs',h8,h9,h10,h11,h12,h13⟩
 ·rw[h4] at h8;cases h8
 rw[h4] at h8;cases h8
 rw[h6] at h9;cases h9
 obtain⟨rfl,hok⟩:=(ax.all hrep).1 h11
 have hall1:∀ l:List α,∀ v∈l.map enc,v.oneCell'=true:=fun l v hv=>by obtain⟨x,_,rfl⟩:=List.mem_map.1 hv;exact hone x
 rw[ld (hall1 zs)] at h13
 have hblk:b<c.w.heap.size:=(Array.getElem?_eq_some_iff.1 h6).1
 have hsz:o+zs.length≤cs.size:=by
  have:=fo h6 h13 (by simpa using hpos)
  simpa using this
 have hthere:c.w.there b o zs.length:=gV h6 h10 hsz
 have hholds:Holds enc c.w b o zs.toArray:=fun j hj=>by
  have hj':j<zs.length:=by simpa using hj
  refine⟨?_,(hthere j hj').2⟩
  have:=h13 j (enc zs[j]) (by simp[hj'])
  rw[this]
  simp[hj']
 rw[show a=some ⟨b,o,none⟩ by rw[h5];simp]
 refine(hc b o cap zs c.w hholds hblk hl).mono ?_
 rintro e w' ⟨rfl,n,os,rfl⟩
 have hother:∀ k,k<c.w.heap.size→k≠b→(grow (putRow enc (Sort.ahead c.w n) b o (zs.mergeSort le).toArray) os).heap[k]? =c.w.heap[k]? :=fun k hk hne=>by
  rw[heap_grow_old _ _ (by simpa using hk)]
  show(Array.modify c.w.heap b _)[k]? =_
  rw[Array.getElem?_modify,if_neg (fun e=>hne e.symm)]
 have hat:(grow (putRow enc (Sort.ahead c.w n) b o (zs.mergeSort le).toArray) os).heap[b]? =some (.cells (putCells enc o (zs.mergeSort le).toArray cs) Ty fr):=by
  rw[heap_grow_old _ _ (by simpa using hblk)]
  show(Array.modify c.w.heap b _)[b]? =_
  rw[Array.getElem?_modify,if_pos rfl,h6]
  rfl
 have hcsz:(putCells enc o (zs.mergeSort le).toArray cs).size=cs.size:=by simp[putCells]
 obtain⟨t1,t2⟩:=Cx.oB hh (w':=grow (putRow enc (Sort.ahead c.w n) b o (zs.mergeSort le).toArray) os) hB rfl (B':= .cells g 1 ((zs.mergeSort le).map sv)) (c.θ id)
  ⟨g,_,rfl,Nat.le_refl _,fun _=>⟨rfl,by simp[hlen]⟩,fun b' o' h'=> .inr ⟨o',h'⟩⟩
  (fun k hk hno=>hother k hk fun e=>hno o (by rw[h4,e])) (by simp) rfl rfl rfl
  (fun b' cs0 T0 fr0 hb'=>by
   by_cases e:b'=b
   ·subst e
    rw[h6] at hb';cases hb'
    exact⟨_,fr,hat,hcsz⟩
   ·exact⟨cs0,fr0,by rw[hother b' (Array.getElem?_eq_some_iff.1 hb').1 e];exact hb',rfl⟩)
  (fun hg=> .inr ⟨b,o,_,Ty,fr,(zs.mergeSort le).map enc,by simp[h4],hat,by unfold gn;rw[hcsz];exact h10,
   (ax.all hrep).2 ⟨rfl,fun x hx=>hok x (hperm.mem_iff.1 hx)⟩,fun u hu=>by
    have:=hall1 _ u hu
    exact⟨by rw[eJ this];rfl,fZ this⟩,by
    rw[ld (hall1 _)]
    intro j v hj
    rw[jP hat]
    obtain⟨hj',hje⟩:=List.getElem?_eq_some_iff.1 hj
    simp only[List.length_map] at hj'
    simp only[List.getElem_map] at hje
    simp only[putCells,Array.getElem?_mapIdx]
    rw[Array.getElem?_eq_getElem (by omega)]
    simp only[Option.map_some]
    rw[if_pos (by constructor;omega;simp;omega)]
    rw[← hje]
    simp only[Nat.add_sub_cancel_left,List.getElem!_toArray,List.getElem!_eq_getElem?_getD]
    rw[List.getElem?_eq_getElem hj'];rfl⟩)
 refine⟨_,.tuple [],_,rfl,rfl,⟨?_,rfl⟩,t2,by simp only[aB];exact⟨[],ax.bQ,rfl⟩,t1⟩
 rw[← e1]
end
theorem Cz (k:IntKind) (c:Cx) (n:Int) (v:Value):aB c (.int k n) v↔(v= .int k n∧(k.min≤n∧n≤k.max)):=by simp only[aB]
theorem CB (c:Cx) (s:List UInt8) (v:Value):aB c (.str s) v↔(v= .string ⟨⟨s⟩⟩∧s.length≤maxLen):=by simp only[aB]
end
section
section
variable {P:Program}
theorem run_next_at (w:World) (ty r bm clk:Nat) (seen:Array Nat) (es:Array MapEntry) (hr:w.heap[r]? =some (.mapIter (some bm) clk seen clk)) (hb:w.heap[bm]? =some (.map es clk)) (hold:∀ x∈es.toList,x.born<clk):
 ((∀ e∈es.toList,seen.contains e.born=true)∧(Instr.next (.pointer (some ⟨r,0,none⟩)) false ty).run P w= .ok (.tuple #[.bool false]) w)∨
 ∃ e∈es.toList,seen.contains e.born=false∧∃ w1:World,(w1=w∨w1=w.drew)∧(Instr.next (.pointer (some ⟨r,0,none⟩)) false ty).run P w= .ok (.tuple #[.bool true,e.key,e.val]) (w1.putObj r (.mapIter (some bm) clk (seen.push e.born) clk)):=by
 simp only[Instr.next,getObj,Sem.run_bind,Sem.run,hr,hb,Result.andThen,next_test_false seen es clk clk hold (Nat.le_refl _),Bool.false_eq_true,if_false]
 generalize hL:Array.filter (fun e=>!seen.contains e.born) es=L
 have mem:∀ e,e∈L.toList↔e∈es.toList∧seen.contains e.born=false:=fun e=>by rw[← hL];simp
 have Fz:L.filter (fun x=>decide (x.born<clk))=L:=Array.filter_eq_self.2 (fun x hx=>by simpa using hold x ((mem x).1 (by simpa using hx)).1)
 have new:L.filter (fun x=>decide (x.born≥clk))= #[]:=by
  rw[Array.filter_eq_empty_iff]
  intro x hx
  have:=hold x ((mem x).1 (by simpa using hx)).1
  simp;omega
 simp only[Fz,new,Array.append_empty]
 by_cases h0:L.size=0
 ·left
  have hLe:L= #[]:=Array.eq_empty_of_size_eq_zero h0
  refine⟨fun e he=>?_,by subst hLe;simp[choose,Sem.run,Question.forced]⟩
  cases hs:seen.contains e.born with
  |true=>rfl
  |false=>have:=(mem e).2 ⟨he,hs⟩;rw[hLe] at this;cases this
 ·right
  have hne:L.isEmpty=false:=by simp[Array.isEmpty,h0]
  simp only[hne,Bool.false_eq_true,if_false,Array.empty_append,Array.size_map]
  obtain⟨j,w1,hj,hw,hrun⟩:∃ (j:Nat) (w1:World),j<L.size∧(w1=w∨w1=w.drew)∧(choose (Question.mapNext L.size)).run P w= .ok j w1:=by
   by_cases hf:L.size≤1
   ·exact⟨0,w,by omega,.inl rfl,by simp[choose,Sem.run,Question.forced,hf]⟩
   ·exact⟨_,w.drew,Nat.mod_lt _ (by omega),.inr rfl,by
     simp only[choose,Sem.run,Question.forced,decide_eq_true_eq,hf,if_false,Question.cut]
     rfl⟩
  have hheap:w1.heap=w.heap:=by rcases hw with rfl|rfl<;>rfl
  obtain⟨m1,m2⟩:=(mem L[j]).1 (by simp)
  refine⟨L[j],m1,m2,w1,hw,?_⟩
  have hset:∀ o':Obj,(setObj r o').run P w1= .ok () (w1.putObj r o'):=fun o'=>by
   have:w1.heap[r]? =some (.mapIter (some bm) clk seen clk):=by rw[hheap];exact hr
   simp only[setObj,Sem.run,this]
   rfl
  simp only[hrun,Array.getElem?_map,Array.getElem?_eq_getElem hj,Option.map_some,Sem.run_bind,hset,Result.andThen]
  rfl
theorem run_entry_at (w:World) (r bm clk:Nat) (seen:Array Nat) (es:Array MapEntry) (e:MapEntry) (hr:w.heap[r]? =some (.mapIter (some bm) clk (seen.push e.born) clk)) (hb:w.heap[bm]? =some (.map es clk)) (he:e∈es.toList) (hn:(es.toList.map (·.born)).Nodup):
 (Instr.entry (.pointer (some ⟨r,0,none⟩))).run P w= .ok (.tuple #[e.key,e.val]) w:=by
 have hf:es.find? (·.born==e.born)=some e:=by rw[← Array.find?_toList];exact find_born e es.toList hn he
 simp only[Instr.entry,getObj,Sem.run_bind,Sem.run,hr,hb,Result.andThen,Array.back?_push,bne_self_eq_false,Bool.false_eq_true,if_false,hf]
 rfl
theorem zZ (w:World) (t k e:TypeId) (bm clk:Nat) (es:Array MapEntry) (ht:P.underlying t=some (.map k e)) (hb:w.heap[bm]? =some (.map es clk)):
 (Instr.range t (.map (some bm))).run P w= .ok (.pointer (some ⟨w.heap.size,0,none⟩)) (w.alloc (.mapIter (some bm) clk #[] clk)):=run_range_map w t k e bm es clk ht hb
end
section
variable {P:Program} {G:Gl} {T:bX} {own:List Nat} {nt B:Nat} {ρ:Option Nat} {C:Cx} {rs:List ResultVar} {R:SV→List av→Prop} {env env2:Env} {H H':List av} {k:List It}
variable {all r:List Oper} {ty d j dj:Nat} {op:Op} {pos:String} {after:Array Edge} {v:SV}
theorem aB.n6 {θ:Nat→Option (Nat×Nat)} {H:List av} {w:World} {io:Nat} {kd:Option IntKind} {es:List (SV×SV)} (hm:H[io]? =some (.map kd es)):
 (∀ x v,aB ⟨θ,H,w⟩ x v→aB ⟨θ,H.set io .dead,w⟩ x v)∧(∀ xs vs,ax ⟨θ,H,w⟩ xs vs→ax ⟨θ,H.set io .dead,w⟩ xs vs):=by
 have hlt:=(List.getElem?_eq_some_iff.1 hm).1
 have himm:∀ b,Cx.qZ ⟨θ,H,w⟩ b→Cx.qZ ⟨θ,H.set io .dead,w⟩ b:=fun b ⟨h1,h2⟩=>⟨h1,fun⟨id,o,⟨B,hB,hl⟩,ht⟩=>h2 ⟨id,o,⟨B,by
  have hB':(H.set io .dead)[id]? =some B:=hB
  rw[List.getElem?_set] at hB'
  split at hB'
  ·cases hB';cases hl
  ·exact hB',hl⟩,ht⟩⟩
 have hget:∀ id:Nat,(H.set io .dead)[id]? =if io=id then some .dead else H[id]? :=fun id=>by
  rw[List.getElem?_set]
  by_cases e:io=id
  ·rw[if_pos e,if_pos e,if_pos (e ▸ hlt)]
  ·rw[if_neg e,if_neg e]
 apply SV.both
 ·intro x h1 h2 h3 h4 h5 h6 v h
  cases x with
  |agg fs=>exact absurd rfl (h1 fs)
  |list n xs=>exact absurd rfl (h2 n xs)
  |gM y=>exact absurd rfl (h3 y)
  |fn f a b=>exact absurd rfl (h4 f a b)
  |tuple xs=>exact absurd rfl (h5 xs)
  |eC b clk born kd ks vs=>exact absurd rfl (h6 b clk born kd ks vs)
  |ptr id g i off=>
   simp only[aB,hget] at h ⊢
   by_cases e:io=id
   ·simp only[if_pos e];exact⟨h.1,trivial⟩
   ·simp only[if_neg e];exact h
  |sl id g off len=>
   simp only[aB,hget] at h ⊢
   by_cases e:io=id
   ·simp only[if_pos e];exact⟨h.1,trivial⟩
   ·simp only[if_neg e];exact h
  |map id=>
   simp only[aB,hget] at h ⊢
   by_cases e:io=id
   ·simp only[if_pos e];exact⟨h.1,trivial⟩
   ·simp only[if_neg e];exact h
  |it id=>
   simp only[aB,hget] at h ⊢
   by_cases e:io=id
   ·simp only[if_pos e];exact⟨h.1,trivial⟩
   ·simp only[if_neg e];exact h
  |_=>exact h
 ·intro fs ih v h
  simp only[aB] at h ⊢
  obtain⟨vs,h1,h2⟩:=h
  exact⟨vs,ih vs h1,h2⟩
 ·intro sz xs ih v h
  simp only[aB] at h ⊢
  obtain⟨a,cap,h0,h1,h2,h3⟩:=h
  refine⟨a,cap,h0,h1,h2,?_⟩
  rcases h3 with h3|⟨b,o,vs,h3,h4,h5,h6,h7⟩
  ·exact .inl h3
  ·exact .inr ⟨b,o,vs,h3,ih vs h4,h5,h6,himm b h7⟩
 ·intro x ih v h
  simp only[aB] at h ⊢
  obtain⟨b,o,u,h0,h1,h2,h3,h4⟩:=h
  exact⟨b,o,u,h0,ih u h1,h2,h3,himm b h4⟩
 ·intro f xs ys ih1 ih2 v h
  simp only[aB] at h ⊢
  obtain⟨us,vs,h0,h1,h2⟩:=h
  exact⟨us,vs,ih1 us h0,ih2 vs h1,h2⟩
 ·intro xs ih v h
  simp only[aB] at h ⊢
  obtain⟨vs,h0,h1⟩:=h
  exact⟨vs,ih vs h0,h1⟩
 ·intro b clk born kd ks vs ih1 ih2 v h
  simp only[aB] at h ⊢
  obtain⟨h0,h1,ents,h2,h3,h4,h5,h6,h7⟩:=h
  exact⟨h0,himm b h1,ents,h2,h3,h4,ih1 _ h5,ih2 _ h6,h7⟩
 ·intro vs h;simpa [ax] using h
 ·intro x xs ih1 ih2 vs h
  obtain⟨u,us,h1,h2,h3⟩:=ax.bg.1 h
  exact ax.bg.2 ⟨u,us,ih1 u h1,ih2 us h2,h3⟩
theorem cg.lists {c:Cx}:∀ {es:List (SV×SV)} {l:List MapEntry},cg c es l→ax c (es.map Prod.fst) (l.map (·.key))∧ax c (es.map Prod.snd) (l.map (·.val))
 |[],l,h=>by simp only[cg] at h;subst h;exact⟨ax.bQ,ax.bQ⟩
 |(q,x)::es,l,h=>by
  simp only[cg] at h
  obtain⟨e,es',h1,h2,h3,rfl⟩:=h
  obtain⟨a,b⟩:=cg.lists h3
  exact⟨ax.bG h1 a,ax.bG h2 b⟩
theorem cg.mono {c c':Cx} (hr:∀ x v,aB c x v→aB c' x v):∀ {es:List (SV×SV)} {l:List MapEntry},cg c es l→cg c' es l
 |[],l,h=>by simpa [cg] using h
 |(q,x)::es,l,h=>by
  simp only[cg] at h ⊢
  obtain⟨e,es',h1,h2,h3,h4⟩:=h
  exact⟨e,es',hr _ _ h1,hr _ _ h2,cg.mono hr h3,h4⟩
theorem Cx.kill {θ:Nat→Option (Nat×Nat)} {H:List av} {w:World} {io:Nat} {kd:Option IntKind} {es:List (SV×SV)} (hm:H[io]? =some (.map kd es)) (hc:aM ⟨θ,H,w⟩) (hC:C.H.length≤io):
 aM ⟨θ,H.set io .dead,w⟩∧(∀ C0:Cx,C0.H.length≤io→Grow C0 ⟨θ,H,w⟩→Grow C0 ⟨θ,H.set io .dead,w⟩)∧
 ∃ b clk born,θ io=some (b,0)∧born.length=es.length∧born.Nodup∧aB ⟨θ,H.set io .dead,w⟩ (.eC b clk born kd (es.map Prod.fst) (es.map Prod.snd)) (.map (some b)):=by
 have hlt:=(List.getElem?_eq_some_iff.1 hm).1
 have hget:∀ (id:Nat) (B:av),(H.set io .dead)[id]? =some B→B= .dead∨(id≠io∧H[id]? =some B):=fun id B hB=>by
  rw[List.getElem?_set] at hB
  split at hB
  ·cases hB;exact .inl rfl
  ·rename_i h;exact .inr ⟨fun e=>h e.symm,hB⟩
 obtain⟨rk,rkl⟩:=aB.n6 (θ:=θ) (w:=w) hm
 refine⟨⟨fun id B hB=>?_,fun i j b o o' ⟨Bi,h1,h2⟩ ⟨Bj,h3,h4⟩ h5 h6=>?_⟩,fun C0 h0 hg=>?_,?_⟩
 ·rcases hget id B hB with rfl|⟨_,hB⟩
  ·trivial
  ·have hb:=hc.dQ id B hB
   cases B with
   |dead=>trivial
   |obj o=>exact hb
   |cells g sz vals=>
    rcases hb with hb|⟨b,o,cs,T,fr,vs,h1,h2,h3,h4,h5,h6⟩
    ·exact .inl hb
    ·exact .inr ⟨b,o,cs,T,fr,vs,h1,h2,h3,rkl _ _ h4,h5,h6⟩
   |map kd es=>
    obtain⟨b,ents,clk,h1,h2,h3,h4⟩:=hb
    exact⟨b,ents,clk,h1,h2,cg.mono rk h3,h4⟩
 ·rcases hget i Bi h1 with rfl|⟨_,h1⟩
  ·cases h2
  ·rcases hget j Bj h3 with rfl|⟨_,h3⟩
   ·cases h4
   ·exact hc.inj i j b o o' ⟨Bi,h1,h2⟩ ⟨Bj,h3,h4⟩ h5 h6
 ·refine⟨hg.os,hg.tape,hg.output,hg.size,hg.Fz,hg.shape,fun id B hB=>?_,fun id b o hn hl ht=>?_⟩
  ·obtain⟨B',h1,h2⟩:=hg.ids id B hB
   have hid:id<C0.H.length:=(List.getElem?_eq_some_iff.1 hB).1
   exact⟨B',by show(H.set io .dead)[id]? =_;rw[List.getElem?_set_ne (by omega)];exact h1,h2⟩
  ·obtain⟨B,h1,h2⟩:=hl
   rcases hget id B h1 with rfl|⟨_,h1⟩
   ·cases h2
   ·exact hg.new id b o hn ⟨B,h1,h2⟩ ht
 ·obtain⟨b,ents,clk,h1,h2,h3,h4,h5⟩:=hc.dQ io _ hm
  obtain⟨l1,l2⟩:=(cg.mono rk h3).lists
  refine⟨b,clk,ents.toList.map (·.born),h1,?_,h5.2.1,?_⟩
  ·have:=l1.length;simp only[List.length_map] at this ⊢;exact this.symm ▸ rfl
  ·simp only[aB]
   refine⟨trivial,⟨(Array.getElem?_eq_some_iff.1 h2).1,fun⟨id,o,⟨B,hB,hl⟩,ht⟩=>?_⟩,ents,h2,h5,rfl,l1,l2,fun x hx=>?_⟩
   ·rcases hget id B hB with rfl|⟨hne,hB⟩
    ·cases hl
    ·exact hne (hc.inj id io b o 0 ⟨B,hB,hl⟩ ⟨_,hm,rfl⟩ ht h1)
   ·obtain⟨p,hp,rfl⟩:=List.mem_map.1 hx
    exact h4 p hp
theorem N7 {c0:Code} {t io:Nat} {kd:Option IntKind} {es:List (SV×SV)} (hm:H[io]? =some (.map kd es)) (hC:C.H.length≤io) (hB:dW G C.H.length) (ht:look env t=some (.map io))
 (h:∀ b clk born,born.length=es.length→born.Nodup→(Out P G T own nt ρ C rs R) (.code c0::k) .normal ((t,.eC b clk born kd (es.map Prod.fst) (es.map Prod.snd))::env) (H.set io .dead)):(Out P G T own nt ρ C rs R) (.code c0::k) .normal env H:=by
 rintro⟨θ,Hc,w⟩ a hc hi hg
 simp only at hc
 subst hc
 obtain⟨k1,k2,b,clk,born,k3,k4,k5,k6⟩:=Cx.kill (C:=C) hm hi.heap hC
 refine h b clk born k4 k5 ⟨θ,Hc.set io .dead,w⟩ a rfl ⟨k1,⟨fun p hp=>(aB.n6 hm).1 _ _ (hi.gG.1 p hp),fun C0 h0=>k2 C0 (Nat.le_trans (hB C0 h0) hC) (hi.gG.2 C0 h0)⟩,hi.size,fun t' x hx=>?_,?_⟩ (k2 C hC hg)
 ·simp only[look] at hx
  split at hx
  ·rename_i e
   cases hx
   subst e
   have hv:=hi.env t' _ ht
   simp only[aB,hm] at hv
   obtain⟨_,b',e1,e2⟩:=hv
   rw[k3] at e1
   cases e1
   rw[e2];exact k6
  ·exact(aB.n6 hm).1 _ _ (hi.env t' x hx)
 ·refine⟨fun d hd=>?_,hi.defs.2⟩
  obtain⟨r,q1,q2,q3,q4⟩:=hi.defs.1 d hd
  refine⟨r,q1,q2,⟨q3.1,fun⟨id,o,⟨B,hB',hl⟩,ht'⟩=>q3.2 ⟨id,o,⟨B,?_,hl⟩,ht'⟩⟩,q4⟩
  have hB2:(Hc.set io .dead)[id]? =some B:=hB'
  rw[List.getElem?_set] at hB2
  split at hB2
  ·split at hB2
   ·cases hB2;cases hl
   ·cases hB2
  ·exact hB2
theorem ax.setAt {c:Cx} {X:SV}:∀ {xs:List SV} {vs:List Value} {i:Nat} {u:Value},ax c xs vs→vs[i]? =some u→aB c X u→ax c (xs.set i X) vs
 |[],vs,i,u,h,hi,hX=>h
 |x::xs,vs,i,u,h,hi,hX=>by
  obtain⟨v,vs',h1,h2,rfl⟩:=ax.bg.1 h
  cases i with
  |zero=>simp only[List.getElem?_cons_zero,Option.some.injEq] at hi;subst hi;exact ax.bG hX h2
  |succ i=>exact ax.bG h1 (ax.setAt h2 (by simpa using hi) hX)
theorem ax.Nh {c:Cx} {x:SV}:∀ {xs:List SV} {vs:List Value} {i:Nat},ax c xs vs→xs[i]? =some x→∃ u,vs[i]? =some u∧aB c x u
 |[],vs,i,h,hi=>by simp at hi
 |y::xs,vs,i,h,hi=>by
  obtain⟨v,vs',h1,h2,rfl⟩:=ax.bg.1 h
  cases i with
  |zero=>simp only[List.getElem?_cons_zero,Option.some.injEq] at hi;subst hi;exact⟨v,rfl,h1⟩
  |succ i=>
   obtain⟨u,h3,h4⟩:=ax.Nh (i:=i) h2 (by simpa using hi)
   exact⟨u,by simpa using h3,h4⟩
theorem LZ {c0:Code} {io jo i g sz:Nat} {kd:Option IntKind} {es:List (SV×SV)} {vals:List SV} (hm:H[io]? =some (.map kd es)) (hj:H[jo]? =some (.cells g sz vals)) (hv:vals[i]? =some (.map io)) (hC:C.H.length≤io) (hB:dW G C.H.length)
 (h:∀ b clk born,born.length=es.length→born.Nodup→(Out P G T own nt ρ C rs R) (.code c0::k) .normal env ((H.set io .dead).set jo (.cells g sz (vals.set i (.eC b clk born kd (es.map Prod.fst) (es.map Prod.snd)))))):(Out P G T own nt ρ C rs R) (.code c0::k) .normal env H:=by
 rintro⟨θ,Hc,w⟩ a hc hi hg
 simp only at hc
 subst hc
 obtain⟨k1,k2,b,clk,born,k3,k4,k5,k6⟩:=Cx.kill (C:=C) hm hi.heap hC
 obtain⟨rk,rkl⟩:=aB.n6 (θ:=θ) (w:=w) hm
 have hi1:Inv G nt C.w.heap.size ⟨θ,Hc.set io .dead,w⟩ env a:=by
  refine⟨k1,⟨fun p hp=>rk _ _ (hi.gG.1 p hp),fun C0 h0=>k2 C0 (Nat.le_trans (hB C0 h0) hC) (hi.gG.2 C0 h0)⟩,hi.size,fun t' x hx=>rk _ _ (hi.env t' x hx),⟨fun d hd=>?_,hi.defs.2⟩⟩
  obtain⟨r,q1,q2,q3,q4⟩:=hi.defs.1 d hd
  refine⟨r,q1,q2,⟨q3.1,fun⟨id,o,⟨B,hB',hl⟩,ht'⟩=>q3.2 ⟨id,o,⟨B,?_,hl⟩,ht'⟩⟩,q4⟩
  have hB2:(Hc.set io .dead)[id]? =some B:=hB'
  rw[List.getElem?_set] at hB2
  split at hB2
  ·split at hB2
   ·cases hB2;cases hl
   ·cases hB2
  ·exact hB2
 have hne:io≠jo:=fun e=>by
  subst e
  rw[hm] at hj;cases hj
 have hj1:(Hc.set io .dead)[jo]? =some (.cells g sz vals):=by rw[List.getElem?_set_ne hne];exact hj
 rcases hi.heap.dQ jo _ hj with⟨_,rfl⟩|⟨b0,o0,cs,Ty,fr,vs,h1,h2,h3,h4,h5,h6⟩
 ·simp at hv
 obtain⟨u,hu1,hu2⟩:=ax.Nh h4 hv
 have hu:u= .map (some b):=by
  simp only[aB,hm] at hu2
  obtain⟨_,b',e1,e2⟩:=hu2
  rw[k3] at e1
  cases e1
  exact e2
 subst hu
 obtain⟨g1,g2⟩:=Cx.oB (c:=⟨θ,Hc.set io .dead,w⟩) (w':=w) k1 hj1 rfl (B':= .cells g sz (vals.set i (.eC b clk born kd (es.map Prod.fst) (es.map Prod.snd)))) (θ jo)
  ⟨g,_,rfl,Nat.le_refl _,fun _=>⟨rfl,List.length_set ..⟩,fun b o hb=> .inr ⟨o,hb⟩⟩ (fun _ _ _=>rfl) (Nat.le_refl _) rfl rfl rfl (fun b cs T fr h=>⟨cs,fr,h,rfl⟩)
  (fun g1=> .inr ⟨b0,o0,cs,Ty,fr,vs,by simpa using h1,h2,h3,ax.setAt ((rkl _ _ h4).grow g1) hu1 (k6.grow g1),h5,h6⟩)
 refine h b clk born k4 k5 { θ:=fun i=>if i=jo then θ jo else θ i,H:=(Hc.set io .dead).set jo (.cells g sz (vals.set i (.eC b clk born kd (es.map Prod.fst) (es.map Prod.snd)))),w:=w} a rfl ⟨g2,hi1.gG.grow g1,hi1.size,fun t x hx=>(hi1.env t x hx).grow g1,hi1.defs.grow g1⟩ ((k2 C hC hg).trans g1)
theorem IT {c0:Code} {t id g off len sz:Nat} {vals:List SV} (hb:H[id]? =some (.cells g sz vals)) (ht:look env t=some (.sl id g off len)) (hl:off+len≤vals.length)
 (h:(Out P G T own nt ρ C rs R) (.code c0::k) .normal ((t,.sl id (g+1) off len)::env) (H.set id (.cells (g+1) sz (vals.take (off+len))))):(Out P G T own nt ρ C rs R) (.code c0::k) .normal env H:=by
 rintro⟨θ,Hc,w⟩ a hc hi hg
 simp only at hc
 subst hc
 have hlt:=(List.getElem?_eq_some_iff.1 hb).1
 have hv:=hi.env t _ ht
 simp only[aB,hb] at hv
 obtain⟨hone,hv⟩:=hv
 rcases hv with hv|⟨_,_,a0,cap,e1,e2,e3,e4⟩
 ·exact absurd hv (Nat.lt_irrefl _)
 obtain⟨g1,g2⟩:=Cx.oB (c:=⟨θ,Hc,w⟩) (w':=w) hi.heap hb rfl (B':= .cells (g+1) sz (vals.take (off+len))) (θ id)
  ⟨g+1,_,rfl,Nat.le_succ _,fun e=>absurd e (Nat.ne_of_lt (Nat.lt_succ_self _)),fun b o hb=> .inr ⟨o,hb⟩⟩ (fun _ _ _=>rfl) (Nat.le_refl _) rfl rfl rfl (fun b cs T fr h=>⟨cs,fr,h,rfl⟩)
  (fun g1=>by
   rcases hi.heap.dQ id _ hb with⟨h1,rfl⟩|⟨b0,o0,cs,Ty,fr,vs,h1,h2,h3,h4,h5,h6⟩
   ·exact .inl ⟨by simpa using h1,by simp⟩
   ·exact .inr ⟨b0,o0,cs,Ty,fr,vs.take (off+len),by simpa using h1,h2,h3,((h4.take _).grow g1),fun u hu=>h5 u (List.mem_of_mem_take hu),iP h6 _⟩)
 refine h { θ:=fun i=>if i=id then θ id else θ i,H:=Hc.set id (.cells (g+1) sz (vals.take (off+len))),w:=w} a rfl ⟨g2,hi.gG.grow g1,hi.size,fun t' x hx=>?_,hi.defs.grow g1⟩ (hg.trans g1)
 simp only[look] at hx
 split at hx
 ·rename_i e
  cases hx
  subst e
  simp only[aB,List.getElem?_set_self hlt]
  refine⟨hone,.inr ⟨trivial,by rw[List.length_take];omega,a0,cap,e1,e2,e3,?_⟩⟩
  rcases e4 with⟨h1,h2⟩|⟨b,o,cs,T',fr,h1,h2,h3,h4⟩
  ·refine .inl ⟨h1,h2.elim .inl fun h=> .inr ?_⟩
   rw[List.length_take];omega
  ·exact .inr ⟨b,o,cs,T',fr,by simpa using h1,h2,h3,h4⟩
 ·exact(hi.env t' x hx).grow g1
theorem Gs (t sz:Nat) {c0:Code} (ht:look env t=some .nil) (h:(Out P G T own nt ρ C rs R) (.code c0::k) .normal ((t,.sl H.length 0 0 0)::env) (H++[.cells 0 sz []])):(Out P G T own nt ρ C rs R) (.code c0::k) .normal env H:=by
 intro c a hc hi hg
 obtain⟨g1,g2⟩:=Cx.fresh hi.heap (w':=c.w) c.w.heap.size (Nat.le_refl _) 0 none (.inl rfl) (.cells 0 sz []) (fun _ _=>rfl) (Nat.le_refl _) rfl rfl rfl (fun _=> .inl ⟨by simp,rfl⟩)
 generalize hc2:(⟨fun i=>if i=c.H.length then none else c.θ i,c.H++[.cells 0 sz []],c.w⟩:Cx)=c2 at g1 g2
 have hH:c2.H=H++[.cells 0 sz []]:=by rw[← hc2];show c.H++_=_;rw[hc]
 have hw:c2.w=c.w:=by rw[← hc2]
 rw[← hw]
 refine h c2 a hH ⟨g2,hi.gG.grow g1,hi.size,fun t' x hx=>?_,hi.defs.grow g1⟩ (hg.trans g1)
 simp only[look] at hx
 split at hx
 ·rename_i e
  cases hx
  subst e
  have hv:=hi.env t' _ ht
  simp only[aB] at hv
  rw[hv]
  simp only[aB,hH]
  refine⟨rfl,?_⟩
  simp only[List.getElem?_append_right (Nat.le_refl _),Nat.sub_self,List.getElem?_cons_zero]
  exact .inr ⟨trivial,Nat.le_refl _,none,0,rfl,Nat.le_refl _,Nat.zero_le _,.inl ⟨rfl,.inr (Nat.le_refl _)⟩⟩
 ·exact(hi.env t' x hx).grow g1
theorem BG {x:Operand} {t bm clk:Nat} {born:List Nat} {kd:Option IntKind} {ks vs:List SV} {ti:TI} (h1:ev G env x=some (.eC bm clk born kd ks vs)) (h2:dJ T t=some (kd,ti)) (hd:Nat.blt d nt=true)
 (hk:(Out P G T own nt ρ C rs R) (.ops all r::k) .normal ((d,.it H.length)::env) (H++[.obj (.mapIter (some bm) clk #[] clk)])):(Out P G T own nt ρ C rs R) (.ops all (⟨some d,.range t x,ty,pos,after,none⟩::r)::k) .normal env H:=by
 refine OW.law (R0:=fun y H'=>y= .it H.length∧H'=H++[.obj (.mapIter (some bm) clk #[] clk)]) rfl rfl hd (fun hT c a o' hs hc hi hg next Q hn=>?_) (fun y H' hy=>by obtain⟨rfl,rfl⟩:=hy;exact hk)
 have hv:=bR hi h1
 simp only[aB] at hv
 obtain⟨e1,e2,ents,e3,_⟩:=hv
 have hu:∃ kk e,P.underlying t=some (.map kk e):=by
  unfold dJ at h2
  split at h2
  ·rename_i q;exact⟨_,_,(hT _ _ q).1⟩
  ·cases h2
 obtain⟨kk,e,hu⟩:=hu
 obtain⟨g1,g2⟩:=Cx.fresh hi.heap (w':=c.w.alloc (.mapIter (some bm) clk #[] clk)) c.w.heap.size (Nat.le_refl _) 0 (some (c.w.heap.size,0)) (.inr rfl) (.obj (.mapIter (some bm) clk #[] clk)) (fun b hb=>Go.RowKit.Below.heap_alloc _ _ b hb) (by simp) rfl rfl rfl
  (fun _=>⟨c.w.heap.size,by simp,World.alloc_heap_new _ _,fun ds e=>by cases e⟩)
 obtain⟨s1,s2,s3⟩:=hs
 refine eQ (u:= .pointer (some ⟨c.w.heap.size,0,none⟩)) (w':=c.w.alloc (.mapIter (some bm) clk #[] clk)) (by rw[s2];intro _ e;cases e) ?_ ?_
 ·simp[execOp,s2,e1,zZ c.w t kk e bm clk ents hu e3]
 ·rw[s1]
  have:=hn (.it c.H.length) _ (.pointer (some ⟨c.w.heap.size,0,none⟩)) (by rw[hc];exact⟨rfl,rfl⟩) g2 (by
   simp only[aB]
   refine⟨rfl,?_⟩
   simp only[List.getElem?_append_right (Nat.le_refl _),Nat.sub_self,List.getElem?_cons_zero]
   exact⟨c.w.heap.size,by simp,rfl⟩) g1
  exact this
theorem ax.at {c:Cx} {α:Type} {f:α→Value}:∀ {xs:List SV} {l:List α},ax c xs (l.map f)→∀ {i:Nat} {e:α},l[i]? =some e→∃ x,xs[i]? =some x∧aB c x (f e)
 |[],l,h,i,e,he=>by
  have:=ax.dm.1 h
  rw[List.map_eq_nil_iff] at this
  subst this;cases he
 |x::xs,l,h,i,e,he=>by
  cases l with
  |nil=>cases he
  |cons y l=>
   obtain⟨u,us,h1,h2,h3⟩:=ax.bg.1 h
   rw[List.map_cons,List.cons.injEq] at h3
   obtain⟨rfl,rfl⟩:=h3
   cases i with
   |zero=>cases he;exact⟨x,rfl,h1⟩
   |succ i=>exact ax.at h2 (i:=i) he
theorem EU {x:Operand} {tm iid bm clk:Nat} {seen:Array Nat} {born:List Nat} {kd:Option IntKind} {ks vs:List SV} (h1:ev G env x=some (.it iid)) (h2:look env tm=some (.eC bm clk born kd ks vs)) (h3:H[iid]? =some (.obj (.mapIter (some bm) clk seen clk))) (hd:Nat.blt d nt=true)
 (hk0:(∀ b∈born,seen.contains b=true)→(Out P G T own nt ρ C rs R) (.ops all r::k) .normal ((d,.tuple [.bool false])::env) H)
 (hk1:∀ (i b:Nat) (q y:SV),born[i]? =some b→seen.contains b=false→ks[i]? =some q→vs[i]? =some y→(Out P G T own nt ρ C rs R) (.ops all r::k) .normal ((d,.tuple [.bool true,q,y])::env) (H.set iid (.obj (.mapIter (some bm) clk (seen.push b) clk)))):
 (Out P G T own nt ρ C rs R) (.ops all (⟨some d,.next x false,ty,pos,after,none⟩::r)::k) .normal env H:=by
 refine OW.law (R0:=fun z H'=>((∀ b∈born,seen.contains b=true)∧z= .tuple [.bool false]∧H'=H)∨∃ (i b:Nat) (q y:SV),born[i]? =some b∧seen.contains b=false∧ks[i]? =some q∧vs[i]? =some y∧z= .tuple [.bool true,q,y]∧H'=H.set iid (.obj (.mapIter (some bm) clk (seen.push b) clk)))
  rfl rfl hd (fun hT c a o' hs hc hi hg next Q hn=>?_) (fun z H' hz=>by
   rcases hz with⟨q1,rfl,rfl⟩|⟨i,b,q,y,q1,q2,q3,q4,rfl,rfl⟩
   ·exact hk0 q1
   ·exact hk1 i b q y q1 q2 q3 q4)
 have hv:=bR hi h1
 have hm:=hi.env tm _ h2
 rw[← hc] at h3
 simp only[aB,h3] at hv
 obtain⟨_,rb,r1,r2⟩:=hv
 simp only[aB] at hm
 obtain⟨_,m1,ents,m2,m3,m4,m5,m6,m7⟩:=hm
 obtain⟨b',q1,q2⟩:=rJ hi.heap h3
 rw[r1] at q1;cases q1
 obtain⟨s1,s2,s3⟩:=hs
 have r2':a.eval x= .pointer (some ⟨rb,0,none⟩):=r2
 rcases run_next_at (P:=P) c.w o'.type rb bm clk seen ents q2 m2 m3.1 with⟨n1,n2⟩|⟨e,n1,n2,w1,n3,n4⟩
 ·refine eQ (u:= .tuple #[.bool false]) (w':=c.w) (by rw[s2];intro _ e;cases e) ?_ ?_
  ·simp[execOp,s2,r2',n2]
  ·rw[s1]
   exact hn (.tuple [.bool false]) c _ (.inl ⟨fun b hb=>by
    rw[← m4] at hb
    obtain⟨e,he,rfl⟩:=List.mem_map.1 hb
    exact n1 e he,rfl,hc⟩) hi.heap (by simp only[aB];exact⟨[.bool false],ax.bG (bz c false) ax.bQ,rfl⟩) (Grow.refl c)
 ·obtain⟨i,hi'⟩:=List.getElem?_of_mem n1
  obtain⟨y1,y2,y3⟩:=ax.at m5 hi'
  obtain⟨z1,z2,z3⟩:=ax.at m6 hi'
  have hb:born[i]? =some e.born:=by rw[← m4,List.getElem?_map,hi'];rfl
  obtain⟨c1,hc1,hg1,hh1⟩:∃ c1:Cx,c1={ c with w:=w1}∧Grow c c1∧aM c1:=by
   have:=Cx.world hi.heap (w':=w1) (fun b _=>by rcases n3 with rfl|rfl<;>rfl) (by rcases n3 with rfl|rfl<;>exact Nat.le_refl _) (by rcases n3 with rfl|rfl<;>rfl) (by rcases n3 with rfl|rfl<;>rfl) (by rcases n3 with rfl|rfl<;>rfl)
   exact⟨_,rfl,this.1,this.2⟩
  obtain⟨c2,g1,g2,g3,g4⟩:=qG (o:= .mapIter (some bm) clk seen clk) (o':= .mapIter (some bm) clk (seen.push e.born) clk) hh1 (id:=iid) (b:=rb) (by rw[hc1];exact h3) (by rw[hc1];exact r1) rfl (fun _ _ _ e=>by cases e) (fun _ e=>by cases e)
  refine eQ (u:= .tuple #[.bool true,e.key,e.val]) (w':=w1.putObj rb (.mapIter (some bm) clk (seen.push e.born) clk)) (by rw[s2];intro _ e;cases e) ?_ ?_
  ·simp[execOp,s2,r2',n4]
  ·rw[s1]
   have:=hn (.tuple [.bool true,y1,z1]) c2 (.tuple #[.bool true,e.key,e.val]) (.inr ⟨i,e.born,y1,z1,hb,n2,y2,z2,rfl,by rw[g1,hc1];show c.H.set _ _=_;rw[hc]⟩) g4 (by
    simp only[aB]
    exact⟨[.bool true,e.key,e.val],ax.bG (bz c2 true) (ax.bG (y3.grow (hg1.trans g3)) (ax.bG (z3.grow (hg1.trans g3)) ax.bQ)),rfl⟩) (hg1.trans g3)
   rw[g2,hc1] at this
   exact this
theorem BF {x:Operand} {tm iid bm clk i b:Nat} {seen:Array Nat} {born:List Nat} {kd:Option IntKind} {ks vs:List SV} {q y:SV} (h1:ev G env x=some (.it iid)) (h2:look env tm=some (.eC bm clk born kd ks vs)) (h3:H[iid]? =some (.obj (.mapIter (some bm) clk (seen.push b) clk)))
 (hb:born[i]? =some b) (hq:ks[i]? =some q) (hy:vs[i]? =some y) (hd:Nat.blt d nt=true)
 (hk:(Out P G T own nt ρ C rs R) (.ops all r::k) .normal ((d,.tuple [q,y])::env) H):
 (Out P G T own nt ρ C rs R) (.ops all (⟨some d,.entry x,ty,pos,after,none⟩::r)::k) .normal env H:=by
 refine OW.law (R0:=fun z H'=>z= .tuple [q,y]∧H'=H) rfl rfl hd (fun hT c a o' hs hc hi hg next Q hn=>?_) (fun z H' hz=>by obtain⟨rfl,rfl⟩:=hz;exact hk)
 have hv:=bR hi h1
 have hm:=hi.env tm _ h2
 rw[← hc] at h3
 simp only[aB,h3] at hv
 obtain⟨_,rb,r1,r2⟩:=hv
 simp only[aB] at hm
 obtain⟨_,m1,ents,m2,m3,m4,m5,m6,m7⟩:=hm
 obtain⟨b',q1,q2⟩:=rJ hi.heap h3
 rw[r1] at q1;cases q1
 obtain⟨s1,s2,s3⟩:=hs
 have r2':a.eval x= .pointer (some ⟨rb,0,none⟩):=r2
 rw[← m4,List.getElem?_map] at hb
 obtain⟨e,he,rfl⟩:=Option.map_eq_some_iff.1 hb
 obtain⟨y1,y2,y3⟩:=ax.at m5 he
 obtain⟨z1,z2,z3⟩:=ax.at m6 he
 rw[hq] at y2;cases y2
 rw[hy] at z2;cases z2
 refine eQ (u:= .tuple #[e.key,e.val]) (w':=c.w) (by rw[s2];intro _ e;cases e) ?_ ?_
 ·simp[execOp,s2,r2',run_entry_at (P:=P) c.w rb bm clk seen ents e q2 m2 (List.mem_of_getElem? he) m3.2.1]
 ·rw[s1]
  exact hn (.tuple [q,y]) c _ ⟨rfl,hc⟩ hi.heap (by simp only[aB];exact⟨[e.key,e.val],ax.bG y3 (ax.bG z3 ax.bQ),rfl⟩) (Grow.refl c)
end
end
end Go.Proofs.YtjdfoonhnmpkdaaGreatDoor
