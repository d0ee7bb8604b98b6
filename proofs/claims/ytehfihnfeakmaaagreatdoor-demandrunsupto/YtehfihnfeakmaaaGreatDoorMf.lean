/- A part of the proof: SwH. Names and spaces are cut short by program. -/
import Derived.Test.YtehfihnfeakmaaaGreatDoorMe
import Derived.KernelRfl
set_option linter.unusedSimpArgs false
set_option linter.unusedVariables false
set_option maxRecDepth 10000
set_option maxHeartbeats 4000000
namespace Go.Proofs.YtehfihnfeakmaaaGreatDoor
open Go
section
structure bi (q p:Prop):Prop where
 go:q→p
theorem bi.refl (p:Prop):bi p p:=⟨id⟩
theorem bi.via {q a b:Prop} (h:a→b) (k:bi q a):bi q b:=⟨fun x=>h (k.go x)⟩
structure ad (c d:Prop) (A:c→Prop) (B:d→Prop):Prop where
 l:∀ x:c,A x
 r:∀ x:d,B x
structure av (A B:Prop):Prop where
 l:A
 r:B
theorem bi.fork {c d A B p:Prop} {qa:c→Prop} {qb:d→Prop} (h:(c→A)→(d→B)→p) (l:∀ x:c,bi (qa x) A) (r:∀ x:d,bi (qb x) B):bi (ad c d qa qb) p:=⟨fun f=>h (fun x=>(l x).go (f.l x)) (fun x=>(r x).go (f.r x))⟩
theorem bi.two {A B qa qb p:Prop} (h:A→B→p) (l:bi qa A) (r:bi qb B):bi (av qa qb) p:=⟨fun f=>h (l.go f.l) (r.go f.r)⟩
theorem bi.no {p:Prop} (h:False):bi True p:=h.elim
def Ng:Prop:=(1=0)=False
theorem aF:Ng:=by unfold Ng;simp
theorem IT {σ:Type} (Hs:σ→List ax) (n0:Nat) (hlen:∀ i,(Hs i).length=n0):(∀ i,(Hs i).length=n0)∧(∀ i L,(Hs i++L)[n0]? =L[0]?)∧(∀ i L k,(Hs i++L)[n0+k]? =L[k]?)∧(∀ i L x,(Hs i++L).set n0 x=Hs i++L.set 0 x)∧(∀ i L k x,(Hs i++L).set (n0+k) x=Hs i++L.set k x):=
 ⟨hlen,fun i L=>by rw[← hlen i];exact cS _ _,fun i L k=>by rw[← hlen i];exact bZ _ _ _,fun i L x=>by rw[← hlen i];exact fB _ _ _,fun i L k x=>by rw[← hlen i];exact cB _ _ _ _⟩
section
variable {qq qa qb:Prop}
variable {P:Program} {G:Gl} {T:aT} {own:List Nat} {nt B:Nat} {ρ:Option Nat} {C:Cx} {rs:List ResultVar} {R:SV→List ax→Prop} {env env2:Env} {H H':List ax} {k:List It}
variable {all r:List Oper} {ty d j dj:Nat} {op:Op} {pos:String} {after:Array Edge} {v:SV} {want:Bool}
variable {R':SV→List ax→Prop} {xs:List SV} {f:Operand} {fv:SV} {args:Array Operand} {tys:Array Nat} {g:FuncId}
theorem jt {x y:Code} (kq:bi qq ((Out P G T own nt ρ C rs R) (.code x:: .code y::k) .normal env H)):bi qq ((Out P G T own nt ρ C rs R) (.code (.seq x y)::k) .normal env H):=bi.via (Hw) kq
theorem ny (h:qv G T own env H (some d) ty op=some v) (hd:Nat.blt d nt=true) (kq:bi qq ((Out P G T own nt ρ C rs R) (.ops all r::k) .normal ((d,v)::env) H)):bi qq ((Out P G T own nt ρ C rs R) (.ops all (⟨some d,op,ty,pos,after,none⟩::r)::k) .normal env H):=bi.via (IN h hd) kq
theorem lg (h:qv G T own env H none ty op=some v) (kq:bi qq ((Out P G T own nt ρ C rs R) (.ops all r::k) .normal env H)):bi qq ((Out P G T own nt ρ C rs R) (.ops all (⟨none,op,ty,pos,after,none⟩::r)::k) .normal env H):=bi.via (IP h) kq
theorem jq {all:List Oper} (kq:bi qq ((Out P G T own nt ρ C rs R) k .normal env H)):bi qq ((Out P G T own nt ρ C rs R) (.ops all []::k) .normal env H):=bi.via (Df) kq
theorem fw (hT:aq P T) {id:Nat} {ops:Array Oper} {l:List Oper} (hl:ops=⟨l⟩) (kq:bi qq ((Out P G T own nt ρ C rs R) (.ops l l::k) .normal env H)):bi qq ((Out P G T own nt ρ C rs R) (.code (.region id ops false)::k) .normal env H):=bi.via (Bn hT hl) kq
theorem gW (kq:bi qq ((Out P G T own nt ρ C rs R) k .normal env H)):bi qq ((Out P G T own nt ρ C rs R) (.code .skip::k) .normal env H):=bi.via (FD) kq
theorem fV {l:Nat} (kq:bi qq ((Out P G T own nt ρ C rs R) k .normal env H)):bi qq ((Out P G T own nt ρ C rs R) (.code (.label l)::k) .normal env H):=bi.via (De) kq
theorem iC {t:Nat} {p q:Code} (h1:look env t=some (.bool true)) (kq:bi qq ((Out P G T own nt ρ C rs R) (.code p::k) .normal env H)):bi qq ((Out P G T own nt ρ C rs R) (.code (.cond (.tmp t) p q)::k) .normal env H):=bi.via (np h1) kq
theorem iB {t:Nat} {p q:Code} (h1:look env t=some (.bool false)) (kq:bi qq ((Out P G T own nt ρ C rs R) (.code q::k) .normal env H)):bi qq ((Out P G T own nt ρ C rs R) (.code (.cond (.tmp t) p q)::k) .normal env H):=bi.via (kY h1) kq
theorem gu {t:Nat} {p q:Code} {a:Prop} {inst:Decidable a} (h1:look env t=some (.bool (decide a))) (ha:a) (kq:bi qq ((Out P G T own nt ρ C rs R) (.code p::k) .normal ((t,.bool true)::env) H)):bi qq ((Out P G T own nt ρ C rs R) (.code (.cond (.tmp t) p q)::k) .normal env H):=bi.via (dP h1 ha) kq
theorem gr {t:Nat} {p q:Code} {a:Prop} {inst:Decidable a} (h1:look env t=some (.bool (decide a))) (ha:¬ a) (kq:bi qq ((Out P G T own nt ρ C rs R) (.code q::k) .normal ((t,.bool false)::env) H)):bi qq ((Out P G T own nt ρ C rs R) (.code (.cond (.tmp t) p q)::k) .normal env H):=bi.via (cP h1 ha) kq
theorem iy {id:Nat} {x:Code} (kq:bi qq ((Out P G T own nt ρ C rs R) (.code x:: .ee id::k) .normal env H)):bi qq ((Out P G T own nt ρ C rs R) (.code (.block id x)::k) .normal env H):=bi.via (Da) kq
theorem jn {id:Nat} (kq:bi qq ((Out P G T own nt ρ C rs R) k .normal env H)):bi qq ((Out P G T own nt ρ C rs R) (.ee id::k) .normal env H):=bi.via (Hq) kq
theorem gR {id:Nat} {k':List It} (hu:Io id k=some k') (kq:bi qq ((Out P G T own nt ρ C rs R) k' .normal env H)):bi qq ((Out P G T own nt ρ C rs R) (.code (.exit id)::k) .normal env H):=bi.via (Fy hu) kq
theorem nw (h:lv G T own env H (some d) ty op=some (v,H')) (hd:Nat.blt d nt=true) (kq:bi qq ((Out P G T own nt ρ C rs R) (.ops all r::k) .normal ((d,v)::env) H')):bi qq ((Out P G T own nt ρ C rs R) (.ops all (⟨some d,op,ty,pos,after,none⟩::r)::k) .normal env H):=bi.via (LA h hd) kq
theorem lf (h:lv G T own env H none ty op=some (v,H')) (kq:bi qq ((Out P G T own nt ρ C rs R) (.ops all r::k) .normal env H')):bi qq ((Out P G T own nt ρ C rs R) (.ops all (⟨none,op,ty,pos,after,none⟩::r)::k) .normal env H):=bi.via (IM h) kq
theorem gS {dst:Option Nat} (h1:(all[j]?).bind (·.dst)=some dj) (h2:look env dj=some (.bool want)) (kq:bi qq ((Out P G T own nt ρ C rs R) (.ops all (⟨dst,op,ty,pos,after,none⟩::r)::k) .normal env H)):bi qq ((Out P G T own nt ρ C rs R) (.ops all (⟨dst,op,ty,pos,after,some (j,want)⟩::r)::k) .normal env H):=bi.via (Ar h1 h2) kq
theorem fU {v:SV} {b:Option Bool} (h1:(all[j]?).bind (·.dst)=some dj) (h2:look env dj=some v) (h3:uD v=some b) (hb:(b==some want)=false) (hd:Nat.blt d nt=true) (kq:bi qq ((Out P G T own nt ρ C rs R) (.ops all r::k) .normal ((d,.undef)::env) H)):bi qq ((Out P G T own nt ρ C rs R) (.ops all (⟨some d,op,ty,pos,after,some (j,want)⟩::r)::k) .normal env H):=bi.via (nq h1 h2 h3 hb hd) kq
theorem fu {v:SV} {b:Option Bool} (h1:(all[j]?).bind (·.dst)=some dj) (h2:look env dj=some v) (h3:uD v=some b) (hb:(b==some want)=false) (kq:bi qq ((Out P G T own nt ρ C rs R) (.ops all r::k) .normal env H)):bi qq ((Out P G T own nt ρ C rs R) (.ops all (⟨none,op,ty,pos,after,some (j,want)⟩::r)::k) .normal env H):=bi.via (Bl h1 h2 h3 hb) kq
theorem oA {b:Bool} (h1:(all[j]?).bind (·.dst)=some dj) (h2:look env dj=some (.bool b)) (hv:b=want→qv G T own env H (some d) ty op=some v) (hd:Nat.blt d nt=true) (kq:bi qq ((Out P G T own nt ρ C rs R) (.ops all r::k) .normal ((d,gv b want v)::env) H)):bi qq ((Out P G T own nt ρ C rs R) (.ops all (⟨some d,op,ty,pos,after,some (j,want)⟩::r)::k) .normal env H):=bi.via (Dc h1 h2 hv hd) kq
theorem oB {b b1 w1:Bool} (h1:(all[j]?).bind (·.dst)=some dj) (h2:look env dj=some (gv b1 w1 (.bool b))) (hv:b1=w1→b=want→qv G T own env H (some d) ty op=some v) (hd:Nat.blt d nt=true) (kq:bi qq ((Out P G T own nt ρ C rs R) (.ops all r::k) .normal ((d,gv b1 w1 (gv b want v))::env) H)):bi qq ((Out P G T own nt ρ C rs R) (.ops all (⟨some d,op,ty,pos,after,some (j,want)⟩::r)::k) .normal env H):=bi.via (Dd h1 h2 hv hd) kq
theorem oC {b b1 w1 b2 w2:Bool} (h1:(all[j]?).bind (·.dst)=some dj) (h2:look env dj=some (gv b1 w1 (gv b2 w2 (.bool b)))) (hv:b1=w1→b2=w2→b=want→qv G T own env H (some d) ty op=some v) (hd:Nat.blt d nt=true) (kq:bi qq ((Out P G T own nt ρ C rs R) (.ops all r::k) .normal ((d,gv b1 w1 (gv b2 w2 (gv b want v)))::env) H)):bi qq ((Out P G T own nt ρ C rs R) (.ops all (⟨some d,op,ty,pos,after,some (j,want)⟩::r)::k) .normal env H):=bi.via (Ht h1 h2 hv hd) kq
theorem gV {K:Env→List ax→Prop} (kq:bi qq (K env H)):bi qq ((Out P G T own nt ρ C rs R) (.pred K::k) .normal env H):=bi.via (FC) kq
theorem jr {xs:List SV} (h1:hZ T env H rs=some xs) (kq:bi qq (Fin C H (bq xs) R)):bi qq ((Out P G T own nt ρ C rs R) (.code .ret::k) .normal env H):=bi.via (Hv h1) kq
theorem jo {xs:List SV} (h1:hZ T env H rs=some xs) (kq:bi qq (Fin C H (bq xs) R)):bi qq ((Out P G T own nt ρ C rs R) [] .normal env H):=bi.via (Hr h1) kq
theorem iz {t:Nat} {p q:Code} {b:Bool} (h1:look env t=some (.bool b)) {qa:b=true→Prop} {qb:b=false→Prop} (lq:∀ x:b=true,bi (qa x) ((Out P G T own nt ρ C rs R) (.code p::k) .normal ((t,.bool true)::env) H)) (rq:∀ x:b=false,bi (qb x) ((Out P G T own nt ρ C rs R) (.code q::k) .normal ((t,.bool false)::env) H)):bi (ad (b=true) (b=false) qa qb) ((Out P G T own nt ρ C rs R) (.code (.cond (.tmp t) p q)::k) .normal env H):=bi.fork (qT h1) lq rq
theorem iA {t:Nat} {p q:Code} {a:Prop} {inst:Decidable a} (h1:look env t=some (.bool (decide a))) {qa:a→Prop} {qb:¬ a→Prop} (lq:∀ x:a,bi (qa x) ((Out P G T own nt ρ C rs R) (.code p::k) .normal ((t,.bool true)::env) H)) (rq:∀ x:¬ a,bi (qb x) ((Out P G T own nt ρ C rs R) (.code q::k) .normal ((t,.bool false)::env) H)):bi (ad (a) (¬ a) qa qb) ((Out P G T own nt ρ C rs R) (.code (.cond (.tmp t) p q)::k) .normal env H):=bi.fork (qU h1) lq rq
theorem lc {o:Oper} {b:Bool} (hg:o.guard=some (j,want)) (h1:(all[j]?).bind (·.dst)=some dj) (h2:look env dj=some (.bool b)) {qa:b=true→Prop} {qb:b=false→Prop} (lq:∀ x:b=true,bi (qa x) ((Out P G T own nt ρ C rs R) (.ops all (o::r)::k) .normal ((dj,.bool true)::env) H)) (rq:∀ x:b=false,bi (qb x) ((Out P G T own nt ρ C rs R) (.ops all (o::r)::k) .normal ((dj,.bool false)::env) H)):bi (ad (b=true) (b=false) qa qb) ((Out P G T own nt ρ C rs R) (.ops all (o::r)::k) .normal env H):=bi.fork (GM hg h1 h2) lq rq
theorem ld {o:Oper} {a:Prop} {inst:Decidable a} (hg:o.guard=some (j,want)) (h1:(all[j]?).bind (·.dst)=some dj) (h2:look env dj=some (.bool (decide a))) {qa:a→Prop} {qb:¬ a→Prop} (lq:∀ x:a,bi (qa x) ((Out P G T own nt ρ C rs R) (.ops all (o::r)::k) .normal ((dj,.bool true)::env) H)) (rq:∀ x:¬ a,bi (qb x) ((Out P G T own nt ρ C rs R) (.ops all (o::r)::k) .normal ((dj,.bool false)::env) H)):bi (ad (a) (¬ a) qa qb) ((Out P G T own nt ρ C rs R) (.ops all (o::r)::k) .normal env H):=bi.fork (IK hg h1 h2) lq rq
theorem gT {x y:Operand} {X:SV} {t yt n:Nat} (h1:ev G env x=some X) (h2:ev G env y=some .nil) (h3:eZ T t=2) (h4:nX H X=some n) (hd:Nat.blt d nt=true) {qa:n=0→Prop} {qb:True→Prop} (lq:∀ x:n=0,bi (qa x) ((Out P G T own nt ρ C rs R) (.ops all r::k) .normal ((d,.bool true)::env) H)) (rq:∀ x:True,bi (qb x) ((Out P G T own nt ρ C rs R) (.ops all r::k) .normal ((d,.bool false)::env) H)):bi (ad (n=0) (True) qa qb) ((Out P G T own nt ρ C rs R) (.ops all (⟨some d,.binOp .eql t x y yt,ty,pos,after,none⟩::r)::k) .normal env H):=bi.fork (FA h1 h2 h3 h4 hd) lq rq
theorem gU {x y:Operand} {X:SV} {t yt n:Nat} (h1:ev G env x=some X) (h2:ev G env y=some .nil) (h3:eZ T t=2) (h4:nX H X=some n) (hd:Nat.blt d nt=true) {qa:n=0→Prop} {qb:True→Prop} (lq:∀ x:n=0,bi (qa x) ((Out P G T own nt ρ C rs R) (.ops all r::k) .normal ((d,.bool false)::env) H)) (rq:∀ x:True,bi (qb x) ((Out P G T own nt ρ C rs R) (.ops all r::k) .normal ((d,.bool true)::env) H)):bi (ad (n=0) (True) qa qb) ((Out P G T own nt ρ C rs R) (.ops all (⟨some d,.binOp .neq t x y yt,ty,pos,after,none⟩::r)::k) .normal env H):=bi.fork (FB h1 h2 h3 h4 hd) lq rq
theorem qZ {o:Oper} {b1 w1:Bool} {u:SV} (hg:o.guard=some (j,want)) (h1:(all[j]?).bind (·.dst)=some dj) (h2:look env dj=some (gv b1 w1 u)) {qa:b1=true→Prop} {qb:b1=false→Prop} (lq:∀ x:b1=true,bi (qa x) ((Out P G T own nt ρ C rs R) (.ops all (o::r)::k) .normal env H)) (rq:∀ x:b1=false,bi (qb x) ((Out P G T own nt ρ C rs R) (.ops all (o::r)::k) .normal env H)):bi (ad (b1=true) (b1=false) qa qb) ((Out P G T own nt ρ C rs R) (.ops all (o::r)::k) .normal env H):=bi.fork (fun l r=>IL hg h1 h2 fun c e=>by cases c with
 |true=>exact l e
 |false=>exact r e) lq rq
end
section
variable {qq qa qb:Prop}
variable {P:Program} {G:Gl} {T:aT} {own:List Nat} {nt B:Nat} {ρ:Option Nat} {C:Cx} {rs:List ResultVar} {R:SV→List ax→Prop} {env env2:Env} {H H':List ax} {k:List It}
variable {all:List Oper} {L:List Nat} {n i j ty d:Nat} {op:Op} {pos:String} {after:Array Edge} {v:SV} {o:Oper} {K:Env→List ax→Prop}
variable {m:Nat} {ex:List Nat} {kk:SV→List ax→Prop} {dst:Option Nat} {want b:Bool} {dj i0:Nat}
variable {R':SV→List ax→Prop} {xs:List SV} {f:Operand} {fv:SV} {args:Array Operand} {tys:Array Nat} {g:FuncId}
theorem jZ (hT:aq P T) (hm:P.follows .mixedOrders=true) {id:Nat} {ops:Array Oper} {l:List Oper} (hl:ops=⟨l⟩) (hok:ea nt l=true) (kq:bi qq (eT P G T own l 200 0 [] env H (fun env H=>(Out P G T own nt ρ C rs R) k .normal env H))):bi qq ((Out P G T own nt ρ C rs R) (.code (.region id ops true)::k) .normal env H):=bi.via (Fw hT hm hl hok) kq
theorem nv {m2:Nat} (hs:yl own all m ex=some o) (hm:m+1=m2) (kq:bi qq ((l8 P G T own all) n m2 ex o env H K)):bi qq ((eT P G T own all) (n+1) m ex env H K):=bi.via (Lv hs hm) kq
theorem gP {m2:Nat} (hm:eQ m ex=true) (h2:m+1=m2) (kq:bi qq ((eT P G T own all) n m2 ex env H K)):bi qq ((eT P G T own all) n m ex env H K):=bi.via (Fk hm h2) kq
theorem gQ (hm:Nat.ble all.length m=true) (kq:bi qq ((Out P G T own nt ρ C rs R) k .normal env H)):bi qq ((eT P G T own all) (n+1) m ex env H (fun env H=>(Out P G T own nt ρ C rs R) k .normal env H)):=bi.via (Fl hm) kq
theorem la (hf:ec own m ex 0 all=some i) (ho:all[i]? =some o) (kq:bi qq ((l8 P G T own all) n m (i::ex) o env H K)):bi qq ((eT P G T own all) (n+1) m ex env H K):=bi.via (IH hf ho) kq
theorem k8 (hf:ec own m ex 0 all=none) (hr:eI m ex 0 all=[j]) (ho:all[j]? =some o) (kq:bi qq ((Ld P G T own all) n m ex j o env H K)):bi qq ((eT P G T own all) (n+1) m ex env H K):=bi.via (ID hf hr ho) kq
theorem nD (hv:qv G T own env H (some d) ty op=some v) (kq:bi qq ((eT P G T own all) n m ex ((d,v)::env) H K)):bi qq ((l8 P G T own all) n m ex ⟨some d,op,ty,pos,after,none⟩ env H K):=bi.via (Na hv) kq
theorem jv {dj:Nat} {want:Bool} (h1:(all[j]?).bind (·.dst)=some dj) (h2:look env dj=some (.bool want)) (hv:qv G T own env H (some d) ty op=some v) (kq:bi qq ((eT P G T own all) n m ex ((d,v)::env) H K)):bi qq ((l8 P G T own all) n m ex ⟨some d,op,ty,pos,after,some (j,want)⟩ env H K):=bi.via (Em h1 h2 hv) kq
theorem gY {dj:Nat} {want:Bool} {u:SV} {b:Option Bool} (h1:(all[j]?).bind (·.dst)=some dj) (h2:look env dj=some u) (h3:uD u=some b) (hb:(b==some want)=false) (kq:bi qq ((eT P G T own all) n m ex ((d,.undef)::env) H K)):bi qq ((l8 P G T own all) n m ex ⟨some d,op,ty,pos,after,some (j,want)⟩ env H K):=bi.via (pW h1 h2 h3 hb) kq
theorem ra {dj:Nat} {want b:Bool} (h1:(all[j]?).bind (·.dst)=some dj) (h2:look env dj=some (.bool b)) (hv:b=want→qv G T own env H (some d) ty op=some v) (kq:bi qq ((eT P G T own all) n m ex ((d,gv b want v)::env) H K)):bi qq ((l8 P G T own all) n m ex ⟨some d,op,ty,pos,after,some (j,want)⟩ env H K):=bi.via (GW h1 h2 hv) kq
theorem re {dj:Nat} {want b b1 w1:Bool} (h1:(all[j]?).bind (·.dst)=some dj) (h2:look env dj=some (gv b1 w1 (.bool b))) (hv:b1=w1→b=want→qv G T own env H (some d) ty op=some v) (kq:bi qq ((eT P G T own all) n m ex ((d,gv b1 w1 (gv b want v))::env) H K)):bi qq ((l8 P G T own all) n m ex ⟨some d,op,ty,pos,after,some (j,want)⟩ env H K):=bi.via (GX h1 h2 hv) kq
theorem rf {dj:Nat} {want b b1 w1 b2 w2:Bool} (h1:(all[j]?).bind (·.dst)=some dj) (h2:look env dj=some (gv b1 w1 (gv b2 w2 (.bool b)))) (hv:b1=w1→b2=w2→b=want→qv G T own env H (some d) ty op=some v) (kq:bi qq ((eT P G T own all) n m ex ((d,gv b1 w1 (gv b2 w2 (gv b want v)))::env) H K)):bi qq ((l8 P G T own all) n m ex ⟨some d,op,ty,pos,after,some (j,want)⟩ env H K):=bi.via (K8 h1 h2 hv) kq
theorem lh {dst:Option Nat} (kq:bi qq (kz P G T own all ⟨dst,op,ty,pos,after,none⟩ env H fun x H'=>uu G T own all i0 m ex (cF dst x env) H'∧(eT P G T own all) n m (i0::ex) (cF dst x env) H' K)):bi qq ((Ld P G T own all) n m ex i0 ⟨dst,op,ty,pos,after,none⟩ env H K):=bi.via (IW) kq
theorem ju {dst:Option Nat} {dj:Nat} {want:Bool} (h1:(all[j]?).bind (·.dst)=some dj) (h2:look env dj=some (.bool want)) (kq:bi qq (kz P G T own all ⟨dst,op,ty,pos,after,none⟩ env H fun x H'=>uu G T own all i0 m ex (cF dst x env) H'∧(eT P G T own all) n m (i0::ex) (cF dst x env) H' K)):bi qq ((Ld P G T own all) n m ex i0 ⟨dst,op,ty,pos,after,some (j,want)⟩ env H K):=bi.via (HK h1 h2) kq
theorem gX {dst:Option Nat} {dj:Nat} {want:Bool} {u:SV} {bo:Option Bool} (h1:(all[j]?).bind (·.dst)=some dj) (h2:look env dj=some u) (h3:uD u=some bo) (hb:(bo==some want)=false) (kq:bi qq (uu G T own all i0 m ex (cF dst .undef env) H∧(eT P G T own all) n m (i0::ex) (cF dst .undef env) H K)):bi qq ((Ld P G T own all) n m ex i0 ⟨dst,op,ty,pos,after,some (j,want)⟩ env H K):=bi.via (FU h1 h2 h3 hb) kq
theorem nE (h:lv G T own env H dst ty op=some (v,H')) (kq:bi qq (kk v H')):bi qq (kz P G T own all ⟨dst,op,ty,pos,after,none⟩ env H kk):=bi.via (Nd h) kq
theorem nG (h:qv G T own env H dst ty op=some v) (kq:bi qq (kk v H)):bi qq (kz P G T own all ⟨dst,op,ty,pos,after,none⟩ env H kk):=bi.via (Nf h) kq
theorem jk {x:SV} {l:List Nat} (h1:yB own all (cT (iT all) j) m++yA own all (cT (iT all) j) ex=l) (h2:ed G T own all ((d,x)::env) H l) (kq:bi qq ((eT P G T own all) n m (j::ex) ((d,x)::env) H K)):bi qq (uu G T own all j m ex (cF (some d) x env) H∧(eT P G T own all) n m (j::ex) (cF (some d) x env) H K):=bi.via (G8 h1 h2) kq
theorem jj {x:SV} {l:List Nat} (h1:yB own all (cT (iT all) j) m++yA own all (cT (iT all) j) ex=l) (h2:ed G T own all env H l) (kq:bi qq ((eT P G T own all) n m (j::ex) env H K)):bi qq (uu G T own all j m ex (cF none x env) H∧(eT P G T own all) n m (j::ex) (cF none x env) H K):=bi.via (G7 h1 h2) kq
theorem nB {dj:Nat} {want b:Bool} (h1:(all[j]?).bind (·.dst)=some dj) (h2:look env dj=some (.bool b)) {qa:b=true→Prop} {qb:b=false→Prop} (lq:∀ x:b=true,bi (qa x) ((l8 P G T own all) n m ex ⟨some d,op,ty,pos,after,some (j,want)⟩ ((dj,.bool true)::env) H (fun env H=>(Out P G T own nt ρ C rs R) k .normal env H))) (rq:∀ x:b=false,bi (qb x) ((l8 P G T own all) n m ex ⟨some d,op,ty,pos,after,some (j,want)⟩ ((dj,.bool false)::env) H (fun env H=>(Out P G T own nt ρ C rs R) k .normal env H))):bi (ad (b=true) (b=false) qa qb) ((l8 P G T own all) n m ex ⟨some d,op,ty,pos,after,some (j,want)⟩ env H (fun env H=>(Out P G T own nt ρ C rs R) k .normal env H)):=bi.fork (KZ h1 h2) lq rq
theorem nC {dj:Nat} {want:Bool} {a:Prop} {inst:Decidable a} (h1:(all[j]?).bind (·.dst)=some dj) (h2:look env dj=some (.bool (decide a))) {qa:a→Prop} {qb:¬ a→Prop} (lq:∀ x:a,bi (qa x) ((l8 P G T own all) n m ex ⟨some d,op,ty,pos,after,some (j,want)⟩ ((dj,.bool true)::env) H (fun env H=>(Out P G T own nt ρ C rs R) k .normal env H))) (rq:∀ x:¬ a,bi (qb x) ((l8 P G T own all) n m ex ⟨some d,op,ty,pos,after,some (j,want)⟩ ((dj,.bool false)::env) H (fun env H=>(Out P G T own nt ρ C rs R) k .normal env H))):bi (ad (a) (¬ a) qa qb) ((l8 P G T own all) n m ex ⟨some d,op,ty,pos,after,some (j,want)⟩ env H (fun env H=>(Out P G T own nt ρ C rs R) k .normal env H)):=bi.fork (M9 h1 h2) lq rq
theorem nz {dst:Option Nat} {dj:Nat} {want b:Bool} (h1:(all[j]?).bind (·.dst)=some dj) (h2:look env dj=some (.bool b)) {qa:b=true→Prop} {qb:b=false→Prop} (lq:∀ x:b=true,bi (qa x) ((Ld P G T own all) n m ex i0 ⟨dst,op,ty,pos,after,some (j,want)⟩ ((dj,.bool true)::env) H (fun env H=>(Out P G T own nt ρ C rs R) k .normal env H))) (rq:∀ x:b=false,bi (qb x) ((Ld P G T own all) n m ex i0 ⟨dst,op,ty,pos,after,some (j,want)⟩ ((dj,.bool false)::env) H (fun env H=>(Out P G T own nt ρ C rs R) k .normal env H))):bi (ad (b=true) (b=false) qa qb) ((Ld P G T own all) n m ex i0 ⟨dst,op,ty,pos,after,some (j,want)⟩ env H (fun env H=>(Out P G T own nt ρ C rs R) k .normal env H)):=bi.fork (IV h1 h2) lq rq
theorem nA {dst:Option Nat} {dj:Nat} {want:Bool} {a:Prop} {inst:Decidable a} (h1:(all[j]?).bind (·.dst)=some dj) (h2:look env dj=some (.bool (decide a))) {qa:a→Prop} {qb:¬ a→Prop} (lq:∀ x:a,bi (qa x) ((Ld P G T own all) n m ex i0 ⟨dst,op,ty,pos,after,some (j,want)⟩ ((dj,.bool true)::env) H (fun env H=>(Out P G T own nt ρ C rs R) k .normal env H))) (rq:∀ x:¬ a,bi (qb x) ((Ld P G T own all) n m ex i0 ⟨dst,op,ty,pos,after,some (j,want)⟩ ((dj,.bool false)::env) H (fun env H=>(Out P G T own nt ρ C rs R) k .normal env H))):bi (ad (a) (¬ a) qa qb) ((Ld P G T own all) n m ex i0 ⟨dst,op,ty,pos,after,some (j,want)⟩ env H (fun env H=>(Out P G T own nt ρ C rs R) k .normal env H)):=bi.fork (LD h1 h2) lq rq
theorem vi {dst:Option Nat} {dj:Nat} {want b1 w1:Bool} {u:SV} (h1:(all[j]?).bind (·.dst)=some dj) (h2:look env dj=some (gv b1 w1 u)) {qa:b1=true→Prop} {qb:b1=false→Prop} (lq:∀ x:b1=true,bi (qa x) ((Ld P G T own all) n m ex i0 ⟨dst,op,ty,pos,after,some (j,want)⟩ env H K)) (rq:∀ x:b1=false,bi (qb x) ((Ld P G T own all) n m ex i0 ⟨dst,op,ty,pos,after,some (j,want)⟩ env H K)):bi (ad (b1=true) (b1=false) qa qb) ((Ld P G T own all) n m ex i0 ⟨dst,op,ty,pos,after,some (j,want)⟩ env H K):=bi.fork (fun l r=>LF h1 h2 fun c e=>by cases c with
 |true=>exact l e
 |false=>exact r e) lq rq
theorem k9 {j2:Nat} {o2:Oper} (hf:ec own m ex 0 all=none) (hr:eI m ex 0 all=[j,j2]) (ho:all[j]? =some o) (ho2:all[j2]? =some o2) (lq:bi qa ((Ld P G T own all) n m ex j o env H K)) (rq:bi qb ((Ld P G T own all) n m ex j2 o2 env H K)):bi (av qa qb) ((eT P G T own all) (n+1) m ex env H K):=bi.two (IE hf hr ho ho2) lq rq
theorem jl {vr:SV} {H2:List ax} {r:List Oper} (h2:jb G env args.toList=some xs) (hc:af P G g xs H (fun x H'=>H'=H2∧x=vr)) (hd:Nat.blt d nt=true) (kq:bi qq (Out P G T own nt ρ C rs R (.ops all r::k) .normal ((d,vr)::env) H2)):bi qq (Out P G T own nt ρ C rs R (.ops all (⟨some d,.call ⟨.value (.func g),args,tys⟩,ty,pos,after,none⟩::r)::k) .normal env H):=
 bi.via (fun hk=>pP h2 hd hc fun x H' hx=>by obtain⟨rfl,rfl⟩:=hx;exact hk) kq
theorem gZ {vr:SV} {H2:List ax} (h2:jb G env args.toList=some xs) (hc:af P G g xs H (fun x H'=>H'=H2∧x=vr)) (kq:bi qq (kk vr H2)):bi qq (kz P G T own all ⟨dst,.call ⟨.value (.func g),args,tys⟩,ty,pos,after,none⟩ env H kk):=
 bi.via (fun hk=>vM h2 hc fun x H' hx=>by obtain⟨rfl,rfl⟩:=hx;exact hk) kq
theorem k7 {vr:SV} {H2:List ax} {r:List Oper} (hc:af P G g xs H (fun x H'=>H'=H2∧x=vr)) (h2:jb G env args.toList=some xs) (hd:Nat.blt d nt=true) (kq:bi qq (Out P G T own nt ρ C rs R (.ops all r::k) .normal ((d,vr)::env) H2)):bi qq (Out P G T own nt ρ C rs R (.ops all (⟨some d,.call ⟨.value (.func g),args,tys⟩,ty,pos,after,none⟩::r)::k) .normal env H):=
 bi.via (fun hk=>pP h2 hd hc fun x H' hx=>by obtain⟨rfl,rfl⟩:=hx;exact hk) kq
theorem jy {vr:SV} {H2:List ax} (hc:af P G g xs H (fun x H'=>H'=H2∧x=vr)) (h2:jb G env args.toList=some xs) (kq:bi qq (kk vr H2)):bi qq (kz P G T own all ⟨dst,.call ⟨.value (.func g),args,tys⟩,ty,pos,after,none⟩ env H kk):=
 bi.via (fun hk=>vM h2 hc fun x H' hx=>by obtain⟨rfl,rfl⟩:=hx;exact hk) kq
theorem kZ {vr:SV} {H2:List ax} {r:List Oper} (h1:ev G env f=some fv) (h2:jb G env args.toList=some xs) (hc:bz P G fv xs H (fun x H'=>H'=H2∧x=vr)) (hd:Nat.blt d nt=true) (kq:bi qq (Out P G T own nt ρ C rs R (.ops all r::k) .normal ((d,vr)::env) H2)):bi qq (Out P G T own nt ρ C rs R (.ops all (⟨some d,.call ⟨.value f,args,tys⟩,ty,pos,after,none⟩::r)::k) .normal env H):=
 bi.via (fun hk=>nk h1 h2 hd hc fun x H' hx=>by obtain⟨rfl,rfl⟩:=hx;exact hk) kq
theorem jx {vr:SV} {H2:List ax} (h1:ev G env f=some fv) (h2:jb G env args.toList=some xs) (hc:bz P G fv xs H (fun x H'=>H'=H2∧x=vr)) (kq:bi qq (kk vr H2)):bi qq (kz P G T own all ⟨dst,.call ⟨.value f,args,tys⟩,ty,pos,after,none⟩ env H kk):=
 bi.via (fun hk=>yx h1 h2 hc fun x H' hx=>by obtain⟨rfl,rfl⟩:=hx;exact hk) kq
end
attribute [go_sem ↓] HA
attribute [go_sem ↓] Hz
attribute [go_sem ↓] Dk
attribute [go_sem ↓] Dj
attribute [go_sem] jg
attribute [go_sem] jd
attribute [go_sem] jf
attribute [go_sem] je
attribute [go_sem] eJ
attribute [go_sem] dS
attribute [go_sem] HY
attribute [go_sem] HX
attribute [go_sem] KY
attribute [go_sem] KX
attribute [go_sem] HW
attribute [go_sem] HV
attribute [go_sem] qv
attribute [go_sem] lv
attribute [go_sem ↓] lU
attribute [go_sem ↓] uG
attribute [go_sem ↓] qh
attribute [go_sem ↓] CK
attribute [go_sem] and_self
attribute [go_sem] and_true
attribute [go_sem] true_and
attribute [go_sem] beq_self_eq_true
attribute [go_sem] beq_true
attribute [go_sem] beq_false
attribute [go_sem] Bool.and_true
attribute [go_sem] Bool.true_and
attribute [go_sem] Bool.and_self
attribute [go_sem] Bool.and_false
attribute [go_sem] Bool.false_and
attribute [go_sem] Bool.or_true
attribute [go_sem] Bool.true_or
attribute [go_sem] Bool.or_false
attribute [go_sem] Bool.false_or
attribute [go_sem] Bool.not_true
attribute [go_sem] Bool.not_false
attribute [go_sem] Int.toNat_natCast
attribute [go_sem] wU
attribute [go_sem] ne_eq
attribute [go_sem] not_true_eq_false
attribute [go_sem] not_false_eq_true
attribute [go_sem ↓] E7.eq_def
attribute [go_sem ↓] Nc.eq_def
attribute [go_sem ↓] Cw.eq_def
attribute [go_sem ↓] HL.eq_def
attribute [go_sem ↓] j5.eq_def
attribute [go_sem ↓] copyV.eq_def
attribute [go_sem ↓] yP.eq_def
attribute [go_sem ↓] jb.eq_1
attribute [go_sem ↓] jb.eq_2
attribute [go_sem ↓] look.eq_1
attribute [go_sem ↓] look.eq_2
attribute [go_sem ↓] oD.eq_1
attribute [go_sem ↓] oD.eq_2
attribute [go_sem ↓] ap.eq_1
attribute [go_sem ↓] ap.eq_2
attribute [go_sem ↓] lz.eq_1
attribute [go_sem ↓] lz.eq_2
attribute [go_sem ↓] cW.eq_1
attribute [go_sem ↓] cW.eq_2
attribute [go_sem ↓] bI.eq_1
attribute [go_sem ↓] bI.eq_2
attribute [go_sem ↓] cG.eq_1
attribute [go_sem ↓] cG.eq_2
attribute [go_sem ↓] hZ.eq_1
attribute [go_sem ↓] hZ.eq_2
attribute [go_sem ↓] mY.eq_1
attribute [go_sem ↓] mY.eq_2
attribute [go_sem ↓] dE.eq_1
attribute [go_sem ↓] dE.eq_2
attribute [go_sem ↓] ot.eq_1
attribute [go_sem ↓] ot.eq_2
attribute [go_sem ↓] hZ.eq_3
attribute [go_sem ↓] ev.eq_def
attribute [go_sem ↓] Hg.eq_def
attribute [go_sem ↓] Cf.eq_def
attribute [go_sem ↓] lr.eq_def
attribute [go_sem ↓] l3.eq_def
attribute [go_sem ↓] sub.eq_def
attribute [go_sem ↓] fits.eq_def
attribute [go_sem ↓] dJ.eq_def
attribute [go_sem ↓] elemOf.eq_def
attribute [go_sem ↓] wa.eq_def
attribute [go_sem ↓] Av.eq_def
attribute [go_sem ↓] jU.eq_def
attribute [go_sem ↓] lS.eq_def
attribute [go_sem ↓] eP.eq_def
attribute [go_sem ↓] qB.eq_def
attribute [go_sem ↓] kc.eq_def
attribute [go_sem ↓] ml.eq_def
attribute [go_sem ↓] eY.eq_def
attribute [go_sem ↓] cr.eq_def
attribute [go_sem ↓] eZ.eq_def
attribute [go_sem ↓] iM.eq_def
attribute [go_sem ↓] nX.eq_def
attribute [go_sem ↓] xL.eq_def
attribute [go_sem ↓] zp.eq_def
attribute [go_sem ↓] iw.eq_def
attribute [go_sem ↓] partsOf.eq_def
attribute [go_sem ↓] lF.eq_def
attribute [go_sem ↓] bq.eq_def
attribute [go_sem ↓] SV.isAgg.eq_def
attribute [go_sem ↓] SV.leaf.eq_def
attribute [go_sem ↓] SV.size.eq_def
attribute [go_sem ↓] TD.agg.eq_def
attribute [go_sem ↓] cL.eq_def
attribute [go_sem ↓] mapOf.eq_def
attribute [go_sem ↓] dB.eq_def
attribute [go_sem ↓] eB.eq_def
attribute [go_sem ↓] sU.eq_def
attribute [go_sem ↓] ir.eq_def
attribute [go_sem ↓] wY.eq_def
attribute [go_sem ↓] qo.eq_def
attribute [go_sem ↓] xx.eq_def
attribute [go_sem ↓] lZ.eq_def
attribute [go_sem] wC
attribute [go_sem] zd
attribute [go_sem] uM
attribute [go_sem] wD
attribute [go_sem] qz
attribute [go_sem] qy
attribute [go_sem] Option.bind_some
attribute [go_sem] Option.isSome_some
attribute [go_sem] List.length_map
attribute [go_sem] List.length_cons
attribute [go_sem] List.length_nil
attribute [go_sem] List.getElem?_map
attribute [go_sem] List.getElem?_eq_getElem
attribute [go_sem] Int.natCast_nonneg
attribute [go_sem] List.getElem?_cons_zero
attribute [go_sem] List.getElem?_cons_succ
attribute [go_sem] Option.map_some
attribute [go_sem] wrap_i64
attribute [go_sem] cS
attribute [go_sem] bZ
attribute [go_sem] fB
attribute [go_sem] cB
attribute [go_sem] oy
attribute [go_sem] qS
attribute [go_sem] BZ
attribute [go_sem] El
attribute [go_sem] mF
attribute [go_sem] oz
attribute [go_sem] zH
attribute [go_sem] B1
attribute [go_sem] xm
attribute [go_sem] sr
attribute [go_sem] cA
attribute [go_sem] eN
attribute [go_sem] List.set_set
attribute [go_sem] List.getElem?_set_self
attribute [go_sem] List.length_set
attribute [go_sem] List.append_assoc
attribute [go_sem] List.cons_append
attribute [go_sem] List.nil_append
attribute [go_sem] List.length_append
attribute [go_sem] Nat.add_assoc
attribute [go_sem] List.set_cons_zero
attribute [go_sem] List.set_cons_succ
attribute [go_sem] Ex.bS
attribute [go_sem] Bd.bS
attribute [go_sem] Al.bS
attribute [go_sem] Ex.yN
attribute [go_sem] Ex.sv
attribute [go_sem] Ex.cells.eq_1
attribute [go_sem] cR
attribute [go_sem] wh
attribute [go_sem] vY
attribute [go_sem] xc
attribute [go_sem] wg
attribute [go_sem] vX
attribute [go_sem] List.drop_zero
attribute [go_sem] List.drop_succ_cons
attribute [go_sem] xw
attribute [go_sem] xJ
attribute [go_sem] xK
attribute [go_sem] List.take_succ_cons
attribute [go_sem] List.take_zero
attribute [go_sem] List.replicate_succ
attribute [go_sem] List.replicate_zero
attribute [go_sem] List.length_take
attribute [go_sem] Nat.zero_add
attribute [go_sem] Nat.lt_one_iff
attribute [go_sem] true_or
attribute [go_sem] or_true
attribute [go_sem] false_and
attribute [go_sem] and_false
attribute [go_sem] List.length_replicate
attribute [go_sem] py
theorem yV:aQ (.string (ByteArray.mk #[]))=some (.str []):=by simp[aQ,aR,maxLen]
attribute [go_sem] yV
theorem yW (a0:UInt8):aQ (.string (ByteArray.mk #[a0]))=some (.str [a0]):=by simp[aQ,aR,maxLen]
attribute [go_sem] yW
theorem yX (a0 a1:UInt8):aQ (.string (ByteArray.mk #[a0,a1]))=some (.str [a0,a1]):=by simp[aQ,aR,maxLen]
attribute [go_sem] yX
theorem yY (a0 a1 a2:UInt8):aQ (.string (ByteArray.mk #[a0,a1,a2]))=some (.str [a0,a1,a2]):=by simp[aQ,aR,maxLen]
attribute [go_sem] yY
theorem yZ (a0 a1 a2 a3:UInt8):aQ (.string (ByteArray.mk #[a0,a1,a2,a3]))=some (.str [a0,a1,a2,a3]):=by simp[aQ,aR,maxLen]
attribute [go_sem] yZ
theorem y8 (a0 a1 a2 a3 a4:UInt8):aQ (.string (ByteArray.mk #[a0,a1,a2,a3,a4]))=some (.str [a0,a1,a2,a3,a4]):=by simp[aQ,aR,maxLen]
attribute [go_sem] y8
theorem y9 (a0 a1 a2 a3 a4 a5:UInt8):aQ (.string (ByteArray.mk #[a0,a1,a2,a3,a4,a5]))=some (.str [a0,a1,a2,a3,a4,a5]):=by simp[aQ,aR,maxLen]
attribute [go_sem] y9
theorem za (a0 a1 a2 a3 a4 a5 a6:UInt8):aQ (.string (ByteArray.mk #[a0,a1,a2,a3,a4,a5,a6]))=some (.str [a0,a1,a2,a3,a4,a5,a6]):=by simp[aQ,aR,maxLen]
attribute [go_sem] za
theorem zb (a0 a1 a2 a3 a4 a5 a6 a7:UInt8):aQ (.string (ByteArray.mk #[a0,a1,a2,a3,a4,a5,a6,a7]))=some (.str [a0,a1,a2,a3,a4,a5,a6,a7]):=by simp[aQ,aR,maxLen]
attribute [go_sem] zb
theorem zc (a0 a1 a2 a3 a4 a5 a6 a7 a8:UInt8):aQ (.string (ByteArray.mk #[a0,a1,a2,a3,a4,a5,a6,a7,a8]))=some (.str [a0,a1,a2,a3,a4,a5,a6,a7,a8]):=by simp[aQ,aR,maxLen]
attribute [go_sem] zc
theorem wE (a0 a1 a2 a3 a4 a5 a6 a7 a8 a9:UInt8):aQ (.string (ByteArray.mk #[a0,a1,a2,a3,a4,a5,a6,a7,a8,a9]))=some (.str [a0,a1,a2,a3,a4,a5,a6,a7,a8,a9]):=by simp[aQ,aR,maxLen]
attribute [go_sem] wE
theorem wF (a0 a1 a2 a3 a4 a5 a6 a7 a8 a9 a10:UInt8):aQ (.string (ByteArray.mk #[a0,a1,a2,a3,a4,a5,a6,a7,a8,a9,a10]))=some (.str [a0,a1,a2,a3,a4,a5,a6,a7,a8,a9,a10]):=by simp[aQ,aR,maxLen]
attribute [go_sem] wF
theorem wG (a0 a1 a2 a3 a4 a5 a6 a7 a8 a9 a10 a11:UInt8):aQ (.string (ByteArray.mk #[a0,a1,a2,a3,a4,a5,a6,a7,a8,a9,a10,a11]))=some (.str [a0,a1,a2,a3,a4,a5,a6,a7,a8,a9,a10,a11]):=by simp[aQ,aR,maxLen]
attribute [go_sem] wG
theorem wH (a0 a1 a2 a3 a4 a5 a6 a7 a8 a9 a10 a11 a12:UInt8):aQ (.string (ByteArray.mk #[a0,a1,a2,a3,a4,a5,a6,a7,a8,a9,a10,a11,a12]))=some (.str [a0,a1,a2,a3,a4,a5,a6,a7,a8,a9,a10,a11,a12]):=by simp[aQ,aR,maxLen]
attribute [go_sem] wH
theorem wI (a0 a1 a2 a3 a4 a5 a6 a7 a8 a9 a10 a11 a12 a13:UInt8):aQ (.string (ByteArray.mk #[a0,a1,a2,a3,a4,a5,a6,a7,a8,a9,a10,a11,a12,a13]))=some (.str [a0,a1,a2,a3,a4,a5,a6,a7,a8,a9,a10,a11,a12,a13]):=by simp[aQ,aR,maxLen]
attribute [go_sem] wI
theorem wJ (a0 a1 a2 a3 a4 a5 a6 a7 a8 a9 a10 a11 a12 a13 a14:UInt8):aQ (.string (ByteArray.mk #[a0,a1,a2,a3,a4,a5,a6,a7,a8,a9,a10,a11,a12,a13,a14]))=some (.str [a0,a1,a2,a3,a4,a5,a6,a7,a8,a9,a10,a11,a12,a13,a14]):=by simp[aQ,aR,maxLen]
attribute [go_sem] wJ
theorem wK (a0 a1 a2 a3 a4 a5 a6 a7 a8 a9 a10 a11 a12 a13 a14 a15:UInt8):aQ (.string (ByteArray.mk #[a0,a1,a2,a3,a4,a5,a6,a7,a8,a9,a10,a11,a12,a13,a14,a15]))=some (.str [a0,a1,a2,a3,a4,a5,a6,a7,a8,a9,a10,a11,a12,a13,a14,a15]):=by simp[aQ,aR,maxLen]
attribute [go_sem] wK
theorem wL (a0 a1 a2 a3 a4 a5 a6 a7 a8 a9 a10 a11 a12 a13 a14 a15 a16:UInt8):aQ (.string (ByteArray.mk #[a0,a1,a2,a3,a4,a5,a6,a7,a8,a9,a10,a11,a12,a13,a14,a15,a16]))=some (.str [a0,a1,a2,a3,a4,a5,a6,a7,a8,a9,a10,a11,a12,a13,a14,a15,a16]):=by simp[aQ,aR,maxLen]
attribute [go_sem] wL
theorem wM (a0 a1 a2 a3 a4 a5 a6 a7 a8 a9 a10 a11 a12 a13 a14 a15 a16 a17:UInt8):aQ (.string (ByteArray.mk #[a0,a1,a2,a3,a4,a5,a6,a7,a8,a9,a10,a11,a12,a13,a14,a15,a16,a17]))=some (.str [a0,a1,a2,a3,a4,a5,a6,a7,a8,a9,a10,a11,a12,a13,a14,a15,a16,a17]):=by simp[aQ,aR,maxLen]
attribute [go_sem] wM
theorem wN (a0 a1 a2 a3 a4 a5 a6 a7 a8 a9 a10 a11 a12 a13 a14 a15 a16 a17 a18:UInt8):aQ (.string (ByteArray.mk #[a0,a1,a2,a3,a4,a5,a6,a7,a8,a9,a10,a11,a12,a13,a14,a15,a16,a17,a18]))=some (.str [a0,a1,a2,a3,a4,a5,a6,a7,a8,a9,a10,a11,a12,a13,a14,a15,a16,a17,a18]):=by simp[aQ,aR,maxLen]
attribute [go_sem] wN
theorem wO (a0 a1 a2 a3 a4 a5 a6 a7 a8 a9 a10 a11 a12 a13 a14 a15 a16 a17 a18 a19:UInt8):aQ (.string (ByteArray.mk #[a0,a1,a2,a3,a4,a5,a6,a7,a8,a9,a10,a11,a12,a13,a14,a15,a16,a17,a18,a19]))=some (.str [a0,a1,a2,a3,a4,a5,a6,a7,a8,a9,a10,a11,a12,a13,a14,a15,a16,a17,a18,a19]):=by simp[aQ,aR,maxLen]
attribute [go_sem] wO
theorem wP (a0 a1 a2 a3 a4 a5 a6 a7 a8 a9 a10 a11 a12 a13 a14 a15 a16 a17 a18 a19 a20:UInt8):aQ (.string (ByteArray.mk #[a0,a1,a2,a3,a4,a5,a6,a7,a8,a9,a10,a11,a12,a13,a14,a15,a16,a17,a18,a19,a20]))=some (.str [a0,a1,a2,a3,a4,a5,a6,a7,a8,a9,a10,a11,a12,a13,a14,a15,a16,a17,a18,a19,a20]):=by simp[aQ,aR,maxLen]
attribute [go_sem] wP
theorem wQ (a0 a1 a2 a3 a4 a5 a6 a7 a8 a9 a10 a11 a12 a13 a14 a15 a16 a17 a18 a19 a20 a21:UInt8):aQ (.string (ByteArray.mk #[a0,a1,a2,a3,a4,a5,a6,a7,a8,a9,a10,a11,a12,a13,a14,a15,a16,a17,a18,a19,a20,a21]))=some (.str [a0,a1,a2,a3,a4,a5,a6,a7,a8,a9,a10,a11,a12,a13,a14,a15,a16,a17,a18,a19,a20,a21]):=by simp[aQ,aR,maxLen]
attribute [go_sem] wQ
theorem wR (a0 a1 a2 a3 a4 a5 a6 a7 a8 a9 a10 a11 a12 a13 a14 a15 a16 a17 a18 a19 a20 a21 a22:UInt8):aQ (.string (ByteArray.mk #[a0,a1,a2,a3,a4,a5,a6,a7,a8,a9,a10,a11,a12,a13,a14,a15,a16,a17,a18,a19,a20,a21,a22]))=some (.str [a0,a1,a2,a3,a4,a5,a6,a7,a8,a9,a10,a11,a12,a13,a14,a15,a16,a17,a18,a19,a20,a21,a22]):=by simp[aQ,aR,maxLen]
attribute [go_sem] wR
theorem wS (a0 a1 a2 a3 a4 a5 a6 a7 a8 a9 a10 a11 a12 a13 a14 a15 a16 a17 a18 a19 a20 a21 a22 a23:UInt8):aQ (.string (ByteArray.mk #[a0,a1,a2,a3,a4,a5,a6,a7,a8,a9,a10,a11,a12,a13,a14,a15,a16,a17,a18,a19,a20,a21,a22,a23]))=some (.str [a0,a1,a2,a3,a4,a5,a6,a7,a8,a9,a10,a11,a12,a13,a14,a15,a16,a17,a18,a19,a20,a21,a22,a23]):=by simp[aQ,aR,maxLen]
attribute [go_sem] wS
theorem yn {α β:Type} (l:List α) (f:α→β):(l.map f).take l.length=l.map f:=List.take_of_length_le (by simp)
attribute [go_sem] yn List.getElem?_take_of_lt List.getElem?_drop
theorem uN:aQ .nilIface=some (.jI true):=rfl
attribute [go_sem] uN
attribute [go_sem ↓] mG.eq_def
attribute [go_sem ↓] FI.eq_def
attribute [go_sem ↓] tI.eq_def
theorem cq {p:Prop} (h:p:=by (simp -implicitDefEqProofs (disch:=first|assumption|omega) only[go_sem,X,Int.reduceToNat,Nat.reduceAdd,Nat.reduceSub,Nat.reduceMul,Nat.reduceLT,Nat.reduceLeDiff,Nat.reduceEqDiff,Nat.reduceBEq,Nat.reduceBNe,↓reduceIte,reduceCtorEq]<;>rfl)):p:=h
theorem zg {p:Prop} (h:p:=by intro hw1;have hw1p:=hw1;(try simp only[Bool.and_eq_true,Bool.or_eq_true,decide_eq_true_eq,decide_eq_false_iff_not,Bool.not_eq_true',Bool.and_eq_false_iff,Bool.or_eq_false_iff,Bool.not_eq_false'] at hw1p);exact cq):p:=h
theorem zh {p:Prop} (h:p:=by intro hw1 hw2;have hw1p:=hw1;(try simp only[Bool.and_eq_true,Bool.or_eq_true,decide_eq_true_eq,decide_eq_false_iff_not,Bool.not_eq_true',Bool.and_eq_false_iff,Bool.or_eq_false_iff,Bool.not_eq_false'] at hw1p);have hw2p:=hw2;(try simp only[Bool.and_eq_true,Bool.or_eq_true,decide_eq_true_eq,decide_eq_false_iff_not,Bool.not_eq_true',Bool.and_eq_false_iff,Bool.or_eq_false_iff,Bool.not_eq_false'] at hw2p);exact cq):p:=h
theorem zi {p:Prop} (h:p:=by intro hw1 hw2 hw3;have hw1p:=hw1;(try simp only[Bool.and_eq_true,Bool.or_eq_true,decide_eq_true_eq,decide_eq_false_iff_not,Bool.not_eq_true',Bool.and_eq_false_iff,Bool.or_eq_false_iff,Bool.not_eq_false'] at hw1p);have hw2p:=hw2;(try simp only[Bool.and_eq_true,Bool.or_eq_true,decide_eq_true_eq,decide_eq_false_iff_not,Bool.not_eq_true',Bool.and_eq_false_iff,Bool.or_eq_false_iff,Bool.not_eq_false'] at hw2p);have hw3p:=hw3;(try simp only[Bool.and_eq_true,Bool.or_eq_true,decide_eq_true_eq,decide_eq_false_iff_not,Bool.not_eq_true',Bool.and_eq_false_iff,Bool.or_eq_false_iff,Bool.not_eq_false'] at hw3p);exact cq):p:=h
theorem EI {p:Prop} (h:p:=by repeat' (first|exact G9|((with_reducible apply Iy);(· rfl);(· rfl);(· exact cq))|((with_reducible apply Gy);(· rfl);(· rfl);(· rfl);(· rfl);(· exact cq);(· first|rfl|(simp (disch:=first|assumption|omega) only[HA,Hz,Dk,Dj];done)))|((with_reducible apply zZ);(· rfl);(· rfl);(· rfl);(· rfl);(· rfl);(· rfl);(· first|rfl|(simp (disch:=first|assumption|omega) only[HA,Hz,Dk,Dj,HC,HB,IS,IQ];done)))|((with_reducible apply Co);(· rfl);(· rfl);(· rfl);(· rfl);(· exact zg))|((with_reducible apply Cp);(· rfl);(· rfl);(· rfl);(· rfl);(· exact zh))|((with_reducible apply G6);(· rfl);(· rfl);(· rfl);(· rfl);(· exact zi))|fail)):p:=h
theorem bK {n:Nat} {k:IntKind} (l:List Int):SV.aB n (l.map (SV.int k))=true:=SV.bC fun _ _=>rfl
theorem gb {n:Nat} (l:List Bool):SV.aB n (l.map SV.bool)=true:=SV.bC fun _ _=>rfl
theorem dq {p:Prop} (h:p:=by (first|rfl|(simp only[X,cS,bZ,oy,qS,mF,oz,cA,List.getElem?_cons_zero,List.getElem?_cons_succ,List.append_assoc,List.cons_append,List.nil_append,List.length_set]<;>rfl)|(simp only[cS,bZ,oy,qS,mF,oz,cA,List.getElem?_cons_zero,List.getElem?_cons_succ,List.append_assoc,List.cons_append,List.nil_append,List.length_set]<;>rfl))):p:=h
theorem SV.jG {n m:Nat} {x:SV} (h:x.under n=true):SV.aB n (List.replicate m x)=true:=by
 induction m with
 |zero=>rfl
 |succ m ih=>rw[List.replicate_succ];simp only[SV.aB,h,ih,Bool.and_self]
theorem jF {p:Prop} (h:p:=by (first|rfl|assumption|(simp only[SV.under.eq_def,SV.aB.eq_1,SV.aB.eq_2,Ex.bD,dF,cI,fN,bp,Ex.Et,Bool.and_true,Bool.true_and,Bool.and_self,decide_eq_true_eq,Nat.zero_le,List.drop_zero,Function.comp_def,SV.ew,zR,zP,yq,B9,B8,bK,gb,List.drop_succ_cons]<;>omega)|exact SV.bC fun _ _=>rfl|((try simp only[List.drop_zero,SV.ew,SV.aB.eq_2,SV.aB.eq_1,SV.under.eq_def,Bool.and_true,Bool.and_self,Bool.and_eq_true,decide_eq_true_eq])<;>(repeat' (first|exact True.intro|refine And.intro ?_ ?_|exact SV.bC fun _ _=>rfl|exact SV.jG rfl|rfl|omega))<;>fail))):p:=h
theorem iU.same {H:List ax} {n:Nat} {ks:dD}:∀ {es:List (SV×SV)},cY n es=true→iU H n ks es es
 |[],_=> .nil
 |(k,x)::es,h=>by
  simp only[cY,Bool.and_eq_true] at h
  exact .cons _ _ _ _ _ h.1.1 (.same _ h.1.2) (iU.same h.2)
theorem IJ {p:Prop} (h:p:=by repeat' (first|exact cQ.nil|(refine cQ.cons _ _ _ _ ?_ ?_)|(first|(apply bE.same;exact jF)|exact bE.nil _|(apply bE.int;omega)|(apply bE.kp 0 rfl;(· exact dq);(· omega);(· omega);(· omega))|(apply bE.kp 1 rfl;(· exact dq);(· omega);(· omega);(· omega))|(apply bE.kp 2 rfl;(· exact dq);(· omega);(· omega);(· omega))|(apply bE.kp 3 rfl;(· exact dq);(· omega);(· omega);(· omega))|(apply bE.kp 4 rfl;(· exact dq);(· omega);(· omega);(· omega))|(apply bE.kp 5 rfl;(· exact dq);(· omega);(· omega);(· omega))|(apply bE.kp 6 rfl;(· exact dq);(· omega);(· omega);(· omega))|(apply bE.kp 7 rfl;(· exact dq);(· omega);(· omega);(· omega))|(apply bE.ks 0 rfl;(· exact dq);(· omega);(· omega);(· omega);(· omega))|(apply bE.ks 1 rfl;(· exact dq);(· omega);(· omega);(· omega);(· omega))|(apply bE.ks 2 rfl;(· exact dq);(· omega);(· omega);(· omega);(· omega))|(apply bE.ks 3 rfl;(· exact dq);(· omega);(· omega);(· omega);(· omega))|(apply bE.ks 4 rfl;(· exact dq);(· omega);(· omega);(· omega);(· omega))|(apply bE.ks 5 rfl;(· exact dq);(· omega);(· omega);(· omega);(· omega))|(apply bE.ks 6 rfl;(· exact dq);(· omega);(· omega);(· omega);(· omega))|(apply bE.ks 7 rfl;(· exact dq);(· omega);(· omega);(· omega);(· omega))|(apply bE.km 0 rfl;(· exact dq);(· omega))|(apply bE.km 1 rfl;(· exact dq);(· omega))|(apply bE.km 2 rfl;(· exact dq);(· omega))|(apply bE.km 3 rfl;(· exact dq);(· omega))|(apply bE.km 4 rfl;(· exact dq);(· omega))|(apply bE.km 5 rfl;(· exact dq);(· omega))|(apply bE.km 6 rfl;(· exact dq);(· omega))|(apply bE.km 7 rfl;(· exact dq);(· omega))|(apply bE.sf;(· exact dq);(· omega);(· simp<;>omega);(· first|rfl|(simp[Function.comp_def,List.take_of_length_le];done));(· exact jF))|fail))):p:=h
theorem xi {p:Prop} (h:p:=by repeat' (first|exact cQ.nil|(refine cQ.cons _ _ _ _ ?_ ?_)|(first|(apply bE.same;exact jF)|exact bE.nil _|(apply bE.int;omega)|(apply bE.kp 0 rfl;(· exact dq);(· omega);(· omega);(· omega))|(apply bE.kp 1 rfl;(· exact dq);(· omega);(· omega);(· omega))|(apply bE.kp 2 rfl;(· exact dq);(· omega);(· omega);(· omega))|(apply bE.kp 3 rfl;(· exact dq);(· omega);(· omega);(· omega))|(apply bE.kp 4 rfl;(· exact dq);(· omega);(· omega);(· omega))|(apply bE.kp 5 rfl;(· exact dq);(· omega);(· omega);(· omega))|(apply bE.kp 6 rfl;(· exact dq);(· omega);(· omega);(· omega))|(apply bE.kp 7 rfl;(· exact dq);(· omega);(· omega);(· omega))|(apply bE.ks 0 rfl;(· exact dq);(· omega);(· omega);(· omega);(· omega))|(apply bE.ks 1 rfl;(· exact dq);(· omega);(· omega);(· omega);(· omega))|(apply bE.ks 2 rfl;(· exact dq);(· omega);(· omega);(· omega);(· omega))|(apply bE.ks 3 rfl;(· exact dq);(· omega);(· omega);(· omega);(· omega))|(apply bE.ks 4 rfl;(· exact dq);(· omega);(· omega);(· omega);(· omega))|(apply bE.ks 5 rfl;(· exact dq);(· omega);(· omega);(· omega);(· omega))|(apply bE.ks 6 rfl;(· exact dq);(· omega);(· omega);(· omega);(· omega))|(apply bE.ks 7 rfl;(· exact dq);(· omega);(· omega);(· omega);(· omega))|(apply bE.km 0 rfl;(· exact dq);(· omega))|(apply bE.km 1 rfl;(· exact dq);(· omega))|(apply bE.km 2 rfl;(· exact dq);(· omega))|(apply bE.km 3 rfl;(· exact dq);(· omega))|(apply bE.km 4 rfl;(· exact dq);(· omega))|(apply bE.km 5 rfl;(· exact dq);(· omega))|(apply bE.km 6 rfl;(· exact dq);(· omega))|(apply bE.km 7 rfl;(· exact dq);(· omega))|(apply bE.sf;(· exact dq);(· omega);(· simp<;>omega);(· first|rfl|(simp[Function.comp_def,List.take_of_length_le];done));(· exact jF))|(apply bE.agg;exact IJ)|fail))):p:=h
theorem zl {p:Prop} (h:p:=by repeat' (first|exact True.intro|exact dx.nil|(refine And.intro ⟨_,rfl,?_⟩ ?_)|(apply dx.c;(· exact dq);(· omega);(· first|omega|(simp<;>omega));(· first|(apply cQ.same;exact jF)|exact xi))|(apply dx.m;(· exact dq);(· omega);(· first|exact iU.same (fE _ _)|exact iU.same (gA _ _)|(apply iU.same;rfl)))|(first|(apply bE.same;exact jF)|exact bE.nil _|(apply bE.int;omega)|(apply bE.kp 0 rfl;(· exact dq);(· omega);(· omega);(· omega))|(apply bE.kp 1 rfl;(· exact dq);(· omega);(· omega);(· omega))|(apply bE.kp 2 rfl;(· exact dq);(· omega);(· omega);(· omega))|(apply bE.kp 3 rfl;(· exact dq);(· omega);(· omega);(· omega))|(apply bE.kp 4 rfl;(· exact dq);(· omega);(· omega);(· omega))|(apply bE.kp 5 rfl;(· exact dq);(· omega);(· omega);(· omega))|(apply bE.kp 6 rfl;(· exact dq);(· omega);(· omega);(· omega))|(apply bE.kp 7 rfl;(· exact dq);(· omega);(· omega);(· omega))|(apply bE.ks 0 rfl;(· exact dq);(· omega);(· omega);(· omega);(· omega))|(apply bE.ks 1 rfl;(· exact dq);(· omega);(· omega);(· omega);(· omega))|(apply bE.ks 2 rfl;(· exact dq);(· omega);(· omega);(· omega);(· omega))|(apply bE.ks 3 rfl;(· exact dq);(· omega);(· omega);(· omega);(· omega))|(apply bE.ks 4 rfl;(· exact dq);(· omega);(· omega);(· omega);(· omega))|(apply bE.ks 5 rfl;(· exact dq);(· omega);(· omega);(· omega);(· omega))|(apply bE.ks 6 rfl;(· exact dq);(· omega);(· omega);(· omega);(· omega))|(apply bE.ks 7 rfl;(· exact dq);(· omega);(· omega);(· omega);(· omega))|(apply bE.km 0 rfl;(· exact dq);(· omega))|(apply bE.km 1 rfl;(· exact dq);(· omega))|(apply bE.km 2 rfl;(· exact dq);(· omega))|(apply bE.km 3 rfl;(· exact dq);(· omega))|(apply bE.km 4 rfl;(· exact dq);(· omega))|(apply bE.km 5 rfl;(· exact dq);(· omega))|(apply bE.km 6 rfl;(· exact dq);(· omega))|(apply bE.km 7 rfl;(· exact dq);(· omega))|(apply bE.sf;(· exact dq);(· omega);(· simp<;>omega);(· first|rfl|(simp[Function.comp_def,List.take_of_length_le];done));(· exact jF))|(apply bE.agg;exact xi)|fail)|fail)):p:=h
theorem run {qq p:Prop} (k:qq) (h:bi qq p:=by
 repeat' (first
  |((with_reducible apply jt))
  |((with_reducible apply ny);(· exact cq);(· rfl))
  |((with_reducible apply jq))
  |((with_reducible apply fw);(· exact aA);(· first|(simp only[List.append_eq,List.cons_append,List.nil_append];rfl)|rfl))
  |((with_reducible apply gW))
  |((with_reducible apply iC);(· rfl))
  |((with_reducible apply iB);(· rfl))
  |((with_reducible apply gu);(· rfl);(· assumption))
  |((with_reducible apply gr);(· rfl);(· assumption))
  |((with_reducible apply iA);(· rfl);(intro hb);(rotate_left);(intro hb);(rotate_right))
  |((with_reducible apply iz);(· rfl);(intro hb);(rotate_left);(intro hb);(rotate_right))
  |((with_reducible apply iy))
  |((with_reducible apply jn))
  |((with_reducible apply gR);(· rfl))
  |((with_reducible apply nw);(· exact cq);(· rfl))
  |((with_reducible apply lf);(· exact cq))
  |((with_reducible apply gS);(· rfl);(· rfl))
  |((with_reducible apply fU);(· rfl);(· rfl);(· rfl);(· rfl);(· rfl))
  |((with_reducible apply fu);(· rfl);(· rfl);(· rfl);(· rfl))
  |((with_reducible apply oA);(· rfl);(· rfl);(· exact zg);(· rfl))
  |((with_reducible apply oB);(· rfl);(· rfl);(· exact zh);(· rfl))
  |((with_reducible apply oC);(· rfl);(· rfl);(· exact zi);(· rfl))
  |((with_reducible apply qZ);(· rfl);(· rfl);(· rfl);(intro hb);(try simp only[hb]);(try simp only[jg,jd,jf,je,Bool.true_and,Bool.false_and,Bool.true_or,Bool.false_or,eJ,dS]);(rotate_left);(intro hb);(try simp only[hb]);(try simp only[jg,jd,jf,je,Bool.true_and,Bool.false_and,Bool.true_or,Bool.false_or,eJ,dS]);(rotate_right))
  |((with_reducible apply ld);(· rfl);(· rfl);(· rfl);(intro hb);(rotate_left);(intro hb);(rotate_right))
  |((with_reducible apply lc);(· rfl);(· rfl);(· rfl);(intro hb);(rotate_left);(intro hb);(rotate_right))
  |((with_reducible apply lg);(· exact cq))
  |((with_reducible apply gT);(· exact cq);(· exact cq);(· exact cq);(· exact cq);(· rfl);(intro hb);(rotate_left);(intro hb);(rotate_right))
  |((with_reducible apply gU);(· exact cq);(· exact cq);(· exact cq);(· exact cq);(· rfl);(intro hb);(rotate_left);(intro hb);(rotate_right))
  |((with_reducible apply jZ);(· exact aA);(· exact tO);(· first|(simp only[List.append_eq,List.cons_append,List.nil_append];rfl)|rfl);(· kernel_rfl))
  |((with_reducible apply nv);(· rfl);(· simp only[Nat.reduceAdd];rfl))
  |((with_reducible apply nD);(· exact cq))
  |((with_reducible apply jv);(· rfl);(· rfl);(· exact cq))
  |((with_reducible apply gY);(· rfl);(· rfl);(· rfl);(· rfl))
  |((with_reducible apply ra);(· rfl);(· rfl);(· exact zg))
  |((with_reducible apply re);(· rfl);(· rfl);(· exact zh))
  |((with_reducible apply rf);(· rfl);(· rfl);(· exact zi))
  |((with_reducible apply nC);(· rfl);(· rfl);(intro hb);(rotate_left);(intro hb);(rotate_right))
  |((with_reducible apply nB);(· rfl);(· rfl);(intro hb);(rotate_left);(intro hb);(rotate_right))
  |((with_reducible apply gP);(· rfl);(· simp only[Nat.reduceAdd];rfl))
  |((with_reducible apply gQ);(· rfl))
  |((with_reducible apply la);(· rfl);(· rfl))
  |((with_reducible apply k8);(· rfl);(· rfl);(· rfl))
  |((with_reducible apply k9);(· rfl);(· rfl);(· rfl);(· rfl))
  |((with_reducible apply lh))
  |((with_reducible apply ju);(· rfl);(· rfl))
  |((with_reducible apply gX);(· rfl);(· rfl);(· rfl);(· rfl))
  |((with_reducible apply vi);(· rfl);(· rfl);(intro hb);(try simp only[hb]);(try simp only[jg,jd,jf,je,Bool.true_and,Bool.false_and,Bool.true_or,Bool.false_or,eJ,dS]);(rotate_left);(intro hb);(try simp only[hb]);(try simp only[jg,jd,jf,je,Bool.true_and,Bool.false_and,Bool.true_or,Bool.false_or,eJ,dS]);(rotate_right))
  |((with_reducible apply nA);(· rfl);(· rfl);(intro hb);(rotate_left);(intro hb);(rotate_right))
  |((with_reducible apply nz);(· rfl);(· rfl);(intro hb);(rotate_left);(intro hb);(rotate_right))
  |((with_reducible apply nE);(· exact cq))
  |((with_reducible apply nG);(· exact cq))
  |((with_reducible apply jk);(· conv=>lhs;reduce);(· exact EI))
  |((with_reducible apply jj);(· conv=>lhs;reduce);(· exact EI))
  |((with_reducible apply fV))
  |((with_reducible apply gV))
  |((with_reducible apply jr);(· exact cq))
  |((with_reducible apply jo);(· exact cq))
  |((with_reducible apply k7);(· first|exact c1|exact c1 _|exact c2|exact c2 _|exact c3|exact c3 _|exact c4|exact c4 _|exact c5|exact c5 _|exact c6|exact c6 _);(· exact cq);(· rfl))
  |((with_reducible apply jl);(· exact cq);(· first|exact c1|exact c1 _|exact c1 _ _|exact c1 _ _ _|exact c2|exact c2 _|exact c2 _ _|exact c2 _ _ _|exact c3|exact c3 _|exact c3 _ _|exact c3 _ _ _|exact c4|exact c4 _|exact c4 _ _|exact c4 _ _ _|exact c5|exact c5 _|exact c5 _ _|exact c5 _ _ _|exact c6|exact c6 _|exact c6 _ _|exact c6 _ _ _);(· rfl))
  |((with_reducible apply gZ);(· exact cq);(· first|exact c1|exact c1 _|exact c1 _ _|exact c1 _ _ _|exact c2|exact c2 _|exact c2 _ _|exact c2 _ _ _|exact c3|exact c3 _|exact c3 _ _|exact c3 _ _ _|exact c4|exact c4 _|exact c4 _ _|exact c4 _ _ _|exact c5|exact c5 _|exact c5 _ _|exact c5 _ _ _|exact c6|exact c6 _|exact c6 _ _|exact c6 _ _ _))
  |((with_reducible apply jy);(· first|exact c1|exact c1 _|exact c2|exact c2 _|exact c3|exact c3 _|exact c4|exact c4 _|exact c5|exact c5 _|exact c6|exact c6 _);(· exact cq))
  |((with_reducible apply kZ);(· exact cq);(· exact cq);(· first|exact v1|exact v1 _|exact v1 _ _|exact v2|exact v2 _|exact v2 _ _|exact v3|exact v3 _|exact v3 _ _);(· rfl))
  |((with_reducible apply jx);(· exact cq);(· exact cq);(· first|exact v1|exact v1 _|exact v1 _ _|exact v2|exact v2 _|exact v2 _ _|exact v3|exact v3 _|exact v3 _ _))
  |(refine bi.no ?_;omega)
  |exact bi.refl _)):p:=h.go k
theorem bL {qq p:Prop} (k:qq) (h:bi qq p:=by
 repeat' (first
  |((with_reducible apply jt))
  |((with_reducible apply ny);(· exact cq);(· rfl))
  |((with_reducible apply jq))
  |((with_reducible apply fw);(· exact aA);(· first|(simp only[List.append_eq,List.cons_append,List.nil_append];rfl)|rfl))
  |((with_reducible apply gW))
  |((with_reducible apply iC);(· rfl))
  |((with_reducible apply iB);(· rfl))
  |((with_reducible apply gu);(· rfl);(· assumption))
  |((with_reducible apply gr);(· rfl);(· assumption))
  |((with_reducible apply iA);(· rfl);(intro hb);(rotate_left);(intro hb);(rotate_right))
  |((with_reducible apply iz);(· rfl);(intro hb);(rotate_left);(intro hb);(rotate_right))
  |((with_reducible apply iy))
  |((with_reducible apply jn))
  |((with_reducible apply gR);(· rfl))
  |((with_reducible apply nw);(· exact cq);(· rfl))
  |((with_reducible apply lf);(· exact cq))
  |((with_reducible apply gS);(· rfl);(· rfl))
  |((with_reducible apply fU);(· rfl);(· rfl);(· rfl);(· rfl);(· rfl))
  |((with_reducible apply fu);(· rfl);(· rfl);(· rfl);(· rfl))
  |((with_reducible apply ld);(· rfl);(· rfl);(· rfl);(intro hb);(rotate_left);(intro hb);(rotate_right))
  |((with_reducible apply lc);(· rfl);(· rfl);(· rfl);(intro hb);(rotate_left);(intro hb);(rotate_right))
  |((with_reducible apply lg);(· exact cq))
  |((with_reducible apply gT);(· exact cq);(· exact cq);(· exact cq);(· exact cq);(· rfl);(intro hb);(rotate_left);(intro hb);(rotate_right))
  |((with_reducible apply gU);(· exact cq);(· exact cq);(· exact cq);(· exact cq);(· rfl);(intro hb);(rotate_left);(intro hb);(rotate_right))
  |((with_reducible apply jZ);(· exact aA);(· exact tO);(· first|(simp only[List.append_eq,List.cons_append,List.nil_append];rfl)|rfl);(· kernel_rfl))
  |((with_reducible apply nv);(· rfl);(· simp only[Nat.reduceAdd];rfl))
  |((with_reducible apply nD);(· exact cq))
  |((with_reducible apply jv);(· rfl);(· rfl);(· exact cq))
  |((with_reducible apply gY);(· rfl);(· rfl);(· rfl);(· rfl))
  |((with_reducible apply nC);(· rfl);(· rfl);(intro hb);(rotate_left);(intro hb);(rotate_right))
  |((with_reducible apply nB);(· rfl);(· rfl);(intro hb);(rotate_left);(intro hb);(rotate_right))
  |((with_reducible apply gP);(· rfl);(· simp only[Nat.reduceAdd];rfl))
  |((with_reducible apply gQ);(· rfl))
  |((with_reducible apply la);(· rfl);(· rfl))
  |((with_reducible apply k8);(· rfl);(· rfl);(· rfl))
  |((with_reducible apply k9);(· rfl);(· rfl);(· rfl);(· rfl))
  |((with_reducible apply lh))
  |((with_reducible apply ju);(· rfl);(· rfl))
  |((with_reducible apply gX);(· rfl);(· rfl);(· rfl);(· rfl))
  |((with_reducible apply nA);(· rfl);(· rfl);(intro hb);(rotate_left);(intro hb);(rotate_right))
  |((with_reducible apply nz);(· rfl);(· rfl);(intro hb);(rotate_left);(intro hb);(rotate_right))
  |((with_reducible apply nE);(· exact cq))
  |((with_reducible apply nG);(· exact cq))
  |((with_reducible apply jk);(· conv=>lhs;reduce);(· exact EI))
  |((with_reducible apply jj);(· conv=>lhs;reduce);(· exact EI))
  |((with_reducible apply fV))
  |((with_reducible apply gV))
  |((with_reducible apply jr);(· exact cq))
  |((with_reducible apply jo);(· exact cq))
  |((with_reducible apply k7);(· first|exact c1|exact c1 _|exact c2|exact c2 _|exact c3|exact c3 _|exact c4|exact c4 _|exact c5|exact c5 _|exact c6|exact c6 _);(· exact cq);(· rfl))
  |((with_reducible apply jl);(· exact cq);(· first|exact c1|exact c1 _|exact c1 _ _|exact c1 _ _ _|exact c2|exact c2 _|exact c2 _ _|exact c2 _ _ _|exact c3|exact c3 _|exact c3 _ _|exact c3 _ _ _|exact c4|exact c4 _|exact c4 _ _|exact c4 _ _ _|exact c5|exact c5 _|exact c5 _ _|exact c5 _ _ _|exact c6|exact c6 _|exact c6 _ _|exact c6 _ _ _);(· rfl))
  |((with_reducible apply gZ);(· exact cq);(· first|exact c1|exact c1 _|exact c1 _ _|exact c1 _ _ _|exact c2|exact c2 _|exact c2 _ _|exact c2 _ _ _|exact c3|exact c3 _|exact c3 _ _|exact c3 _ _ _|exact c4|exact c4 _|exact c4 _ _|exact c4 _ _ _|exact c5|exact c5 _|exact c5 _ _|exact c5 _ _ _|exact c6|exact c6 _|exact c6 _ _|exact c6 _ _ _))
  |((with_reducible apply jy);(· first|exact c1|exact c1 _|exact c2|exact c2 _|exact c3|exact c3 _|exact c4|exact c4 _|exact c5|exact c5 _|exact c6|exact c6 _);(· exact cq))
  |((with_reducible apply kZ);(· exact cq);(· exact cq);(· first|exact v1|exact v1 _|exact v1 _ _|exact v2|exact v2 _|exact v2 _ _|exact v3|exact v3 _|exact v3 _ _);(· rfl))
  |((with_reducible apply jx);(· exact cq);(· exact cq);(· first|exact v1|exact v1 _|exact v1 _ _|exact v2|exact v2 _|exact v2 _ _|exact v3|exact v3 _|exact v3 _ _))
  |(refine bi.no ?_;omega)
  |exact bi.refl _)):p:=h.go k
theorem yd {qq p:Prop} (k:qq) (h:bi qq p:=by
 repeat' (first
  |((with_reducible apply jt))
  |((with_reducible apply ny);(· exact cq);(· rfl))
  |((with_reducible apply jq))
  |((with_reducible apply fw);(· exact aA);(· first|(simp only[List.append_eq,List.cons_append,List.nil_append];rfl)|rfl))
  |((with_reducible apply gW))
  |((with_reducible apply iC);(· rfl))
  |((with_reducible apply iB);(· rfl))
  |((with_reducible apply gu);(· rfl);(· assumption))
  |((with_reducible apply gr);(· rfl);(· assumption))
  |((with_reducible apply iA);(· rfl);(intro hb);(rotate_left);(intro hb);(rotate_right))
  |((with_reducible apply iz);(· rfl);(intro hb);(rotate_left);(intro hb);(rotate_right))
  |((with_reducible apply jn))
  |((with_reducible apply gR);(· rfl))
  |((with_reducible apply nw);(· exact cq);(· rfl))
  |((with_reducible apply lf);(· exact cq))
  |((with_reducible apply gS);(· rfl);(· rfl))
  |((with_reducible apply fU);(· rfl);(· rfl);(· rfl);(· rfl);(· rfl))
  |((with_reducible apply fu);(· rfl);(· rfl);(· rfl);(· rfl))
  |((with_reducible apply ld);(· rfl);(· rfl);(· rfl);(intro hb);(rotate_left);(intro hb);(rotate_right))
  |((with_reducible apply lc);(· rfl);(· rfl);(· rfl);(intro hb);(rotate_left);(intro hb);(rotate_right))
  |((with_reducible apply lg);(· exact cq))
  |((with_reducible apply gT);(· exact cq);(· exact cq);(· exact cq);(· exact cq);(· rfl);(intro hb);(rotate_left);(intro hb);(rotate_right))
  |((with_reducible apply gU);(· exact cq);(· exact cq);(· exact cq);(· exact cq);(· rfl);(intro hb);(rotate_left);(intro hb);(rotate_right))
  |((with_reducible apply jZ);(· exact aA);(· exact tO);(· first|(simp only[List.append_eq,List.cons_append,List.nil_append];rfl)|rfl);(· kernel_rfl))
  |((with_reducible apply nv);(· rfl);(· simp only[Nat.reduceAdd];rfl))
  |((with_reducible apply nD);(· exact cq))
  |((with_reducible apply jv);(· rfl);(· rfl);(· exact cq))
  |((with_reducible apply gY);(· rfl);(· rfl);(· rfl);(· rfl))
  |((with_reducible apply nC);(· rfl);(· rfl);(intro hb);(rotate_left);(intro hb);(rotate_right))
  |((with_reducible apply nB);(· rfl);(· rfl);(intro hb);(rotate_left);(intro hb);(rotate_right))
  |((with_reducible apply gP);(· rfl);(· simp only[Nat.reduceAdd];rfl))
  |((with_reducible apply gQ);(· rfl))
  |((with_reducible apply la);(· rfl);(· rfl))
  |((with_reducible apply k8);(· rfl);(· rfl);(· rfl))
  |((with_reducible apply k9);(· rfl);(· rfl);(· rfl);(· rfl))
  |((with_reducible apply lh))
  |((with_reducible apply ju);(· rfl);(· rfl))
  |((with_reducible apply gX);(· rfl);(· rfl);(· rfl);(· rfl))
  |((with_reducible apply nA);(· rfl);(· rfl);(intro hb);(rotate_left);(intro hb);(rotate_right))
  |((with_reducible apply nz);(· rfl);(· rfl);(intro hb);(rotate_left);(intro hb);(rotate_right))
  |((with_reducible apply nE);(· exact cq))
  |((with_reducible apply nG);(· exact cq))
  |((with_reducible apply jk);(· conv=>lhs;reduce);(· exact EI))
  |((with_reducible apply jj);(· conv=>lhs;reduce);(· exact EI))
  |((with_reducible apply fV))
  |((with_reducible apply gV))
  |((with_reducible apply jr);(· exact cq))
  |((with_reducible apply jo);(· exact cq))
  |((with_reducible apply k7);(· first|exact c1|exact c1 _|exact c2|exact c2 _|exact c3|exact c3 _|exact c4|exact c4 _|exact c5|exact c5 _|exact c6|exact c6 _);(· exact cq);(· rfl))
  |((with_reducible apply jl);(· exact cq);(· first|exact c1|exact c1 _|exact c1 _ _|exact c1 _ _ _|exact c2|exact c2 _|exact c2 _ _|exact c2 _ _ _|exact c3|exact c3 _|exact c3 _ _|exact c3 _ _ _|exact c4|exact c4 _|exact c4 _ _|exact c4 _ _ _|exact c5|exact c5 _|exact c5 _ _|exact c5 _ _ _|exact c6|exact c6 _|exact c6 _ _|exact c6 _ _ _);(· rfl))
  |((with_reducible apply gZ);(· exact cq);(· first|exact c1|exact c1 _|exact c1 _ _|exact c1 _ _ _|exact c2|exact c2 _|exact c2 _ _|exact c2 _ _ _|exact c3|exact c3 _|exact c3 _ _|exact c3 _ _ _|exact c4|exact c4 _|exact c4 _ _|exact c4 _ _ _|exact c5|exact c5 _|exact c5 _ _|exact c5 _ _ _|exact c6|exact c6 _|exact c6 _ _|exact c6 _ _ _))
  |((with_reducible apply jy);(· first|exact c1|exact c1 _|exact c2|exact c2 _|exact c3|exact c3 _|exact c4|exact c4 _|exact c5|exact c5 _|exact c6|exact c6 _);(· exact cq))
  |((with_reducible apply kZ);(· exact cq);(· exact cq);(· first|exact v1|exact v1 _|exact v1 _ _|exact v2|exact v2 _|exact v2 _ _|exact v3|exact v3 _|exact v3 _ _);(· rfl))
  |((with_reducible apply jx);(· exact cq);(· exact cq);(· first|exact v1|exact v1 _|exact v1 _ _|exact v2|exact v2 _|exact v2 _ _|exact v3|exact v3 _|exact v3 _ _))
  |(refine bi.no ?_;omega)
  |exact bi.refl _)):p:=h.go k
theorem Gh {qq p:Prop} (k:qq) (h:bi qq p:=by
 repeat' (first
  |((with_reducible apply jt))
  |((with_reducible apply ny);(· exact cq);(· rfl))
  |((with_reducible apply jq))
  |((with_reducible apply fw);(· exact aA);(· first|(simp only[List.append_eq,List.cons_append,List.nil_append];rfl)|rfl))
  |((with_reducible apply gW))
  |((with_reducible apply iC);(· rfl))
  |((with_reducible apply iB);(· rfl))
  |((with_reducible apply gu);(· rfl);(· assumption))
  |((with_reducible apply gr);(· rfl);(· assumption))
  |((with_reducible apply iA);(· rfl);(intro hb);(rotate_left);(intro hb);(rotate_right))
  |((with_reducible apply iz);(· rfl);(intro hb);(rotate_left);(intro hb);(rotate_right))
  |((with_reducible apply iy))
  |((with_reducible apply jn))
  |((with_reducible apply gR);(· rfl))
  |((with_reducible apply nw);(· exact cq);(· rfl))
  |((with_reducible apply lf);(· exact cq))
  |((with_reducible apply gS);(· rfl);(· rfl))
  |((with_reducible apply fU);(· rfl);(· rfl);(· rfl);(· rfl);(· rfl))
  |((with_reducible apply fu);(· rfl);(· rfl);(· rfl);(· rfl))
  |((with_reducible apply oA);(· rfl);(· rfl);(· exact zg);(· rfl))
  |((with_reducible apply oB);(· rfl);(· rfl);(· exact zh);(· rfl))
  |((with_reducible apply oC);(· rfl);(· rfl);(· exact zi);(· rfl))
  |((with_reducible apply qZ);(· rfl);(· rfl);(· rfl);(intro hb);(try simp only[hb]);(try simp only[jg,jd,jf,je,Bool.true_and,Bool.false_and,Bool.true_or,Bool.false_or,eJ,dS]);(rotate_left);(intro hb);(try simp only[hb]);(try simp only[jg,jd,jf,je,Bool.true_and,Bool.false_and,Bool.true_or,Bool.false_or,eJ,dS]);(rotate_right))
  |((with_reducible apply ld);(· rfl);(· rfl);(· rfl);(intro hb);(rotate_left);(intro hb);(rotate_right))
  |((with_reducible apply lc);(· rfl);(· rfl);(· rfl);(intro hb);(rotate_left);(intro hb);(rotate_right))
  |((with_reducible apply lg);(· exact cq))
  |((with_reducible apply gT);(· exact cq);(· exact cq);(· exact cq);(· exact cq);(· rfl);(intro hb);(rotate_left);(intro hb);(rotate_right))
  |((with_reducible apply gU);(· exact cq);(· exact cq);(· exact cq);(· exact cq);(· rfl);(intro hb);(rotate_left);(intro hb);(rotate_right))
  |((with_reducible apply nv);(· rfl);(· simp only[Nat.reduceAdd];rfl))
  |((with_reducible apply nD);(· exact cq))
  |((with_reducible apply jv);(· rfl);(· rfl);(· exact cq))
  |((with_reducible apply gY);(· rfl);(· rfl);(· rfl);(· rfl))
  |((with_reducible apply ra);(· rfl);(· rfl);(· exact zg))
  |((with_reducible apply re);(· rfl);(· rfl);(· exact zh))
  |((with_reducible apply rf);(· rfl);(· rfl);(· exact zi))
  |((with_reducible apply nC);(· rfl);(· rfl);(intro hb);(rotate_left);(intro hb);(rotate_right))
  |((with_reducible apply nB);(· rfl);(· rfl);(intro hb);(rotate_left);(intro hb);(rotate_right))
  |((with_reducible apply gP);(· rfl);(· simp only[Nat.reduceAdd];rfl))
  |((with_reducible apply gQ);(· rfl))
  |((with_reducible apply la);(· rfl);(· rfl))
  |((with_reducible apply k8);(· rfl);(· rfl);(· rfl))
  |((with_reducible apply k9);(· rfl);(· rfl);(· rfl);(· rfl))
  |((with_reducible apply lh))
  |((with_reducible apply ju);(· rfl);(· rfl))
  |((with_reducible apply gX);(· rfl);(· rfl);(· rfl);(· rfl))
  |((with_reducible apply vi);(· rfl);(· rfl);(intro hb);(try simp only[hb]);(try simp only[jg,jd,jf,je,Bool.true_and,Bool.false_and,Bool.true_or,Bool.false_or,eJ,dS]);(rotate_left);(intro hb);(try simp only[hb]);(try simp only[jg,jd,jf,je,Bool.true_and,Bool.false_and,Bool.true_or,Bool.false_or,eJ,dS]);(rotate_right))
  |((with_reducible apply nA);(· rfl);(· rfl);(intro hb);(rotate_left);(intro hb);(rotate_right))
  |((with_reducible apply nz);(· rfl);(· rfl);(intro hb);(rotate_left);(intro hb);(rotate_right))
  |((with_reducible apply nE);(· exact cq))
  |((with_reducible apply nG);(· exact cq))
  |((with_reducible apply jk);(· conv=>lhs;reduce);(· exact EI))
  |((with_reducible apply jj);(· conv=>lhs;reduce);(· exact EI))
  |((with_reducible apply fV))
  |((with_reducible apply gV))
  |((with_reducible apply jr);(· exact cq))
  |((with_reducible apply jo);(· exact cq))
  |((with_reducible apply k7);(· first|exact c1|exact c1 _|exact c2|exact c2 _|exact c3|exact c3 _|exact c4|exact c4 _|exact c5|exact c5 _|exact c6|exact c6 _);(· exact cq);(· rfl))
  |((with_reducible apply jl);(· exact cq);(· first|exact c1|exact c1 _|exact c1 _ _|exact c1 _ _ _|exact c2|exact c2 _|exact c2 _ _|exact c2 _ _ _|exact c3|exact c3 _|exact c3 _ _|exact c3 _ _ _|exact c4|exact c4 _|exact c4 _ _|exact c4 _ _ _|exact c5|exact c5 _|exact c5 _ _|exact c5 _ _ _|exact c6|exact c6 _|exact c6 _ _|exact c6 _ _ _);(· rfl))
  |((with_reducible apply gZ);(· exact cq);(· first|exact c1|exact c1 _|exact c1 _ _|exact c1 _ _ _|exact c2|exact c2 _|exact c2 _ _|exact c2 _ _ _|exact c3|exact c3 _|exact c3 _ _|exact c3 _ _ _|exact c4|exact c4 _|exact c4 _ _|exact c4 _ _ _|exact c5|exact c5 _|exact c5 _ _|exact c5 _ _ _|exact c6|exact c6 _|exact c6 _ _|exact c6 _ _ _))
  |((with_reducible apply jy);(· first|exact c1|exact c1 _|exact c2|exact c2 _|exact c3|exact c3 _|exact c4|exact c4 _|exact c5|exact c5 _|exact c6|exact c6 _);(· exact cq))
  |((with_reducible apply kZ);(· exact cq);(· exact cq);(· first|exact v1|exact v1 _|exact v1 _ _|exact v2|exact v2 _|exact v2 _ _|exact v3|exact v3 _|exact v3 _ _);(· rfl))
  |((with_reducible apply jx);(· exact cq);(· exact cq);(· first|exact v1|exact v1 _|exact v1 _ _|exact v2|exact v2 _|exact v2 _ _|exact v3|exact v3 _|exact v3 _ _))
  |(refine bi.no ?_;omega)
  |exact bi.refl _)):p:=h.go k
theorem dW {qq p:Prop} (k:qq) (h:bi qq p:=by
 repeat' (first
  |((with_reducible apply jt))
  |((with_reducible apply ny);(· exact cq);(· rfl))
  |((with_reducible apply jq))
  |((with_reducible apply fw);(· exact aA);(· first|(simp only[List.append_eq,List.cons_append,List.nil_append];rfl)|rfl))
  |((with_reducible apply gW))
  |((with_reducible apply iy))
  |((with_reducible apply jn))
  |((with_reducible apply gR);(· rfl))
  |((with_reducible apply nw);(· exact cq);(· rfl))
  |((with_reducible apply lf);(· exact cq))
  |((with_reducible apply gS);(· rfl);(· rfl))
  |((with_reducible apply fU);(· rfl);(· rfl);(· rfl);(· rfl);(· rfl))
  |((with_reducible apply fu);(· rfl);(· rfl);(· rfl);(· rfl))
  |((with_reducible apply oA);(· rfl);(· rfl);(· exact zg);(· rfl))
  |((with_reducible apply oB);(· rfl);(· rfl);(· exact zh);(· rfl))
  |((with_reducible apply oC);(· rfl);(· rfl);(· exact zi);(· rfl))
  |((with_reducible apply qZ);(· rfl);(· rfl);(· rfl);(intro hb);(try simp only[hb]);(try simp only[jg,jd,jf,je,Bool.true_and,Bool.false_and,Bool.true_or,Bool.false_or,eJ,dS]);(rotate_left);(intro hb);(try simp only[hb]);(try simp only[jg,jd,jf,je,Bool.true_and,Bool.false_and,Bool.true_or,Bool.false_or,eJ,dS]);(rotate_right))
  |((with_reducible apply ld);(· rfl);(· rfl);(· rfl);(intro hb);(rotate_left);(intro hb);(rotate_right))
  |((with_reducible apply lc);(· rfl);(· rfl);(· rfl);(intro hb);(rotate_left);(intro hb);(rotate_right))
  |((with_reducible apply lg);(· exact cq))
  |((with_reducible apply gT);(· exact cq);(· exact cq);(· exact cq);(· exact cq);(· rfl);(intro hb);(rotate_left);(intro hb);(rotate_right))
  |((with_reducible apply gU);(· exact cq);(· exact cq);(· exact cq);(· exact cq);(· rfl);(intro hb);(rotate_left);(intro hb);(rotate_right))
  |((with_reducible apply jZ);(· exact aA);(· exact tO);(· first|(simp only[List.append_eq,List.cons_append,List.nil_append];rfl)|rfl);(· kernel_rfl))
  |((with_reducible apply nv);(· rfl);(· simp only[Nat.reduceAdd];rfl))
  |((with_reducible apply nD);(· exact cq))
  |((with_reducible apply jv);(· rfl);(· rfl);(· exact cq))
  |((with_reducible apply gY);(· rfl);(· rfl);(· rfl);(· rfl))
  |((with_reducible apply ra);(· rfl);(· rfl);(· exact zg))
  |((with_reducible apply re);(· rfl);(· rfl);(· exact zh))
  |((with_reducible apply rf);(· rfl);(· rfl);(· exact zi))
  |((with_reducible apply nC);(· rfl);(· rfl);(intro hb);(rotate_left);(intro hb);(rotate_right))
  |((with_reducible apply nB);(· rfl);(· rfl);(intro hb);(rotate_left);(intro hb);(rotate_right))
  |((with_reducible apply gP);(· rfl);(· simp only[Nat.reduceAdd];rfl))
  |((with_reducible apply gQ);(· rfl))
  |((with_reducible apply la);(· rfl);(· rfl))
  |((with_reducible apply k8);(· rfl);(· rfl);(· rfl))
  |((with_reducible apply k9);(· rfl);(· rfl);(· rfl);(· rfl))
  |((with_reducible apply lh))
  |((with_reducible apply ju);(· rfl);(· rfl))
  |((with_reducible apply gX);(· rfl);(· rfl);(· rfl);(· rfl))
  |((with_reducible apply vi);(· rfl);(· rfl);(intro hb);(try simp only[hb]);(try simp only[jg,jd,jf,je,Bool.true_and,Bool.false_and,Bool.true_or,Bool.false_or,eJ,dS]);(rotate_left);(intro hb);(try simp only[hb]);(try simp only[jg,jd,jf,je,Bool.true_and,Bool.false_and,Bool.true_or,Bool.false_or,eJ,dS]);(rotate_right))
  |((with_reducible apply nA);(· rfl);(· rfl);(intro hb);(rotate_left);(intro hb);(rotate_right))
  |((with_reducible apply nz);(· rfl);(· rfl);(intro hb);(rotate_left);(intro hb);(rotate_right))
  |((with_reducible apply nE);(· exact cq))
  |((with_reducible apply nG);(· exact cq))
  |((with_reducible apply jk);(· conv=>lhs;reduce);(· exact EI))
  |((with_reducible apply jj);(· conv=>lhs;reduce);(· exact EI))
  |((with_reducible apply fV))
  |((with_reducible apply gV))
  |((with_reducible apply jr);(· exact cq))
  |((with_reducible apply jo);(· exact cq))
  |((with_reducible apply k7);(· first|exact c1|exact c1 _|exact c2|exact c2 _|exact c3|exact c3 _|exact c4|exact c4 _|exact c5|exact c5 _|exact c6|exact c6 _);(· exact cq);(· rfl))
  |((with_reducible apply jl);(· exact cq);(· first|exact c1|exact c1 _|exact c1 _ _|exact c1 _ _ _|exact c2|exact c2 _|exact c2 _ _|exact c2 _ _ _|exact c3|exact c3 _|exact c3 _ _|exact c3 _ _ _|exact c4|exact c4 _|exact c4 _ _|exact c4 _ _ _|exact c5|exact c5 _|exact c5 _ _|exact c5 _ _ _|exact c6|exact c6 _|exact c6 _ _|exact c6 _ _ _);(· rfl))
  |((with_reducible apply gZ);(· exact cq);(· first|exact c1|exact c1 _|exact c1 _ _|exact c1 _ _ _|exact c2|exact c2 _|exact c2 _ _|exact c2 _ _ _|exact c3|exact c3 _|exact c3 _ _|exact c3 _ _ _|exact c4|exact c4 _|exact c4 _ _|exact c4 _ _ _|exact c5|exact c5 _|exact c5 _ _|exact c5 _ _ _|exact c6|exact c6 _|exact c6 _ _|exact c6 _ _ _))
  |((with_reducible apply jy);(· first|exact c1|exact c1 _|exact c2|exact c2 _|exact c3|exact c3 _|exact c4|exact c4 _|exact c5|exact c5 _|exact c6|exact c6 _);(· exact cq))
  |((with_reducible apply kZ);(· exact cq);(· exact cq);(· first|exact v1|exact v1 _|exact v1 _ _|exact v2|exact v2 _|exact v2 _ _|exact v3|exact v3 _|exact v3 _ _);(· rfl))
  |((with_reducible apply jx);(· exact cq);(· exact cq);(· first|exact v1|exact v1 _|exact v1 _ _|exact v2|exact v2 _|exact v2 _ _|exact v3|exact v3 _|exact v3 _ _))
  |(refine bi.no ?_;omega)
  |exact bi.refl _)):p:=h.go k
section
variable {P:Program} {G:Gl} {T:aT} {own:List Nat} {nt B:Nat} {ρ:Option Nat} {C:Cx} {rs:List ResultVar} {R:SV→List ax→Prop} {env env2:Env} {H X KB:List ax} {k:List It}
theorem aY (ks:dD) {n0:Nat} (hG:au G) (hB:eS G C.H.length) (hC:C.H.length=n0) (hcl:closed H) (hn:H.length=n0:=by first|rfl|(simp;done)|exact hlen _) (hk:dx (H++X) n0 ks ks KB:=by exact zl) (hd:(ks.map (·.1)).Nodup:=by first|rfl|decide|simp) (he:gz (H++X) n0 ks env2 env:=by exact zl):Wk G nt C ⟨env,H++X⟩ ⟨env2,H++KB⟩:=Wk.xA ks hG hB hn hC hcl hk hd he
variable {all r:List Oper} {ty d j dj:Nat} {op:Op} {pos:String} {after:Array Edge} {v:SV} {want:Bool} {dst:Option Nat} {kk:SV→List ax→Prop}
variable {R':SV→List ax→Prop} {xs:List SV} {f:Operand} {fv:SV} {args:Array Operand} {tys:Array Nat} {g:FuncId}
theorem bt (hc:af P G g xs H R') (hk:∀ x H',R' x H'→(Out P G T own nt ρ C rs R) (.ops all r::k) .normal ((d,x)::env) H') (h2:jb G env args.toList=some xs:=by exact cq) (hd:Nat.blt d nt=true:=by rfl):(Out P G T own nt ρ C rs R) (.ops all (⟨some d,.call ⟨.value (.func g),args,tys⟩,ty,pos,after,none⟩::r)::k) .normal env H:=pP h2 hd hc hk
theorem eX (hc:bz P G fv xs H R') (hk:∀ x H',R' x H'→(Out P G T own nt ρ C rs R) (.ops all r::k) .normal ((d,x)::env) H') (h1:ev G env f=some fv:=by exact cq) (h2:jb G env args.toList=some xs:=by exact cq) (hd:Nat.blt d nt=true:=by rfl):(Out P G T own nt ρ C rs R) (.ops all (⟨some d,.call ⟨.value f,args,tys⟩,ty,pos,after,none⟩::r)::k) .normal env H:=nk h1 h2 hd hc hk
theorem du (hc:af P G g xs H R') (hk:∀ x H',R' x H'→kk x H') (h2:jb G env args.toList=some xs:=by exact cq):kz P G T own all ⟨dst,.call ⟨.value (.func g),args,tys⟩,ty,pos,after,none⟩ env H kk:=vM h2 hc hk
theorem aS {R0:SV→List ax→Prop} {n0:Nat} (hR:mv (∀ y H',R0 y H'→R y H')) (hC:C.H.length=n0) (hcl:closed H) {x y:SV} (hx:bE (H++X) n0 [] x y) (h:R0 y H) (hn:H.length=n0:=by first|rfl|(simp;done)|exact hlen _):Fin C (H++X) x R:=Fin.bY hR hn hC hcl hx h
theorem dp (ks:dD) {R0:SV→List ax→Prop} {n0:Nat} (y:SV) (KB:List ax) (hR:mv (∀ y H',R0 y H'→R y H')) (hC:C.H.length=n0) (hcl:closed H) {x:SV} (h:R0 y (H++KB)) (hk:dx (H++X) n0 ks ks KB:=by exact zl) (hd:(ks.map (·.1)).Nodup:=by first|rfl|decide|simp) (hx:bE (H++X) n0 ks x y:=by exact zl) (hn:H.length=n0:=by first|rfl|(simp;done)|exact hlen _):Fin C (H++X) x R:=Fin.xA ks hR hn hC hcl hk hd hx h
end
end
end Go.Proofs.YtehfihnfeakmaaaGreatDoor
