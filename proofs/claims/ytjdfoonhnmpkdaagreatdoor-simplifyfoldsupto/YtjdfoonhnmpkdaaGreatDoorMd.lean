/- A part of the proof: SwE, SwF, SwG. Names and spaces are cut short by program. -/
import Derived.Test.YtjdfoonhnmpkdaaGreatDoorMc
import Derived.RangeFuncIn
set_option linter.unusedSimpArgs false
set_option linter.unusedVariables false
set_option maxRecDepth 10000
set_option maxHeartbeats 4000000
namespace Go.Proofs.YtjdfoonhnmpkdaaGreatDoor
open Go
section
def LP (m:Nat) (ex:List Nat) (i:Nat):Bool:=Nat.blt i m||fB i ex
def M6 (own:List Nat) (all:List Oper) (cj:List Nat) (i:Nat):Bool:=match all[i]? with
 |some o=>An own o&&ku o&&!fB i cj
 |none=>false
def CZ (own:List Nat) (all:List Oper) (cj:List Nat):List Nat→List Nat
 |[]=>[]
 |i::r=>bif M6 own all cj i then i::CZ own all cj r else CZ own all cj r
def C2 (own:List Nat) (all:List Oper) (cj:List Nat):Nat→List Nat
 |0=>[]
 |i+1=>bif M6 own all cj i then i::C2 own all cj i else C2 own all cj i
def CM (own:List Nat) (all:List Oper) (m:Nat) (ex:List Nat):Option Oper:=match all[m]? with
 |some o=>bif !fB m ex&&An own o&&(b6 o).all (LP m ex) then some o else none
 |none=>none
def eB (own:List Nat) (m:Nat) (ex:List Nat):Nat→List Oper→Option Nat
 |_,[]=>none
 |i,o::r=>bif !LP m ex i&&An own o&&(b6 o).all (LP m ex) then some i else eB own m ex (i+1) r
def eY (m:Nat) (ex:List Nat):Nat→List Oper→List Nat
 |_,[]=>[]
 |i,o::r=>bif !LP m ex i&&(b6 o).all (LP m ex) then i::eY m ex (i+1) r else eY m ex (i+1) r
def fF (P:Program) (G:Gl) (T:bX) (own:List Nat) (all:List Oper) (n m:Nat) (ex:List Nat) (env:Env) (H:List av) (K:Env→List av→Prop):Prop:=
 ∀ L:List Nat,(∀ i,i∈L↔LP m ex i=true)→Dr P G T own all n L env H K
section
variable {P:Program} {G:Gl} {T:bX} {own:List Nat} {nt B:Nat} {ρ:Option Nat} {C:Cx} {rs:List ResultVar} {R:SV→List av→Prop} {env env2:Env} {H H':List av} {k:List It}
variable {all:List Oper} {L:List Nat} {n i j ty d:Nat} {op:Op} {pos:String} {after:Array Edge} {v:SV} {o:Oper} {K:Env→List av→Prop}
def eG (G:Gl) (T:bX) (own:List Nat) (all:List Oper) (env:Env) (H:List av):List Nat→Prop
 |[]=>True
 |i::r=>(∃ o,all[i]? =some o∧qg G T own all o env H=(o.dst).bind (look env))∧eG G T own all env H r
theorem eG.get {env:Env} {H:List av}:∀ {l:List Nat},eG G T own all env H l→∀ i∈l,∃ o,all[i]? =some o∧qg G T own all o env H=(o.dst).bind (look env)
 |i::r,h,j,hj=>by
  rcases List.mem_cons.1 hj with rfl|hj
  ·exact h.1
  ·exact eG.get h.2 j hj
theorem zA {cj:List Nat}:∀ {l:List Nat} {i:Nat},i∈l→M6 own all cj i=true→i∈CZ own all cj l
 |k::r,i,hi,hc=>by
  simp only[CZ]
  rcases List.mem_cons.1 hi with rfl|hi
  ·rw[hc];exact List.mem_cons_self ..
  ·cases M6 own all cj k with
   |true=>exact List.mem_cons_of_mem _ (zA hi hc)
   |false=>exact zA hi hc
theorem zB {cj:List Nat}:∀ {m i:Nat},i<m→M6 own all cj i=true→i∈C2 own all cj m
 |0,i,hi,hc=>by omega
 |m+1,i,hi,hc=>by
  simp only[C2]
  by_cases h:i=m
  ·subst h;rw[hc];exact List.mem_cons_self ..
  ·have hi':i<m:=by omega
   cases M6 own all cj m with
   |true=>exact List.mem_cons_of_mem _ (zB hi' hc)
   |false=>exact zB hi' hc
theorem Av {j m:Nat} {ex:List Nat} {env:Env} {H:List av} (h:eG G T own all env H (C2 own all (cT (kA all) j) m++CZ own all (cT (kA all) j) ex)):∀ {L:List Nat},(∀ i∈L,LP m ex i=true)→again G T own all j env H L
 |[],_=>trivial
 |i::r,hL=>by
  refine⟨?_,Av h fun k hk=>hL k (List.mem_cons_of_mem _ hk)⟩
  cases ho:all[i]? with
  |none=>trivial
  |some o=>
   intro hc
   have hc':M6 own all (cT (kA all) j) i=true:=by unfold M6;rw[ho];exact hc
   have hi:=hL i (List.mem_cons_self ..)
   simp only[LP,Bool.or_eq_true,Nat.blt_eq,dh] at hi
   have hm:i∈C2 own all (cT (kA all) j) m++CZ own all (cT (kA all) j) ex:=by
    rw[List.mem_append]
    rcases hi with hi|hi
    ·exact .inl (zB hi hc')
    ·exact .inr (zA hi hc')
   obtain⟨o',h1,h2⟩:=eG.get h i hm
   rw[ho] at h1
   cases h1
   exact h2
theorem wE (he:jJ env env2):∀ {L:List Nat},again G T own all j env H L→again G T own all j env2 H L
 |[],_=>trivial
 |i::r,h=>by
  refine⟨?_,wE he h.2⟩
  have h1:=h.1
  cases ho:all[i]? with
  |none=>trivial
  |some o=>
   rw[ho] at h1
   intro hc
   have h2:=h1 hc
   rw[← kR (env:=env) (env2:=env2) (fun t _=>he t),h2]
   cases o.dst with
   |none=>rfl
   |some d=>exact he d
theorem jJ.put (he:jJ env env2) (d:Option Nat) (x:SV):jJ (cE d x env) (cE d x env2):=by
 cases d with
 |none=>exact he
 |some d=>exact he.cons _
theorem Dr.sq (hK:∀ a b H,jJ a b→K a H→K b H):∀ {n:Nat} {L:List Nat} {env env2:Env} {H:List av},jJ env env2→Dr P G T own all n L env H K→Dr P G T own all n L env2 H K
 |0,_,_,_,_,_,h=>h
 |n+1,L,env,env2,H,he,h=>by
  rcases h with⟨i,o,v,h1,h2,h3,h4,h5,h6⟩|⟨h1,h2⟩
  ·exact .inl ⟨i,o,v,h1,h2,h3,h4,by rw[← kR (env:=env) (env2:=env2) (fun t _=>he t)];exact h5,Dr.sq hK (he.put _ _) h6⟩
  ·refine .inr ⟨h1,?_⟩
   rcases h2 with⟨h2,h3⟩|⟨h2,h3⟩
   ·exact .inl ⟨h2,hK _ _ _ he h3⟩
   ·exact .inr ⟨h2,fun j o a1 a2 a3=>rr (fun t _=>he t) (kK (fun x H' hx=>⟨wE (he.put _ _) hx.1,Dr.sq hK (he.put _ _) hx.2⟩) (h3 j o a1 a2 a3))⟩
variable {m:Nat} {ex:List Nat}
theorem kX {i:Nat}:LP m ex i=true↔i<m∨i∈ex:=by simp only[LP,Bool.or_eq_true,Nat.blt_eq,dh]
theorem DW {L:List Nat} (hL:∀ i,i∈L↔LP m ex i=true) {i:Nat} (h:(!LP m ex i)=true):i∉L:=fun hi=>by rw[(hL i).1 hi] at h;cases h
theorem sY {L:List Nat} (hL:∀ i,i∈L↔LP m ex i=true) {o:Oper} (h:(b6 o).all (LP m ex)=true):∀ j∈b6 o,j∈L:=fun j hj=>(hL j).2 (List.all_eq_true.1 h j hj)
theorem LU (hT:aI P T) (hm:P.follows .mixedOrders=true) {id:Nat} {ops:Array Oper} {l:List Oper} (hl:ops=⟨l⟩) (hok:eA nt l=true) (h:fF P G T own l 200 0 [] env H (fun env H=>(Out P G T own nt ρ C rs R) k .normal env H)):(Out P G T own nt ρ C rs R) (.code (.region id ops true)::k) .normal env H:=by
 subst hl
 exact ep.draw hT hm (own:=own) (Q:=fun e s=>(Out P G T own nt ρ C rs R) k e s.env s.H) hok (h [] (fun i=>by simp[LP,fB,Nat.blt_eq]))
theorem LC (hm:Nat.ble all.length m=true) (h:(Out P G T own nt ρ C rs R) k .normal env H):(fF P G T own all) (n+1) m ex env H (fun env H=>(Out P G T own nt ρ C rs R) k .normal env H):=fun L hL=>by
 have hall:∀ i o,all[i]? =some o→i∈L:=fun i o ho=>(hL i).2 (kX.2 (.inl (by
  have h1:=(List.getElem?_eq_some_iff.1 ho).1
  have h2:=Nat.le_of_ble_eq_true hm
  omega)))
 exact .inr ⟨fun i o ho hn=>(hn (hall i o ho)).elim,.inl ⟨hall,h⟩⟩
theorem Ic (hm:fB m ex=true) (h:(fF P G T own all) n (m+1) ex env H K):(fF P G T own all) n m ex env H K:=fun L hL=>h L fun i=>by
 rw[hL i,kX,kX]
 have:=dh.1 hm
 constructor
 ·rintro (h|h)
  ·exact .inl (by omega)
  ·exact .inr h
 ·rintro (h|h)
  ·by_cases e:i=m
   ·subst e;exact .inr this
   ·exact .inl (by omega)
  ·exact .inr h
theorem vO {o:Oper} (h:CM own all m ex=some o):all[m]? =some o∧m∉ex∧An own o=true∧(b6 o).all (LP m ex)=true:=by
 unfold CM at h
 split at h
 ·rename_i o' ho
  cases hb:(!fB m ex&&An own o'&&(b6 o').all (LP m ex)) with
  |false=>rw[hb] at h;cases h
  |true=>
   rw[hb] at h
   cases h
   simp only[Bool.and_eq_true,Bool.not_eq_true'] at hb
   exact⟨ho,fun hm=>by rw[dh.2 hm] at hb;exact absurd hb.1.1 (by simp),hb.1.2,hb.2⟩
 ·cases h
theorem lp:∀ {l:List Oper} {i j:Nat},eB own m ex i l=some j→∃ k o,j=i+k∧l[k]? =some o∧(!LP m ex j)=true∧An own o=true∧(b6 o).all (LP m ex)=true
 |[],i,j,h=>by cases h
 |o'::r,i,j,h=>by
  simp only[eB] at h
  cases hb:(!LP m ex i&&An own o'&&(b6 o').all (LP m ex)) with
  |true=>
   rw[hb] at h
   cases h
   simp only[Bool.and_eq_true] at hb
   exact⟨0,o',rfl,rfl,hb.1.1,hb.1.2,hb.2⟩
  |false=>
   rw[hb] at h
   obtain⟨k,o,h1,h2,h3⟩:=lp h
   exact⟨k+1,o,by omega,by simpa using h2,h3⟩
theorem pT:∀ {l:List Oper} {i:Nat},eB own m ex i l=none→∀ k o,l[k]? =some o→LP m ex (i+k)=false→(b6 o).all (LP m ex)=true→An own o=false
 |[],i,_,k,o,ho,_,_=>by simp at ho
 |o'::r,i,h,k,o,ho,hm,hd=>by
  simp only[eB] at h
  cases hb:(!LP m ex i&&An own o'&&(b6 o').all (LP m ex)) with
  |true=>rw[hb] at h;cases h
  |false=>
   rw[hb] at h
   cases k with
   |zero=>
    simp at ho
    subst ho
    cases hq:An own o' with
    |false=>rfl
    |true=>rw[Nat.add_zero] at hm;rw[hm,hq,hd] at hb;cases hb
   |succ k=>exact pT h k o (by simpa using ho) (by rw[show i+1+k=i+(k+1) by omega];exact hm) hd
theorem vc:∀ {l:List Oper} {i k:Nat} {o:Oper},l[k]? =some o→LP m ex (i+k)=false→(b6 o).all (LP m ex)=true→i+k∈eY m ex i l
 |[],i,k,o,ho,_,_=>by simp at ho
 |o'::r,i,k,o,ho,hm,hd=>by
  simp only[eY]
  cases k with
  |zero=>
   simp at ho
   subst ho
   rw[Nat.add_zero] at hm ⊢
   rw[hm,hd]
   exact List.mem_cons_self ..
  |succ k=>
   have:=vc (l:=r) (i:=i+1) (k:=k) (o:=o) (by simpa using ho) (by rw[show i+1+k=i+(k+1) by omega];exact hm) hd
   rw[show i+1+k=i+(k+1) by omega] at this
   cases hb:(!LP m ex i&&(b6 o').all (LP m ex)) with
   |true=>exact List.mem_cons_of_mem _ this
   |false=>exact this
theorem vu:∀ {l:List Oper} {i j:Nat},j∈eY m ex i l→∃ k o,j=i+k∧l[k]? =some o∧(!LP m ex j)=true
 |[],i,j,h=>by cases h
 |o'::r,i,j,h=>by
  simp only[eY] at h
  have go:j∈eY m ex (i+1) r→∃ k o,j=i+k∧(o'::r)[k]? =some o∧(!LP m ex j)=true:=fun h=>by
   obtain⟨k,o,h1,h2,h3⟩:=vu h
   exact⟨k+1,o,by omega,by simpa using h2,h3⟩
  cases hb:(!LP m ex i&&(b6 o').all (LP m ex)) with
  |true=>
   rw[hb] at h
   rcases List.mem_cons.1 h with rfl|h
   ·simp only[Bool.and_eq_true] at hb
    exact⟨0,o',rfl,rfl,hb.1⟩
   ·exact go h
  |false=>rw[hb] at h;exact go h
theorem C5 {L:List Nat} (hL:∀ i,i∈L↔LP m ex i=true) (j:Nat):∀ i,i∈j::L↔LP m (j::ex) i=true:=fun i=>by
 rw[List.mem_cons,hL i,kX,kX,List.mem_cons]
 constructor
 ·rintro (h|h|h)
  ·exact .inr (.inl h)
  ·exact .inl h
  ·exact .inr (.inr h)
 ·rintro (h|h|h)
  ·exact .inr (.inl h)
  ·exact .inl h
  ·exact .inr (.inr h)
theorem Eu {L:List Nat} (hL:∀ i,i∈L↔LP m ex i=true):∀ i,i∈m::L↔LP (m+1) ex i=true:=fun i=>by
 rw[List.mem_cons,hL i,kX,kX]
 constructor
 ·rintro (h|h|h)
  ·exact .inl (by omega)
  ·exact .inl (by omega)
  ·exact .inr h
 ·rintro (h|h)
  ·by_cases e:i=m
   ·exact .inl e
   ·exact .inr (.inl (by omega))
  ·exact .inr (.inr h)
theorem qF {L:List Nat} (hL:∀ i,i∈L↔LP m ex i=true) (h:m∉ex):m∉L:=fun hi=>by
 rcases kX.1 ((hL m).1 hi) with h1|h1
 ·omega
 ·exact h h1
def yx (G:Gl) (T:bX) (own:List Nat) (all:List Oper) (j m:Nat) (ex:List Nat) (env:Env) (H:List av):Prop:=eG G T own all env H (C2 own all (cT (kA all) j) m++CZ own all (cT (kA all) j) ex)
theorem uY (hf:eB own m ex 0 all=none) {j0:Nat} {js:List Nat} (hr:eY m ex 0 all=j0::js) (h:∀ j∈j0::js,∃ o,all[j]? =some o∧ll P G T own all o env H fun x H'=>yx G T own all j m ex (cE o.dst x env) H'∧(fF P G T own all) n m (j::ex) (cE o.dst x env) H' K):(fF P G T own all) (n+1) m ex env H K:=fun L hL=>by
 have lpf:∀ i,i∉L→LP m ex i=false:=fun i hi=>by
  cases hb:LP m ex i with
  |false=>rfl
  |true=>exact(hi ((hL i).2 hb)).elim
 have dpf:∀ o,(∀ j∈b6 o,j∈L)→(b6 o).all (LP m ex)=true:=fun o hd=>List.all_eq_true.2 fun j hj=>(hL j).1 (hd j hj)
 refine .inr ⟨fun i o ho hn hd=>pT hf i o ho (by rw[Nat.zero_add];exact lpf i hn) (dpf o hd),.inr ⟨?_,fun j o ho hn hd=>?_⟩⟩
 ·obtain⟨k,o,e1,e2,e3⟩:=vu (m:=m) (ex:=ex) (l:=all) (i:=0) (j:=j0) (by rw[hr];exact List.mem_cons_self ..)
  rw[Nat.zero_add] at e1
  subst e1
  exact⟨j0,o,e2,DW hL e3⟩
 ·have hmem:=vc (m:=m) (ex:=ex) (l:=all) (i:=0) ho (by rw[Nat.zero_add];exact lpf j hn) (dpf o hd)
  rw[Nat.zero_add,hr] at hmem
  obtain⟨o',ho',hx⟩:=h j hmem
  rw[ho] at ho'
  cases ho'
  exact kK (fun x H' hh=>⟨Av hh.1 (fun i hi=>(hL i).1 hi),hh.2 (j::L) (C5 hL j)⟩) hx
theorem Pj (hf:eB own m ex 0 all=none) (hr:eY m ex 0 all=[j]) (ho:all[j]? =some o) (h:ll P G T own all o env H fun x H'=>yx G T own all j m ex (cE o.dst x env) H'∧(fF P G T own all) n m (j::ex) (cE o.dst x env) H' K):(fF P G T own all) (n+1) m ex env H K:=
 uY hf hr fun j' hj=>by rw[List.mem_singleton.1 hj];exact⟨o,ho,h⟩
theorem Pk {j2:Nat} {o2:Oper} (hf:eB own m ex 0 all=none) (hr:eY m ex 0 all=[j,j2]) (ho:all[j]? =some o) (ho2:all[j2]? =some o2) (h:ll P G T own all o env H fun x H'=>yx G T own all j m ex (cE o.dst x env) H'∧(fF P G T own all) n m (j::ex) (cE o.dst x env) H' K)
 (h2:ll P G T own all o2 env H fun x H'=>yx G T own all j2 m ex (cE o2.dst x env) H'∧(fF P G T own all) n m (j2::ex) (cE o2.dst x env) H' K):(fF P G T own all) (n+1) m ex env H K:=
 uY hf hr fun j' hj=>by
  rcases List.mem_cons.1 hj with rfl|hj
  ·exact⟨o,ho,h⟩
  ·rw[List.mem_singleton.1 hj];exact⟨o2,ho2,h2⟩
variable {kk:SV→List av→Prop} {dst:Option Nat} {want b:Bool} {dj:Nat}
theorem RL (h:qv G T own env H dst ty op=some v) (hk:kk v H):ll P G T own all ⟨dst,op,ty,pos,after,none⟩ env H kk:=xX h hk
theorem RK (h:lv G T own env H dst ty op=some (v,H')) (hk:kk v H'):ll P G T own all ⟨dst,op,ty,pos,after,none⟩ env H kk:=B6 h hk
theorem OV (h1:(all[j]?).bind (·.dst)=some dj) (h2:look env dj=some (.bool want)) (h:ll P G T own all ⟨dst,op,ty,pos,after,none⟩ env H kk):ll P G T own all ⟨dst,op,ty,pos,after,some (j,want)⟩ env H kk:=
 ⟨dj,h1,_,h2,some want,rfl,And.intro (fun _=>h) (fun e=>by simp at e)⟩
theorem MX {u:SV} {bo:Option Bool} (h1:(all[j]?).bind (·.dst)=some dj) (h2:look env dj=some u) (h3:yF u=some bo) (hb:(bo==some want)=false) (h:kk .undef H):ll P G T own all ⟨dst,op,ty,pos,after,some (j,want)⟩ env H kk:=
 ⟨dj,h1,_,h2,bo,h3,And.intro (fun e=>by rw[hb] at e;cases e) (fun _=>h)⟩
variable {R':SV→List av→Prop} {xs:List SV} {f:Operand} {fv:SV} {args:Array Operand} {tys:Array Nat} {g:FuncId}
theorem nC (h1:ev G env f=some fv) (h2:kJ G env args.toList=some xs) (hc:aY P G fv xs H R') (hk:∀ x H',R' x H'→kk x H'):ll P G T own all ⟨dst,.call ⟨.value f,args,tys⟩,ty,pos,after,none⟩ env H kk:=
 ⟨fv,h1,xs,h2,hc.mono fun x H' hr=>hk x H' hr⟩
theorem tE (h2:kJ G env args.toList=some xs) (hc:aq P G g xs H R') (hk:∀ x H',R' x H'→kk x H'):ll P G T own all ⟨dst,.call ⟨.value (.func g),args,tys⟩,ty,pos,after,none⟩ env H kk:=
 nC rfl h2 (aY.of (by simpa using hc)) hk
theorem NA {x:SV} {l:List Nat} (h1:C2 own all (cT (kA all) j) m++CZ own all (cT (kA all) j) ex=l) (h2:eG G T own all ((d,x)::env) H l) (h:(fF P G T own all) n m (j::ex) ((d,x)::env) H K):yx G T own all j m ex (cE (some d) x env) H∧(fF P G T own all) n m (j::ex) (cE (some d) x env) H K:=⟨by unfold yx;rw[h1];exact h2,h⟩
theorem Nz {x:SV} {l:List Nat} (h1:C2 own all (cT (kA all) j) m++CZ own all (cT (kA all) j) ex=l) (h2:eG G T own all env H l) (h:(fF P G T own all) n m (j::ex) env H K):yx G T own all j m ex (cE none x env) H∧(fF P G T own all) n m (j::ex) (cE none x env) H K:=⟨by unfold yx;rw[h1];exact h2,h⟩
theorem NC:eG G T own all env H []:=trivial
theorem Pc {r:List Nat} (h:all[i]? =some ⟨some d,op,ty,pos,after,none⟩) (hl:look env d=some v) (hv:qv G T own env H (some d) ty op=some v) (hr:eG G T own all env H r):eG G T own all env H (i::r):=
 ⟨⟨_,h,by simp only[qg,hv,Option.bind_some,hl]⟩,hr⟩
theorem M8 {r:List Nat} {dj:Nat} {want:Bool} {u:SV} (h:all[i]? =some ⟨some d,op,ty,pos,after,some (j,want)⟩) (h1:(all[j]?).bind (·.dst)=some dj) (h2:look env dj=some (.bool want)) (hl:look env d=some u) (hv:qv G T own env H (some d) ty op=some v) (he:u=v) (hr:eG G T own all env H r):eG G T own all env H (i::r):=
 ⟨⟨_,h,by simp only[qg,h1,oc,h2,yF,beq_self_eq_true,yH,hv,Option.bind_some,hl,he]⟩,hr⟩
theorem Ew {r:List Nat} {dj:Nat} {want:Bool} {u u2:SV} {b:Option Bool} (h:all[i]? =some ⟨some d,op,ty,pos,after,some (j,want)⟩) (h1:(all[j]?).bind (·.dst)=some dj) (h2:look env dj=some u) (h3:yF u=some b) (hb:(b==some want)=false) (hl:look env d=some u2) (he:u2= .undef) (hr:eG G T own all env H r):eG G T own all env H (i::r):=
 ⟨⟨_,h,by simp only[qg,h1,oc,h2,h3,hb,tM,Option.bind_some,hl,he]⟩,hr⟩
theorem Hz {r:List Nat} {dj:Nat} {want b:Bool} (h:all[i]? =some ⟨some d,op,ty,pos,after,some (j,want)⟩) (h1:(all[j]?).bind (·.dst)=some dj) (h2:look env dj=some (.bool b)) (hl:look env d=some (gv b want v)) (hv:b=want→qv G T own env H (some d) ty op=some v) (hr:eG G T own all env H r):eG G T own all env H (i::r):=by
 by_cases hw:b=want
 ·subst hw
  rw[iI] at hl
  exact M8 h h1 h2 hl (hv rfl) rfl hr
 ·have e:gv b want v= .undef:=by cases b<;>cases want<;>first|rfl|exact(hw rfl).elim
  exact Ew h h1 h2 rfl (by cases b<;>cases want<;>first|rfl|exact(hw rfl).elim) hl e hr
theorem HA {r:List Nat} {dj:Nat} {want b b1 w1:Bool} (h:all[i]? =some ⟨some d,op,ty,pos,after,some (j,want)⟩) (h1:(all[j]?).bind (·.dst)=some dj) (h2:look env dj=some (gv b1 w1 (.bool b))) (hl:look env d=some (gv b1 w1 (gv b want v))) (hv:b1=w1→b=want→qv G T own env H (some d) ty op=some v) (hr:eG G T own all env H r):eG G T own all env H (i::r):=by
 by_cases hw:b1=w1
 ·subst hw
  rw[iI] at hl h2
  exact Hz h h1 h2 hl (hv rfl) hr
 ·have e:∀ x,gv b1 w1 x= .undef:=fun x=>by cases b1<;>cases w1<;>first|rfl|exact(hw rfl).elim
  rw[e] at h2
  exact Ew h h1 h2 rfl rfl hl (e _) hr
theorem Ny {r:List Nat} {dj:Nat} {want b b1 w1 b2 w2:Bool} (h:all[i]? =some ⟨some d,op,ty,pos,after,some (j,want)⟩) (h1:(all[j]?).bind (·.dst)=some dj) (h2:look env dj=some (gv b1 w1 (gv b2 w2 (.bool b)))) (hl:look env d=some (gv b1 w1 (gv b2 w2 (gv b want v)))) (hv:b1=w1→b2=w2→b=want→qv G T own env H (some d) ty op=some v) (hr:eG G T own all env H r):eG G T own all env H (i::r):=by
 by_cases hw:b1=w1
 ·subst hw
  rw[iI] at hl h2
  exact HA h h1 h2 hl (hv rfl) hr
 ·have e:∀ x,gv b1 w1 x= .undef:=fun x=>by cases b1<;>cases w1<;>first|rfl|exact(hw rfl).elim
  rw[e] at h2
  exact Ew h h1 h2 rfl rfl hl (e _) hr
def ou (P:Program) (G:Gl) (T:bX) (own:List Nat) (all:List Oper) (n m:Nat) (ex:List Nat) (o:Oper) (env:Env) (H:List av) (K:Env→List av→Prop):Prop:=
 ∃ v,qg G T own all o env H=some v∧fF P G T own all n m ex (cE o.dst v env) H K
theorem QN {m2:Nat} (hs:CM own all m ex=some o) (hm:m+1=m2) (h:(ou P G T own all) n m2 ex o env H K):(fF P G T own all) (n+1) m ex env H K:=fun L hL=>by
 subst hm
 obtain⟨v,hv,h⟩:=h
 obtain⟨h1,h2,h3,h4⟩:=vO hs
 exact .inl ⟨m,_,v,h1,qF hL h2,h3,sY hL h4,hv,h (m::L) (Eu hL)⟩
theorem Pl (hf:eB own m ex 0 all=some i) (ho:all[i]? =some o) (h:(ou P G T own all) n m (i::ex) o env H K):(fF P G T own all) (n+1) m ex env H K:=fun L hL=>by
 obtain⟨v,hv,h⟩:=h
 obtain⟨k,o,h1,h2,h3,h4,h5⟩:=lp hf
 rw[Nat.zero_add] at h1
 subst h1
 rw[ho] at h2
 cases h2
 exact .inl ⟨i,_,v,ho,DW hL h3,h4,sY hL h5,hv,h (i::L) (C5 hL i)⟩
theorem LA {m2:Nat} (hm:fB m ex=true) (h2:m+1=m2) (h:(fF P G T own all) n m2 ex env H K):(fF P G T own all) n m ex env H K:=Ic hm (h2 ▸ h)
theorem RI (hv:qv G T own env H (some d) ty op=some v) (h:(fF P G T own all) n m ex ((d,v)::env) H K):(ou P G T own all) n m ex ⟨some d,op,ty,pos,after,none⟩ env H K:=⟨v,hv,h⟩
theorem Kf {dj:Nat} {want:Bool} (h1:(all[j]?).bind (·.dst)=some dj) (h2:look env dj=some (.bool want)) (hv:qv G T own env H (some d) ty op=some v) (h:(fF P G T own all) n m ex ((d,v)::env) H K):(ou P G T own all) n m ex ⟨some d,op,ty,pos,after,some (j,want)⟩ env H K:=
 ⟨v,by simp only[qg,h1,oc,h2,yF,beq_self_eq_true,yH];exact hv,h⟩
theorem tz {dj:Nat} {want:Bool} {u:SV} {b:Option Bool} (h1:(all[j]?).bind (·.dst)=some dj) (h2:look env dj=some u) (h3:yF u=some b) (hb:(b==some want)=false) (h:(fF P G T own all) n m ex ((d,.undef)::env) H K):(ou P G T own all) n m ex ⟨some d,op,ty,pos,after,some (j,want)⟩ env H K:=
 ⟨.undef,by simp only[qg,h1,oc,h2,h3,hb,tM],h⟩
theorem Nr {dj:Nat} {want b:Bool} (h1:(all[j]?).bind (·.dst)=some dj) (h2:look env dj=some (.bool b)) (hv:b=want→qv G T own env H (some d) ty op=some v) (h:(fF P G T own all) n m ex ((d,gv b want v)::env) H K):(ou P G T own all) n m ex ⟨some d,op,ty,pos,after,some (j,want)⟩ env H K:=by
 by_cases hw:b=want
 ·subst hw
  rw[iI] at h
  exact Kf h1 h2 (hv rfl) h
 ·have e:gv b want v= .undef:=by cases b<;>cases want<;>first|rfl|exact(hw rfl).elim
  rw[e] at h
  exact tz h1 h2 rfl (by cases b<;>cases want<;>first|rfl|exact(hw rfl).elim) h
theorem Ns {dj:Nat} {want b b1 w1:Bool} (h1:(all[j]?).bind (·.dst)=some dj) (h2:look env dj=some (gv b1 w1 (.bool b))) (hv:b1=w1→b=want→qv G T own env H (some d) ty op=some v) (h:(fF P G T own all) n m ex ((d,gv b1 w1 (gv b want v))::env) H K):(ou P G T own all) n m ex ⟨some d,op,ty,pos,after,some (j,want)⟩ env H K:=by
 by_cases hw:b1=w1
 ·subst hw
  rw[iI] at h h2
  exact Nr h1 h2 (hv rfl) h
 ·have e:∀ x,gv b1 w1 x= .undef:=fun x=>by cases b1<;>cases w1<;>first|rfl|exact(hw rfl).elim
  rw[e] at h h2
  exact tz h1 h2 rfl rfl h
theorem Qn {dj:Nat} {want b b1 w1 b2 w2:Bool} (h1:(all[j]?).bind (·.dst)=some dj) (h2:look env dj=some (gv b1 w1 (gv b2 w2 (.bool b)))) (hv:b1=w1→b2=w2→b=want→qv G T own env H (some d) ty op=some v) (h:(fF P G T own all) n m ex ((d,gv b1 w1 (gv b2 w2 (gv b want v)))::env) H K):(ou P G T own all) n m ex ⟨some d,op,ty,pos,after,some (j,want)⟩ env H K:=by
 by_cases hw:b1=w1
 ·subst hw
  rw[iI] at h h2
  exact Ns h1 h2 (hv rfl) h
 ·have e:∀ x,gv b1 w1 x= .undef:=fun x=>by cases b1<;>cases w1<;>first|rfl|exact(hw rfl).elim
  rw[e] at h h2
  exact tz h1 h2 rfl rfl h
theorem ou.sq (he:jJ env env2):(ou P G T own all) n m ex o env H (fun env H=>(Out P G T own nt ρ C rs R) k .normal env H)→(ou P G T own all) n m ex o env2 H (fun env H=>(Out P G T own nt ρ C rs R) k .normal env H):=fun⟨v,h1,h2⟩=>
 ⟨v,by rw[← kR (env:=env) (env2:=env2) (fun t _=>he t)];exact h1,fun L hL=>Dr.sq (K:=(fun env H=>(Out P G T own nt ρ C rs R) k .normal env H)) (fun a b H he hk=>Out.sq (k:=k) he hk) (he.put _ _) (h2 L hL)⟩
theorem Qm {dj:Nat} {want b:Bool} (h1:(all[j]?).bind (·.dst)=some dj) (h2:look env dj=some (.bool b)) (h:b=true→(ou P G T own all) n m ex ⟨some d,op,ty,pos,after,some (j,want)⟩ ((dj,.bool true)::env) H (fun env H=>(Out P G T own nt ρ C rs R) k .normal env H)) (h':b=false→(ou P G T own all) n m ex ⟨some d,op,ty,pos,after,some (j,want)⟩ ((dj,.bool false)::env) H (fun env H=>(Out P G T own nt ρ C rs R) k .normal env H)):(ou P G T own all) n m ex ⟨some d,op,ty,pos,after,some (j,want)⟩ env H (fun env H=>(Out P G T own nt ρ C rs R) k .normal env H):=by
 cases b with
 |true=>exact ou.sq (jJ.nj h2) (h rfl)
 |false=>exact ou.sq (jJ.nj h2) (h' rfl)
theorem RH {dj:Nat} {want:Bool} {a:Prop} {inst:Decidable a} (h1:(all[j]?).bind (·.dst)=some dj) (h2:look env dj=some (.bool (decide a))) (h:a→(ou P G T own all) n m ex ⟨some d,op,ty,pos,after,some (j,want)⟩ ((dj,.bool true)::env) H (fun env H=>(Out P G T own nt ρ C rs R) k .normal env H)) (h':¬ a→(ou P G T own all) n m ex ⟨some d,op,ty,pos,after,some (j,want)⟩ ((dj,.bool false)::env) H (fun env H=>(Out P G T own nt ρ C rs R) k .normal env H)):(ou P G T own all) n m ex ⟨some d,op,ty,pos,after,some (j,want)⟩ env H (fun env H=>(Out P G T own nt ρ C rs R) k .normal env H):=
 Qm h1 h2 (fun e=>h (of_decide_eq_true e)) (fun e=>h' (of_decide_eq_false e))
def Ld (P:Program) (G:Gl) (T:bX) (own:List Nat) (all:List Oper) (n m:Nat) (ex:List Nat) (j:Nat) (o:Oper) (env:Env) (H:List av) (K:Env→List av→Prop):Prop:=
 ll P G T own all o env H fun x H'=>yx G T own all j m ex (cE o.dst x env) H'∧fF P G T own all n m (j::ex) (cE o.dst x env) H' K
theorem Pf (hf:eB own m ex 0 all=none) (hr:eY m ex 0 all=[j]) (ho:all[j]? =some o) (h:(Ld P G T own all) n m ex j o env H K):(fF P G T own all) (n+1) m ex env H K:=Pj hf hr ho h
theorem Ph {j2:Nat} {o2:Oper} (hf:eB own m ex 0 all=none) (hr:eY m ex 0 all=[j,j2]) (ho:all[j]? =some o) (ho2:all[j2]? =some o2) (h:(Ld P G T own all) n m ex j o env H K) (h2:(Ld P G T own all) n m ex j2 o2 env H K):(fF P G T own all) (n+1) m ex env H K:=Pk hf hr ho ho2 h h2
variable {i0:Nat}
theorem Ld.sq (he:jJ env env2):(Ld P G T own all) n m ex i0 o env H (fun env H=>(Out P G T own nt ρ C rs R) k .normal env H)→(Ld P G T own all) n m ex i0 o env2 H (fun env H=>(Out P G T own nt ρ C rs R) k .normal env H):=fun h=>
 rr (fun t _=>he t) (kK (fun x H' hx=>⟨by
  have h1:=hx.1
  unfold yx at h1 ⊢
  revert h1
  generalize C2 own all (cT (kA all) i0) m++CZ own all (cT (kA all) i0) ex=l
  intro h1
  induction l with
  |nil=>trivial
  |cons a l ih=>
   obtain⟨⟨o',h2,h3⟩,h4⟩:=h1
   refine⟨⟨o',h2,?_⟩,ih h4⟩
   rw[← kR (env:=cE o.dst x env) (env2:=cE o.dst x env2) (fun t _=>(he.put _ _) t),h3]
   cases o'.dst with
   |none=>rfl
   |some d=>exact(he.put _ _) d,fun L hL=>Dr.sq (K:=(fun env H=>(Out P G T own nt ρ C rs R) k .normal env H)) (fun a b H he hk=>Out.sq (k:=k) he hk) (he.put _ _) (hx.2 L hL)⟩) h)
theorem PB {dst:Option Nat} (h:ll P G T own all ⟨dst,op,ty,pos,after,none⟩ env H fun x H'=>yx G T own all i0 m ex (cE dst x env) H'∧(fF P G T own all) n m (i0::ex) (cE dst x env) H' K):(Ld P G T own all) n m ex i0 ⟨dst,op,ty,pos,after,none⟩ env H K:=h
theorem Ol {dst:Option Nat} {dj:Nat} {want:Bool} (h1:(all[j]?).bind (·.dst)=some dj) (h2:look env dj=some (.bool want)) (h:ll P G T own all ⟨dst,op,ty,pos,after,none⟩ env H fun x H'=>yx G T own all i0 m ex (cE dst x env) H'∧(fF P G T own all) n m (i0::ex) (cE dst x env) H' K):(Ld P G T own all) n m ex i0 ⟨dst,op,ty,pos,after,some (j,want)⟩ env H K:=OV h1 h2 h
theorem Mg {dst:Option Nat} {dj:Nat} {want:Bool} {u:SV} {bo:Option Bool} (h1:(all[j]?).bind (·.dst)=some dj) (h2:look env dj=some u) (h3:yF u=some bo) (hb:(bo==some want)=false) (h:yx G T own all i0 m ex (cE dst .undef env) H∧(fF P G T own all) n m (i0::ex) (cE dst .undef env) H K):(Ld P G T own all) n m ex i0 ⟨dst,op,ty,pos,after,some (j,want)⟩ env H K:=MX h1 h2 h3 hb h
theorem QT {dst:Option Nat} {dj:Nat} {want b1 w1:Bool} {u:SV} (h1:(all[j]?).bind (·.dst)=some dj) (h2:look env dj=some (gv b1 w1 u)) (h:∀ c,b1=c→(Ld P G T own all) n m ex i0 ⟨dst,op,ty,pos,after,some (j,want)⟩ env H K):(Ld P G T own all) n m ex i0 ⟨dst,op,ty,pos,after,some (j,want)⟩ env H K:=h _ rfl
theorem PA {dst:Option Nat} {dj:Nat} {want b:Bool} (h1:(all[j]?).bind (·.dst)=some dj) (h2:look env dj=some (.bool b)) (h:b=true→(Ld P G T own all) n m ex i0 ⟨dst,op,ty,pos,after,some (j,want)⟩ ((dj,.bool true)::env) H (fun env H=>(Out P G T own nt ρ C rs R) k .normal env H)) (h':b=false→(Ld P G T own all) n m ex i0 ⟨dst,op,ty,pos,after,some (j,want)⟩ ((dj,.bool false)::env) H (fun env H=>(Out P G T own nt ρ C rs R) k .normal env H)):(Ld P G T own all) n m ex i0 ⟨dst,op,ty,pos,after,some (j,want)⟩ env H (fun env H=>(Out P G T own nt ρ C rs R) k .normal env H):=by
 cases b with
 |true=>exact Ld.sq (jJ.nj h2) (h rfl)
 |false=>exact Ld.sq (jJ.nj h2) (h' rfl)
theorem QS {dst:Option Nat} {dj:Nat} {want:Bool} {a:Prop} {inst:Decidable a} (h1:(all[j]?).bind (·.dst)=some dj) (h2:look env dj=some (.bool (decide a))) (h:a→(Ld P G T own all) n m ex i0 ⟨dst,op,ty,pos,after,some (j,want)⟩ ((dj,.bool true)::env) H (fun env H=>(Out P G T own nt ρ C rs R) k .normal env H)) (h':¬ a→(Ld P G T own all) n m ex i0 ⟨dst,op,ty,pos,after,some (j,want)⟩ ((dj,.bool false)::env) H (fun env H=>(Out P G T own nt ρ C rs R) k .normal env H)):(Ld P G T own all) n m ex i0 ⟨dst,op,ty,pos,after,some (j,want)⟩ env H (fun env H=>(Out P G T own nt ρ C rs R) k .normal env H):=
 PA h1 h2 (fun e=>h (of_decide_eq_true e)) (fun e=>h' (of_decide_eq_false e))
end
end
section
abbrev dP:=List (Nat×Nat)
mutual
inductive bF (H:List av) (n:Nat) (ks:dP):SV→SV→Prop
 |same (x:SV) (h:x.under n=true):bF H n ks x x
 |sl (id g off len sz:Nat) (vals ys:List SV) (hb:H[id]? =some (.cells g sz vals)) (hn:n≤id) (hk:∀ p∈ks,p.1≠id) (h:b7 H n ks ((vals.drop off).take len) ys):bF H n ks (.sl id g off len) (.list sz ys)
 |Jb (i id d g off len sz:Nat) (vals:List SV) (hi:ks[i]? =some (id,d)) (hb:H[id]? =some (.cells g sz vals)) (hd:d≤off):bF H n ks (.sl id g off len) (.sl (n+i) 0 (off - d) len)
 |E5 (i id d g j o sz:Nat) (vals:List SV) (hi:ks[i]? =some (id,d)) (hb:H[id]? =some (.cells g sz vals)) (hd:d≤j):bF H n ks (.ptr id g j o) (.ptr (n+i) 0 (j - d) o)
 |E4 (i id d:Nat) (kd:Option IntKind) (es:List (SV×SV)) (hi:ks[i]? =some (id,d)) (hb:H[id]? =some (.map kd es)):bF H n ks (.map id) (.map (n+i))
 |nil (sz:Nat):bF H n ks .nil (.list sz [])
 |agg (xs ys:List SV) (h:b7 H n ks xs ys):bF H n ks (.agg xs) (.agg ys)
 |tuple (xs ys:List SV) (h:b7 H n ks xs ys):bF H n ks (.tuple xs) (.tuple ys)
 |list (sz:Nat) (xs ys:List SV) (h:b7 H n ks xs ys):bF H n ks (.list sz xs) (.list sz ys)
 |ptr (id g j sz:Nat) (vals:List SV) (x y:SV) (hb:H[id]? =some (.cells g sz vals)) (hn:n≤id) (hk:∀ p∈ks,p.1≠id) (hx:vals[j]? =some x) (h:bF H n ks x y):bF H n ks (.ptr id g j 0) (.gM y)
 |fn (f:Fn) (xs ys us vs:List SV) (h1:b7 H n ks xs us) (h2:b7 H n ks ys vs):bF H n ks (.fn f xs ys) (.fn f us vs)
inductive b7 (H:List av) (n:Nat) (ks:dP):List SV→List SV→Prop
 |nil:b7 H n ks [] []
 |cons (x y:SV) (xs ys:List SV) (h:bF H n ks x y) (t:b7 H n ks xs ys):b7 H n ks (x::xs) (y::ys)
end
theorem b7.same {H:List av} {n:Nat} {ks:dP}:∀ {xs:List SV},SV.aj n xs=true→b7 H n ks xs xs
 |[],_=> .nil
 |x::xs,h=>by
  simp only[SV.aj,Bool.and_eq_true] at h
  exact .cons _ _ _ _ (.same _ h.1) (b7.same h.2)
theorem b7.map {α:Type} {H:List av} {n:Nat} {ks:dP} {f g:α→SV}:∀ {l:List α},(∀ a∈l,bF H n ks (f a) (g a))→b7 H n ks (l.map f) (l.map g)
 |[],_=> .nil
 |x::xs,h=> .cons _ _ _ _ (h x (by simp)) (b7.map fun a ha=>h a (by simp[ha]))
theorem b7.length {H:List av} {n:Nat} {ks:dP}:∀ {xs ys:List SV},b7 H n ks xs ys→ys.length=xs.length
 |[],ys,h=>by cases h;rfl
 |x::xs,ys,h=>by cases h;rename_i h1 h2;simp[b7.length h2]
theorem b7.drop {H:List av} {n:Nat} {ks:dP}:∀ {xs ys:List SV} (d:Nat),b7 H n ks xs ys→b7 H n ks (xs.drop d) (ys.drop d)
 |[],ys,d,h=>by cases h;simpa using b7.nil
 |x::xs,ys,0,h=>h
 |x::xs,ys,d+1,h=>by cases h;rename_i h1 h2;exact b7.drop d h2
inductive iw (H:List av) (n:Nat) (ks:dP):List (SV×SV)→List (SV×SV)→Prop
 |nil:iw H n ks [] []
 |cons (k x y:SV) (xs ys:List (SV×SV)) (hk:k.under n=true) (h:bF H n ks x y) (t:iw H n ks xs ys):iw H n ks ((k,x)::xs) ((k,y)::ys)
theorem iw.keys {H:List av} {n:Nat} {ks:dP} {kd:Option IntKind}:∀ {xs ys:List (SV×SV)},iw H n ks xs ys→(∀ p∈xs,eU kd p.1=true)→∀ p∈ys,eU kd p.1=true
 |[],ys,h,hk,p,hp=>by cases h;cases hp
 |(k,x)::xs,ys,h,hk,p,hp=>by
  cases h
  rename_i y ys h1 h2 h3
  rcases List.mem_cons.1 hp with rfl|hp
  ·exact hk (k,x) (List.mem_cons_self ..)
  ·exact iw.keys h3 (fun q hq=>hk q (List.mem_cons_of_mem _ hq)) p hp
inductive bH (H:List av) (n:Nat) (ks:dP):dP→List av→Prop
 |nil:bH H n ks [] []
 |cells (id d g sz:Nat) (vals ys:List SV) (r:dP) (bs:List av) (hb:H[id]? =some (.cells g sz vals)) (hn:n≤id) (hd:d≤vals.length) (hv:b7 H n ks (vals.drop d) ys) (t:bH H n ks r bs):bH H n ks ((id,d)::r) (.cells 0 sz ys::bs)
 |map (id:Nat) (kd:Option IntKind) (es fs:List (SV×SV)) (r:dP) (bs:List av) (hb:H[id]? =some (.map kd es)) (hn:n≤id) (hv:iw H n ks es fs) (t:bH H n ks r bs):bH H n ks ((id,0)::r) (.map kd fs::bs)
theorem bH.get {H:List av} {n:Nat} {ks:dP}:∀ {r:dP} {bs:List av},bH H n ks r bs→∀ {i id d:Nat},r[i]? =some (id,d)→n≤id∧
 ((∃ g sz vals ys,H[id]? =some (.cells g sz vals)∧d≤vals.length∧b7 H n ks (vals.drop d) ys∧bs[i]? =some (.cells 0 sz ys))∨(∃ kd es fs,d=0∧H[id]? =some (.map kd es)∧iw H n ks es fs∧bs[i]? =some (.map kd fs)))
 |[],bs,h,i,id,d,hi=>by simp at hi
 |p::r,bs,h,i,id,d,hi=>by
  cases h with
  |cells id' d' g sz vals ys r bs hb hn hd hv t=>
   cases i with
   |zero=>simp at hi;obtain⟨rfl,rfl⟩:=hi;exact⟨hn,.inl ⟨g,sz,vals,ys,hb,hd,hv,rfl⟩⟩
   |succ i=>simpa using t.get (i:=i) (by simpa using hi)
  |map id' kd es fs r bs hb hn hv t=>
   cases i with
   |zero=>simp at hi;obtain⟨rfl,rfl⟩:=hi;exact⟨hn,.inr ⟨kd,es,fs,rfl,hb,hv,rfl⟩⟩
   |succ i=>simpa using t.get (i:=i) (by simpa using hi)
theorem bH.length {H:List av} {n:Nat} {ks:dP}:∀ {r:dP} {bs:List av},bH H n ks r bs→bs.length=r.length
 |[],bs,h=>by cases h;rfl
 |p::r,bs,h=>by cases h<;>(rename_i t;simp[t.length])
section
variable {P:Program} {G:Gl} {T:bX} {own:List Nat} {nt B:Nat} {ρ:Option Nat} {C:Cx} {rs:List ResultVar} {R:SV→List av→Prop} {env env2:Env} {H X KB:List av} {ks:dP}
def Qp:av→Nat
 | .cells _ sz _=>sz
 |_=>0
def nz (θ:Nat→Option (Nat×Nat)) (Hall:List av) (n:Nat) (ks:dP) (i:Nat):Option (Nat×Nat):=
 if i<n then θ i else match ks[i - n]? with
  |some (id,d)=>(θ id).map fun p=>(p.1,p.2+d*((Hall[id]?).map Qp).getD 0)
  |none=>none
theorem lV {θ:Nat→Option (Nat×Nat)} {Hall:List av} {n i:Nat} (h:i<n):nz θ Hall n ks i=θ i:=if_pos h
theorem lU {θ:Nat→Option (Nat×Nat)} {Hall:List av} {n i id d:Nat} (h:ks[i]? =some (id,d)):nz θ Hall n ks (n+i)=(θ id).map fun p=>(p.1,p.2+d*((Hall[id]?).map Qp).getD 0):=by
 unfold nz
 rw[if_neg (by omega),Nat.add_sub_cancel_left,h]
structure dY (H X KB:List av) (ks:dP):Prop where
 kb:bH (H++X) H.length ks ks KB
 nd:(ks.map (·.1)).Nodup
theorem dY.inj (hk:dY H X KB ks) {i j id d d':Nat} (h1:ks[i]? =some (id,d)) (h2:ks[j]? =some (id,d')):i=j:=by
 have e1:(ks.map (·.1))[i]? =some id:=by rw[List.getElem?_map,h1];rfl
 have e2:(ks.map (·.1))[j]? =some id:=by rw[List.getElem?_map,h2];rfl
 obtain⟨l1,e1⟩:=List.getElem?_eq_some_iff.1 e1
 obtain⟨l2,e2⟩:=List.getElem?_eq_some_iff.1 e2
 exact(List.getElem_inj hk.nd).1 (e1.trans e2.symm)
theorem vm {θ:Nat→Option (Nat×Nat)} {w:World} (hk:dY H X KB ks) {b:Nat} (h:Cx.own ⟨nz θ (H++X) H.length ks,H++KB,w⟩ b):∃ id o,Cx.live ⟨θ,H++X,w⟩ id∧θ id=some (b,o)∧(id<H.length∨∃ p∈ks,p.1=id):=by
 obtain⟨id,o,⟨B,hB,hl⟩,ht⟩:=h
 have hB:(H++KB)[id]? =some B:=hB
 have ht:nz θ (H++X) H.length ks id=some (b,o):=ht
 by_cases hlt:id<H.length
 ·rw[lV hlt] at ht
  refine⟨id,o,⟨B,?_,hl⟩,ht,.inl hlt⟩
  show(H++X)[id]? =some B
  rw[List.getElem?_append_left hlt] at hB ⊢;exact hB
 ·obtain⟨i,rfl⟩:∃ i,id=H.length+i:=⟨id - H.length,by omega⟩
  rw[List.getElem?_append_right (by omega),Nat.add_sub_cancel_left] at hB
  have hi:i<ks.length:=by rw[← hk.kb.length];exact(List.getElem?_eq_some_iff.1 hB).1
  obtain⟨⟨id',d⟩,hid⟩:∃ p,ks[i]? =some p:=⟨ks[i],List.getElem?_eq_getElem hi⟩
  rw[lU hid] at ht
  cases hth:θ id' with
  |none=>rw[hth] at ht;cases ht
  |some p=>
   rw[hth] at ht
   obtain⟨b',o'⟩:=p
   simp at ht
   obtain⟨rfl,_⟩:=ht
   refine⟨id',o',?_,hth,.inr ⟨_,List.mem_of_getElem? hid,rfl⟩⟩
   obtain⟨_,h|h⟩:=hk.kb.get hid
   ·obtain⟨g,sz,vals,ys,h1,_⟩:=h;exact⟨_,h1,rfl⟩
   ·obtain⟨kd,es,fs,_,h1,_⟩:=h;exact⟨_,h1,rfl⟩
theorem mR {θ:Nat→Option (Nat×Nat)} {w:World} (hk:dY H X KB ks) {b:Nat} (h:Cx.qZ ⟨θ,H++X,w⟩ b):Cx.qZ ⟨nz θ (H++X) H.length ks,H++KB,w⟩ b:=
 ⟨h.1,fun ho=>by
  obtain⟨id,o,h1,h2,_⟩:=vm hk ho
  exact h.2 ⟨id,o,h1,h2⟩⟩
theorem BQ {θ:Nat→Option (Nat×Nat)} {w:World} (hc:aM ⟨θ,H++X,w⟩) (hk:dY H X KB ks) {id g sz b o:Nat} {vals:List SV} (hb:(H++X)[id]? =some (.cells g sz vals)) (hn:H.length≤id) (hno:∀ p∈ks,p.1≠id) (ht:θ id=some (b,o)):
 Cx.qZ ⟨nz θ (H++X) H.length ks,H++KB,w⟩ b:=by
 refine⟨dX.lt (hc.dQ id _ hb) rfl ht,fun ho=>?_⟩
 obtain⟨id',o',h1,h2,h3⟩:=vm hk ho
 have:=hc.inj id id' b o o' ⟨_,hb,rfl⟩ h1 ht h2
 subst this
 rcases h3 with h3|⟨p,hp,h3⟩
 ·omega
 ·exact hno p hp h3
theorem aB.fW {θ:Nat→Option (Nat×Nat)} {w:World} (hk:dY H X KB ks):(∀ x v,aB ⟨θ,H++X,w⟩ x v→x.under H.length=true→aB ⟨nz θ (H++X) H.length ks,H++KB,w⟩ x v)∧
 (∀ xs vs,ax ⟨θ,H++X,w⟩ xs vs→SV.aj H.length xs=true→ax ⟨nz θ (H++X) H.length ks,H++KB,w⟩ xs vs):=by
 have hget:∀ id:Nat,decide (id<H.length)=true→(H++X)[id]? =H[id]? ∧(H++KB)[id]? =H[id]? ∧nz θ (H++X) H.length ks id=θ id:=fun id h=>by
  have h:id<H.length:=by simpa using h
  exact⟨List.getElem?_append_left h,List.getElem?_append_left h,lV h⟩
 apply SV.both
 ·intro x h1 h2 h3 h4 h5 h6 v h hb
  cases x with
  |agg fs=>exact absurd rfl (h1 fs)
  |list n xs=>exact absurd rfl (h2 n xs)
  |gM y=>exact absurd rfl (h3 y)
  |fn f a b=>exact absurd rfl (h4 f a b)
  |tuple xs=>exact absurd rfl (h5 xs)
  |eC b clk born kd ks vs=>exact absurd rfl (h6 b clk born kd ks vs)
  |ptr id g i off=>obtain⟨e1,e2,e3⟩:=hget id hb;simp only[aB,e1,e2,e3] at h ⊢;exact h
  |sl id g off len=>obtain⟨e1,e2,e3⟩:=hget id hb;simp only[aB,e1,e2,e3] at h ⊢;exact h
  |map id=>obtain⟨e1,e2,e3⟩:=hget id hb;simp only[aB,e1,e2,e3] at h ⊢;exact h
  |it id=>obtain⟨e1,e2,e3⟩:=hget id hb;simp only[aB,e1,e2,e3] at h ⊢;exact h
  |_=>exact h
 ·intro fs ih v h hb
  simp only[aB] at h ⊢
  obtain⟨vs,h1,h2⟩:=h
  exact⟨vs,ih vs h1 hb,h2⟩
 ·intro sz xs ih v h hb
  simp only[aB] at h ⊢
  obtain⟨a,cap,h0,h1,h2,h3⟩:=h
  refine⟨a,cap,h0,h1,h2,?_⟩
  rcases h3 with h3|⟨b,o,vs,h3,h4,h5,h6,h7⟩
  ·exact .inl h3
  ·exact .inr ⟨b,o,vs,h3,ih vs h4 hb,h5,h6,mR hk h7⟩
 ·intro x ih v h hb
  simp only[aB] at h ⊢
  obtain⟨b,o,u,h0,h1,h2,h3,h4⟩:=h
  exact⟨b,o,u,h0,ih u h1 hb,h2,h3,mR hk h4⟩
 ·intro f xs ys ih1 ih2 v h hb
  simp only[SV.under,Bool.and_eq_true] at hb
  simp only[aB] at h ⊢
  obtain⟨us,vs,h0,h1,h2⟩:=h
  exact⟨us,vs,ih1 us h0 hb.1,ih2 vs h1 hb.2,h2⟩
 ·intro xs ih v h hb
  simp only[aB] at h ⊢
  obtain⟨vs,h0,h1⟩:=h
  exact⟨vs,ih vs h0 hb,h1⟩
 ·intro b clk born kd ks vs ih1 ih2 v h hb
  simp only[SV.under,Bool.and_eq_true] at hb
  simp only[aB] at h ⊢
  obtain⟨h0,h1,ents,h2,h3,h4,h5,h6,h7⟩:=h
  exact⟨h0,mR hk h1,ents,h2,h3,h4,ih1 _ h5 hb.1,ih2 _ h6 hb.2,h7⟩
 ·intro vs h _;simpa [ax] using h
 ·intro x xs ih1 ih2 vs h hb
  simp only[SV.aj,Bool.and_eq_true] at hb
  obtain⟨u,us,h1,h2,h3⟩:=ax.bg.1 h
  exact ax.bg.2 ⟨u,us,ih1 u h1 hb.1,ih2 us h2 hb.2,h3⟩
theorem bF.rep {θ:Nat→Option (Nat×Nat)} {w:World} (hc:aM ⟨θ,H++X,w⟩) (hk:dY H X KB ks):(∀ {x y:SV},bF (H++X) H.length ks x y→∀ v,aB ⟨θ,H++X,w⟩ x v→aB ⟨nz θ (H++X) H.length ks,H++KB,w⟩ y v)∧
 (∀ {xs ys:List SV},b7 (H++X) H.length ks xs ys→∀ vs,ax ⟨θ,H++X,w⟩ xs vs→ax ⟨nz θ (H++X) H.length ks,H++KB,w⟩ ys vs):=by
 have main:∀ {x y:SV},bF (H++X) H.length ks x y→∀ v,aB ⟨θ,H++X,w⟩ x v→aB ⟨nz θ (H++X) H.length ks,H++KB,w⟩ y v:=by
  intro x y h
  refine bF.rec (motive_1:=fun x y _=>∀ v,aB ⟨θ,H++X,w⟩ x v→aB ⟨nz θ (H++X) H.length ks,H++KB,w⟩ y v) (motive_2:=fun xs ys _=>∀ vs,ax ⟨θ,H++X,w⟩ xs vs→ax ⟨nz θ (H++X) H.length ks,H++KB,w⟩ ys vs) ?_ ?_ ?_ ?_ ?_ ?_ ?_ ?_ ?_ ?_ ?_ ?_ ?_ h
  ·intro x hx v hv;exact(aB.fW hk).1 _ _ hv hx
  ·intro id g off len sz vals ys hb hn hno hf ih v hv
   simp only[aB,hb] at hv
   obtain⟨_,hv⟩:=hv
   rcases hv with hv|⟨_,h1,a,cap,rfl,h2,h3,h4⟩
   ·exact absurd hv (Nat.lt_irrefl _)
   ·have hbk:=hc.dQ id _ hb
    rcases hbk with⟨_,rfl⟩|⟨b,o,cs,T',fr,vs,k1,k2,k3,k4,k5,k6⟩
    ·have:ys=[]:=by
      simp at hf
      cases hf
      rfl
     subst this
     have hlen:len=0:=by simp at h1;omega
     subst hlen
     simp only[aB]
     exact⟨a,cap,rfl,Nat.zero_le _,h3,by simp⟩
    ·have hr:=ih _ ((k4.drop off).take len)
     have hl:ys.length=len:=by
      rw[← hr.length,List.length_take,List.length_drop,k4.length];omega
     simp only[aB]
     refine⟨a,cap,by rw[hl],by omega,h3,?_⟩
     rcases h4 with h4|⟨b',o',cs',T2,fr2,e1,e2,e3,e4⟩
     ·left
      have:len=0:=by omega
      rw[← List.length_eq_zero_iff];omega
     ·have:(b',o')=(b,o):=by have:=e1.symm.trans k1;simpa using this
      cases this
      right
      refine⟨b,o+off*sz,_,e2,hr,fun u hu=>k5 u (List.mem_of_mem_drop (List.mem_of_mem_take hu)),?_,BQ hc hk hb hn hno k1⟩
      exact iP (fm k6 (fun u hu=>(k5 u hu).1) off (by rw[k4.length];omega)) len
  ·intro i id d g off len sz vals hi hb hd v hv
   simp only[aB,hb] at hv
   obtain⟨h0,hv⟩:=hv
   rcases hv with hv|⟨_,h1,a,cap,rfl,h2,h3,h4⟩
   ·exact absurd hv (Nat.lt_irrefl _)
   ·obtain⟨hn,hg|hg⟩:=hk.kb.get hi
    ·obtain⟨g',sz',vals',ys,e1,e2,e3,e4⟩:=hg
     rw[hb] at e1
     cases e1
     have hB:(H++KB)[H.length+i]? =some (.cells 0 sz ys):=by rw[List.getElem?_append_right (by omega),Nat.add_sub_cancel_left];exact e4
     simp only[aB,hB]
     have hyl:=e3.length
     rw[List.length_drop] at hyl
     obtain⟨k,rfl⟩:∃ k,off=d+k:=⟨off - d,by omega⟩
     rw[Nat.add_sub_cancel_left]
     refine⟨h0,.inr ⟨trivial,by omega,a,cap,rfl,h2,h3,?_⟩⟩
     rcases h4 with h4|⟨b',o',cs',T2,fr2,q1,q2,q3,q4⟩
     ·exact .inl ⟨h4.1,h4.2.elim (fun h=> .inl h) (fun h=> .inr (by omega))⟩
     ·refine .inr ⟨b',o'+d*sz,cs',T2,fr2,?_,?_,q3,?_⟩
      ·rw[lU hi,q1,hb];rfl
      ·rw[q2,Nat.add_mul,Nat.add_assoc]
      ·rw[← q4,Nat.add_assoc d k cap,Nat.add_mul d];omega
    ·obtain⟨kd,es,fs,_,e1,_⟩:=hg
     rw[hb] at e1;cases e1
  ·intro i id d g j o sz vals hi hb hd v hv
   simp only[aB,hb] at hv
   obtain⟨h0,hv⟩:=hv
   rcases hv with hv|⟨_,h1,b,oo,h2,h3⟩
   ·exact absurd hv (Nat.lt_irrefl _)
   ·obtain⟨hn,hg|hg⟩:=hk.kb.get hi
    ·obtain⟨g',sz',vals',ys,e1,e2,e3,e4⟩:=hg
     rw[hb] at e1
     cases e1
     have hB:(H++KB)[H.length+i]? =some (.cells 0 sz ys):=by rw[List.getElem?_append_right (by omega),Nat.add_sub_cancel_left];exact e4
     simp only[aB,hB]
     have hyl:=e3.length
     rw[List.length_drop] at hyl
     refine⟨h0,.inr ⟨trivial,by omega,b,oo+d*sz,?_,?_⟩⟩
     ·rw[lU hi,h2,hb];rfl
     ·rw[h3,show oo+j*sz+o=oo+d*sz+(j - d)*sz+o from by
       have:j=d+(j - d):=by omega
       conv=>lhs;rw[this,Nat.add_mul]
       omega]
    ·obtain⟨kd,es,fs,_,e1,_⟩:=hg
     rw[hb] at e1;cases e1
  ·intro i id d kd es hi hb v hv
   simp only[aB,hb] at hv
   obtain⟨h0,b,h1,h2⟩:=hv
   obtain⟨hn,hg|hg⟩:=hk.kb.get hi
   ·obtain⟨g',sz',vals',ys,e1,_⟩:=hg
    rw[hb] at e1;cases e1
   ·obtain⟨kd',es',fs,hd0,e1,e2,e4⟩:=hg
    rw[hb] at e1
    cases e1
    have hB:(H++KB)[H.length+i]? =some (.map kd fs):=by rw[List.getElem?_append_right (by omega),Nat.add_sub_cancel_left];exact e4
    simp only[aB,hB]
    exact⟨h0,b,by rw[lU hi,h1,hd0,Nat.zero_mul];rfl,h2⟩
  ·intro sz v hv
   simp only[aB] at hv ⊢
   exact⟨none,0,by rw[hv];rfl,Nat.le_refl _,Nat.zero_le _,by simp⟩
  ·intro xs ys hf ih v hv
   simp only[aB] at hv ⊢
   obtain⟨vs,h1,h2,h3⟩:=hv
   exact⟨vs,ih vs h1,h2,h3⟩
  ·intro xs ys hf ih v hv
   simp only[aB] at hv ⊢
   obtain⟨vs,h1,h3⟩:=hv
   exact⟨vs,ih vs h1,h3⟩
  ·intro sz xs ys hf ih v hv
   simp only[aB] at hv ⊢
   obtain⟨a,cap,rfl,h1,h2,h3⟩:=hv
   have hlen:=hf.length
   refine⟨a,cap,by rw[hlen],by omega,h2,?_⟩
   rcases h3 with rfl|⟨b,o,vs,e1,e2,e3,e4,e5⟩
   ·left;exact List.length_eq_zero_iff.1 (by simpa using hlen)
   ·exact .inr ⟨b,o,vs,e1,ih vs e2,e3,e4,mR hk e5⟩
  ·intro id g j sz vals x y hb hn hno hx hf ih v hv
   simp only[aB,hb] at hv
   obtain⟨_,hv⟩:=hv
   rcases hv with hv|⟨_,h1,b,o,h2,h3⟩
   ·exact absurd hv (Nat.lt_irrefl _)
   ·have hbk:=hc.dQ id _ hb
    rcases hbk with⟨hno',_⟩|⟨b',o',cs,T',fr,vs,k1,k2,k3,k4,k5,k6⟩
    ·have hno':θ id=none:=hno'
     rw[hno'] at h2;cases h2
    ·have:(b',o')=(b,o):=by have:=k1.symm.trans h2;simpa using this
     cases this
     obtain⟨u,g1,g2⟩:=k4.get hx
     simp only[aB]
     refine⟨b,o+j*sz,u,by rw[h3];rfl,ih u g2,(k5 u (List.mem_of_getElem? g1)).2,?_,BQ hc hk hb hn hno k1⟩
     exact iO k6 (fun u hu=>(k5 u hu).1) g1
  ·intro f xs ys us vs hx hy ih1 ih2 v hv
   simp only[aB] at hv ⊢
   obtain⟨asv,bs,h1,h2,h3⟩:=hv
   exact⟨asv,bs,ih1 asv h1,ih2 bs h2,h3⟩
  ·intro vs hv;exact hv
  ·intro x y xs ys hx hxs ih1 ih2 vs hv
   obtain⟨u,us,h1,h2,rfl⟩:=ax.bg.1 hv
   exact ax.bG (ih1 u h1) (ih2 us h2)
 refine⟨main,fun {xs}=>?_⟩
 induction xs with
 |nil=>intro ys h vs hv;cases h;exact hv
 |cons x xs ih=>
  intro ys h vs hv
  cases h
  rename_i y ys h1 h2
  obtain⟨u,us,e1,e2,rfl⟩:=ax.bg.1 hv
  exact ax.bG (main h1 u e1) (ih h2 us e2)
theorem iw.rep {θ:Nat→Option (Nat×Nat)} {w:World} (hc:aM ⟨θ,H++X,w⟩) (hk:dY H X KB ks):∀ {es fs:List (SV×SV)},iw (H++X) H.length ks es fs→∀ l,cg ⟨θ,H++X,w⟩ es l→cg ⟨nz θ (H++X) H.length ks,H++KB,w⟩ fs l
 |[],fs,h,l,hr=>by cases h;exact hr
 |(k,x)::es,fs,h,l,hr=>by
  cases h
  rename_i y ys h1 h2 h3
  simp only[cg] at hr ⊢
  obtain⟨e,es',a1,a2,a3,a4⟩:=hr
  exact⟨e,es',(aB.fW hk).1 _ _ a1 h1,(bF.rep hc hk).1 h2 _ a2,iw.rep hc hk h3 _ a3,a4⟩
theorem Cx.jq {θ:Nat→Option (Nat×Nat)} {w:World} (hc:aM ⟨θ,H++X,w⟩) (hk:dY H X KB ks) (hcl:closed H):aM ⟨nz θ (H++X) H.length ks,H++KB,w⟩∧∀ C:Cx,C.H.length≤H.length→Grow C ⟨θ,H++X,w⟩→Grow C ⟨nz θ (H++X) H.length ks,H++KB,w⟩:=by
 refine⟨⟨fun id B hB=>?_,fun i j b o o' hi hj h1 h2=>?_⟩,fun C hC hg=>⟨hg.os,hg.tape,hg.output,hg.size,fun b hb ho=>hg.Fz b hb ho,hg.shape,fun id B hB=>?_,fun id b o hn hl ht=>?_⟩⟩
 ·have hB:(H++KB)[id]? =some B:=hB
  by_cases hlt:id<H.length
  ·have hB':(H++X)[id]? =some B:=by rw[List.getElem?_append_left hlt] at hB ⊢;exact hB
   have hBH:H[id]? =some B:=by rw[List.getElem?_append_left hlt] at hB;exact hB
   have hb:=hc.dQ id B hB'
   have hbel:=hcl B (List.mem_of_getElem? hBH)
   cases B with
   |dead=>trivial
   |obj o=>obtain⟨b,h1,h2⟩:=hb;exact⟨b,(lV hlt).trans h1,h2⟩
   |cells g sz vals=>
    rcases hb with⟨h1,h2⟩|⟨b,o,cs,T,fr,vs,h1,h2,h3,h4,h5,h6⟩
    ·exact .inl ⟨(lV hlt).trans h1,h2⟩
    ·exact .inr ⟨b,o,cs,T,fr,vs,(lV hlt).trans h1,h2,h3,(aB.fW hk).2 _ _ h4 hbel,h5,h6⟩
   |map kd es=>
    obtain⟨b,ents,clk,h1,h2,h3,h4⟩:=hb
    have hE:∀ {es:List (SV×SV)} {l:List MapEntry},cg ⟨θ,H++X,w⟩ es l→dq H.length es=true→cg ⟨nz θ (H++X) H.length ks,H++KB,w⟩ es l:=by
     intro es
     induction es with
     |nil=>intro l h _;exact h
     |cons p es ih=>
      intro l h hb
      obtain⟨q,x⟩:=p
      simp only[cg] at h ⊢
      simp only[dq,Bool.and_eq_true] at hb
      obtain⟨e,es',a1,a2,a3,a4⟩:=h
      exact⟨e,es',(aB.fW hk).1 _ _ a1 hb.1.1,(aB.fW hk).1 _ _ a2 hb.1.2,ih a3 hb.2,a4⟩
    exact⟨b,ents,clk,(lV hlt).trans h1,h2,hE h3 hbel,h4⟩
  ·obtain⟨i,rfl⟩:∃ i,id=H.length+i:=⟨id - H.length,by omega⟩
   rw[List.getElem?_append_right (by omega),Nat.add_sub_cancel_left] at hB
   have hi:i<ks.length:=by rw[← hk.kb.length];exact(List.getElem?_eq_some_iff.1 hB).1
   obtain⟨⟨id',d⟩,hid⟩:∃ p,ks[i]? =some p:=⟨ks[i],List.getElem?_eq_getElem hi⟩
   obtain⟨hn,hg|hg⟩:=hk.kb.get hid
   ·obtain⟨g,sz,vals,ys,e1,e2,e3,e4⟩:=hg
    rw[e4] at hB
    cases hB
    rcases hc.dQ id' _ e1 with⟨h1,rfl⟩|⟨b,o,cs,T,fr,vs,h1,h2,h3,h4,h5,h6⟩
    ·left
     refine⟨by show nz _ _ _ _ _=none;rw[lU hid,show θ id'=none from h1];rfl,?_⟩
     have:=e3.length
     simp at this
     exact this
    ·right
     refine⟨b,o+d*sz,cs,T,fr,vs.drop d,?_,h2,h3,(bF.rep hc hk).2 e3 _ (h4.drop d),fun u hu=>h5 u (List.mem_of_mem_drop hu),?_⟩
     ·show nz _ _ _ _ _=_
      rw[lU hid,show θ id'=some (b,o) from h1,e1];rfl
     ·exact fm h6 (fun u hu=>(h5 u hu).1) d (by rw[h4.length];exact e2)
   ·obtain⟨kd,es,fs,rfl,e1,e2,e4⟩:=hg
    rw[e4] at hB
    cases hB
    obtain⟨b,ents,clk,h1,h2,h3,h4,h5⟩:=hc.dQ id' _ e1
    refine⟨b,ents,clk,?_,h2,iw.rep hc hk e2 _ h3,e2.keys h4,h5⟩
    show nz _ _ _ _ _=_
    rw[lU hid,show θ id'=some (b,0) from h1,Nat.zero_mul];rfl
 ·
  have src:∀ (i b o:Nat),Cx.live ⟨nz θ (H++X) H.length ks,H++KB,w⟩ i→nz θ (H++X) H.length ks i=some (b,o)→∃ id o',Cx.live ⟨θ,H++X,w⟩ id∧θ id=some (b,o')∧((i<H.length∧id=i)∨(H.length≤i∧H.length≤id∧∃ d,ks[i - H.length]? =some (id,d))):=by
   intro i b o ⟨B,hB,hl⟩ ht
   have hB:(H++KB)[i]? =some B:=hB
   by_cases hlt:i<H.length
   ·rw[lV hlt] at ht
    refine⟨i,o,⟨B,?_,hl⟩,ht,.inl ⟨hlt,rfl⟩⟩
    show(H++X)[i]? =some B
    rw[List.getElem?_append_left hlt] at hB ⊢;exact hB
   ·obtain⟨i,rfl⟩:∃ k,i=H.length+k:=⟨i - H.length,by omega⟩
    rw[List.getElem?_append_right (by omega),Nat.add_sub_cancel_left] at hB
    have hi:i<ks.length:=by rw[← hk.kb.length];exact(List.getElem?_eq_some_iff.1 hB).1
    obtain⟨⟨id',d⟩,hid⟩:∃ p,ks[i]? =some p:=⟨ks[i],List.getElem?_eq_getElem hi⟩
    rw[lU hid] at ht
    cases hth:θ id' with
    |none=>rw[hth] at ht;cases ht
    |some p=>
     rw[hth] at ht
     obtain⟨b',o'⟩:=p
     simp at ht
     obtain⟨rfl,_⟩:=ht
     obtain⟨hn,hg⟩:=hk.kb.get hid
     refine⟨id',o',?_,hth,.inr ⟨by omega,hn,d,by rw[Nat.add_sub_cancel_left];exact hid⟩⟩
     rcases hg with⟨g,sz,vals,ys,h1,_⟩|⟨kd,es,fs,_,h1,_⟩
     ·exact⟨_,h1,rfl⟩
     ·exact⟨_,h1,rfl⟩
  obtain⟨id1,o1,l1,t1,c1⟩:=src i b o hi h1
  obtain⟨id2,o2,l2,t2,c2⟩:=src j b o' hj h2
  have:=hc.inj id1 id2 b o1 o2 l1 l2 t1 t2
  subst this
  rcases c1 with⟨c1,e1⟩|⟨c1,e1,d1,f1⟩<;>rcases c2 with⟨c2,e2⟩|⟨c2,e2,d2,f2⟩
  ·omega
  ·omega
  ·omega
  ·have:=hk.inj f1 f2
   omega
 ·obtain⟨B',h1,h2⟩:=hg.ids id B hB
  have hlt:id<H.length:=Nat.lt_of_lt_of_le (List.getElem?_eq_some_iff.1 hB).1 hC
  have h1':(H++X)[id]? =some B':=h1
  refine⟨B',?_,?_⟩
  ·show(H++KB)[id]? =some B'
   rw[List.getElem?_append_left hlt] at h1' ⊢;exact h1'
  ·show fG _ _ (nz _ _ _ _ _) _ _
   rw[lV hlt];exact h2
 ·obtain⟨id',o',h1,h2,h3⟩:=vm hk (⟨id,o,hl,ht⟩:Cx.own ⟨nz θ (H++X) H.length ks,H++KB,w⟩ b)
  have hid:C.H[id']? =none:=by
   rcases h3 with h3|⟨p,hp,h3⟩
   ·
    obtain⟨B,hB,hlv⟩:=hl
    by_cases hlt:id<H.length
    ·have ht':θ id=some (b,o):=by rw[← lV (θ:=θ) (ks:=ks) (Hall:=H++X) hlt];exact ht
     have hB':(H++X)[id]? =some B:=by
      have hB0:(H++KB)[id]? =some B:=hB
      rw[List.getElem?_append_left hlt] at hB0 ⊢;exact hB0
     have:=hc.inj id id' b o o' ⟨B,hB',hlv⟩ h1 ht' h2
     rw[← this];exact hn
    ·
     obtain⟨i,rfl⟩:∃ i,id=H.length+i:=⟨id - H.length,by omega⟩
     have hB0:(H++KB)[H.length+i]? =some B:=hB
     rw[List.getElem?_append_right (by omega),Nat.add_sub_cancel_left] at hB0
     have hi:i<ks.length:=by rw[← hk.kb.length];exact(List.getElem?_eq_some_iff.1 hB0).1
     obtain⟨⟨id2,d⟩,hid⟩:∃ p,ks[i]? =some p:=⟨ks[i],List.getElem?_eq_getElem hi⟩
     have ht':nz θ (H++X) H.length ks (H.length+i)=some (b,o):=ht
     rw[lU hid] at ht'
     cases hth:θ id2 with
     |none=>rw[hth] at ht';cases ht'
     |some p=>
      rw[hth] at ht'
      obtain⟨b',o2⟩:=p
      simp at ht'
      obtain⟨rfl,_⟩:=ht'
      obtain⟨hn2,hg2⟩:=hk.kb.get hid
      have hl2:Cx.live ⟨θ,H++X,w⟩ id2:=by
       rcases hg2 with⟨g,sz,vals,ys,q1,_⟩|⟨kd,es,fs,_,q1,_⟩
       ·exact⟨_,q1,rfl⟩
       ·exact⟨_,q1,rfl⟩
      have:=hc.inj id2 id' b' o2 o' hl2 h1 hth h2
      omega
   ·obtain⟨i,hi⟩:=List.getElem?_of_mem hp
    obtain⟨q,d⟩:=p
    simp only at h3
    subst h3
    have:=(hk.kb.get hi).1
    exact List.getElem?_eq_none (by omega)
  exact hg.new id' b o' hid h1 h2
def hY (H:List av) (n:Nat) (ks:dP):Env→Env→Prop
 |[],_=>True
 |(t,y)::r,env=>(∃ x,look env t=some x∧bF H n ks x y)∧hY H n ks r env
theorem hY.look {H:List av} {n:Nat}:∀ {env2 env:Env},hY H n ks env2 env→∀ t y,look env2 t=some y→∃ x,Go.Proofs.YtjdfoonhnmpkdaaGreatDoor.look env t=some x∧bF H n ks x y
 |[],_,_,t,y,h=>by cases h
 |(t',y')::r,env,hs,t,y,h=>by
  simp only[Go.Proofs.YtjdfoonhnmpkdaaGreatDoor.look] at h
  split at h
  ·rename_i e;cases h;subst e;exact hs.1
  ·exact hs.2.look t y h
theorem I4 {θ:Nat→Option (Nat×Nat)} {w:World} {a:Act} {B0:Nat} (hk:dY H X KB ks) (hd:pB B0 ⟨θ,H++X,w⟩ a.defers):pB B0 ⟨nz θ (H++X) H.length ks,H++KB,w⟩ a.defers:=by
 refine⟨fun d hdd=>?_,hd.2⟩
 obtain⟨r,q1,q2,q3,q4⟩:=hd.1 d hdd
 exact⟨r,q1,q2,mR hk q3,q4⟩
theorem Wk.jq (ks:dP) (KB:List av) (hG:ah G) (hB:dW G H.length) (hC:C.H.length≤H.length) (hcl:closed H) (hk:dY H X KB ks) (he:hY (H++X) H.length ks env2 env):Wk G nt C ⟨env,H++X⟩ ⟨env2,H++KB⟩:=by
 rintro⟨θ,Hc,w⟩ a hc hi hg
 simp only at hc
 subst hc
 obtain⟨h1,h2⟩:=Cx.jq hi.heap hk hcl
 refine⟨⟨nz θ (H++X) H.length ks,H++KB,w⟩,rfl,rfl,⟨h1,⟨fun p hp=>(aB.fW hk).1 _ _ (hi.gG.1 p hp) ((SV.cz (Nat.zero_le _)).1 _ (hG p hp)),fun C0 h0=>h2 C0 (hB C0 h0) (hi.gG.2 C0 h0)⟩,hi.size,fun t x hx=>?_,I4 hk hi.defs⟩,h2 C hC hg⟩
 obtain⟨y,e1,e2⟩:=he.look t x hx
 exact(bF.rep hi.heap hk).1 e2 _ (hi.env t y e1)
theorem dY.nil:dY H X [] []:=⟨.nil,List.nodup_nil⟩
theorem Wk.tell (hG:ah G) (hB:dW G H.length) (hC:C.H.length≤H.length) (hcl:closed H) (he:hY (H++X) H.length [] env2 env):Wk G nt C ⟨env,H++X⟩ ⟨env2,H⟩:=by
 have:=Wk.jq (nt:=nt) [] [] hG hB hC hcl (dY.nil (H:=H) (X:=X)) he
 rwa[List.append_nil] at this
theorem Fin.jq {R0:SV→List av→Prop} {H0:List av} (ks:dP) (KB:List av) (hR:oT (∀ y H',R0 y H'→R y H')) (hC:C.H=H0) (hl:H0.length=H.length) (hcl:closed H) (hk:dY H X KB ks) {x y:SV} (hx:bF (H++X) H.length ks x y) (h:R0 y (H++KB)):Fin C (H++X) x R:=by
 rintro⟨θ,Hc,w⟩ v h1 h2 h3 h4
 simp only at h1
 subst h1
 obtain⟨k1,k2⟩:=Cx.jq h2 hk hcl
 exact⟨⟨nz θ (H++X) H.length ks,H++KB,w⟩,y,rfl,hR _ _ h,k1,(bF.rep h2 hk).1 hx _ h3,k2 C (by rw[hC,hl];exact Nat.le_refl _) h4⟩
theorem Fin.tell {R0:SV→List av→Prop} {H0:List av} (hR:oT (∀ y H',R0 y H'→R y H')) (hC:C.H=H0) (hl:H0.length=H.length) (hcl:closed H) {x y:SV} (hx:bF (H++X) H.length [] x y) (h:R0 y H):Fin C (H++X) x R:=
 Fin.jq [] [] hR hC hl hcl dY.nil hx (by rw[List.append_nil];exact h)
end
section
variable {P:Program} {G:Gl} {T:bX} {own:List Nat} {nt B:Nat} {ρ:Option Nat} {C:Cx} {rs:List ResultVar} {R:SV→List av→Prop} {env env2:Env} {H X KB:List av} {ks:dP}
theorem Wk.xJ (ks:dP) {n0:Nat} (hG:ah G) (hB:dW G C.H.length) (hn:H.length=n0) (hC:C.H.length=n0) (hcl:closed H) (hk:bH (H++X) n0 ks ks KB) (hd:(ks.map (·.1)).Nodup) (he:hY (H++X) n0 ks env2 env):Wk G nt C ⟨env,H++X⟩ ⟨env2,H++KB⟩:=by
 subst hn
 exact Wk.jq ks KB hG (hC ▸ hB) (by rw[hC];exact Nat.le_refl _) hcl ⟨hk,hd⟩ he
theorem Fin.xJ {R0:SV→List av→Prop} (ks:dP) {n0:Nat} (hR:oT (∀ y H',R0 y H'→R y H')) (hn:H.length=n0) (hC:C.H.length=n0) (hcl:closed H) {x y:SV} (hk:bH (H++X) n0 ks ks KB) (hd:(ks.map (·.1)).Nodup) (hx:bF (H++X) n0 ks x y) (h:R0 y (H++KB)):Fin C (H++X) x R:=by
 subst hn
 rintro⟨θ,Hc,w⟩ v h1 h2 h3 h4
 simp only at h1
 subst h1
 obtain⟨k1,k2⟩:=Cx.jq h2 ⟨hk,hd⟩ hcl
 exact⟨⟨nz θ (H++X) H.length ks,H++KB,w⟩,y,rfl,hR _ _ h,k1,(bF.rep h2 ⟨hk,hd⟩).1 hx _ h3,k2 C (by rw[hC];exact Nat.le_refl _) h4⟩
theorem Fin.aS {R0:SV→List av→Prop} {n0:Nat} (hR:oT (∀ y H',R0 y H'→R y H')) (hn:H.length=n0) (hC:C.H.length=n0) (hcl:closed H) {x y:SV} (hx:bF (H++X) n0 [] x y) (h:R0 y H):Fin C (H++X) x R:=
 Fin.xJ (KB:=[]) [] hR hn hC hcl .nil (by simp) hx (by rw[List.append_nil];exact h)
end
section
variable {H:List av} {n:Nat} {kk:dP}
theorem bF.kp (i:Nat) {id d g j o sz id' j':Nat} {vals:List SV} (hi:kk[i]? =some (id,d)) (hb:H[id]? =some (.cells g sz vals)) (hd:d≤j) (h1:n+i=id') (h2:j - d=j'):bF H n kk (.ptr id g j o) (.ptr id' 0 j' o):=by
 subst h1;subst h2;exact .E5 _ _ _ _ _ _ _ _ hi hb hd
theorem bF.int {k:IntKind} {a b:Int} (h:a=b):bF H n kk (.int k a) (.int k b):=h ▸ .same _ rfl
theorem bF.ks (i:Nat) {id d g off len sz id' off' len':Nat} {vals:List SV} (hi:kk[i]? =some (id,d)) (hb:H[id]? =some (.cells g sz vals)) (hd:d≤off) (h1:n+i=id') (h2:off - d=off') (h3:len=len'):bF H n kk (.sl id g off len) (.sl id' 0 off' len'):=by
 subst h1;subst h2;subst h3;exact .Jb _ _ _ _ _ _ _ _ hi hb hd
theorem bF.km (i:Nat) {id d id':Nat} {kd:Option IntKind} {es:List (SV×SV)} (hi:kk[i]? =some (id,d)) (hb:H[id]? =some (.map kd es)) (h1:n+i=id'):bF H n kk (.map id) (.map id'):=by
 subst h1;exact .E4 _ _ _ _ _ hi hb
theorem bF.sf {id g off len sz:Nat} {vals ys:List SV} (hb:H[id]? =some (.cells g sz vals)) (hn:n≤id) (hk:∀ p∈kk,p.1≠id) (hy:(vals.drop off).take len=ys) (hu:SV.aj n ys=true):bF H n kk (.sl id g off len) (.list sz ys):=by
 subst hy;exact .sl _ _ _ _ _ _ _ hb hn hk (b7.same hu)
end
theorem kL {H L:List av} {id:Nat} {x:av} (h:id<H.length):(H.set id x++L)[id]? =some x:=by
 rw[List.getElem?_append_left (by simpa using h),List.getElem?_set_self h]
theorem jD {H L:List av} {id:Nat} {x y:av} (h:id<H.length):(H.set id x++L).set id y=H.set id y++L:=by
 rw[List.set_append,if_pos (by simpa using h),List.set_set]
theorem bH.c {H:List av} {n:Nat} {kk:dP} {id d g sz:Nat} {vals ys:List SV} {r:dP} {bs:List av} (hb:H[id]? =some (.cells g sz vals)) (hn:n≤id) (hd:d≤vals.length) (hv:b7 H n kk (vals.drop d) ys) (t:bH H n kk r bs):bH H n kk ((id,d)::r) (.cells 0 sz ys::bs):= .cells _ _ _ _ _ _ _ _ hb hn hd hv t
theorem bH.m {H:List av} {n:Nat} {kk:dP} {id:Nat} {kd:Option IntKind} {es fs:List (SV×SV)} {r:dP} {bs:List av} (hb:H[id]? =some (.map kd es)) (hn:n≤id) (hv:iw H n kk es fs) (t:bH H n kk r bs):bH H n kk ((id,0)::r) (.map kd fs::bs):= .map _ _ _ _ _ _ hb hn hv t
theorem SV.cK {n:Nat}:∀ (xs ys:List SV),SV.aj n (xs++ys)=(SV.aj n xs&&SV.aj n ys)
 |[],ys=>by simp[SV.aj]
 |x::xs,ys=>by simp[SV.aj,SV.cK xs ys,Bool.and_assoc]
theorem SV.aT {α:Type} {n:Nat} {f:α→SV}:∀ {l:List α},(∀ a∈l,(f a).under n=true)→SV.aj n (l.map f)=true
 |[],_=>rfl
 |x::xs,h=>by
  have h1:=h x (List.mem_cons_self ..)
  have h2:=SV.aT (l:=xs) (fun a ha=>h a (List.mem_cons_of_mem _ ha))
  simp only[List.map,SV.aj,h1,h2,Bool.and_self]
theorem Ek {α:Type} {n:Nat} (f:α→aD) (l:List α):SV.aj n (l.map fun a=> .str (f a))=true:=SV.aT fun _ _=>rfl
theorem Ej {α:Type} {n:Nat} {k:IntKind} (f:α→Int) (l:List α):SV.aj n (l.map fun a=> .int k (f a))=true:=SV.aT fun _ _=>rfl
theorem CS {α:Type} {n:Nat} (f:α→Bool) (l:List α):SV.aj n (l.map fun a=> .bool (f a))=true:=SV.aT fun _ _=>rfl
section
variable {H L:List av} {id id2:Nat} {x y z:av}
theorem rz:(H.set id x++L)[H.length]? =L[0]? :=by have:=bL (H.set id x) L;rwa[List.length_set] at this
theorem uG (k:Nat):(H.set id x++L)[H.length+k]? =L[k]? :=by have:=aH (H.set id x) L k;rwa[List.length_set] at this
theorem yd:(H.set id x++L).set H.length z=H.set id x++L.set 0 z:=by have:=du (H.set id x) L z;rwa[List.length_set] at this
theorem CH (k:Nat):(H.set id x++L).set (H.length+k) z=H.set id x++L.set k z:=by have:=bW (H.set id x) L k z;rwa[List.length_set] at this
theorem pf:((H.set id x).set id2 y++L)[H.length]? =L[0]? :=by have:=bL ((H.set id x).set id2 y) L;rwa[List.length_set,List.length_set] at this
theorem rA (k:Nat):((H.set id x).set id2 y++L)[H.length+k]? =L[k]? :=by have:=aH ((H.set id x).set id2 y) L k;rwa[List.length_set,List.length_set] at this
theorem Ea:((H.set id x).set id2 y++L).set H.length z=(H.set id x).set id2 y++L.set 0 z:=by have:=du ((H.set id x).set id2 y) L z;rwa[List.length_set,List.length_set] at this
theorem G5 (k:Nat):((H.set id x).set id2 y++L).set (H.length+k) z=(H.set id x).set id2 y++L.set k z:=by have:=bW ((H.set id x).set id2 y) L k z;rwa[List.length_set,List.length_set] at this
end
end
section
def Ak:List Nat→List SV→Env→Env
 |t::ts,x::xs,env=>Ak ts xs ((t,x)::env)
 |_,_,env=>env
section
variable {P:Program} {G:Gl} {T:bX} {own:List Nat} {nt B:Nat} {ρ:Option Nat} {C c:Cx} {rs:List ResultVar} {R:SV→List av→Prop} {env env0:Env} {H X:List av} {k:List It}
theorem yw:∀ {ts:List Nat} {xs:List SV} {vs:List Value} {env:Env} {tm:Array Value},ax c xs vs→ts.length=xs.length→(∀ t∈ts,t<tm.size)→(∀ t x,look env t=some x→aB c x (tm.getD t undef))→
 ((ts.zip vs).foldl (fun tm (p:Nat×Value)=>tm.setIfInBounds p.1 p.2) tm).size=tm.size∧∀ t x,look (Ak ts xs env) t=some x→aB c x (((ts.zip vs).foldl (fun tm (p:Nat×Value)=>tm.setIfInBounds p.1 p.2) tm).getD t undef)
 |[],[],vs,env,tm,hv,_,_,he=>by
  rw[ax.dm.1 hv];exact⟨rfl,he⟩
 |t::ts,x::xs,vs,env,tm,hv,hl,ht,he=>by
  obtain⟨u,us,h1,h2,rfl⟩:=ax.bg.1 hv
  have hts:t<tm.size:=ht t (List.mem_cons_self ..)
  have:=yw (ts:=ts) (env:=(t,x)::env) (tm:=tm.setIfInBounds t u) h2 (by simpa using hl) (fun t' h'=>by simpa using ht t' (List.mem_cons_of_mem _ h')) (fun t' x' h'=>by
   simp only[look] at h'
   rw[Array.getD_eq_getD_getElem?]
   split at h'
   ·rename_i e;cases h';subst e;simp[hts,h1]
   ·rename_i e
    rw[Array.getElem?_setIfInBounds_ne (fun h=>e h.symm),← Array.getD_eq_getD_getElem?]
    exact he t' x' h')
  simpa [Ak] using this
 |[],_::_,_,_,_,_,h,_,_=>by cases h
 |_::_,[],_,_,_,_,h,_,_=>by cases h
theorem rJ {c:Cx} (hc:aM c) {id:Nat} {o:Obj} (h:c.H[id]? =some (.obj o)):∃ b,c.θ id=some (b,0)∧c.w.heap[b]? =some o:=by
 obtain⟨b,h1,h2,_⟩:=hc.dQ id _ h
 exact⟨b,h1,h2⟩
theorem qG {c:Cx} (hc:aM c) {id b:Nat} {o o':Obj} (h:c.H[id]? =some (.obj o)) (hb:c.θ id=some (b,0)) (hlp:I8 o'=I8 o) (hnc:∀ cs T fr,o≠ .cells cs T fr) (hnd:∀ ds,o'≠ .deferred ds):
 ∃ c',c'.H=c.H.set id (.obj o')∧c'.w=c.w.putObj b o'∧Grow c c'∧aM c':=by
 obtain⟨b',h1,h2⟩:=rJ hc h
 rw[hb] at h1
 cases h1
 have hlt:b<c.w.heap.size:=(Array.getElem?_eq_some_iff.1 h2).1
 obtain⟨g1,g2⟩:=Cx.oB hc (w':=c.w.putObj b o') h rfl (c.θ id) (B':= .obj o') ⟨⟨o',rfl,hlp⟩,rfl⟩ (fun k hk hno=>World.putObj_heap_other (fun e=>hno 0 (e ▸ hb))) (by simp) rfl rfl rfl
  (fun b2 cs T fr hcs=>⟨cs,fr,by rw[World.putObj_heap_other (fun e=>by rw[e,h2] at hcs;cases hcs;exact hnc _ _ _ rfl)];exact hcs,rfl⟩)
  (fun hg=>⟨b,by simp[hb],World.putObj_heap_same hlt,hnd⟩)
 exact⟨_,rfl,rfl,g1,g2⟩
def O1:SV→List av→Prop:=fun _ _=>False
theorem MD {nt:Nat} {ρ:Option Nat} {e:Exit} {env:Env} {H:List av} {a:Act} {c:Cx} (h:Out P G T own nt ρ C [] O1 [] e env H) (hc:c.H=H) (hh:aM c) (hg:Grow C c):False:=by
 have key:FV C T [] O1 env H→False:=fun⟨xs,h1,h2⟩=>by
  simp only[jA,Option.some.injEq] at h1
  subst h1
  obtain⟨c',y,_,h3,_⟩:=h2 c (.tuple #[]) hc hh (by simp only[aC,aB];exact⟨[],ax.bQ,by simp⟩) hg
  exact h3
 cases e with
 |normal=>exact key h
 |ret=>exact key h
 |_=>exact h
theorem fj (hT:aI P T) {g:Operand} {ps:Array Tmp} {asn bd:Code} {gf:FuncId} {fst cap:List SV} {σ ξ:Type} (M:σ→List av) (n1:Nat) (hM:∀ s,(M s).length=n1) (s0:σ) (env0:Env)
 (args:ξ→List SV) (Pre:σ→ξ→Prop) (next:σ→ξ→σ) (Done:σ→Prop) (E1:ξ→Env)
 (hf:ev G env0 g=some (.fn (.func gf) fst cap)) (hps:ps.toList.all (fun t=>Nat.blt t nt)=true) (hargs:∀ x,(args x).length=ps.size) (hE:∀ x,Ak ps.toList (args x) env0=E1 x)
 (hw:Wk G nt C ⟨env,H⟩ ⟨env0,M s0⟩)
 (hit:∀ (G':Gl) (LO:av),G'.l=G.l→LO.under (n1+1)=true→(∀ s x X,Pre s x→aY P G' (.it n1) (args x) (M s++LO::X) (fun r H'=>H'=M (next s x)++LO::X∧r= .bool true))→
  aq P G' gf (fst++[.it n1]++cap) (M s0++[LO]) (fun r H'=>∃ s,Done s∧H'=M s++[LO]))
 (hbody:∀ (G':Gl) (C':Cx) (ρ':Option Nat) (s:σ) (x:ξ) (X:List av) (LO LB:av) (K1 K:Env→List av→Prop),G'.l=G.l→dW G' C'.H.length→C'.H=M s++LO::X→closed (M s++LO::X)→LO.under 0=true→LB.under 0=true→Pre s x→
  oT (∀ env' H',H'[n1]? =some LO→Out P G' T own nt ρ' C' [] O1 [.code bd,.pred K] .normal env' (H'.set n1 LB)→K1 env' H')→
  oT (∀ env' H',Wk G' nt C' ⟨env',H'⟩ ⟨[],M (next s x)++LB::X⟩→K env' H')→
  Out P G' T own nt ρ' C' [] O1 [.code asn,.pred K1] .normal (E1 x) (M s++LO::X))
 (hk:∀ s (LO:av),Done s→LO.under 0=true→Out P G T own nt none C rs R k .normal env0 (M s++[LO])):
 Out P G T own nt none C rs R (.code (.rangeFunc g ps asn bd)::k) .normal env H:=by
 intro c a hc hi hg
 obtain⟨c0,e1,e2,hi0,hg0⟩:=hw c a hc hi hg
 rw[← e2]
 clear hi hg hc
 refine wpIn_rangeFunc fun fn hfn=>?_
 
 have hfv:=bR hi0 hf
 simp only[aB] at hfv
 obtain⟨us,cs,r1,r2,hfe⟩:=hfv
 generalize hr0:({ state:= .ready,pending:=none,fn:=fn,tmps:=a.tmps,params:=ps,assign:=asn,body:=bd,defers:=c0.w.heap.size}:Loop)=r0
 generalize hl:c0.w.heap.size+1=l
 
 have hwd:=Cx.world hi0.heap (w':=c0.w.alloc (.deferred (some []))) (fun b hb=>Go.RowKit.Below.heap_alloc c0.w _ b hb) (by simp) rfl rfl rfl
 have hfr:=Cx.fresh hwd.2 (w':=(c0.w.alloc (.deferred (some []))).alloc (.loop r0)) l (by simp[← hl]) 0 (some (l,0)) (.inr rfl) (.obj (.loop r0)) (fun b hb=>Go.RowKit.Below.heap_alloc _ _ b hb) (by simp) rfl rfl rfl
  (fun _=>⟨l,by simp,by have:=World.alloc_heap_new (c0.w.alloc (.deferred (some []))) (.loop r0);rw[World.size_alloc] at this;rw[← hl];exact this,fun ds e=>by cases e⟩)
 obtain⟨c1,hc1w,hc1H,hc1θ,hθo,hg1,hh1⟩:∃ c1:Cx,c1.w=(c0.w.alloc (.deferred (some []))).alloc (.loop r0)∧c1.H=M s0++[.obj (.loop r0)]∧c1.θ n1=some (l,0)∧(∀ id,id≠n1→c1.θ id=c0.θ id)∧Grow c0 c1∧aM c1:=by
  refine⟨_,rfl,?_,?_,?_,hwd.1.trans hfr.1,hfr.2⟩
  ·show c0.H++_=_
   rw[e1]
  ·show(if n1=c0.H.length then _ else _)=_
   rw[if_pos]
   rw[e1];exact(hM s0).symm
  ·intro id hid
   show(if id=c0.H.length then _ else _)=_
   rw[if_neg]
   rw[e1];show ¬ id=(M s0).length;rw[hM s0];exact hid
 have hyv:aB c1 (.it n1) (.func (.yield l) #[] #[]):=by
  simp only[aB,hc1H]
  rw[show(M s0++[av.obj (Obj.loop r0)])[n1]? =some (.obj (.loop r0)) by rw[← hM s0,List.getElem?_append_right (Nat.le_refl _),Nat.sub_self];rfl]
  exact⟨rfl,l,hc1θ,rfl⟩
 have hres:(resolve a.eval (rangeCall g l) 0).run P c1.w= .ok { target:= .fn (.func gf) cs.toArray,args:=us.toArray++ #[.func (.yield l) #[] #[]]} c1.w:=by
  show(Deferred.ofValue (a.eval g) _).run P c1.w=_
  rw[hfe]
  simp[Deferred.ofValue,Act.eval]
 
 let G':Gl:=⟨G.l,some c1⟩
 have hG1:CY G' c1:=⟨fun p hp=>((hi0.gG.grow hg1).1 p hp),fun C0 h0=>by cases h0;exact Grow.refl _⟩
 have hdata:∀ {cy:Cx} {s:σ} {X:List av},cy.H=M s++ .obj (.loop r0)::X→aM cy→CY G' cy→cy.θ n1=some (l,0)∧cy.w.heap[l]? =some (.loop r0):=by
  intro cy s X hH hh hG
  have hgr:=hG.2 c1 rfl
  have hn:cy.H[n1]? =some (.obj (.loop r0)):=by rw[hH,← hM s,List.getElem?_append_right (Nat.le_refl _),Nat.sub_self];rfl
  obtain⟨b,q1,q2⟩:=rJ hh hn
  have hn1:c1.H[n1]? =some (.obj (.loop r0)):=by rw[hc1H,← hM s0,List.getElem?_append_right (Nat.le_refl _),Nat.sub_self];rfl
  obtain⟨B',q3,q4⟩:=hgr.ids n1 _ hn1
  have hθ:cy.θ n1=c1.θ n1:=q4.2
  rw[hc1θ] at hθ
  rw[hθ] at q1
  cases q1
  exact⟨hθ,q2⟩
 have hyield:∀ s x X,Pre s x→aY P G' (.it n1) (args x) (M s++ .obj (.loop r0)::X) (fun r H'=>H'=M (next s x)++ .obj (.loop r0)::X∧r= .bool true):=by
  intro s x X hpre cy v vs hH hh hG hv hvs
  obtain⟨d1,d2⟩:=hdata hH hh hG
  have hn:cy.H[n1]? =some (.obj (.loop r0)):=by rw[hH,← hM s,List.getElem?_append_right (Nat.le_refl _),Nat.sub_self];rfl
  simp only[aB,hn] at hv
  obtain⟨_,b,q1,q2⟩:=hv
  rw[d1] at q1
  cases q1
  subst q2
  have hlen:vs.length=ps.size:=by rw[hvs.length,hargs]
  refine⟨{ target:= .fn (.yield l) #[],args:= #[]++vs.toArray},cy.w,rfl,.inr ⟨l,r0.fn,(r0.params.zip (#[]++vs.toArray)).foldl (fun tmps (t,a)=>tmps.setIfInBounds t a) r0.tmps,r0.assign,r0.body,cy.w,?_,?_⟩⟩
  ·have:=run_yield (P:=P) (args:= #[]++vs.toArray) d2 (by rw[← hr0];simp[hlen])
   simpa [invoke] using this
  ·refine roundIn_of_wpIn trivial ?_
   have hgy:=hG.2 c1 rfl
   have hlo:∀ (o:Obj) (n:Nat),(av.obj o).under n=true:=fun _ _=>rfl
   have hn1':∀ (H':List av) (c':Cx),c'.H=H'→aM c'→Grow cy c'→∀ o,H'[n1]? =some (.obj o)→c'.θ n1=some (l,0)∧c'.w.heap[l]? =some o:=fun H' c' hH' hh' hg' o ho=>by
    obtain⟨B',q3,q4⟩:=hg'.ids n1 _ hn
    have hθ:c'.θ n1=cy.θ n1:=q4.2
    rw[d1] at hθ
    obtain⟨b,q1,q2⟩:=rJ hh' (by rw[hH'];exact ho)
    rw[hθ] at q1
    cases q1
    exact⟨hθ,q2⟩
   generalize hLB:(av.obj (.loop { r0 with state:= .busy}))=LB
   have hO:=hbody G' cy (some l) s x X (.obj (.loop r0)) LB (fun env' H'=>H'[n1]? =some (.obj (.loop r0))∧Out P G' T own nt (some l) cy [] O1 [.code bd,.pred fun env' H'=>Wk G' nt cy ⟨env',H'⟩ ⟨[],M (next s x)++LB::X⟩] .normal env' (H'.set n1 LB))
    (fun env' H'=>Wk G' nt cy ⟨env',H'⟩ ⟨[],M (next s x)++LB::X⟩) rfl hG.M9 hH (hH ▸ hh.closed) rfl (by rw[← hLB];rfl) hpre (fun env' H' q1 q2=>⟨q1,q2⟩) (fun env' H' q=>q)
   have hz:=yw (c:=cy) (ts:=ps.toList) (env:=env0) (tm:=a.tmps) hvs (by simp[hargs]) (fun t ht=>by
    have:=List.all_eq_true.1 hps t ht
    rw[Nat.blt_eq] at this
    rw[hi0.size];exact this) (fun t y hy=>((hi0.env t y hy).grow hg1).grow hgy)
   have htm:(r0.params.zip (#[]++vs.toArray)).foldl (fun tmps (t,a)=>tmps.setIfInBounds t a) r0.tmps=(ps.toList.zip vs).foldl (fun tm (p:Nat×Value)=>tm.setIfInBounds p.1 p.2) a.tmps:=by
    rw[← hr0,← Array.foldl_toList]
    simp
   rw[htm]
   have hinv:Inv G' nt cy.w.heap.size cy (E1 x) { tmps:=(ps.toList.zip vs).foldl (fun tm (p:Nat×Value)=>tm.setIfInBounds p.1 p.2) a.tmps,defers:=[]}:=
    ⟨hh,hG,hz.1.trans hi0.size,by rw[← hE x];exact hz.2,⟨by simp,List.Pairwise.nil⟩⟩
   rw[← hr0]
   have hA:=hO cy _ hH hinv (Grow.refl cy)
   refine wpIn_mono hA ?_
   rintro e a1 w1 ⟨s',c',p1,p2,rfl,p4,p5⟩
   have hbad:∀ (e':Exit) (env':Env) (a':Act) (c':Cx),Out P G' T own nt (some l) cy [] O1 [] e' env' c'.H→aM c'→Grow cy c'→False:=fun e' env' a' c' h1 h2 h3=>MD (a:=a') h1 rfl h2 h3
   cases e with
   |normal=>
    obtain⟨env2,he,k1,k2⟩:=p1
    obtain⟨t1,t2⟩:=hn1' s'.H c' p2 p4.heap p5 _ k1
    obtain⟨c2,u1,u2,u3,u4⟩:=qG (o:= .loop r0) (o':= .loop { r0 with state:= .busy}) p4.heap (by rw[p2];exact k1) t1 rfl (fun _ _ _ e=>by cases e) (fun _ e=>by cases e)
    refine⟨c2.w,by rw[u2];exact run_beginRound t2 (by rw[← hr0]),?_⟩
    have hA2:=k2 c2 a1 (by rw[u1,p2,hLB]) ⟨u4,p4.gG.grow u3,p4.size,fun t y hy=>(p4.env t y (by rw[← he t];exact hy)).grow u3,p4.defs.grow u3⟩ (p5.trans u3)
    refine wpIn_mono hA2 ?_
    rintro e2 a2 w2 ⟨s2,c3,v1,v2,rfl,v4,v5⟩
    cases e2 with
    |normal=>
     obtain⟨env3,he3,k3⟩:=v1
     obtain⟨c4,x1,x2,x3,x4⟩:=k3 c3 a2 v2 ⟨v4.heap,v4.gG,v4.size,fun t y hy=>v4.env t y (by rw[← he3 t];exact hy),v4.defs⟩ v5
     have hnB:(M (next s x)++LB::X)[n1]? =some (.obj (.loop { r0 with state:= .busy})):=by rw[← hM (next s x),List.getElem?_append_right (Nat.le_refl _),Nat.sub_self,hLB];rfl
     obtain⟨t3,t4⟩:=hn1' _ c4 x1 x3.heap x4 _ hnB
     obtain⟨c5,y1,y2,y3,y4⟩:=qG (o:= .loop { r0 with state:= .busy}) (o':= .loop r0) x3.heap (by rw[x1];exact hnB) t3 rfl (fun _ _ _ e=>by cases e) (fun _ e=>by cases e)
     have hrun:=run_endRound (P:=P) none t4
     rw[← x2]
     refine⟨_,_,hrun,.bool true,.bool true,c5,rfl,?_,⟨?_,rfl⟩,y4,by simp only[aB],x4.trans y3⟩
     ·rw[y2,← hr0];rfl
     ·rw[y1,x1,List.set_append,if_neg (by rw[hM];omega),hM,Nat.sub_self,hr0];rfl
    |ret=>exact(hbad .ret s2.env a2 c3 (by rw[v2];exact v1) v4.heap v5).elim
    |exit id=>exact(hbad (.exit id) s2.env a2 c3 (by rw[v2];exact v1) v4.heap v5).elim
    |goto t=>exact(hbad (.goto t) s2.env a2 c3 (by rw[v2];exact v1) v4.heap v5).elim
    |panic ch=>exact(hbad (.panic ch) s2.env a2 c3 (by rw[v2];exact v1) v4.heap v5).elim
    |outgrown=>exact(hbad .outgrown s2.env a2 c3 (by rw[v2];exact v1) v4.heap v5).elim
   |ret=>exact(hbad .ret s'.env a1 c' (by rw[p2];exact p1) p4.heap p5).elim
   |exit id=>exact(hbad (.exit id) s'.env a1 c' (by rw[p2];exact p1) p4.heap p5).elim
   |goto t=>exact(hbad (.goto t) s'.env a1 c' (by rw[p2];exact p1) p4.heap p5).elim
   |panic ch=>exact(hbad (.panic ch) s'.env a1 c' (by rw[p2];exact p1) p4.heap p5).elim
   |outgrown=>exact(hbad .outgrown s'.env a1 c' (by rw[p2];exact p1) p4.heap p5).elim
 
 have hcall:=hit G' (.obj (.loop r0)) rfl rfl hyield
 obtain⟨⟨fnn,f1,f2,f3⟩,hcall⟩:=hcall
 have hc':=hcall c1 (us++[.func (.yield l) #[] #[]]++cs) hc1H hh1 hG1 (((r1.grow hg1).append (ax.bG hyv ax.bQ)).append (r2.grow hg1))
 have f2':¬ fnn.name= "runtime.NumGoroutine" :=by simpa using f2
 have f3':¬ fnn.body=none:=by cases hb:fnn.body<;>simp_all
 refine⟨l,[{ target:= .collected c0.w.heap.size,args:= #[]}],c1.w,_,c1.w,gf,(us++[Value.func (.yield l) #[] #[]]++cs).toArray,c1.w,?_,hres,fun _ _=>trivial,?_,fun h=>(by cases h),?_⟩
 ·rw[hc1w,← hl,← hr0]
  exact run_enterLoop_outer fn a.tmps ps asn bd
 ·simp[invoke,callFunc,Sem.run_bind,f1,f2',f3']
 ·refine hc'.mono ?_
  rintro e w' ⟨v,y,c2,rfl,rfl,⟨s,hdone,hH2⟩,hh2,hy,hg2⟩
  have hn1:c1.H[n1]? =some (.obj (.loop r0)):=by rw[hc1H,← hM s0,List.getElem?_append_right (Nat.le_refl _),Nat.sub_self];rfl
  have hn2:c2.H[n1]? =some (.obj (.loop r0)):=by rw[hH2,← hM s,List.getElem?_append_right (Nat.le_refl _),Nat.sub_self];rfl
  obtain⟨b,q1,q2⟩:=rJ hh2 hn2
  obtain⟨B',q3,q4⟩:=hg2.ids n1 _ hn1
  have hθ:c2.θ n1=c1.θ n1:=q4.2
  rw[hc1θ] at hθ
  rw[hθ] at q1
  cases q1
  obtain⟨c3,y1,y2,y3,y4⟩:=qG (o:= .loop r0) (o':= .loop { r0 with state:= .exhausted}) hh2 hn2 hθ rfl (fun _ _ _ e=>by cases e) (fun _ e=>by cases e)
  refine⟨none,c3.w,?_,?_⟩
  ·rw[y2]
   have:=run_endLoop (P:=P) q2 (by rw[← hr0];simp)
   rw[this,← hr0]
  ·have hgr:Grow c0 c3:=hg1.trans (hg2.trans y3)
   have hD:c1.qZ c0.w.heap.size:=by
    refine⟨by rw[hc1w,World.size_alloc,World.size_alloc];omega,fun ho=>?_⟩
    obtain⟨id,o,⟨B0,hB0,hlv⟩,ht⟩:=ho
    by_cases hid:id=n1
    ·subst hid
     rw[hc1θ] at ht
     cases ht
     omega
    ·rw[hθo id hid] at ht
     have hB0':c0.H[id]? =some B0:=by
      rw[hc1H] at hB0
      rw[e1]
      have hlt:=(List.getElem?_eq_some_iff.1 hB0).1
      simp only[List.length_append,List.length_cons,List.length_nil,hM s0] at hlt
      rw[List.getElem?_append_left (by rw[hM s0];omega)] at hB0
      exact hB0
     have:=dX.lt (hi0.heap.dQ id B0 hB0') hlv ht
     omega
   have hDat:c1.w.heap[c0.w.heap.size]? =some (.deferred (some [])):=by
    rw[hc1w,Go.RowKit.Below.heap_alloc _ _ _ (by simp)]
    exact World.alloc_heap_new _ _
   have hDim:c3.qZ c0.w.heap.size:=(hg2.trans y3).qZ hD
   have hDat3:c3.w.heap[c0.w.heap.size]? =some (.deferred (some [])):=by rw[(hg2.trans y3).jq hD];exact hDat
   have hinv3:Inv G nt C.w.heap.size c3 env0 { a with defers:=[{ target:= .collected c0.w.heap.size,args:= #[]}]++a.defers}:=by
    refine⟨y4,hi0.gG.grow hgr,hi0.size,fun t x hx=>(hi0.env t x hx).grow hgr,⟨fun d hd=>?_,?_⟩⟩
    ·rcases List.mem_append.1 hd with hd|hd
     ·rw[List.mem_singleton] at hd
      exact⟨_,hd,hDat3,hDim,hg0.size⟩
     ·exact(hi0.defs.grow hgr).1 d hd
    ·rw[List.singleton_append,List.pairwise_cons]
     refine⟨fun d hd r hr hdr=>?_,hi0.defs.2⟩
     obtain⟨r',q1,q2,q3,q4⟩:=hi0.defs.1 d hd
     rw[q1] at hdr
     have:=q3.1
     simp only[Deferred.mk.injEq,Target.collected.injEq] at hr hdr
     omega
   have hko:=hk s (.obj (.loop { r0 with state:= .exhausted})) hdone rfl
   have hout:Out P G T own nt none C rs R k .normal env0 c3.H:=by
    rw[y1,hH2,List.set_append,if_neg (by rw[hM];omega),hM,Nat.sub_self]
    exact hko
   exact⟨⟨env0,c3.H⟩,c3,hout,rfl,rfl,hinv3,hg0.trans hgr⟩
end
theorem Hk {n:Nat} (l:List Bd):SV.aj n (l.map fun b=> .agg b.e.cells)=true:=SV.aT fun b _=>Ex.aw n b.e
theorem Hj {n:Nat} (l:List Al):SV.aj n (l.map fun a=> .agg a.body.cells)=true:=SV.aT fun a _=>Ex.aw n a.body
end
end Go.Proofs.YtjdfoonhnmpkdaaGreatDoor
