/- A part of the proof: SvO, SvP, SvQ, SvR, SvS, SwA, SwB, SwC, SwD. Names and spaces are cut short by program. -/
import Derived.Test.YtedejleokilohaaGreatDoorMb
import Derived.RangeFuncRecord
import Derived.OrdersIn
set_option linter.unusedSimpArgs false
set_option linter.unusedVariables false
set_option maxRecDepth 10000
set_option maxHeartbeats 4000000
namespace Go.Proofs.YtedejleokilohaaGreatDoor
open Go
section
theorem vZ {w:World} {b r:Nat} {cs:Array Value} {T:TypeId} {fr:Nat×Nat} {ds:Option (List Deferred)} (h:w.heap[b]? =some (.cells cs T fr)) (hr:w.heap[r]? =some (.deferred ds)):b≠r:=fun e=>by rw[e,hr] at h;cases h
theorem dc (w:World) (r b:Nat) (o:Obj) (h:b≠r):(w.putObj r o).heap[b]? =w.heap[b]? :=World.putObj_heap_other h
theorem kP {w:World} {b o r:Nat} {cs:List Value} {ds:Option (List Deferred)} (h:w.rangeAt b o cs) (hr:w.heap[r]? =some (.deferred ds)) (o':Obj):(w.putObj r o').rangeAt b o cs:=fun j v hv=>by
 have hc:=h j v hv
 have hb:b≠r:=fun e=>by subst e;simp[World.cell?,hr] at hc
 rw[World.cell?_of_block (w:=w) (w':=w.putObj r o') (dc w r b o' hb)]
 exact hc
theorem aG.mF {θ:Nat→Option (Nat×Nat)} {H:List az} {w:World} {r:Nat} {ds:Option (List Deferred)} (hr:w.heap[r]? =some (.deferred ds)) (o':Obj):
 (∀ x v,aG ⟨θ,H,w⟩ x v→aG ⟨θ,H,w.putObj r o'⟩ x v)∧(∀ xs vs,aD ⟨θ,H,w⟩ xs vs→aD ⟨θ,H,w.putObj r o'⟩ xs vs):=by
 have hsz:(w.putObj r o').heap.size=w.heap.size:=by simp[World.putObj]
 have himm:∀ b,Cx.oY ⟨θ,H,w⟩ b→Cx.oY ⟨θ,H,w.putObj r o'⟩ b:=fun b ⟨h1,h2⟩=>⟨by show b<(w.putObj r o').heap.size;rw[hsz];exact h1,h2⟩
 apply SV.both
 ·intro x h1 h2 h3 h4 h5 h6 v h
  cases x with
  |agg fs=>exact absurd rfl (h1 fs)
  |list n xs=>exact absurd rfl (h2 n xs)
  |iR y=>exact absurd rfl (h3 y)
  |fn f a b=>exact absurd rfl (h4 f a b)
  |tuple xs=>exact absurd rfl (h5 xs)
  |fI b clk born kd ks vs=>exact absurd rfl (h6 b clk born kd ks vs)
  |sl id g off len=>
   simp only[aG] at h ⊢
   refine⟨h.1,?_⟩
   have h:=h.2
   cases hB:H[id]? with
   |none=>simp[hB] at h
   |some B=>
    simp only[hB] at h
    cases B with
    |cells g' sz vals=>
     simp only at h ⊢
     rcases h with h|⟨e,q1,aa,cap,q2,q3,q4,q5⟩
     ·exact .inl h
     ·refine .inr ⟨e,q1,aa,cap,q2,q3,q4,?_⟩
      rcases q5 with q5|⟨b,o,cs,T,fr,q5,q6,q7,q8⟩
      ·exact .inl q5
      ·exact .inr ⟨b,o,cs,T,fr,q5,q6,by rw[dc w r b o' (vZ q7 hr)];exact q7,q8⟩
    |_=>exact h
  |_=>exact h
 ·intro fs ih v h
  simp only[aG] at h ⊢
  obtain⟨vs,h1,h2⟩:=h
  exact⟨vs,ih vs h1,h2⟩
 ·intro sz xs ih v h
  simp only[aG] at h ⊢
  obtain⟨a,cap,h0,h1,h2,h3⟩:=h
  refine⟨a,cap,h0,h1,h2,?_⟩
  rcases h3 with h3|⟨b,o,vs,h3,h4,h5,h6,h7⟩
  ·exact .inl h3
  ·exact .inr ⟨b,o,vs,h3,ih vs h4,h5,kP h6 hr o',himm b h7⟩
 ·intro x ih v h
  simp only[aG] at h ⊢
  obtain⟨b,o,u,h0,h1,h2,h3,h4⟩:=h
  exact⟨b,o,u,h0,ih u h1,h2,kP h3 hr o',himm b h4⟩
 ·intro f xs ys ih1 ih2 v h
  simp only[aG] at h ⊢
  obtain⟨us,vs,h0,h1,h2⟩:=h
  exact⟨us,vs,ih1 us h0,ih2 vs h1,h2⟩
 ·intro xs ih v h
  simp only[aG] at h ⊢
  obtain⟨vs,h0,h1⟩:=h
  exact⟨vs,ih vs h0,h1⟩
 ·intro b clk born kd ks vs ih1 ih2 v h
  simp only[aG] at h ⊢
  obtain⟨h0,h1,ents,h2,h3,h4,h5,h6,h7⟩:=h
  exact⟨h0,himm b h1,ents,by rw[dc w r b o' (fun e=>by rw[e] at h2;rw[hr] at h2;cases h2)];exact h2,h3,h4,ih1 _ h5,ih2 _ h6,h7⟩
 ·intro vs h;simpa [aD] using h
 ·intro x xs ih1 ih2 vs h
  obtain⟨u,us,h1,h2,h3⟩:=aD.bC.1 h
  exact aD.bC.2 ⟨u,us,ih1 u h1,ih2 us h2,h3⟩
theorem Cx.ME {θ:Nat→Option (Nat×Nat)} {H:List az} {w:World} (hc:aT ⟨θ,H,w⟩) {r:Nat} {ds:Option (List Deferred)} (hr:w.heap[r]? =some (.deferred ds)) (him:Cx.oY ⟨θ,H,w⟩ r) (o':Obj):
 aT ⟨θ,H,w.putObj r o'⟩∧∀ C:Cx,C.w.heap.size≤r→Grow C ⟨θ,H,w⟩→Grow C ⟨θ,H,w.putObj r o'⟩:=by
 have hsz:(w.putObj r o').heap.size=w.heap.size:=by simp[World.putObj]
 refine⟨⟨fun id B hB=>?_,hc.inj⟩,fun C hC hg=>?_⟩
 ·have hb:=hc.eS id B hB
  have hne:∀ b o,B.isLive=true→θ id=some (b,o)→b≠r:=fun b o hl ht e=>him.2 ⟨id,o,⟨B,hB,hl⟩,e ▸ ht⟩
  cases B with
  |dead=>trivial
  |obj ob=>obtain⟨b,h1,h2,h3⟩:=hb;exact⟨b,h1,by rw[show(w.putObj r o').heap[b]? =w.heap[b]? from dc w r b o' (hne b 0 rfl h1)];exact h2,h3⟩
  |cells g sz vals=>
   rcases hb with hb|⟨b,o,cs,T,fr,vs,h1,h2,h3,h4,h5,h6⟩
   ·exact .inl hb
   ·exact .inr ⟨b,o,cs,T,fr,vs,h1,by rw[show(w.putObj r o').heap[b]? =w.heap[b]? from dc w r b o' (hne b o rfl h1)];exact h2,h3,(aG.mF hr o').2 _ _ h4,h5,kP h6 hr o'⟩
  |map kd es=>
   obtain⟨b,ents,clk,h1,h2,h3,h4⟩:=hb
   have hE:∀ {es:List (SV×SV)} {l:List MapEntry},cC ⟨θ,H,w⟩ es l→cC ⟨θ,H,w.putObj r o'⟩ es l:=by
    intro es
    induction es with
    |nil=>intro l h;exact h
    |cons p es ih=>
     intro l h
     obtain⟨q,x⟩:=p
     simp only[cC] at h ⊢
     obtain⟨e,es',a1,a2,a3,a4⟩:=h
     exact⟨e,es',(aG.mF hr o').1 _ _ a1,(aG.mF hr o').1 _ _ a2,ih a3,a4⟩
   exact⟨b,ents,clk,h1,by rw[show(w.putObj r o').heap[b]? =w.heap[b]? from dc w r b o' (hne b 0 rfl h1)];exact h2,hE h3,h4⟩
 ·refine⟨hg.os,hg.tape,hg.output,by show _≤(w.putObj r o').heap.size;rw[hsz];exact hg.size,fun b hb ho=>?_,fun b cs T fr h=>?_,hg.ids,hg.new⟩
  ·show(w.putObj r o').heap[b]? =_
   rw[dc w r b o' (by omega)];exact hg.Bo b hb ho
  ·obtain⟨cs',fr',h1,h2⟩:=hg.shape b cs T fr h
   exact⟨cs',fr',by show(w.putObj r o').heap[b]? =_;rw[dc w r b o' (vZ h1 hr)];exact h1,h2⟩
def iJ (T:aE) (env:Env) (H:List az):List ResultVar→Option (List SV)
 |[]=>some []
 | .tmp t::r=>match look env t with
  |some x=>(match iJ T env H r with
   |some xs=>some (x::xs)
   |none=>none)
  |none=>none
 | .cell t ty::r=>match look env t with
  |some p=>(match T.get ty with
   |some i=>(match lU H i p with
    |some x=>(match iJ T env H r with
     |some xs=>some (x::xs)
     |none=>none)
    |none=>none)
   |none=>none)
  |none=>none
def bA:List SV→SV
 |[x]=>x
 |xs=> .tuple xs
def Fin (C:Cx) (H:List az) (x:SV) (R:SV→List az→Prop):Prop:=
 ∀ c v,c.H=H→aT c→aG c x v→Grow C c→∃ c' y,c'.w=c.w∧R y c'.H∧aT c'∧aG c' y v∧Grow C c'
def HQ (C:Cx) (T:aE) (rs:List ResultVar) (R:SV→List az→Prop) (e:Exit) (env:Env) (H:List az):Prop:=
 match e with
 | .normal| .ret=>aJ (iJ T env H rs) fun xs=>qL (Fin C H (bA xs) R)
 |_=>False
def au:List SV→Nat→Env
 |[],_=>[]
 |x::r,i=>(i,x)::au r (i+1)
section
variable {P:Program} {G:Gl} {T:aE} {own:List Nat} {nt B:Nat} {ρ:Option Nat} {C:Cx} {c:Cx} {env:Env} {a:Act}
def BW (w w':World):Prop:=∀ r:Nat,w'.heap[r]? =w.heap[r]? ∨∃ ds0:Option (List Deferred),w.heap[r]? =some (Obj.deferred ds0)
theorem vq {w w':World} (hw:BW w w') {b o:Nat} {cs:List Value} (h:w.rangeAt b o cs):w'.rangeAt b o cs:=fun j v hv=>by
 have hc:=h j v hv
 rcases hw b with e|⟨ds,e⟩
 ·rw[World.cell?_of_block (w:=w) (w':=w') e];exact hc
 ·simp[World.cell?,e] at hc
def sr (tmps:Array Value):ResultVar→Sem Value
 | .tmp t=>pure (tmps.getD t undef)
 | .cell x t=>do loadVar t (← asAddr (tmps.getD x undef))
theorem zd (fn:Func) (tmps:Array Value):results fn tmps=(do
 let vs ← fn.results.mapM (sr tmps)
 pure (if h:vs.size=1 then vs[0] else .tuple vs)):=by
 refine congrArg (fun f:ResultVar→Sem Value=>(do
  let vs ← fn.results.mapM f
  pure (if h:vs.size=1 then vs[0] else Value.tuple vs):Sem Value)) ?_
 funext r
 cases r<;>rfl
theorem vu (hT:aq P T) (hi:Inv G nt B c env a):∀ {rs:List ResultVar} {xs:List SV},iJ T env c.H rs=some xs→∃ vs,aD c xs vs∧∀ w',BW c.w w'→
 (rs.mapM (sr a.tmps)).run P w'= .ok vs w'
 |[],xs,h=>by simp only[iJ,Option.some.injEq] at h;subst h;exact⟨[],aD.cw,fun w' _=>by simp⟩
 | .tmp t::r,xs,h=>by
  simp only[iJ] at h
  split at h
  ·rename_i x hx
   split at h
   ·rename_i ys hy
    cases h
    obtain⟨vs,h1,h2⟩:=vu hT hi hy
    exact⟨_::vs,aD.bT (hi.env t x hx) h1,fun w' hw=>by simp[List.mapM_cons,sr,h2 w' hw]⟩
   ·cases h
  ·cases h
 | .cell t ty::r,xs,h=>by
  simp only[iJ] at h
  split at h
  ·rename_i p hp
   split at h
   ·rename_i i hti
    split at h
    ·rename_i x hx
     split at h
     ·rename_i ys hy
      cases h
      obtain⟨vs,h1,h2⟩:=vu hT hi hy
      obtain⟨b,o,u,e1,e2,e3,e4⟩:=Ac hi.heap (hi.env t p hp) hx
      exact⟨u::vs,aD.bT e2 h1,fun w' hw=>by
       have hl:=l8 (hT _ _ hti) e2 e3 (vq hw e4)
       simp[List.mapM_cons,sr,e1,asAddr,hl,h2 w' hw]⟩
     ·cases h
    ·cases h
   ·cases h
  ·cases h
theorem tT {fn:Func} {R:SV→List az→Prop} {C0:Cx}:∀ (ds:List Deferred) (c:Cx),aT c→nD C0.w.heap.size c ds→Grow C0 c→∀ (x:SV) (v:Value) (tmps:Array Value),aG c x v→R x c.H→
 (∀ w',BW c.w w'→(results fn tmps).run P w'= .ok v w')→
 LeavesInM (FR none) 0 P fn tmps (qK C0 R) ds .returning c.w
 |[],c,hc,hd,hg,x,v,tmps,hx,hR,hrun=>⟨v,hrun c.w (fun r=> .inl rfl),v,x,c,rfl,rfl,hR,hc,hx,hg⟩
 |d::ds,c,hc,hd,hg,x,v,tmps,hx,hR,hrun=>by
  obtain⟨r,rfl,h1,h2,h3⟩:=hd.1 d (List.mem_cons_self ..)
  obtain⟨θ,H,w⟩:=c
  have hp:=Cx.ME hc h1 h2 (.deferred none)
  refine⟨by simp,.inl ⟨r,w.putObj r (.deferred none),rfl,run_takeDeferred h1,?_⟩⟩
  have hd':nD C0.w.heap.size ⟨θ,H,w.putObj r (.deferred none)⟩ ds:=by
   have hpw:=List.pairwise_cons.1 hd.2
   refine⟨fun d' hd'=>?_,hpw.2⟩
   obtain⟨r',q1,q2,q3,q4⟩:=hd.1 d' (List.mem_cons_of_mem _ hd')
   have hne:r'≠r:=fun e=>hpw.1 d' hd' r rfl (by rw[q1,e])
   refine⟨r',q1,?_,⟨?_,q3.2⟩,q4⟩
   ·show(w.putObj r _).heap[r']? =_
    rw[dc w r r' _ hne];exact q2
   ·show r'<(w.putObj r _).heap.size
    have:=q3.1
    simpa [World.putObj] using this
  refine tT ds ⟨θ,H,w.putObj r (.deferred none)⟩ hp.1 hd' (hp.2 C0 h3 hg) x v tmps ((aG.mF h1 _).1 _ _ hx) hR fun w' hw'=>hrun w' fun r'=>?_
  by_cases e:r'=r
  ·exact .inr ⟨_,by rw[e];exact h1⟩
  ·rcases hw' r' with h|⟨ds0,h⟩
   ·left;rw[h];exact dc w r r' _ e
   ·right;exact⟨ds0,by rw[← h];exact(dc w r r' _ e).symm⟩
theorem rK:∀ {xs:List SV} {vs:List Value} {i:Nat} {t:Nat} {x:SV},aD c xs vs→look (au xs i) t=some x→∃ j,t=i+j∧∃ v,vs[j]? =some v∧aG c x v
 |[],vs,i,t,x,_,h=>by cases h
 |y::xs,vs,i,t,x,hr,h=>by
  obtain⟨u,us,h1,h2,rfl⟩:=aD.bC.1 hr
  simp only[au,look] at h
  split at h
  ·rename_i e;cases h;exact⟨0,e,u,rfl,h1⟩
  ·obtain⟨j,e,v,h3,h4⟩:=rK h2 h
   exact⟨j+1,by omega,v,by simpa using h3,h4⟩
theorem ag.DN (hT:aq P T) {f:FuncId} {fn:Func} {cd:Code} {args:List SV} {H:List az} {R:SV→List az→Prop} (hf:P.funcs[f]? =some fn) (hb:fn.body=some cd) (hname:(fn.name== "runtime.NumGoroutine")=false)
 (hnt:fn.ntmps=nt) (hlen:args.length≤nt) {rs:List ResultVar} (hrs:fn.results.toList=rs)
 (h:∀ C:Cx,C.H=H→closed H→eJ G C.H.length→ey P G nt none C cd (fun e s=>HQ C T rs R e s.env s.H) ⟨au args 0,H⟩):ag P G f args H R:=by
 refine⟨⟨fn,hf,hname,by rw[hb];rfl⟩,fun c vs hH hc hG hv=>?_⟩
 have hcl:closed H:=hH ▸ hc.closed
 refine callsIn_of_wp_marks hf hb trivial ?_ rfl
 have hvl:vs.length=args.length:=hv.length
 have hinv:Inv G nt c.w.heap.size c (au args 0) { tmps:=vs.toArray++Array.replicate (fn.ntmps - vs.toArray.size) undef,defers:=[]}:=by
  refine⟨hc,hG,by simp;omega,fun t x hx=>?_,⟨by simp,List.Pairwise.nil⟩⟩
  obtain⟨j,e,v,h1,h2⟩:=rK hv hx
  have hj:j<vs.length:=(List.getElem?_eq_some_iff.1 h1).1
  have:(vs.toArray++Array.replicate (fn.ntmps - vs.toArray.size) undef).getD t undef=v:=by
   rw[Array.getD_eq_getD_getElem?,Array.getElem?_append_left (by simp;omega)]
   rw[e,Nat.zero_add,List.getElem?_toArray,h1];rfl
  rw[this];exact h2
 have hA:=h c hH hcl hG.F7 c _ hH hinv (Grow.refl c)
 refine wpIn_mono hA ?_
 rintro e a' w' ⟨⟨env',H'⟩,c',h1,h2,rfl,h3,h4⟩
 have fin:aJ (iJ T env' H' rs) (fun xs=>qL (Fin c H' (bA xs) R))→LeavesInM (FR none) 0 P fn a'.tmps (qK c R) a'.defers .returning c'.w:=fun hq=>by
  obtain⟨xs,q1,q2⟩:=hq
  simp only at h2
  rw[← h2] at q1 q2
  obtain⟨vs',k1,k2⟩:=vu hT h3 q1
  have hval:aG c' (bA xs) (if hs:vs'.toArray.size=1 then vs'.toArray[0] else .tuple vs'.toArray):=by
   have hl:=k1.length
   cases xs with
   |nil=>rw[aD.dU.1 k1];simp only[bA,aG];exact⟨[],aD.cw,by simp⟩
   |cons x xs=>
    cases xs with
    |nil=>
     obtain⟨u,us,e1,e2,rfl⟩:=aD.bC.1 k1
     rw[aD.dU.1 e2]
     simpa [bA] using e1
    |cons y ys=>
     have:¬ vs'.toArray.size=1:=by simp at hl ⊢;omega
     rw[dif_neg this]
     simp only[bA,aG]
     exact⟨vs',k1,rfl⟩
  obtain⟨c2,y,e1,e2,e3,e4,e5⟩:=q2 c' _ rfl h3.heap hval h4
  rw[← e1]
  have hdef:nD c.w.heap.size c2 a'.defers:=by
   refine⟨fun d hd=>?_,h3.defs.2⟩
   obtain⟨r,g1,g2,g3,g4⟩:=h3.defs.1 d hd
   rw[← e1] at g2
   refine⟨r,g1,g2,⟨by rw[e1];exact g3.1,?_⟩,g4⟩
   rintro⟨id,o,⟨B,hB,hl⟩,ht⟩
   have hb:=e3.eS id B hB
   cases B with
   |dead=>cases hl
   |obj ob=>obtain⟨b,q1,q2,q3⟩:=hb;rw[ht] at q1;cases q1;rw[g2] at q2;cases q2;exact q3 _ rfl
   |map _ _=>obtain⟨b,_,_,q1,q2,_⟩:=hb;rw[ht] at q1;cases q1;rw[g2] at q2;cases q2
   |cells _ _ _=>
    rcases hb with⟨q1,_⟩|⟨b,_,_,_,_,_,q1,q2,_⟩
    ·rw[ht] at q1;cases q1
    ·rw[ht] at q1;cases q1;rw[g2] at q2;cases q2
  refine tT a'.defers c2 e3 hdef e5 y _ a'.tmps e4 e2 fun w2 hw2=>?_
  rw[e1] at hw2
  have hrun:=k2 w2 hw2
  have:(fn.results.mapM (sr a'.tmps)).run P w2= .ok vs'.toArray w2:=by
   rw[Array.mapM_eq_mapM_toList,hrs,Sem.run_map,hrun];rfl
  rw[zd,Sem.run_bind,this]
  rfl
 cases e with
 |normal=>exact fin h1
 |ret=>exact fin h1
 |_=>exact h1.elim
end
def Told (x y:SV):Prop:=y=x∨(x= .nil∧∃ n,y= .list n [])
def iT:List SV→List SV→Prop
 |[],[]=>True
 |x::xs,y::ys=>Told x y∧iT xs ys
 |_,_=>False
theorem Told.rep {c:Cx} {x y:SV} {v:Value} (h:Told x y) (hr:aG c x v):aG c y v:=by
 rcases h with rfl|⟨rfl,n,rfl⟩
 ·exact hr
 ·simp only[aG] at hr ⊢
  exact⟨none,0,hr,Nat.le_refl _,Nat.zero_le _,by simp⟩
theorem iT.rep {c:Cx}:∀ {xs ys:List SV} {vs:List Value},iT xs ys→aD c xs vs→aD c ys vs
 |[],[],vs,_,hr=>hr
 |x::xs,y::ys,vs,h,hr=>by
  obtain⟨u,us,h1,h2,rfl⟩:=aD.bC.1 hr
  exact aD.bT (h.1.rep h1) (h.2.rep h2)
 |[],_::_,_,h,_=>h.elim
 |_::_,[],_,h,_=>h.elim
def ay:SV→SV→Prop
 | .agg xs,.agg ys=>iT xs ys
 |x,y=>Told x y
theorem iT.refl:∀ xs:List SV,iT xs xs
 |[]=>trivial
 |x::xs=>⟨.inl rfl,iT.refl xs⟩
theorem ay.refl (x:SV):ay x x:=by
 cases x with
 |agg xs=>exact iT.refl xs
 |_=>exact .inl rfl
theorem ay.rep {c:Cx} {x y:SV} {v:Value} (h:ay x y) (hr:aG c x v):aG c y v:=by
 unfold ay at h
 split at h
 ·simp only[aG] at hr ⊢
  obtain⟨vs,h1,h2,h3⟩:=hr
  exact⟨vs,h.rep h1,h2,h3⟩
 ·exact h.rep hr
theorem ah {P:Program} {t:Nat} {i:TI} (z0:SV) (hz0:ay z0 i.zero) (h1:KE P t i.d) (h2:(P.info? t).map (fun j=>(j.size,j.bytes,j.zero.bind aZ,j.zero.map fun z=>z.cells.size))=some (i.size,i.bytes,some z0,some i.size)):aN P t i:=by
 refine⟨h1,?_⟩
 cases hi:P.info? t with
 |none=>rw[hi] at h2;cases h2
 |some info=>
  rw[hi] at h2
  simp only[Option.map_some,Option.some.injEq,Prod.mk.injEq] at h2
  obtain⟨a1,a2,a3,a4⟩:=h2
  cases hz:info.zero with
  |none=>rw[hz] at a3;cases a3
  |some z=>
   rw[hz] at a3 a4
   exact⟨info,z,rfl,a1,a2,hz,fun c=>⟨hz0.rep (lz a3 c).1,(lz a3 c).2⟩,by simpa using a4⟩
theorem aq.nil {P:Program}:aq P []:=fun t i h=>by cases h
theorem aq.cons {P:Program} {k:Nat} {x:TI} {T:aE} (h:aN P k x) (r:aq P T):aq P ((k,x)::T):=fun t i hi=>by
 simp only[aE.get] at hi
 cases e:Nat.beq t k with
 |true=>
  rw[e,cond_true] at hi
  cases hi
  have:=Nat.eq_of_beq_eq_true e
  subst this
  exact h
 |false=>
  rw[e,cond_false] at hi
  exact r t i hi
end
section
section
variable {P:Program} {G:Gl} {T:aE} {own:List Nat} {nt B:Nat} {ρ:Option Nat} {C:Cx} {env:Env} {H:List az} {k:Exit→Env→List az→Prop}
def HO (K Y:Env→List az→Prop):Prop:=∀ env H,Y env H→K env H
theorem HO.go {K Y:Env→List az→Prop} {env:Env} {H:List az} (h:HO K Y) (y:Y env H):K env H:=h env H y
theorem pS (kd:IntKind) (n:Int) (h:kd.min≤n∧n≤kd.max):aZ (.int kd n)=some (.int kd n):=by simp[aZ,bg,h]
theorem wg (n:Int) (h: -9223372036854775808≤n∧n<9223372036854775808):aZ (.int .i64 n)=some (.int .i64 n):=pS _ _ (by
 have h1:IntKind.i64.min= -9223372036854775808:=by decide
 have h2:IntKind.i64.max=9223372036854775807:=by decide
 rw[h1,h2];omega)
theorem yI (n:Int) (h:0≤n∧n<256):aZ (.int .u8 n)=some (.int .u8 n):=pS _ _ (by
 have h1:IntKind.u8.min=0:=by decide
 have h2:IntKind.u8.max=255:=by decide
 rw[h1,h2];omega)
theorem uO (b:Bool):aZ (.bool b)=some (.bool b):=rfl
theorem wh:aZ (.slice none 0 0)=some .nil:=rfl
theorem re:aZ (.pointer none)=some .aV:=rfl
theorem ra:aZ (.map none)=some .bM:=rfl
theorem wrap_i64 (n:Int) (h: -9223372036854775808≤n∧n<9223372036854775808):IntKind.i64.wrap n=n:=by
 simp only[IntKind.wrap,IntKind.bits,IntKind.signed]
 simp
 omega
theorem xa {a b:Int} (h:a≤b):(a≤b)=True:=eq_true h
theorem xm {a b:Nat} (h:a≤b):(a≤b)=True:=eq_true h
theorem xo {a b:Nat} (h:a<b):(a<b)=True:=eq_true h
theorem qL.mk {p:Prop} (h:p):qL p:=h
def bR:Env→Env→Prop
 |[],_=>True
 |(t,x)::r,env=>look env t=some x∧bR r env
theorem bR.look:∀ {env2 env:Env},bR env2 env→∀ t x,look env2 t=some x→look env t=some x
 |[],_,_,t,x,h=>by cases h
 |(t',x')::r,env,hs,t,x,h=>by
  simp only[Go.Proofs.YtedejleokilohaaGreatDoor.look] at h
  split at h
  ·rename_i e;cases h;subst e;exact hs.1
  ·exact hs.2.look t x h
theorem Wk.refl (s:St):Wk G nt C s s:=fun c a h1 h2 h3=>⟨c,h1,rfl,h2,h3⟩
theorem Wk.sub {env2:Env} (h:bR env2 env):Wk G nt C ⟨env,H⟩ ⟨env2,H⟩:=Wk.env h.look
def nC (p:Prop):Prop:=p
theorem nC.go {p:Prop} (h:nC p):p:=h
theorem Fin.same {x:SV} {R:SV→List az→Prop} (h:R x H):Fin C H x R:=fun c v h1 h2 h3 h4=>⟨c,x,rfl,by rw[h1];exact h,h2,h3,h4⟩
theorem Fin.then {x:SV} {R:SV→List az→Prop} (h:R x H):qL (Fin C H x R):=Fin.same h
end
end
abbrev aI:=List UInt8
mutual
inductive Ex where
 |mk (kind:Int) (name:aI) (n op:Int) (names:List aI) (ad:List Ex) (binds:List Bd) (alts:List Al)
inductive Bd where
 |mk (name:aI) (e:Ex)
inductive Al where
 |mk (kind:Int) (name:aI) (n:Int) (names:List aI) (body:Ex)
end
def Bd.name:Bd→aI
 | .mk s _=>s
def Bd.e:Bd→Ex
 | .mk _ e=>e
def Al.kind:Al→Int
 | .mk k _ _ _ _=>k
def Al.name:Al→aI
 | .mk _ s _ _ _=>s
def Al.n:Al→Int
 | .mk _ _ n _ _=>n
def Al.names:Al→List aI
 | .mk _ _ _ l _=>l
def Al.body:Al→Ex
 | .mk _ _ _ _ e=>e
mutual
def Ex.cells:Ex→List SV
 | .mk k s n op l ad binds alts=>[.int .i64 k,.str s,.int .i64 n,.int .i64 op,.list 1 (l.map .str),.list 8 (aj ad),.list 9 (ao binds),.list 12 (aA alts)]
def aj:List Ex→List SV
 |[]=>[]
 |e::r=> .agg e.cells::aj r
def Bd.cells:Bd→List SV
 | .mk s e=> .str s::e.cells
def ao:List Bd→List SV
 |[]=>[]
 |b::r=> .agg b.cells::ao r
def Al.cells:Al→List SV
 | .mk k s n l e=> .int .i64 k:: .str s:: .int .i64 n:: .list 1 (l.map .str)::e.cells
def aA:List Al→List SV
 |[]=>[]
 |a::r=> .agg a.cells::aA r
end
def Ex.sv (e:Ex):SV:= .agg e.cells
def Bd.sv (b:Bd):SV:= .agg b.cells
def Al.sv (a:Al):SV:= .agg a.cells
theorem Ex.aH (e:Ex):e.cells.length=8:=by cases e;rfl
theorem Bd.aH (b:Bd):b.cells.length=9:=by cases b;simp[Bd.cells,Ex.aH]
theorem Al.aH (a:Al):a.cells.length=12:=by cases a;simp[Al.cells,Ex.aH]
theorem bQ:∀ l:List Ex,aj l=l.map Ex.sv
 |[]=>rfl
 |e::r=>by rw[aj,bQ r];rfl
theorem cr:∀ l:List Bd,ao l=l.map Bd.sv
 |[]=>rfl
 |e::r=>by rw[ao,cr r];rfl
theorem dC:∀ l:List Al,aA l=l.map Al.sv
 |[]=>rfl
 |e::r=>by rw[aA,dC r];rfl
theorem Ex.aU (e:Ex):e.cells.take 8=e.cells:=List.take_of_length_le (by rw[e.aH];exact Nat.le_refl _)
theorem Bd.df (b:Bd):b.cells= .str b.name::b.e.cells:=by cases b;rfl
theorem Al.df (a:Al):a.cells= .int .i64 a.kind:: .str a.name:: .int .i64 a.n:: .list 1 (a.names.map .str)::a.body.cells:=by cases a;rfl
mutual
def Ex.size:Ex→Nat
 | .mk _ _ _ _ _ ad binds alts=>1+mz ad+ml binds+mi alts
def mz:List Ex→Nat
 |[]=>0
 |e::r=>e.size+mz r
def Bd.size:Bd→Nat
 | .mk _ e=>e.size
def ml:List Bd→Nat
 |[]=>0
 |b::r=>b.size+ml r
def Al.size:Al→Nat
 | .mk _ _ _ _ e=>e.size
def mi:List Al→Nat
 |[]=>0
 |a::r=>a.size+mi r
end
theorem Ex.size_pos (e:Ex):0<e.size:=by cases e;simp[Ex.size];omega
section
theorem dh (H L:List az):(H++L)[H.length]? =L[0]? :=by rw[List.getElem?_append_right (Nat.le_refl _),Nat.sub_self]
theorem bJ (H L:List az) (k:Nat):(H++L)[H.length+k]? =L[k]? :=by simp[List.getElem?_append_right]
theorem du {H L:List az} {id:Nat} (h:id<H.length):(H++L)[id]? =H[id]? :=List.getElem?_append_left h
theorem dB (H L:List az) (x:az):(H++L).set H.length x=H++L.set 0 x:=by simp[List.set_append]
theorem cq (H L:List az) (k:Nat) (x:az):(H++L).set (H.length+k) x=H++L.set k x:=by simp[List.set_append]
theorem fV {H L:List az} {id:Nat} (h:id<H.length) (x:az):(H++L).set id x=H.set id x++L:=by simp[List.set_append,h]
theorem pN {n m:Nat} (h:n≤m):∀ {es:List (SV×SV)},dX n es=true→dX m es=true
 |[],_=>rfl
 |p::r,hb=>by
  simp only[dX,Bool.and_eq_true] at hb ⊢
  exact⟨⟨(SV.cD h).1 _ hb.1.1,(SV.cD h).1 _ hb.1.2⟩,pN h hb.2⟩
theorem az.sU {n m:Nat} (h:n≤m) {B:az} (hb:B.under n=true):B.under m=true:=by
 cases B with
 |cells _ _ vals=>exact(SV.cD h).2 _ hb
 |map _ es=>exact pN h hb
 |_=>rfl
theorem closed.app {H:List az} (h:closed H) {L:List az} (hb:∀ b∈L,b.under (H.length+L.length)=true):closed (H++L):=by
 intro B hB
 rw[List.length_append]
 rcases List.mem_append.1 hB with h1|h1
 ·exact az.sU (by omega) (h B h1)
 ·exact hb B h1
theorem closed.set {H:List az} (h:closed H) {id:Nat} {b:az} (hb:b.under H.length=true):closed (H.set id b):=by
 intro B hB
 rw[List.length_set]
 rcases List.mem_or_eq_of_mem_set hB with h1|h1
 ·exact h B h1
 ·subst h1;exact hb
mutual
theorem Ex.aP (n:Nat):∀ e:Ex,SV.aB n e.cells=true
 | .mk k s m op l ad binds alts=>by
  simp only[Ex.cells,SV.aB,SV.under,cm,eN,jr,jq,Bool.and_self]
theorem eN (n:Nat):∀ l:List Ex,SV.aB n (aj l)=true
 |[]=>rfl
 |e::r=>by simp only[aj,SV.aB,SV.under,Ex.aP n e,eN n r,Bool.and_self]
theorem Bd.aP (n:Nat):∀ b:Bd,SV.aB n b.cells=true
 | .mk s e=>by simp only[Bd.cells,SV.aB,SV.under,Ex.aP n e,Bool.and_self]
theorem jr (n:Nat):∀ l:List Bd,SV.aB n (ao l)=true
 |[]=>rfl
 |e::r=>by simp only[ao,SV.aB,SV.under,Bd.aP n e,jr n r,Bool.and_self]
theorem Al.aP (n:Nat):∀ b:Al,SV.aB n b.cells=true
 | .mk k s m l e=>by simp only[Al.cells,SV.aB,SV.under,cm,Ex.aP n e,Bool.and_self]
theorem jq (n:Nat):∀ l:List Al,SV.aB n (aA l)=true
 |[]=>rfl
 |e::r=>by simp only[aA,SV.aB,SV.under,Al.aP n e,jq n r,Bool.and_self]
theorem cm (n:Nat):∀ l:List aI,SV.aB n (l.map .str)=true
 |[]=>rfl
 |e::r=>by simp only[List.map,SV.aB,SV.under,cm n r,Bool.and_self]
end
theorem Ex.Ef (n:Nat) (e:Ex):e.sv.under n=true:=Ex.aP n e
section
variable {P:Program} {G:Gl} {nt:Nat} {C:Cx} {env:Env} {H:List az}
def oT (n:Nat):Env→Env→Prop
 |[],_=>True
 |(t,x)::r,env=>(look env t=some x∧x.under n=true)∧oT n r env
theorem oT.look {n:Nat}:∀ {env2 env:Env},oT n env2 env→∀ t x,look env2 t=some x→look env t=some x∧x.under n=true
 |[],_,_,t,x,h=>by cases h
 |(t',x')::r,env,hs,t,x,h=>by
  simp only[Go.Proofs.YtedejleokilohaaGreatDoor.look] at h
  split at h
  ·rename_i e;cases h;subst e;exact hs.1
  ·exact hs.2.look t x h
theorem Wk.KU (hG:aw G) {env2:Env} {X:List az} (hB:eJ G H.length) (hC:C.H.length≤H.length) (hcl:closed H) (h:oT H.length env2 env):Wk G nt C ⟨env,H++X⟩ ⟨env2,H⟩:=Wk.cut hG hB hC hcl h.look
theorem Wk.ni (hG:aw G) {env2:Env} {b:az} {X:List az} (hB:eJ G H.length) (hC:C.H.length≤H.length) (hcl:closed (H++[b])) (h:oT (H++[b]).length env2 env):Wk G nt C ⟨env,H++b::X⟩ ⟨env2,H++[b]⟩:=by
 rw[List.append_cons];exact Wk.KU hG (fun C0 h0=>by have:=hB C0 h0;simp;omega) (by simp;omega) hcl h
theorem Fin.cut {X:List az} {x:SV} {R:SV→List az→Prop} (hC:C.H.length≤H.length) (hcl:closed H) (hx:x.under H.length=true) (h:R x H):qL (Fin C (H++X) x R):=by
 rintro⟨θ,Hc,w⟩ v h1 h2 h3 h4
 simp only at h1
 subst h1
 obtain⟨k1,k2⟩:=Cx.cut h2 hcl
 exact⟨⟨θ,H,w⟩,x,rfl,h,k1,aG.il.1 _ _ h3 hx,k2 C hC h4⟩
end
end
theorem ct (l:List Ex):(aj l).length=l.length:=by simp[bQ]
theorem iV (l:List Bd):(ao l).length=l.length:=by simp[cr]
theorem iU (l:List Al):(aA l).length=l.length:=by simp[dC]
theorem wM (l:List Ex) (i:Nat):(aj l)[i]? =l[i]?.map fun e=> .agg e.cells:=by rw[bQ,List.getElem?_map];rfl
theorem vU (l:List Bd) (i:Nat):(ao l)[i]? =l[i]?.map fun e=> .agg (.str e.name::e.e.cells):=by
 rw[cr,List.getElem?_map]
 have:Bd.sv=fun e=> .agg (.str e.name::e.e.cells):=by funext e;rw[Bd.sv,Bd.df]
 rw[this]
theorem gy (l:List Al) (i:Nat):(aA l)[i]? =l[i]?.map fun a=> .agg (.int .i64 a.kind:: .str a.name:: .int .i64 a.n:: .list 1 (a.names.map .str)::a.body.cells):=by
 rw[dC,List.getElem?_map]
 have:Al.sv=fun a=> .agg (.int .i64 a.kind:: .str a.name:: .int .i64 a.n:: .list 1 (a.names.map .str)::a.body.cells):=by funext e;rw[Al.sv,Al.df]
 rw[this]
def Ex.kind:Ex→Int| .mk k _ _ _ _ _ _ _=>k
def Ex.name:Ex→aI| .mk _ s _ _ _ _ _ _=>s
def Ex.n:Ex→Int| .mk _ _ n _ _ _ _ _=>n
def Ex.op:Ex→Int| .mk _ _ _ o _ _ _ _=>o
def Ex.names:Ex→List aI| .mk _ _ _ _ l _ _ _=>l
def Ex.ad:Ex→List Ex| .mk _ _ _ _ _ l _ _=>l
def Ex.binds:Ex→List Bd| .mk _ _ _ _ _ _ l _=>l
def Ex.alts:Ex→List Al| .mk _ _ _ _ _ _ _ l=>l
def Ex.parts (e:Ex):List Ex:=e.ad++(e.binds.map Bd.e++e.alts.map Al.body)
theorem Ex.dn (k:Int) (s:aI) (n o:Int) (l:List aI) (ad:List Ex) (binds:List Bd) (alts:List Al):(Ex.mk k s n o l ad binds alts).parts=ad++(binds.map Bd.e++alts.map Al.body):=rfl
def cW:List aI→Nat
 |[]=>0
 |s::r=>1+s.length+cW r
mutual
def Ex.wt:Ex→Nat
 | .mk _ s _ _ l ad binds alts=>1+s.length+cW l+bt ad+aW binds+cp alts
def bt:List Ex→Nat
 |[]=>0
 |e::r=>e.wt+bt r
def Bd.wt:Bd→Nat
 | .mk s e=>1+s.length+e.wt
def aW:List Bd→Nat
 |[]=>0
 |b::r=>b.wt+aW r
def Al.wt:Al→Nat
 | .mk _ s _ l e=>1+s.length+cW l+e.wt
def cp:List Al→Nat
 |[]=>0
 |a::r=>a.wt+cp r
end
theorem Ex.bz (e:Ex):0<e.wt:=by cases e;simp only[Ex.wt];omega
theorem Bd.cZ (b:Bd):b.e.wt<b.wt:=by cases b;simp only[Bd.wt,Bd.e];omega
theorem Al.cZ (b:Al):b.body.wt<b.wt:=by cases b;simp only[Al.wt,Al.body];omega
theorem ea:∀ l:List aI,l.length≤cW l
 |[]=>Nat.le_refl _
 |s::r=>by simp only[List.length_cons,cW];have:=ea r;omega
theorem gU:∀ l:List Ex,l.length≤bt l
 |[]=>Nat.le_refl _
 |e::r=>by simp only[List.length_cons,bt];have:=gU r;have:=e.bz;omega
theorem dG:∀ l:List Bd,l.length≤aW l
 |[]=>Nat.le_refl _
 |e::r=>by simp only[List.length_cons,aW];have:=dG r;have:=e.cZ;omega
theorem tn:∀ l:List Al,l.length≤cp l
 |[]=>Nat.le_refl _
 |e::r=>by simp only[List.length_cons,cp];have:=tn r;have:=e.cZ;omega
theorem cH:∀ {l:List Ex} {e:Ex},e∈l→e.wt≤bt l
 |x::r,e,h=>by
  simp only[bt]
  rcases List.mem_cons.1 h with rfl|h
  ·omega
  ·have:=cH h;omega
theorem dH:∀ {l:List Bd} {e:Bd},e∈l→e.wt≤aW l
 |x::r,e,h=>by
  simp only[aW]
  rcases List.mem_cons.1 h with rfl|h
  ·omega
  ·have:=dH h;omega
theorem cN:∀ {l:List Al} {e:Al},e∈l→e.wt≤cp l
 |x::r,e,h=>by
  simp only[cp]
  rcases List.mem_cons.1 h with rfl|h
  ·omega
  ·have:=cN h;omega
theorem Ex.cU {e p:Ex} (h:p∈e.parts):p.wt<e.wt:=by
 obtain⟨k,s,n,o,l,ad,binds,alts⟩:=e
 rw[Ex.dn] at h
 simp only[Ex.wt]
 rcases List.mem_append.1 h with h|h
 ·have:=cH h;omega
 ·rcases List.mem_append.1 h with h|h
  ·obtain⟨b,hb,rfl⟩:=List.mem_map.1 h
   have:=dH hb;have:=b.cZ;omega
  ·obtain⟨b,hb,rfl⟩:=List.mem_map.1 h
   have:=cN hb;have:=b.cZ;omega
theorem Ex.cY (k:Int) (s:aI) (n o:Int) (l:List aI) (ad:List Ex) (binds:List Bd) (alts:List Al):l.length+ad.length+binds.length+alts.length<(Ex.mk k s n o l ad binds alts).wt:=by
 have h1:=ea l;have h2:=gU ad;have h3:=dG binds;have h4:=tn alts
 simp only[Ex.wt];omega
def HU (F:Ex→Int×Bool):Int→List Ex→Int×Bool
 |n,[]=>(n,true)
 |n,e::r=>if n<30000 then (if (F e).2 then HU F (n+(F e).1) r else (n+(F e).1,false)) else (n,true)
def gn:Nat→Ex→Int×Bool
 |0,_=>(1,false)
 |f+1,e=>HU (gn f) 1 e.parts
section
def ob {α β:Type} (x:Option α) (f:α→Option β):Option β:=x.bind f
theorem mE {α β:Type} (a:α) (f:α→Option β):ob (some a) f=f a:=rfl
@[congr] theorem Ip {α β:Type} {x y:Option α} {f:α→Option β} (h:x=y):ob x f=ob y f:=by rw[h]
theorem aL {α β:Type} {x:Option α} {f:α→Option β} {b:β} (h:ob x f=some b):∃ a,x=some a∧f a=some b:=by
 cases x with
 |none=>cases h
 |some a=>exact⟨a,rfl,h⟩
def ed {α:Type} (p:Prop) [Decidable p] (x:Option α):Option α:=if p then x else none
theorem bH {α:Type} {p:Prop} [Decidable p] {x:Option α} {b:α} (h:ed p x=some b):p∧x=some b:=by
 unfold ed at h
 split at h
 ·exact⟨‹_›,h⟩
 ·cases h
theorem Cs {α:Type} {p:Prop} [Decidable p] (h:p) (x:Option α):ed p x=x:=if_pos h
def bb {α:Type} (b:Bool) (x y:Option α):Option α:=match b with
 |true=>x
 |false=>y
theorem uL {α:Type} (x y:Option α):bb true x y=x:=rfl
theorem qQ {α:Type} (x y:Option α):bb false x y=y:=rfl
@[congr] theorem HT {α:Type} {b b':Bool} {x y:Option α} (h:b=b'):bb b x y=bb b' x y:=by rw[h]
def yW:Operand→Bool
 | .const (.slice none 0 0)=>true
 | .const (.map none)=>true
 | .const (.pointer none)=>true
 |_=>false
def xp (H:List az) (y:Operand):List az:=match yW y with
 |true=>H
 |false=>[]
theorem xq {H:List az} {y:Operand} {id g:Nat} {q:Nat×List SV} (h:db (xp H y) id g=some q):db H id g=some q:=by
 unfold xp at h
 split at h
 ·exact h
 ·simp[db] at h
theorem DG {H:List az} {y:Operand} {id:Nat} {q:Unit} (h:jy (xp H y) id=some q):jy H id=some q:=by
 unfold xp at h
 split at h
 ·exact h
 ·simp[jy] at h
def Fo (b:Bool) (op:BinOp) (x:SV):Option SV:=
 match x with
 | .gW z=>(match op with
  | .eql=>ed (b=true) (some (.bool z))
  | .neq=>ed (b=true) (some (.bool (!z)))
  |_=>none)
 |_=>none
theorem Fp {b:Bool} {op:BinOp} {x v:SV} {k:SV→Prop} (h:Fo b op x=some v) (hk:k v):rF b op x k:=by
 unfold Fo at h
 split at h
 ·split at h
  ·obtain⟨h1,h2⟩:=bH h;cases h2;exact⟨h1,hk⟩
  ·obtain⟨h1,h2⟩:=bH h;cases h2;exact⟨h1,hk⟩
  ·cases h
 ·cases h
def EW (H:List az) (tb:Nat) (op:BinOp) (x y:SV):Option SV:=
 match x,y with
 | .int i a,.int j b=>
  match op with
  | .shl=>ed (0≤b) (some (.int i (i.wrap (a*2 ^ (min b.toNat i.bits)))))
  | .shr=>ed (0≤b) (some (.int i (a.fdiv (2 ^ (min b.toNat i.bits)))))
  | .add=>ed (i=j) (some (.int i (i.wrap (a+b))))
  | .sub=>ed (i=j) (some (.int i (i.wrap (a - b))))
  | .mul=>ed (i=j) (some (.int i (i.wrap (a*b))))
  | .quo=>ed (i=j∧b≠0) (some (.int i (i.wrap (a.tdiv b))))
  | .rem=>ed (i=j∧b≠0) (some (.int i (a.tmod b)))
  | .and=>ed (i=j) (ob (k8 .and i a b) fun n=>some (.int i n))
  | .or=>ed (i=j) (ob (k8 .or i a b) fun n=>some (.int i n))
  | .xor=>ed (i=j) (ob (k8 .xor i a b) fun n=>some (.int i n))
  | .andNot=>ed (i=j) (ob (k8 .andNot i a b) fun n=>some (.int i n))
  | .eql=>ed (i=j) (some (.bool (decide (a=b))))
  | .neq=>ed (i=j) (some (.bool (decide (a≠b))))
  | .lss=>ed (i=j) (some (.bool (decide (a<b))))
  | .leq=>ed (i=j) (some (.bool (decide (a≤b))))
  | .gtr=>ed (i=j) (some (.bool (decide (b<a))))
  | .geq=>ed (i=j) (some (.bool (decide (b≤a))))
 | .str a,.str b=>
  match op with
  | .add=>ed (a.length+b.length≤maxLen) (some (.str (a++b)))
  | .eql=>some (.bool (decide (a=b)))
  | .neq=>some (.bool (decide (a≠b)))
  | .lss=>some (.bool (dK a b))
  | .gtr=>some (.bool (!(dK a b||decide (a=b))))
  | .leq=>some (.bool (dK a b||decide (a=b)))
  | .geq=>some (.bool (!dK a b))
  |_=>none
 | .bool a,.bool b=>
  match op with
  | .eql=>ed (tb=1) (some (.bool (a==b)))
  | .neq=>ed (tb=1) (some (.bool (!(a==b))))
  |_=>none
 | .nil,.nil=>
  match op with
  | .eql=>ed (tb=2) (some (.bool true))
  | .neq=>ed (tb=2) (some (.bool false))
  |_=>none
 | .list _ (_::_),.nil=>
  match op with
  | .eql=>ed (tb=2) (some (.bool false))
  | .neq=>ed (tb=2) (some (.bool true))
  |_=>none
 | .sl id g _ (_+1),.nil=>
  match op with
  | .eql=>ob (db H id g) fun _=>ed (tb=2) (some (.bool false))
  | .neq=>ob (db H id g) fun _=>ed (tb=2) (some (.bool true))
  |_=>none
 | .bM,.bM=>
  match op with
  | .eql=>ed (tb=3) (some (.bool true))
  | .neq=>ed (tb=3) (some (.bool false))
  |_=>none
 | .map id,.bM=>
  match op with
  | .eql=>ob (jy H id) fun _=>ed (tb=3) (some (.bool false))
  | .neq=>ob (jy H id) fun _=>ed (tb=3) (some (.bool true))
  |_=>none
 | .aV,.aV=>
  match op with
  | .eql=>ed (tb=4) (some (.bool true))
  | .neq=>ed (tb=4) (some (.bool false))
  |_=>none
 | .ptr id g _ _,.aV=>
  match op with
  | .eql=>ob (db H id g) fun _=>ed (tb=4) (some (.bool false))
  | .neq=>ob (db H id g) fun _=>ed (tb=4) (some (.bool true))
  |_=>none
 | .iR _,.aV=>
  match op with
  | .eql=>ed (tb=4) (some (.bool false))
  | .neq=>ed (tb=4) (some (.bool true))
  |_=>none
 | .agg xs,.agg ys=>
  match op with
  | .eql=>ed (tb=5+dY xs∧dY ys=dY xs) (ob (o9 xs ys) fun b=>some (.bool b))
  | .neq=>ed (tb=5+dY xs∧dY ys=dY xs) (ob (o9 xs ys) fun b=>some (.bool (!b)))
  |_=>none
 |_,_=>none
theorem EX {H:List az} {yo:Operand} {tb:Nat} {op:BinOp} {x y v:SV} {k:SV→Prop} (h:EW (xp H yo) tb op x y=some v) (hk:k v):ec H tb op x y k:=by
 unfold EW at h
 split at h
 ·rename_i i a j b
  cases op<;>simp only at h<;>first
   |(cases h;done)
   |(obtain⟨h1,h2⟩:=bH h;cases h2;simp only[ec,cn,wc,nf,Bool.not_eq_true',decide_not] at hk ⊢;first
    |exact⟨h1,hk⟩
    |(rw[if_pos h1];exact hk)
    |(rw[if_pos h1.1];exact⟨h1.2,hk⟩))
   |(obtain⟨h1,h2⟩:=bH h;obtain⟨n,h3,h4⟩:=aL h2;cases h4;simp only[ec,if_pos h1,h3,nf];exact hk)
 ·rename_i a b
  cases op<;>simp only at h<;>first
   |(cases h;done)
   |(cases h;simp only[ec,we,nf,decide_not,cn] at hk ⊢;exact hk)
   |(obtain⟨h1,h2⟩:=bH h;cases h2;exact⟨h1,hk⟩)
 ·rename_i a b
  cases op<;>simp only at h<;>first
   |(cases h;done)
   |(obtain⟨h1,h2⟩:=bH h;cases h2;exact⟨h1,hk⟩)
 all_goals first
  |(cases h;done)
  |(cases op<;>simp only at h<;>first
   |(cases h;done)
   |(obtain⟨h1,h2⟩:=bH h;cases h2;exact⟨h1,hk⟩)
   |(obtain⟨h1,h2⟩:=bH h;cases h2;exact⟨h1,(by intro e;cases e),hk⟩)
   |(obtain⟨h1,h2⟩:=bH h;obtain⟨b,h3,h4⟩:=aL h2;cases h4;exact⟨h1,b,h3,hk⟩)
   |(obtain⟨q,h0,h⟩:=aL h;obtain⟨h1,h2⟩:=bH h;cases h2;exact⟨q,xq h0,h1,hk⟩)
   |(obtain⟨q,h0,h⟩:=aL h;obtain⟨h1,h2⟩:=bH h;cases h2;exact⟨q,DG h0,h1,hk⟩)
   |(obtain⟨q,h0,h⟩:=aL h;obtain⟨h1,h2⟩:=bH h;cases h2;exact⟨q,xq h0,h1,(by intro e;cases e),hk⟩))
def MI (op:UnOp) (x:SV):Option SV:=
 match op,x with
 | .not,.bool b=>some (.bool (!b))
 | .neg,.int i n=>some (.int i (i.wrap (0 - n)))
 |_,_=>none
def GX (H:List az) (i:TI) (v:SV):Option SV:=
 ed (mB H i.d v=true) (ob (fp H v) fun n=>match i.d with
  | .map _ _=>ed (n≤9223372036854775807) (some (.int .i64 n))
  |_=>some (.int .i64 n))
def gv (b want:Bool) (x:SV):SV:=match b,want with
 |true,true=>x
 |false,false=>x
 |_,_=> .undef
theorem jS (x:SV):gv true true x=x:=rfl
theorem jP (x:SV):gv false false x=x:=rfl
theorem jR (x:SV):gv true false x= .undef:=rfl
theorem jQ (x:SV):gv false true x= .undef:=rfl
theorem gN (b:Bool) (x:SV):gv b b x=x:=by cases b<;>rfl
theorem GQ {b:Bool} (x:SV) (h:b=true):gv b true x=x:=by subst h;rfl
theorem GP {b:Bool} (x:SV) (h:b=false):gv b false x=x:=by subst h;rfl
theorem C6 {a:Prop} {inst:Decidable a} (x:SV) (h:a):gv (decide a) true x=x:=by rw[decide_eq_true h];rfl
theorem C5 {a:Prop} {inst:Decidable a} (x:SV) (h:¬ a):gv (decide a) false x=x:=by rw[decide_eq_false h];rfl
theorem GS {a:Prop} {inst:Decidable a} (x:SV) (h:¬ a):gv (decide a) true x= .undef:=by rw[decide_eq_false h];rfl
theorem GR {a:Prop} {inst:Decidable a} (x:SV) (h:a):gv (decide a) false x= .undef:=by rw[decide_eq_true h];rfl
theorem Ie {b:Bool} (x:SV) (h:b=false):gv b true x= .undef:=by subst h;rfl
theorem Ic {b:Bool} (x:SV) (h:b=true):gv b false x= .undef:=by subst h;rfl
def pk (b:Bool) (x y:SV):SV:=match b with
 |true=>x
 |false=>y
theorem fh (x y:SV):pk true x y=x:=rfl
theorem eu (x y:SV):pk false x y=y:=rfl
theorem Hd (b:Bool) (x y:SV):pk b (gv b true x) y=pk b x y:=by cases b<;>rfl
theorem Ha (b:Bool) (x y:SV):pk b x (gv b false y)=pk b x y:=by cases b<;>rfl
theorem Kw (b q:Bool):pk b (.bool true) (.bool q)= .bool (b||q):=by cases b<;>rfl
theorem Kv (b p:Bool):pk b (.bool p) (.bool false)= .bool (b&&p):=by cases b<;>rfl
theorem G9 (b p:Bool):pk b (.bool p) (.bool true)= .bool (!b||p):=by cases b<;>rfl
theorem G8 (b q:Bool):pk b (.bool false) (.bool q)= .bool (!b&&q):=by cases b<;>rfl
def qv (G:Gl) (T:aE) (own:List Nat) (env:Env) (H:List az) (dst:Option Nat) (ty:Nat):Op→Option SV
 | .move x=>ev G env x
 | .assign x=>bb (pq dst own) (ob (elemOf T ty) fun _=>ob (ev G env x) fun v=>match v with
  | .nil=>none
  |v=>some v) (ev G env x)
 | .pick c x y=>ob (ev G env c) fun v=>ob (GA v) fun g=>ob (ev G env x) fun X=>ob (ev G env y) fun Y=>some (pk g X Y)
 | .build t parts=>ob (T.get t) fun i=>ed (ja T i.d=true∧i.zero.isAgg=true) (ob (partsOf T i.d G env parts.toList) fun ps=>lY i.zero ps)
 | .buildSlice t len parts=>ob (elemOf T t) fun e=>ed (((len*e.2.size≤16777216∧0<e.2.size)∧fits e.2 e.2.zero=true)∧(len==0||pq dst own)=false) (ob (dr e.2 G env (List.replicate len e.2.zero) parts.toList) fun xs=>
  some (.list e.2.size xs))
 | .load t x=>ob (T.get t) fun i=>ob (ev G env x) fun p=>lU H i p
 | .nilCheck x=>ob (ev G env x) fun v=>ed (mV H v=true) (some v)
 | .binOp op t x y _=>ob (ev G env x) fun a=>ob (ev G env y) fun b=>bb (np y) (Fo (tR T t) op a) (EW (xp H y) (fE T t) op a b)
 | .unOp op _ x=>ob (ev G env x) fun a=>MI op a
 | .convert st dt x=>ob (T.get st) fun si=>ob (T.get dt) fun i=>ob (ev G env x) fun v=>match i.d,v with
  | .int j,.int _ n=>some (.int j (j.wrap n))
  | .str,.str s=>some (.str s)
  | .str,v=>ed (mI T si.d=true∧kU H 1 v=true) (ob (ee H v) fun xs=>ob (strOf xs) fun s=>some (.str s))
  |_,_=>none
 | .makeFunc fn first cap=>ob (jL G env first.toList) fun xs=>ob (jL G env cap.toList) fun ys=>some (.fn fn xs ys)
 | .slice t x lo hi none=>ob (T.get t) fun i=>ob (ev G env x) fun v=>ob (fp H v) fun n=>ob (cG G env lo 0) fun l=>ob (cG G env hi n) fun h=>
  ed (0≤l∧l≤h∧(h≤(n:Int)∨h≤(qV H v:Int))) (ob (rh l.toNat h.toNat v) fun y=>match i.d with
   | .slice _=>ob (elemOf T t) fun e=>ed ((ee H v).isSome=true∧kU H e.2.size v=true) (some y)
   | .str=>(match v with
    | .str _=>some y
    |_=>none)
   |_=>none)
 | .fieldAddr t x f=>ob (kG T t f) fun p=>ob (ev G env x) fun v=>ed (mV H v=true) (fC p.1 p.2 v)
 | .field t x f=>ob (kG T t f) fun p=>ob (ev G env x) fun v=>ed (v.isAgg=true) (sub v p.1 p.2)
 | .indexAddr t x i=>ob (ev G env x) fun s=>ob (ev G env i) fun iv=>ob (BP iv) fun n=>
  bb (zW s) (ob (vS T t) fun p=>ed ((0≤n∧n<(p.1:Int))∧mV H s=true) (fC (n.toNat*p.2.size) p.2 s))
  (ob (elemOf T t) fun e=>ob (ee H s) fun xs=>
  ed (0≤n) (ob xs[n.toNat]? fun y=>match s with
   | .list sz _=>ed (sz=e.2.size) (some (.iR y))
   | .sl id g off _=>ob (db H id g) fun b=>ed (b.1=e.2.size) (some (.ptr id g (off+n.toNat) 0))
   |_=>none))
 | .index t x i=>ob (T.get t) fun ti=>ob (ev G env x) fun s=>ob (ev G env i) fun iv=>ob (BP iv) fun n=>(match ti.d,s with
  | .str,.str bs=>ed (0≤n) (ob bs[n.toNat]? fun b=>some (.int .u8 b.toNat))
  | .array m e,.agg fs=>ed (0≤n∧n<(m:Int)) (ob (T.get e) fun ie=>sub (.agg fs) (n.toNat*ie.size) ie)
  |_,_=>none)
 | .lookup t m key ok=>ob (dT T t) fun p=>ob (ev G env m) fun v=>ob (mapOf H p.1 v) fun es=>ob (ev G env key) fun kx=>ed (eX p.1 kx=true)
  (some (if ok then .tuple [(cM es kx).getD p.2.zero,.bool (cM es kx).isSome] else (cM es kx).getD p.2.zero))
 | .extract x j=>ob (ev G env x) fun v=>match v with
  | .tuple xs=>xs[j]?
  |_=>none
 | .call ⟨.builtin .len,⟨[x]⟩,⟨[t]⟩⟩=>ob (T.get t) fun i=>ob (ev G env x) fun v=>GX H i v
 | .call ⟨.builtin .min,⟨[x,y]⟩,_⟩=>ob (ev G env x) fun x=>ob (ev G env y) fun y=>match x,y with
  | .int i a,.int _ b=>ed (i.min≤b∧b≤i.max) (some (.int i (if b<a then b else a)))
  |_,_=>none
 | .call ⟨.builtin .max,⟨[x,y]⟩,_⟩=>ob (ev G env x) fun x=>ob (ev G env y) fun y=>match x,y with
  | .int i a,.int _ b=>ed (i.min≤b∧b≤i.max) (some (.int i (if a<b then b else a)))
  |_,_=>none
 |_=>none
def Ca (H:List az) (e:TI) (s:SV) (ys:List SV):Option (SV×List az):=
 match s with
 | .nil=>ed (0<e.bytes∧ys.length*e.bytes≤70368744177664) (some (.sl H.length 0 0 ys.length,H++[.cells 0 e.size ys]))
 | .sl id g off len=>ob (db H id g) fun b=>ed ((0<e.bytes∧b.1=e.size)∧off+len=b.2.length∧(len+ys.length)*e.bytes≤70368744177664)
  (some (.sl id (g+1) 0 (len+ys.length),H.set id (.cells (g+1) e.size (b.2.drop off++ys))))
 |_=>none
def Gz (H:List az) (e:TI) (s:SV) (ys:List SV):Option (SV×List az):=
 match s with
 | .sl id g off len=>ob (db H id g) fun b=>ed ((0<e.bytes∧b.1=e.size)∧(len+ys.length)*e.bytes≤70368744177664∧0<e.size∧off+len+ys.length≤b.2.length)
  (some (.sl id g off (len+ys.length),H.set id (.cells g e.size (b.2.take (off+len)++ys++b.2.drop (off+len+ys.length)))))
 |_=>none
def copyV (H:List az) (e:TI) (d:SV) (ys:List SV):Option (SV×List az):=
 match d with
 | .sl id g off len=>ob (db H id g) fun b=>ed (b.1=e.size∧0<e.size∧off+len≤b.2.length)
  (some (.int .i64 (min ys.length len:Nat),H.set id (.cells g e.size (b.2.take off++ys.take (min ys.length len)++b.2.drop (off+min ys.length len)))))
 |_=>none
def yq (H:List az) (e:TI) (x:SV):Option (SV×List az):=
 match x with
 | .nil=>some (.tuple [],H)
 | .sl id g off len=>ob (db H id g) fun b=>ed (b.1=e.size∧0<e.size∧off+len≤b.2.length)
  (some (.tuple [],H.set id (.cells g e.size (b.2.take off++List.replicate len e.zero++b.2.drop (off+len)))))
 |_=>none
def lv (G:Gl) (T:aE) (own:List Nat) (env:Env) (H:List az) (dst:Option Nat) (ty:Nat):Op→Option (SV×List az)
 | .assign x=>bb (pq dst own) (ob (elemOf T ty) fun e=>ob (ev G env x) fun v=>match v with
  | .nil=>some (.sl H.length 0 0 0,H++[.cells 0 e.2.size []])
  |_=>none) none
 | .alloc t=>ob (T.get t) fun i=>some (.ptr H.length 0 0 0,H++[.cells 0 i.size [i.zero]])
 | .box t x=>ob (T.get t) fun i=>ob (ev G env x) fun v=>ed (fits i v=true) (some (.ptr H.length 0 0 0,H++[.cells 0 i.size [v]]))
 | .buildSlice t len parts=>ob (elemOf T t) fun e=>ed (((len*e.2.size≤16777216∧0<e.2.size)∧fits e.2 e.2.zero=true)∧(len==0||pq dst own)=true) (ob (dr e.2 G env (List.replicate len e.2.zero) parts.toList) fun xs=>
  some (.sl H.length 0 0 len,H++[.cells 0 e.2.size xs]))
 | .store t x y=>ob (T.get t) fun i=>ob (ev G env x) fun p=>ob (ev G env y) fun v=>ob (mJ H i v p) fun H'=>some (.undef,H')
 | .makeMap t none=>ob (dT T t) fun p=>some (.map H.length,H++[.map p.1 []])
 | .convert st dt x=>ob (T.get st) fun si=>ob (T.get dt) fun i=>ob (ev G env x) fun v=>match i.d,v with
  | .slice e,.sl id g off len=>ed (xb T e=true∧st=dt∧0<len) (ob (db H id g) fun b=>ed (b.1=1) (some (.sl id g off len,H)))
  | .slice e,.str s=>ed (xb T e=true) (some (.sl H.length 0 0 s.length,H++[.cells 0 1 (dW s)]))
  | .str,.str _=>none
  | .str,v=>ed (mI T si.d=true∧kU H 1 v=true) (ob (ee H v) fun xs=>ob (strOf xs) fun s=>some (.str s,H))
  |_,_=>none
 | .makeSlice t x y=>ob (elemOf T t) fun e=>ob (ev G env x) fun xv=>ob (BP xv) fun n=>ob (ev G env y) fun yv=>ob (BP yv) fun m=>
  ed (m=n∧0≤n∧0<e.2.bytes∧0<e.2.size∧n.toNat*e.2.bytes≤70368744177664) (ed (fits e.2 e.2.zero=true) (some (.sl H.length 0 0 n.toNat,H++[.cells 0 e.2.size (List.replicate n.toNat e.2.zero)])))
 | .slice t x lo (some hi) (some mx)=>ob (elemOf T t) fun e=>ob (ev G env x) fun v=>ob (fp H v) fun n=>ob (cG G env lo 0) fun l=>ob (cG G env (some hi) 0) fun h=>ob (cG G env (some mx) 0) fun m=>
  ed (0≤l∧l≤h∧h≤m∧m≤(n:Int)) (ed ((ee H v).isSome=true) (some (.sl H.length 0 0 0,H++[.dead])))
 | .call ⟨.builtin .copy,⟨[d,s]⟩,⟨[t,ts]⟩⟩=>ob (elemOf T t) fun e=>ob (elemOf T ts) fun _=>ob (ev G env d) fun d=>ob (ev G env s) fun s=>ob (ee H s) fun ys=>ed (kU H e.2.size s=true) (copyV H e.2 d ys)
 | .call ⟨.builtin .clear,⟨[x]⟩,⟨[t]⟩⟩=>ob (elemOf T t) fun e=>ob (ev G env x) fun x=>yq H e.2 x
 | .mapUpdate t m key x=>ob (dT T t) fun p=>ob (ev G env m) fun v=>(match v with
  | .map id=>ob (mapOf H p.1 v) fun es=>ob (ev G env key) fun kx=>ob (ev G env x) fun y=>ed (eX p.1 kx=true) (some (.undef,H.set id (.map p.1 (dw es kx y))))
  |_=>none)
 | .insert t m key x=>ob (dT T t) fun p=>ob (ev G env m) fun v=>(match v with
  | .map id=>ob (mapOf H p.1 v) fun es=>ob (ev G env key) fun kx=>ob (ev G env x) fun y=>ed (eX p.1 kx=true) (some (.undef,H.set id (.map p.1 (dw es kx y))))
  |_=>none)
 | .call ⟨.builtin .append,⟨[s,x]⟩,⟨[t,tx]⟩⟩=>ob (elemOf T t) fun e=>ob (T.get tx) fun ix=>ob (ev G env s) fun s=>ob (ev G env x) fun x=>
  match ix.d with
  | .slice _=>ob (ee H x) fun ys=>ed (kU H e.2.size x=true) (Ca H e.2 s ys)
  | .str=>(match x with
   | .str bs=>ed (e.2.size=1) (Ca H e.2 s (dW bs))
   |_=>none)
  |_=>none
 |_=>none
section
variable {P:Program} {G:Gl} {T:aE} {own:List Nat} {nt B:Nat} {ρ:Option Nat} {C:Cx} {env:Env} {H:List az}
theorem tp {α:Type} {b:Bool} {x y:Option α} {r:α} (h:bb b x y=some r):(b=true∧x=some r)∨(b=false∧y=some r):=by
 cases b
 ·exact .inr ⟨rfl,h⟩
 ·exact .inl ⟨rfl,h⟩
theorem Fw {i:TI} {v r:SV} {k:SV→List az→Prop} (h:GX H i v=some r) (hk:k r H):cn (mB H i.d v=true) (aJ (fp H v) fun n=>match i.d with
 | .map _ _=>cn (n≤9223372036854775807) (k (.int .i64 n) H)
 |_=>k (.int .i64 n) H):=by
 obtain⟨h1,h2⟩:=bH h
 obtain⟨n,h3,h4⟩:=aL h2
 refine⟨h1,n,h3,?_⟩
 split at h4
 ·obtain⟨h5,h6⟩:=bH h4
  cases h6
  exact⟨h5,hk⟩
 ·cases h4
  exact hk
theorem ua {dst:Option Nat} {ty:Nat} {op:Op} {v:SV} {k:SV→List az→Prop} (h:qv G T own env H dst ty op=some v) (hk:k v H):c7 P G T own env H dst ty op k:=by
 unfold qv at h
 split at h
 ·exact⟨_,h,hk⟩
 ·rcases tp h with⟨h1,h2⟩|⟨h1,h2⟩
  ·obtain⟨e,h3,h4⟩:=aL h2
   obtain⟨u,h5,h6⟩:=aL h4
   refine And.intro (fun _=>⟨e,h3,u,h5,?_⟩) (fun h=>by rw[h1] at h;cases h)
   cases u<;>first
    |(cases h6;done)
    |(cases h6;exact hk)
  ·exact And.intro (fun h=>by rw[h1] at h;cases h) (fun _=>⟨v,h2,hk⟩)
 ·obtain⟨u,h1,h2⟩:=aL h
  obtain⟨g,h3,h4⟩:=aL h2
  obtain⟨X,h5,h6⟩:=aL h4
  obtain⟨Y,h7,h8⟩:=aL h6
  cases h8
  refine⟨u,h1,g,h3,And.intro (fun hg=>?_) (fun hg=>?_)⟩
  ·rw[hg] at hk;exact⟨_,h5,hk⟩
  ·rw[hg] at hk;exact⟨_,h7,hk⟩
 ·obtain⟨i,h1,h2⟩:=aL h
  obtain⟨h3,h4⟩:=bH h2
  obtain⟨ps,h5,h6⟩:=aL h4
  exact⟨i,h1,h3,ps,h5,v,h6,hk⟩
 ·obtain⟨i,h1,h2⟩:=aL h
  obtain⟨⟨h3,h3'⟩,h4⟩:=bH h2
  obtain⟨ps,h5,h6⟩:=aL h4
  cases h6
  refine⟨i,h1,h3,ps,h5,?_⟩
  exact And.intro (fun hh=>by rw[h3'] at hh;cases hh) (fun _=>hk)
 ·obtain⟨i,h1,h2⟩:=aL h
  obtain⟨p,h3,h4⟩:=aL h2
  exact⟨i,h1,p,h3,v,h4,hk⟩
 ·obtain⟨u,h1,h2⟩:=aL h
  obtain⟨h3,h4⟩:=bH h2
  cases h4
  exact⟨_,h1,h3,hk⟩
 ·obtain⟨a,h1,h2⟩:=aL h
  obtain⟨b,h3,h4⟩:=aL h2
  rcases tp h4 with⟨hn,h5⟩|⟨hn,h5⟩
  ·exact⟨a,h1,b,h3,And.intro (fun _=>Fp h5 hk) (fun hh=>by rw[hn] at hh;cases hh)⟩
  ·exact⟨a,h1,b,h3,And.intro (fun hh=>by rw[hn] at hh;cases hh) (fun _=>EX h5 hk)⟩
 ·obtain⟨a,h1,h2⟩:=aL h
  refine⟨a,h1,?_⟩
  unfold MI at h2
  split at h2
  ·cases h2;exact hk
  ·cases h2;exact hk
  ·cases h2
 ·obtain⟨i,h1,h2⟩:=aL h
  obtain⟨j,h3,h4⟩:=aL h2
  obtain⟨u,h5,h6⟩:=aL h4
  refine⟨i,h1,j,h3,u,h5,?_⟩
  obtain⟨d,a1,a2,a3⟩:=j
  cases d<;>cases u<;>first
   |(cases h6;done)
   |(cases h6;exact hk)
   |(obtain⟨g1,g2⟩:=bH h6;obtain⟨xs,g3,g4⟩:=aL g2;obtain⟨s,g5,g6⟩:=aL g4;cases g6;exact⟨g1,xs,g3,s,g5,hk⟩)
 ·obtain⟨xs,h1,h2⟩:=aL h
  obtain⟨ys,h3,h4⟩:=aL h2
  cases h4
  exact⟨xs,h1,ys,h3,hk⟩
 ·obtain⟨i,h1,h2⟩:=aL h
  obtain⟨u,h3,h4⟩:=aL h2
  obtain⟨n,h5,h6⟩:=aL h4
  obtain⟨l,h7,h8⟩:=aL h6
  obtain⟨hh,h9,h10⟩:=aL h8
  obtain⟨h11,h12⟩:=bH h10
  obtain⟨y,h13,h14⟩:=aL h12
  refine⟨i,h1,u,h3,n,h5,l,h7,hh,h9,h11,y,h13,?_⟩
  obtain⟨d,a1,a2,a3⟩:=i
  cases d<;>simp only at h14 ⊢ <;>try (cases h14;done)
  ·cases u<;>first
    |(cases h14;done)
    |(cases h14;exact hk)
  ·obtain⟨e,g1,g2⟩:=aL h14
   obtain⟨g3,g4⟩:=bH g2
   cases g4
   exact⟨e,g1,g3.1,g3.2,hk⟩
 ·obtain⟨p,h1,h2⟩:=aL h
  obtain⟨u,h3,h4⟩:=aL h2
  obtain⟨h5,h6⟩:=bH h4
  exact⟨p,h1,u,h3,h5,v,h6,hk⟩
 ·obtain⟨p,h1,h2⟩:=aL h
  obtain⟨u,h3,h4⟩:=aL h2
  obtain⟨h5,h6⟩:=bH h4
  exact⟨p,h1,u,h3,h5,v,h6,hk⟩
 ·obtain⟨s,h3,h4⟩:=aL h
  obtain⟨iv,h5,h6⟩:=aL h4
  obtain⟨n,h7,h8⟩:=aL h6
  refine⟨s,h3,iv,h5,n,h7,?_⟩
  rcases tp h8 with⟨hp,h8⟩|⟨hp,h8⟩
  ·obtain⟨p,g1,g2⟩:=aL h8
   obtain⟨g3,g4⟩:=bH g2
   exact And.intro (fun _=>⟨p,g1,g3,v,g4,hk⟩) (fun h=>by rw[hp] at h;cases h)
  refine And.intro (fun h=>by rw[hp] at h;cases h) (fun _=>?_)
  obtain⟨e,h1,h8⟩:=aL h8
  obtain⟨xs,h9,h10⟩:=aL h8
  obtain⟨h11,h12⟩:=bH h10
  obtain⟨y,h13,h14⟩:=aL h12
  refine⟨e,h1,xs,h9,h11,y,h13,?_⟩
  split at h14
  ·obtain⟨g1,g2⟩:=bH h14
   cases g2
   exact⟨g1,hk⟩
  ·obtain⟨b,g1,g2⟩:=aL h14
   obtain⟨g3,g4⟩:=bH g2
   cases g4
   exact⟨b,g1,g3,hk⟩
  ·cases h14
 ·obtain⟨e,h1,h2⟩:=aL h
  obtain⟨s,h3,h4⟩:=aL h2
  obtain⟨iv,h5,h6⟩:=aL h4
  obtain⟨n,h7,h8⟩:=aL h6
  refine⟨e,h1,s,h3,iv,h5,n,h7,?_⟩
  obtain⟨d,a1,a2,a3⟩:=e
  cases d<;>cases s<;>try (cases h8;done)
  ·obtain⟨g1,g2⟩:=bH h8
   obtain⟨b,g3,g4⟩:=aL g2
   cases g4
   exact⟨g1,b,g3,hk⟩
  ·obtain⟨g1,g2⟩:=bH h8
   obtain⟨b,g3,g4⟩:=aL g2
   exact⟨g1,b,g3,v,g4,hk⟩
 ·obtain⟨p,h1,h2⟩:=aL h
  obtain⟨m,h3,h4⟩:=aL h2
  obtain⟨es,h5,h6⟩:=aL h4
  obtain⟨kx,h7,h8⟩:=aL h6
  obtain⟨g1,g2⟩:=bH h8
  cases g2
  exact⟨p,h1,m,h3,es,h5,kx,h7,g1,hk⟩
 ·obtain⟨u,h1,h2⟩:=aL h
  refine⟨u,h1,?_⟩
  split at h2
  ·exact⟨v,h2,hk⟩
  ·cases h2
 ·obtain⟨i,h1,h2⟩:=aL h
  obtain⟨u,h3,h4⟩:=aL h2
  exact⟨i,h1,u,h3,Fw h4 hk⟩
 ·obtain⟨a,h1,h2⟩:=aL h
  obtain⟨b,h3,h4⟩:=aL h2
  refine⟨a,h1,b,h3,?_⟩
  split at h4
  ·obtain⟨g1,g2⟩:=bH h4
   cases g2
   exact⟨g1,hk⟩
  ·cases h4
 ·obtain⟨a,h1,h2⟩:=aL h
  obtain⟨b,h3,h4⟩:=aL h2
  refine⟨a,h1,b,h3,?_⟩
  split at h4
  ·obtain⟨g1,g2⟩:=bH h4
   cases g2
   exact⟨g1,hk⟩
  ·cases h4
 ·cases h
theorem zE {e:TI} {s:SV} {ys:List SV} {v:SV} {H':List az} {k:SV→List az→Prop} (h:Ca H e s ys=some (v,H')) (hk:k v H'):eZ H e s ys k:=by
 unfold Ca at h
 split at h
 ·obtain⟨h1,h2⟩:=bH h
  cases h2
  exact⟨h1.1,h1.2,hk⟩
 ·obtain⟨b,h1,h2⟩:=aL h
  obtain⟨h3,h4⟩:=bH h2
  cases h4
  exact⟨b,h1,h3.1,h3.2.2,.inl ⟨h3.2.1,hk⟩⟩
 ·cases h
theorem EU {e:TI} {s:SV} {ys:List SV} {v:SV} {H':List az} {k:SV→List az→Prop} (h:Gz H e s ys=some (v,H')) (hk:k v H'):eZ H e s ys k:=by
 unfold Gz at h
 split at h
 ·obtain⟨b,h1,h2⟩:=aL h
  obtain⟨h3,h4⟩:=bH h2
  cases h4
  exact⟨b,h1,h3.1,h3.2.1,.inr ⟨h3.2.2.1,h3.2.2.2,hk⟩⟩
 ·cases h
def La (G:Gl) (T:aE) (env:Env) (H:List az):Op→Option (SV×List az)
 | .call ⟨.builtin .append,⟨[s,x]⟩,⟨[t,tx]⟩⟩=>ob (elemOf T t) fun e=>ob (elemOf T tx) fun _=>ob (ev G env s) fun s=>ob (ev G env x) fun x=>ob (ee H x) fun ys=>ed (kU H e.2.size x=true) (Gz H e.2 s ys)
 |_=>none
theorem G1 {dst:Option Nat} {ty:Nat} {op:Op} {v:SV} {H':List az} {k:SV→List az→Prop} (h:La G T env H op=some (v,H')) (hk:k v H'):c7 P G T own env H dst ty op k:=by
 unfold La at h
 split at h
 ·obtain⟨e,h1,h2⟩:=aL h
  obtain⟨ex,h3,h4⟩:=aL h2
  obtain⟨s,h5,h6⟩:=aL h4
  obtain⟨x,h7,h8⟩:=aL h6
  obtain⟨ys,h9,h10⟩:=aL h8
  obtain⟨h11,h12⟩:=bH h10
  unfold elemOf at h3
  split at h3
  ·rename_i e' z1 z2 z3 hq
   exact⟨e,h1,_,hq,s,h5,x,h7,ys,h9,h11,EU h12 hk⟩
  ·cases h3
 ·cases h
theorem xg {dst:Option Nat} {ty:Nat} {op:Op} {v:SV} {H':List az} {k:SV→List az→Prop} (h:lv G T own env H dst ty op=some (v,H')) (hk:k v H'):c7 P G T own env H dst ty op k:=by
 unfold lv at h
 split at h
 ·rcases tp h with⟨h1,h2⟩|⟨h1,h2⟩
  ·obtain⟨e,h3,h4⟩:=aL h2
   obtain⟨u,h5,h6⟩:=aL h4
   refine And.intro (fun _=>⟨e,h3,u,h5,?_⟩) (fun h=>by rw[h1] at h;cases h)
   cases u<;>first
    |(cases h6;done)
    |(cases h6;exact hk)
  ·cases h2
 ·obtain⟨i,h1,h2⟩:=aL h
  cases h2
  exact⟨i,h1,hk⟩
 ·obtain⟨i,h1,h2⟩:=aL h
  obtain⟨u,h3,h4⟩:=aL h2
  obtain⟨h5,h6⟩:=bH h4
  cases h6
  exact⟨i,h1,u,h3,h5,hk⟩
 ·obtain⟨i,h1,h2⟩:=aL h
  obtain⟨⟨h3,h3'⟩,h4⟩:=bH h2
  obtain⟨ps,h5,h6⟩:=aL h4
  cases h6
  refine⟨i,h1,h3,ps,h5,?_⟩
  exact And.intro (fun _=>hk) (fun hh=>by rw[h3'] at hh;cases hh)
 ·obtain⟨i,h1,h2⟩:=aL h
  obtain⟨p,h3,h4⟩:=aL h2
  obtain⟨u,h5,h6⟩:=aL h4
  obtain⟨H2,h7,h8⟩:=aL h6
  cases h8
  exact⟨i,h1,p,h3,u,h5,_,h7,hk⟩
 ·obtain⟨i,h1,h2⟩:=aL h
  cases h2
  exact⟨i,h1,hk⟩
 ·obtain⟨i,h1,h2⟩:=aL h
  obtain⟨j,h3,h4⟩:=aL h2
  obtain⟨u,h5,h6⟩:=aL h4
  refine⟨i,h1,j,h3,u,h5,?_⟩
  obtain⟨d,a1,a2,a3⟩:=j
  cases d<;>cases u<;>first
   |(cases h6;done)
   |(obtain⟨g1,g2⟩:=bH h6;cases g2;exact⟨g1,hk⟩)
   |(obtain⟨g1,g2⟩:=bH h6;obtain⟨b,g3,g4⟩:=aL g2;obtain⟨g5,g6⟩:=bH g4;cases g6;exact⟨g1,b,g3,g5,hk⟩)
   |(obtain⟨g1,g2⟩:=bH h6;obtain⟨xs,g3,g4⟩:=aL g2;obtain⟨s,g5,g6⟩:=aL g4;cases g6;exact⟨g1,xs,g3,s,g5,hk⟩)
 ·obtain⟨e,h1,h⟩:=aL h
  obtain⟨xv,h2,h⟩:=aL h
  obtain⟨n,h3,h⟩:=aL h
  obtain⟨yv,h4,h⟩:=aL h
  obtain⟨m,h5,h⟩:=aL h
  obtain⟨h6,h⟩:=bH h
  obtain⟨h7,h⟩:=bH h
  cases h
  exact⟨e,h1,xv,h2,n,h3,yv,h4,m,h5,h6,h7,hk⟩
 ·obtain⟨e,h1,h⟩:=aL h
  obtain⟨xv,h2,h⟩:=aL h
  obtain⟨n,h3,h⟩:=aL h
  obtain⟨l,h4,h⟩:=aL h
  obtain⟨hh,h5,h⟩:=aL h
  obtain⟨m,h6,h⟩:=aL h
  obtain⟨h7,h⟩:=bH h
  obtain⟨h8,h⟩:=bH h
  cases h
  exact⟨e,h1,xv,h2,n,h3,l,h4,hh,h5,m,h6,h7,h8,hk⟩
 ·obtain⟨e,h1,h⟩:=aL h
  obtain⟨e',h2,h⟩:=aL h
  obtain⟨d,h3,h⟩:=aL h
  obtain⟨s,h4,h⟩:=aL h
  obtain⟨ys,h5,h⟩:=aL h
  obtain⟨h6,h⟩:=bH h
  refine⟨e,h1,e',h2,d,h3,s,h4,ys,h5,h6,?_⟩
  unfold copyV at h
  cases d<;>try (cases h;done)
  obtain⟨b,h7,h⟩:=aL h
  obtain⟨h8,h⟩:=bH h
  cases h
  exact⟨b,h7,h8,hk⟩
 ·obtain⟨e,h1,h⟩:=aL h
  obtain⟨xv,h2,h⟩:=aL h
  refine⟨e,h1,xv,h2,?_⟩
  unfold yq at h
  cases xv<;>try (cases h;done)
  ·cases h;exact hk
  ·obtain⟨b,h7,h⟩:=aL h
   obtain⟨h8,h⟩:=bH h
   cases h
   exact⟨b,h7,h8,hk⟩
 ·obtain⟨p,h1,h2⟩:=aL h
  obtain⟨u,h3,h4⟩:=aL h2
  refine⟨p,h1,u,h3,?_⟩
  cases u<;>try (cases h4;done)
  obtain⟨es,h5,h6⟩:=aL h4
  obtain⟨kx,h7,h8⟩:=aL h6
  obtain⟨y,h9,h10⟩:=aL h8
  obtain⟨g1,g2⟩:=bH h10
  cases g2
  exact⟨es,h5,kx,h7,y,h9,g1,hk⟩
 ·obtain⟨p,h1,h2⟩:=aL h
  obtain⟨u,h3,h4⟩:=aL h2
  refine⟨p,h1,u,h3,?_⟩
  cases u<;>try (cases h4;done)
  obtain⟨es,h5,h6⟩:=aL h4
  obtain⟨kx,h7,h8⟩:=aL h6
  obtain⟨y,h9,h10⟩:=aL h8
  obtain⟨g1,g2⟩:=bH h10
  cases g2
  exact⟨es,h5,kx,h7,y,h9,g1,hk⟩
 ·obtain⟨e,h1,h2⟩:=aL h
  obtain⟨ix,h3,h4⟩:=aL h2
  obtain⟨s,h5,h6⟩:=aL h4
  obtain⟨x,h7,h8⟩:=aL h6
  refine⟨e,h1,ix,h3,s,h5,x,h7,?_⟩
  obtain⟨d,a1,a2,a3⟩:=ix
  cases d<;>simp only at h8 ⊢ <;>try (cases h8;done)
  ·cases x<;>simp only at h8 ⊢ <;>try (cases h8;done)
   obtain⟨g1,g2⟩:=bH h8
   exact⟨g1,zE g2 hk⟩
  ·obtain⟨ys,g1,g2⟩:=aL h8
   obtain⟨g3,g4⟩:=bH g2
   exact⟨ys,g1,g3,zE g4 hk⟩
 ·cases h
end
end
section
section
variable {P:Program} {G:Gl} {T:aE} {own:List Nat} {nt B:Nat} {ρ:Option Nat} {C:Cx} {env env2:Env} {H:List az}
theorem fZ:∀ {l:List Operand},(∀ x∈l,ev G env x=ev G env2 x)→jL G env l=jL G env2 l
 |[],_=>rfl
 |x::r,h=>by
  simp only[jL]
  rw[h x (by simp),fZ (l:=r) (fun y hy=>h y (by simp[hy]))]
theorem jA {d:TD}:∀ {l:List (Nat×Operand)},(∀ x∈l.map (·.2),ev G env x=ev G env2 x)→partsOf T d G env l=partsOf T d G env2 l
 |[],_=>rfl
 |(j,x)::r,h=>by
  simp only[partsOf]
  rw[h x (by simp),jA (l:=r) (fun y hy=>h y (by simp only[List.map_cons,List.mem_cons];exact .inr hy))]
theorem ju {i:TI}:∀ {l:List (Nat×Operand)} {xs:List SV},(∀ x∈l.map (·.2),ev G env x=ev G env2 x)→dr i G env xs l=dr i G env2 xs l
 |[],_,_=>rfl
 |(j,x)::r,xs,h=>by
  simp only[dr]
  rw[h x (by simp)]
  cases ev G env2 x with
  |none=>rfl
  |some v=>
   simp only
   split
   ·exact ju (fun y hy=>h y (by simp only[List.map_cons,List.mem_cons];exact .inr hy))
   ·rfl
theorem fA {o:Option Operand} {d:Int} (h:∀ x∈o,ev G env x=ev G env2 x):cG G env o d=cG G env2 o d:=by
 cases o with
 |none=>rfl
 |some x=>simp only[cG];rw[h x rfl]
theorem pa {b:Builtin} {args:List Operand} {tys:List Nat} {k:SV→List az→Prop} (h:∀ x∈args,ev G env x=ev G env2 x):ep T G env H b args tys k=ep T G env2 H b args tys k:=by
 unfold ep
 split
 all_goals first
  |rfl
  |(simp only[List.mem_cons,List.not_mem_nil,or_false,forall_eq_or_imp,forall_eq] at h;simp only[h])
def gi:Op→List Operand
 | .move x| .assign x| .box _ x| .load _ x| .nilCheck x| .unOp _ _ x| .convert _ _ x| .fieldAddr _ x _| .field _ x _| .extract x _=>[x]
 | .pick c x y=>[c,x,y]
 | .build _ ps| .buildSlice _ _ ps=>ps.toList.map (·.2)
 | .store _ x y| .binOp _ _ x y _| .indexAddr _ x y| .index _ x y| .lookup _ x y _=>[x,y]
 | .makeFunc _ f c=>f.toList++c.toList
 | .slice _ x l h m=>x::(l.toList++h.toList++m.toList)
 | .mapUpdate _ m k v=>[m,k,v]
 | .insert _ m k v=>[m,k,v]
 | .makeSlice _ x y=>[x,y]
 | .call c=>(match c.callee with
  | .value f=>[f]
  | .invoke r _=>[r]
  | .builtin _=>[])++c.args.toList
 |_=>[]
theorem pX {dst:Option Nat} {ty:Nat} {op:Op} {k:SV→List az→Prop} (h:∀ x∈gi op,ev G env x=ev G env2 x):c7 P G T own env H dst ty op k=c7 P G T own env2 H dst ty op k:=by
 cases op
 case build t ps=>
  have e1:∀ d,partsOf T d G env ps.toList=partsOf T d G env2 ps.toList:=fun d=>jA h
  simp only[c7,e1]
 case buildSlice t n ps=>
  have e1:∀ (i:TI) xs,dr i G env xs ps.toList=dr i G env2 xs ps.toList:=fun d xs=>ju h
  simp only[c7,e1]
 case makeFunc f a b=>
  have e1:jL G env a.toList=jL G env2 a.toList:=fZ fun x hx=>h x (by simp only[gi,List.mem_append];exact .inl hx)
  have e2:jL G env b.toList=jL G env2 b.toList:=fZ fun x hx=>h x (by simp only[gi,List.mem_append];exact .inr hx)
  simp only[c7,e1,e2]
 case slice t x l hh m=>
  have e0:ev G env x=ev G env2 x:=h x (by simp[gi])
  have e1:∀ d,cG G env l d=cG G env2 l d:=fun d=>fA fun y hy=>h y (by simp[gi];exact .inr (.inl hy))
  have e2:∀ d,cG G env hh d=cG G env2 hh d:=fun d=>fA fun y hy=>h y (by simp[gi];exact .inr (.inr (.inl hy)))
  cases m with
  |none=>simp only[c7,e0,e1,e2]
  |some mm=>
   have e3:∀ d,cG G env (some mm) d=cG G env2 (some mm) d:=fun d=>fA fun y hy=>h y (by simp[gi];exact .inr (.inr (.inr (by simpa [eq_comm] using hy))))
   cases hh with
   |none=>simp only[c7]
   |some hv=>simp only[c7,e0,e1,e2,e3]
 case makeMap t r=>cases r<;>rfl
 case call c=>
  obtain⟨cl,args,tys⟩:=c
  cases cl
  case value f=>
   have e0:ev G env f=ev G env2 f:=h f (by simp[gi])
   have e1:jL G env args.toList=jL G env2 args.toList:=fZ fun x hx=>h x (by simp only[gi,List.mem_append];exact .inr hx)
   simp only[c7,e0,e1]
  case builtin b=>exact pa fun x hx=>h x (by simp only[gi,List.mem_append];exact .inr hx)
  case invoke r m=>simp only[c7]
 all_goals first
  |rfl
  |(simp only[gi,List.mem_cons,List.not_mem_nil,or_false,forall_eq_or_imp,forall_eq] at h;simp only[c7,h])
  |simp only[c7]
theorem Bt {dst:Option Nat} {ty:Nat} {op:Op} (h:∀ x∈gi op,ev G env x=ev G env2 x):qv G T own env H dst ty op=qv G T own env2 H dst ty op:=by
 cases op
 case build t ps=>
  have e1:∀ d,partsOf T d G env ps.toList=partsOf T d G env2 ps.toList:=fun d=>jA h
  simp only[qv,e1]
 case buildSlice t n ps=>
  have e1:∀ (i:TI) xs,dr i G env xs ps.toList=dr i G env2 xs ps.toList:=fun d xs=>ju h
  simp only[qv,e1]
 case makeFunc f a b=>
  have e1:jL G env a.toList=jL G env2 a.toList:=fZ fun x hx=>h x (by simp only[gi,List.mem_append];exact .inl hx)
  have e2:jL G env b.toList=jL G env2 b.toList:=fZ fun x hx=>h x (by simp only[gi,List.mem_append];exact .inr hx)
  simp only[qv,e1,e2]
 case slice t x l hh m=>
  have e0:ev G env x=ev G env2 x:=h x (by simp[gi])
  have e1:∀ d,cG G env l d=cG G env2 l d:=fun d=>fA fun y hy=>h y (by simp[gi];exact .inr (.inl hy))
  have e2:∀ d,cG G env hh d=cG G env2 hh d:=fun d=>fA fun y hy=>h y (by simp[gi];exact .inr (.inr (.inl hy)))
  cases m<;>simp only[qv,e0,e1,e2]
 case makeMap t r=>cases r<;>rfl
 case call c=>
  obtain⟨cl,args,tys⟩:=c
  cases cl
  case value f=>
   have e0:ev G env f=ev G env2 f:=h f (by simp[gi])
   have e1:jL G env args.toList=jL G env2 args.toList:=fZ fun x hx=>h x (by simp only[gi,List.mem_append];exact .inr hx)
   simp only[qv,e0,e1]
  case builtin b=>
   obtain⟨al⟩:=args
   obtain⟨tl⟩:=tys
   cases b<;>first
    |rfl
    |(rcases al with _|⟨x,_|⟨y,_|⟨z,al⟩⟩⟩<;>rcases tl with _|⟨t1,_|⟨t2,tl⟩⟩<;>first
     |rfl
     |(simp[gi] at h;simp only[qv,h]))
  case invoke r m=>simp only[qv]
 all_goals first
  |rfl
  |(simp only[gi,List.mem_cons,List.not_mem_nil,or_false,forall_eq_or_imp,forall_eq] at h;simp only[qv,h])
  |simp only[qv]
def iQ (env env2:Env):Prop:=∀ t,look env t=look env2 t
theorem iQ.refl (env:Env):iQ env env:=fun _=>rfl
theorem iQ.symm {env env2:Env} (h:iQ env env2):iQ env2 env:=fun t=>(h t).symm
theorem iQ.trans {a b c:Env} (h:iQ a b) (h2:iQ b c):iQ a c:=fun t=>(h t).trans (h2 t)
theorem iQ.cons {a b:Env} (h:iQ a b) (p:Nat×SV):iQ (p::a) (p::b):=fun t=>by
 obtain⟨k,v⟩:=p
 simp only[look,h t]
theorem iQ.ma {env:Env} {d:Nat} {x:SV} (h:look env d=some x):iQ ((d,x)::env) env:=fun t=>by
 simp only[look]
 split
 ·rename_i e;rw[e,h]
 ·rfl
theorem kC {α:Type} {x:Option α} {f g:α→Prop} (h:∀ a,f a→g a):aJ x f→aJ x g:=fun⟨a,h1,h2⟩=>⟨a,h1,h a h2⟩
theorem jH {p q r:Prop} (h:q→r):cn p q→cn p r:=fun⟨a,b⟩=>⟨a,h b⟩
theorem EJ {b:Bool} {p q p' q':Prop} (h1:p→p') (h2:q→q'):Br b p q→Br b p' q':=fun⟨x,y⟩=>⟨fun h=>h1 (x h),fun h=>h2 (y h)⟩
theorem yl {H:List az} {tb:Nat} {op:BinOp} {x y:SV} {k k':SV→Prop} (hk:∀ v,k v→k' v):ec H tb op x y k→ec H tb op x y k':=by
 unfold ec
 repeat' first
  |exact hk _
  |exact id
  |refine kC fun _=>?_
  |refine jH ?_
  |exact fun h=>⟨fun e=>hk _ (h.1 e),hk _ h.2⟩
  |split
theorem yR {b:Bool} {op:BinOp} {x:SV} {k k':SV→Prop} (hk:∀ v,k v→k' v):rF b op x k→rF b op x k':=by
 unfold rF
 repeat' first
  |exact hk _
  |exact id
  |refine jH ?_
  |split
theorem BI {op:UnOp} {x:SV} {k k':SV→Prop} (hk:∀ v,k v→k' v):zo op x k→zo op x k':=by
 unfold zo
 repeat' first
  |exact hk _
  |exact id
  |split
theorem s6 {e:TI} {s:SV} {ys:List SV} {k k':SV→List az→Prop} (hk:∀ x H',k x H'→k' x H'):eZ H e s ys k→eZ H e s ys k':=by
 unfold eZ
 repeat' first
  |exact hk _ _
  |exact fun h=>h.elim (fun h=> .inl ⟨h.1,hk _ _ h.2⟩) (fun h=> .inr ⟨h.1,h.2.1,hk _ _ h.2.2⟩)
  |exact id
  |refine kC fun _=>?_
  |refine jH ?_
  |split
theorem rp {b:Builtin} {args:List Operand} {tys:List Nat} {k k':SV→List az→Prop} (hk:∀ x H',k x H'→k' x H'):ep T G env H b args tys k→ep T G env H b args tys k':=by
 unfold ep
 repeat' first
  |exact hk _ _
  |exact id
  |refine kC fun _=>?_
  |refine jH ?_
  |exact s6 hk
  |split
theorem tG {dst:Option Nat} {ty:Nat} {op:Op} {k k':SV→List az→Prop} (hk:∀ x H',k x H'→k' x H'):c7 P G T own env H dst ty op k→c7 P G T own env H dst ty op k':=by
 unfold c7
 repeat' first
  |exact hk _ _
  |exact id
  |refine kC fun _=>?_
  |refine jH ?_
  |refine EJ ?_ ?_
  |exact yR fun _=>hk _ _
  |exact yl fun _=>hk _ _
  |exact BI fun _=>hk _ _
  |exact rp hk
  |exact fun h=>bL.mono h fun _ _=>hk _ _
  |split
end
end
section
inductive It where
 |code (c:Code)
 |ops (all l:List Oper)
 |pred (K:Env→List az→Prop)
 |eS (id:Nat)
def AD (C:Cx) (T:aE) (rs:List ResultVar) (R:SV→List az→Prop) (env:Env) (H:List az):Prop:=
 ∃ xs,iJ T env H rs=some xs∧Fin C H (bA xs) R
def Fits (all:List Oper) (i:Nat) (l:List Oper) (a:Act):Prop:=
 l=all.drop i∨∃ o r,all.drop i=o::r∧l=⟨o.dst,o.op,o.type,o.pos,o.after,none⟩::r∧Region.wanted o (yielded ⟨all⟩ a.tmps)=true
def OW (P:Program) (G:Gl) (T:aE) (nt:Nat) (ρ:Option Nat) (C:Cx) (all l:List Oper) (K:Exit→St→Prop) (env:Env) (H:List az):Prop:=
 aq P T→∀ (i:Nat) (c:Cx) (a:Act),Fits all i l a→c.H=H→Inv G nt C.w.heap.size c env a→Grow C c→
  wpOpsIn (FR ρ) 0 P ⟨all⟩ (fun e a' w'=>∃ s' c',K e s'∧c'.H=s'.H∧c'.w=w'∧Inv G nt C.w.heap.size c' s'.env a'∧Grow C c') (List.range' i l.length) a c.w
def Out (P:Program) (G:Gl) (T:aE) (own:List Nat) (nt:Nat) (ρ:Option Nat) (C:Cx) (rs:List ResultVar) (R:SV→List az→Prop):List It→Exit→Env→List az→Prop
 |[],.normal,env,H=>AD C T rs R env H
 |[],.ret,env,H=>AD C T rs R env H
 |[],_,_,_=>False
 | .code c::k,.normal,env,H=>ey P G nt ρ C c (fun e s=>Out P G T own nt ρ C rs R k e s.env s.H) ⟨env,H⟩
 | .ops all l::k,.normal,env,H=>OW P G T nt ρ C all l (fun e s=>Out P G T own nt ρ C rs R k e s.env s.H) env H
 | .pred K::k,.normal,env,H=>∃ env',iQ env' env∧K env' H
 | .eS _::k,.normal,env,H=>Out P G T own nt ρ C rs R k .normal env H
 | .eS id::k,.exit id',env,H=>if id'=id then Out P G T own nt ρ C rs R k .normal env H else Out P G T own nt ρ C rs R k (.exit id') env H
 |_::k,e,env,H=>Out P G T own nt ρ C rs R k e env H
def HI (id:Nat):List It→Option (List It)
 |[]=>none
 | .eS id'::k=>bif Nat.beq id id' then some k else HI id k
 |_::k=>HI id k
section
variable {P:Program} {G:Gl} {T:aE} {own:List Nat} {nt B:Nat} {ρ:Option Nat} {C:Cx} {rs:List ResultVar} {R:SV→List az→Prop} {env env2:Env} {H H':List az} {k:List It}
theorem kg (h:iQ env env2):∀ {l:List ResultVar},iJ T env H l=iJ T env2 H l
 |[]=>rfl
 | .tmp t::r=>by simp only[iJ,h t,kg h (l:=r)]
 | .cell t ty::r=>by simp only[iJ,h t,kg h (l:=r)]
def Same (o' o:Oper):Prop:=o'.dst=o.dst∧o'.op=o.op∧o'.type=o.type
theorem OW.nil {all:List Oper} {K:Exit→St→Prop} (h:K .normal ⟨env,H⟩):OW P G T nt ρ C all [] K env H:=fun hT i c a hi hc hinv hg=>⟨⟨env,H⟩,c,h,hc,rfl,hinv,hg⟩
theorem OW.step {all r:List Oper} {o:Oper} {K:Exit→St→Prop} (h:aq P T→∀ (c:Cx) (a:Act) (o':Oper),Same o' o→(o'=o∨(o.guard=none∧Region.wanted o' (yielded ⟨all⟩ a.tmps)=true))→c.H=H→Inv G nt C.w.heap.size c env a→Grow C c→∀ next:Act→World→Prop,
 (∀ env' c' a',Inv G nt C.w.heap.size c' env' a'→Grow c c'→OW P G T nt ρ C all r K env' c'.H→next a' c'.w)→
 if Region.wanted o' (yielded ⟨all⟩ a.tmps) then o'.wpIn (FR ρ) 0 P a c.w next (fun e a' w'=>∃ s' c',K e s'∧c'.H=s'.H∧c'.w=w'∧Inv G nt C.w.heap.size c' s'.env a'∧Grow C c') else (∀ f,o'.about P c.w a.eval=some f→(FR ρ).fn f)∧next (a.put o'.dst undef) c.w):
 OW P G T nt ρ C all (o::r) K env H:=by
 intro hT i c a hi hc hinv hg
 have key:∃ o',all.drop i=o'::r∧Same o' o∧(o'=o∨(o.guard=none∧Region.wanted o' (yielded ⟨all⟩ a.tmps)=true)):=by
  rcases hi with hi|⟨o',r',h1,h2,h3⟩
  ·exact⟨o,hi.symm,⟨rfl,rfl,rfl⟩,.inl rfl⟩
  ·cases h2;exact⟨o',h1,⟨rfl,rfl,rfl⟩,.inr ⟨rfl,h3⟩⟩
 obtain⟨o',hd,hs,ho⟩:=key
 have h1:(⟨all⟩:Array Oper)[i]? =some o':=by
  have:=congrArg (fun l=>l[0]?) hd
  simpa using this
 have h2:r=all.drop (i+1):=by
  have:=congrArg List.tail hd
  simpa using this.symm
 simp only[List.length_cons,List.range'_succ,wpOpsIn,h1]
 exact h hT c a o' hs ho hc hinv hg _ fun env' c' a' k1 k2 k3=>k3 hT (i+1) c' a' (.inl h2) rfl k1 (hg.trans k2)
theorem OW.run {all r:List Oper} {o:Oper} {K:Exit→St→Prop} (hw:∀ (c:Cx) (a:Act),c.H=H→Inv G nt C.w.heap.size c env a→Region.wanted o (yielded ⟨all⟩ a.tmps)=true)
 (h:c7 P G T own env H o.dst o.type o.op fun x H'=>kM nt o.dst x env fun env'=>OW P G T nt ρ C all r K env' H'):OW P G T nt ρ C all (o::r) K env H:=
 OW.step fun hT c a o' hs ho hc hinv hg next hn=>by
  subst hc
  have hwant:Region.wanted o' (yielded ⟨all⟩ a.tmps)=true:=by
   rcases ho with rfl|ho
   ·exact hw c a rfl hinv
   ·exact ho.2
  rw[if_pos hwant]
  obtain⟨s1,s2,s3⟩:=hs
  rw[← s1,← s2,← s3] at h
  refine uV hT hinv h fun x c' u e1 e2 e3 e4=>?_
  cases hd:o'.dst with
  |none=>
   rw[hd] at e1
   exact hn env c' _ (hinv.ka e4 e2) e4 e1
  |some d=>
   rw[hd] at e1
   exact hn _ c' _ (hinv.put e4 e2 e3 e1.1) e4 e1.2
theorem OW.cons {all r:List Oper} {o:Oper} {K:Exit→St→Prop} (hg:o.guard=none) (h:c7 P G T own env H o.dst o.type o.op fun x H'=>kM nt o.dst x env fun env'=>OW P G T nt ρ C all r K env' H'):OW P G T nt ρ C all (o::r) K env H:=
 OW.run (fun c a _ _=>by simp only[Region.wanted,hg]) h
theorem OW.KX {all r:List Oper} {o:Oper} {K:Exit→St→Prop} {j dj:Nat} {want:Bool} (hg:o.guard=some (j,want)) (h1:(all[j]?).bind (·.dst)=some dj) (h2:look env dj=some (.bool want)) (h:OW P G T nt ρ C all (⟨o.dst,o.op,o.type,o.pos,o.after,none⟩::r) K env H):OW P G T nt ρ C all (o::r) K env H:=by
 intro hT i c a hi hc hinv hgr
 refine h hT i c a (.inr ⟨o,r,?_,rfl,?_⟩) hc hinv hgr
 ·rcases hi with hi|⟨o',r',e1,e2,e3⟩
  ·exact hi.symm
  ·cases e2;cases hg
 ·simp only[Region.wanted,hg,k7 hinv (ops:=⟨all⟩) h1 h2 rfl,beq_self_eq_true]
theorem OW.Gd {all r:List Oper} {o:Oper} {K:Exit→St→Prop} {j dj:Nat} {want:Bool} {v:SV} {g:Option Bool} (hg:o.guard=some (j,want)) (h1:(all[j]?).bind (·.dst)=some dj) (h2:look env dj=some v) (h3:uI v=some g) (hgw:(g==some want)=false)
 (hs:kM nt o.dst .undef env fun env'=>OW P G T nt ρ C all r K env' H):OW P G T nt ρ C all (o::r) K env H:=by
 refine OW.step fun hT c a o' hs' ho hc hinv hgr next hn=>?_
 have ho':o'=o:=by
  rcases ho with ho|ho
  ·exact ho
  ·rw[hg] at ho;cases ho.1
 subst ho'
 subst hc
 rw[if_neg (by simp only[Region.wanted,hg,k7 hinv (ops:=⟨all⟩) h1 h2 h3,hgw];simp)]
 refine⟨fun _ _=>trivial,?_⟩
 cases hd:o'.dst with
 |none=>rw[hd] at hs;exact hn env c _ (hinv.ka (Grow.refl c) hinv.heap) (Grow.refl c) hs
 |some d=>rw[hd] at hs;exact hn _ c _ (hinv.put (Grow.refl c) hinv.heap aG.undef hs.1) (Grow.refl c) hs.2
theorem OW.law {all r:List Oper} {o:Oper} {K:Exit→St→Prop} {R0:SV→List az→Prop} {d:Nat} (hg:o.guard=none) (hd:o.dst=some d) (hdn:Nat.blt d nt=true)
 (h:aq P T→∀ (c:Cx) (a:Act) (o':Oper),Same o' o→c.H=H→Inv G nt C.w.heap.size c env a→Grow C c→∀ (next:Act→World→Prop) (Q:Exit→Act→World→Prop),(∀ x c' u,R0 x c'.H→aT c'→aG c' x u→Grow c c'→next (a.put (some d) u) c'.w)→o'.wpIn (FR ρ) 0 P a c.w next Q)
 (hk:∀ x H',R0 x H'→OW P G T nt ρ C all r K ((d,x)::env) H'):OW P G T nt ρ C all (o::r) K env H:=
 OW.step fun hT c a o' hs ho hc hinv hgr next hn=>by
  have hwant:Region.wanted o' (yielded ⟨all⟩ a.tmps)=true:=by
   rcases ho with rfl|ho
   ·simp only[Region.wanted,hg]
   ·exact ho.2
  rw[if_pos hwant]
  have hdn':d<nt:=by have:=Nat.blt_eq ▸ hdn;exact this
  exact h hT c a o' hs hc hinv hgr next _ fun x c' u e1 e2 e3 e4=>hn _ c' _ (hinv.put e4 e2 e3 hdn') e4 (hk x c'.H e1)
theorem OW.pT {all l:List Oper} {K:Exit→St→Prop} (he:iQ env env2) (h:OW P G T nt ρ C all l K env H):OW P G T nt ρ C all l K env2 H:=fun hT i c a hi hc hinv hg=>
 h hT i c a hi hc ⟨hinv.heap,hinv.iS,hinv.size,fun t x hx=>hinv.env t x (by rw[← he t];exact hx),hinv.defs⟩ hg
theorem Out.pT:∀ {k:List It} {e:Exit} {env env2:Env} {H:List az},iQ env env2→(Out P G T own nt ρ C rs R) k e env H→(Out P G T own nt ρ C rs R) k e env2 H
 |[],e,env,env2,H,he,h=>by
  have hr:AD C T rs R env H→AD C T rs R env2 H:=fun⟨xs,h1,h2⟩=>⟨xs,by rw[← kg he];exact h1,h2⟩
  cases e with
  |normal=>exact hr h
  |ret=>exact hr h
  |_=>exact h
 | .code c::k,e,env,env2,H,he,h=>by
  cases e with
  |normal=>exact ey.wk (Wk.env (fun t x hx=>by rw[← he t];exact hx)) h
  |_=>exact Out.pT (k:=k) he h
 | .ops all l::k,e,env,env2,H,he,h=>by
  cases e with
  |normal=>exact OW.pT he h
  |_=>exact Out.pT (k:=k) he h
 | .pred K::k,e,env,env2,H,he,h=>by
  cases e with
  |normal=>obtain⟨env',h1,h2⟩:=h;exact⟨env',h1.trans he,h2⟩
  |_=>exact Out.pT (k:=k) he h
 | .eS id::k,e,env,env2,H,he,h=>by
  cases e with
  |normal=>exact Out.pT (k:=k) he h
  |exit id'=>
   simp only[Out] at h ⊢
   split
   ·rename_i hh;rw[if_pos hh] at h;exact Out.pT he h
   ·rename_i hh;rw[if_neg hh] at h;exact Out.pT he h
  |_=>exact Out.pT (k:=k) he h
theorem C2 {x y:Code} (h:(Out P G T own nt ρ C rs R) (.code x:: .code y::k) .normal env H):(Out P G T own nt ρ C rs R) (.code (.seq x y)::k) .normal env H:=by
 refine ey.seq (ey.mono h ?_)
 rintro e ⟨env',H'⟩ h'
 cases e with
 |normal=>exact h'
 |_=>exact h'
theorem zT (h:(Out P G T own nt ρ C rs R) k .normal env H):(Out P G T own nt ρ C rs R) (.code .skip::k) .normal env H:=ey.skip h
theorem CX {l:Nat} (h:(Out P G T own nt ρ C rs R) k .normal env H):(Out P G T own nt ρ C rs R) (.code (.label l)::k) .normal env H:=fun c a hc hi hg=>wpIn_label ⟨⟨env,H⟩,c,h,hc,rfl,hi,hg⟩
theorem Out.D2 (h:AD C T rs R env H):∀ {k:List It},(Out P G T own nt ρ C rs R) k .ret env H
 |[]=>h
 | .code _::k=>Out.D2 (k:=k) h
 | .ops _ _::k=>Out.D2 (k:=k) h
 | .pred _::k=>Out.D2 (k:=k) h
 | .eS _::k=>Out.D2 (k:=k) h
theorem GO {xs:List SV} (h1:iJ T env H rs=some xs) (h:Fin C H (bA xs) R):(Out P G T own nt ρ C rs R) (.code .ret::k) .normal env H:=ey.ret (Out.D2 ⟨xs,h1,h⟩)
theorem GL {xs:List SV} (h1:iJ T env H rs=some xs) (h:Fin C H (bA xs) R):(Out P G T own nt ρ C rs R) [] .normal env H:=⟨xs,h1,h⟩
theorem Out.wN {id:Nat}:∀ {k k':List It},HI id k=some k'→(Out P G T own nt ρ C rs R) k' .normal env H→(Out P G T own nt ρ C rs R) k (.exit id) env H
 |[],k',hu,h=>by cases hu
 | .eS id'::k,k',hu,h=>by
  simp only[HI] at hu
  simp only[Out]
  by_cases hid:id=id'
  ·rw[if_pos hid]
   subst hid
   rw[show Nat.beq id id=true from Nat.beq_refl id] at hu
   cases hu;exact h
  ·rw[if_neg hid]
   have:Nat.beq id id'=false:=by
    cases hb:Nat.beq id id' with
    |false=>rfl
    |true=>exact(hid (Nat.eq_of_beq_eq_true hb)).elim
   rw[this] at hu
   exact Out.wN hu h
 | .code _::k,k',hu,h=>Out.wN (k:=k) hu h
 | .ops _ _::k,k',hu,h=>Out.wN (k:=k) hu h
 | .pred _::k,k',hu,h=>Out.wN (k:=k) hu h
theorem Fg {id:Nat} {k':List It} (hu:HI id k=some k') (h:(Out P G T own nt ρ C rs R) k' .normal env H):(Out P G T own nt ρ C rs R) (.code (.exit id)::k) .normal env H:=ey.exit (Out.wN hu h)
theorem GK {id:Nat} (h:(Out P G T own nt ρ C rs R) k .normal env H):(Out P G T own nt ρ C rs R) (.eS id::k) .normal env H:=h
theorem CS {id:Nat} {x:Code} (h:(Out P G T own nt ρ C rs R) (.code x:: .eS id::k) .normal env H):(Out P G T own nt ρ C rs R) (.code (.block id x)::k) .normal env H:=by
 refine ey.block (ey.mono h ?_)
 rintro e ⟨env',H'⟩ h'
 cases e with
 |exit id'=>exact h'
 |_=>exact h'
theorem Fk {K:Env→List az→Prop} (h:K env H):(Out P G T own nt ρ C rs R) (.pred K::k) .normal env H:=⟨env,iQ.refl _,h⟩
theorem A5 (hT:aq P T) {id:Nat} {ops:Array Oper} {l:List Oper} (hl:ops=⟨l⟩) (h:(Out P G T own nt ρ C rs R) (.ops l l::k) .normal env H):(Out P G T own nt ρ C rs R) (.code (.region id ops false)::k) .normal env H:=by
 subst hl
 intro c a hc hi hg
 refine wpIn_region ?_
 rw[List.range_eq_range']
 exact h hT 0 c a (.inl rfl) hc hi hg
theorem CY {all:List Oper} (h:(Out P G T own nt ρ C rs R) k .normal env H):(Out P G T own nt ρ C rs R) (.ops all []::k) .normal env H:=OW.nil h
theorem CT {t:Nat} {p q:Code} (h1:look env t=some (.bool true)) (h:(Out P G T own nt ρ C rs R) (.code p::k) .normal env H):(Out P G T own nt ρ C rs R) (.code (.cond (.tmp t) p q)::k) .normal env H:=
 ey.cond ⟨_,h1,true,rfl,And.intro (fun _=>h) (fun e=>by cases e)⟩
theorem rC {t:Nat} {p q:Code} (h1:look env t=some (.bool false)) (h:(Out P G T own nt ρ C rs R) (.code q::k) .normal env H):(Out P G T own nt ρ C rs R) (.code (.cond (.tmp t) p q)::k) .normal env H:=
 ey.cond ⟨_,h1,false,rfl,And.intro (fun e=>by cases e) (fun _=>h)⟩
theorem wU {t:Nat} {p q:Code} {b:Bool} (h1:look env t=some (.bool b)) (h:b=true→(Out P G T own nt ρ C rs R) (.code p::k) .normal ((t,.bool true)::env) H) (h':b=false→(Out P G T own nt ρ C rs R) (.code q::k) .normal ((t,.bool false)::env) H):(Out P G T own nt ρ C rs R) (.code (.cond (.tmp t) p q)::k) .normal env H:=
 ey.cond ⟨_,h1,b,rfl,And.intro (fun e=>Out.pT (k:= .code p::k) (iQ.ma (e ▸ h1)) (h e)) (fun e=>Out.pT (k:= .code q::k) (iQ.ma (e ▸ h1)) (h' e))⟩
theorem nX {t:Nat} {p q:Code} {a:Prop} {inst:Decidable a} (h1:look env t=some (.bool (decide a))) (h:a→(Out P G T own nt ρ C rs R) (.code p::k) .normal ((t,.bool true)::env) H) (h':¬ a→(Out P G T own nt ρ C rs R) (.code q::k) .normal ((t,.bool false)::env) H):(Out P G T own nt ρ C rs R) (.code (.cond (.tmp t) p q)::k) .normal env H:=
 wU h1 (fun e=>h (of_decide_eq_true e)) (fun e=>h' (of_decide_eq_false e))
theorem gd {t:Nat} {p q:Code} {a:Prop} {inst:Decidable a} (h1:look env t=some (.bool (decide a))) (ha:a) (h:(Out P G T own nt ρ C rs R) (.code p::k) .normal ((t,.bool true)::env) H):(Out P G T own nt ρ C rs R) (.code (.cond (.tmp t) p q)::k) .normal env H:=
 nX h1 (fun _=>h) (fun e=>(e ha).elim)
theorem gV {t:Nat} {p q:Code} {a:Prop} {inst:Decidable a} (h1:look env t=some (.bool (decide a))) (ha:¬ a) (h:(Out P G T own nt ρ C rs R) (.code q::k) .normal ((t,.bool false)::env) H):(Out P G T own nt ρ C rs R) (.code (.cond (.tmp t) p q)::k) .normal env H:=
 nX h1 (fun e=>(ha e).elim) (fun _=>h)
section
variable {all r:List Oper} {ty d j dj:Nat} {op:Op} {pos:String} {after:Array Edge} {v:SV} {want:Bool}
theorem Ia (h:qv G T own env H (some d) ty op=some v) (hd:Nat.blt d nt=true) (hk:(Out P G T own nt ρ C rs R) (.ops all r::k) .normal ((d,v)::env) H):(Out P G T own nt ρ C rs R) (.ops all (⟨some d,op,ty,pos,after,none⟩::r)::k) .normal env H:=
 OW.cons rfl (ua (k:=fun x H'=>kM nt (some d) x env fun env'=>OW P G T nt ρ C all r (fun e s=>Out P G T own nt ρ C rs R k e s.env s.H) env' H') h ⟨by have:=Nat.blt_eq ▸ hd;exact this,hk⟩)
theorem Ib (h:qv G T own env H none ty op=some v) (hk:(Out P G T own nt ρ C rs R) (.ops all r::k) .normal env H):(Out P G T own nt ρ C rs R) (.ops all (⟨none,op,ty,pos,after,none⟩::r)::k) .normal env H:=
 OW.cons rfl (ua (k:=fun x H'=>kM nt none x env fun env'=>OW P G T nt ρ C all r (fun e s=>Out P G T own nt ρ C rs R k e s.env s.H) env' H') h hk)
theorem KZ (h:lv G T own env H (some d) ty op=some (v,H')) (hd:Nat.blt d nt=true) (hk:(Out P G T own nt ρ C rs R) (.ops all r::k) .normal ((d,v)::env) H'):(Out P G T own nt ρ C rs R) (.ops all (⟨some d,op,ty,pos,after,none⟩::r)::k) .normal env H:=
 OW.cons rfl (xg (k:=fun x H'=>kM nt (some d) x env fun env'=>OW P G T nt ρ C all r (fun e s=>Out P G T own nt ρ C rs R k e s.env s.H) env' H') h ⟨by have:=Nat.blt_eq ▸ hd;exact this,hk⟩)
theorem H9 (h:lv G T own env H none ty op=some (v,H')) (hk:(Out P G T own nt ρ C rs R) (.ops all r::k) .normal env H'):(Out P G T own nt ρ C rs R) (.ops all (⟨none,op,ty,pos,after,none⟩::r)::k) .normal env H:=
 OW.cons rfl (xg (k:=fun x H'=>kM nt none x env fun env'=>OW P G T nt ρ C all r (fun e s=>Out P G T own nt ρ C rs R k e s.env s.H) env' H') h hk)
theorem zS {dst:Option Nat} (h1:(all[j]?).bind (·.dst)=some dj) (h2:look env dj=some (.bool want)) (hk:(Out P G T own nt ρ C rs R) (.ops all (⟨dst,op,ty,pos,after,none⟩::r)::k) .normal env H):(Out P G T own nt ρ C rs R) (.ops all (⟨dst,op,ty,pos,after,some (j,want)⟩::r)::k) .normal env H:=
 OW.KX rfl h1 h2 hk
theorem nY {v:SV} {b:Option Bool} (h1:(all[j]?).bind (·.dst)=some dj) (h2:look env dj=some v) (h3:uI v=some b) (hb:(b==some want)=false) (hd:Nat.blt d nt=true) (hk:(Out P G T own nt ρ C rs R) (.ops all r::k) .normal ((d,.undef)::env) H):(Out P G T own nt ρ C rs R) (.ops all (⟨some d,op,ty,pos,after,some (j,want)⟩::r)::k) .normal env H:=
 OW.Gd rfl h1 h2 h3 hb ⟨by have:=Nat.blt_eq ▸ hd;exact this,hk⟩
theorem A3 {v:SV} {b:Option Bool} (h1:(all[j]?).bind (·.dst)=some dj) (h2:look env dj=some v) (h3:uI v=some b) (hb:(b==some want)=false) (hk:(Out P G T own nt ρ C rs R) (.ops all r::k) .normal env H):(Out P G T own nt ρ C rs R) (.ops all (⟨none,op,ty,pos,after,some (j,want)⟩::r)::k) .normal env H:=
 OW.Gd rfl h1 h2 h3 hb hk
theorem Gh {o:Oper} {b:Bool} (hg:o.guard=some (j,want)) (h1:(all[j]?).bind (·.dst)=some dj) (h2:look env dj=some (.bool b)) (h:b=true→(Out P G T own nt ρ C rs R) (.ops all (o::r)::k) .normal ((dj,.bool true)::env) H) (h':b=false→(Out P G T own nt ρ C rs R) (.ops all (o::r)::k) .normal ((dj,.bool false)::env) H):(Out P G T own nt ρ C rs R) (.ops all (o::r)::k) .normal env H:=by
 cases b with
 |true=>exact Out.pT (k:= .ops all (o::r)::k) (iQ.ma h2) (h rfl)
 |false=>exact Out.pT (k:= .ops all (o::r)::k) (iQ.ma h2) (h' rfl)
theorem H7 {o:Oper} {a:Prop} {inst:Decidable a} (hg:o.guard=some (j,want)) (h1:(all[j]?).bind (·.dst)=some dj) (h2:look env dj=some (.bool (decide a))) (h:a→(Out P G T own nt ρ C rs R) (.ops all (o::r)::k) .normal ((dj,.bool true)::env) H) (h':¬ a→(Out P G T own nt ρ C rs R) (.ops all (o::r)::k) .normal ((dj,.bool false)::env) H):(Out P G T own nt ρ C rs R) (.ops all (o::r)::k) .normal env H:=
 Gh hg h1 h2 (fun e=>h (of_decide_eq_true e)) (fun e=>h' (of_decide_eq_false e))
theorem CV {b:Bool} (h1:(all[j]?).bind (·.dst)=some dj) (h2:look env dj=some (.bool b)) (hv:b=want→qv G T own env H (some d) ty op=some v) (hd:Nat.blt d nt=true) (hk:(Out P G T own nt ρ C rs R) (.ops all r::k) .normal ((d,gv b want v)::env) H):(Out P G T own nt ρ C rs R) (.ops all (⟨some d,op,ty,pos,after,some (j,want)⟩::r)::k) .normal env H:=by
 by_cases hw:b=want
 ·subst hw
  rw[gN] at hk
  exact zS h1 h2 (Ia (hv rfl) hd hk)
 ·have e:gv b want v= .undef:=by cases b<;>cases want<;>first|rfl|exact(hw rfl).elim
  rw[e] at hk
  exact nY h1 h2 rfl (by cases b<;>cases want<;>first|rfl|exact(hw rfl).elim) hd hk
theorem CW {b b1 w1:Bool} (h1:(all[j]?).bind (·.dst)=some dj) (h2:look env dj=some (gv b1 w1 (.bool b))) (hv:b1=w1→b=want→qv G T own env H (some d) ty op=some v) (hd:Nat.blt d nt=true) (hk:(Out P G T own nt ρ C rs R) (.ops all r::k) .normal ((d,gv b1 w1 (gv b want v))::env) H):(Out P G T own nt ρ C rs R) (.ops all (⟨some d,op,ty,pos,after,some (j,want)⟩::r)::k) .normal env H:=by
 by_cases hw:b1=w1
 ·subst hw
  rw[gN] at hk h2
  exact CV h1 h2 (hv rfl) hd hk
 ·have e:∀ x,gv b1 w1 x= .undef:=fun x=>by cases b1<;>cases w1<;>first|rfl|exact(hw rfl).elim
  rw[e] at hk h2
  exact nY h1 h2 rfl rfl hd hk
theorem GM {b b1 w1 b2 w2:Bool} (h1:(all[j]?).bind (·.dst)=some dj) (h2:look env dj=some (gv b1 w1 (gv b2 w2 (.bool b)))) (hv:b1=w1→b2=w2→b=want→qv G T own env H (some d) ty op=some v) (hd:Nat.blt d nt=true) (hk:(Out P G T own nt ρ C rs R) (.ops all r::k) .normal ((d,gv b1 w1 (gv b2 w2 (gv b want v)))::env) H):(Out P G T own nt ρ C rs R) (.ops all (⟨some d,op,ty,pos,after,some (j,want)⟩::r)::k) .normal env H:=by
 by_cases hw:b1=w1
 ·subst hw
  rw[gN] at hk h2
  exact CW h1 h2 (hv rfl) hd hk
 ·have e:∀ x,gv b1 w1 x= .undef:=fun x=>by cases b1<;>cases w1<;>first|rfl|exact(hw rfl).elim
  rw[e] at hk h2
  exact nY h1 h2 rfl rfl hd hk
theorem H8 {o:Oper} {b1 w1:Bool} {u:SV} (hg:o.guard=some (j,want)) (h1:(all[j]?).bind (·.dst)=some dj) (h2:look env dj=some (gv b1 w1 u)) (h:∀ c,b1=c→(Out P G T own nt ρ C rs R) (.ops all (o::r)::k) .normal env H):(Out P G T own nt ρ C rs R) (.ops all (o::r)::k) .normal env H:=h _ rfl
def oP (H:List az):SV→Option Nat
 | .list _ xs=>some xs.length
 | .sl id g _ n=>match db H id g with
  |some _=>some n
  |none=>none
 |_=>none
theorem my {dst:Option Nat} {x y:Operand} {X:SV} {t yt ty n:Nat} {eq:Bool} {kk:SV→List az→Prop} (h1:ev G env x=some X) (h2:ev G env y=some .nil) (h3:fE T t=2) (h4:oP H X=some n)
 (l:n=0→kk (.bool eq) H) (r:kk (.bool (!eq)) H):c7 P G T own env H dst ty (.binOp (if eq then .eql else .neq) t x y yt) kk:=by
 refine⟨X,h1,.nil,h2,fun hi=>?_,fun _=>?_⟩
 ·exfalso
  unfold np at hi
  split at hi
  ·simp[ev,aZ,bg] at h2
  ·cases hi
 unfold oP at h4
 split at h4
 ·cases h4
  cases eq
  ·exact⟨h3,fun e=>l (by rw[e];rfl),r⟩
  ·exact⟨h3,fun e=>l (by rw[e];rfl),r⟩
 ·split at h4
  ·rename_i q hq
   cases h4
   cases eq
   ·exact⟨q,hq,h3,l,r⟩
   ·exact⟨q,hq,h3,l,r⟩
  ·cases h4
 ·cases h4
theorem Fi {x y:Operand} {X:SV} {t yt n:Nat} (h1:ev G env x=some X) (h2:ev G env y=some .nil) (h3:fE T t=2) (h4:oP H X=some n) (hd:Nat.blt d nt=true)
 (h:n=0→(Out P G T own nt ρ C rs R) (.ops all r::k) .normal ((d,.bool true)::env) H) (h':True→(Out P G T own nt ρ C rs R) (.ops all r::k) .normal ((d,.bool false)::env) H):(Out P G T own nt ρ C rs R) (.ops all (⟨some d,.binOp .eql t x y yt,ty,pos,after,none⟩::r)::k) .normal env H:=
 OW.cons rfl (my (P:=P) (own:=own) (dst:=some d) (ty:=ty) (yt:=yt) (eq:=true) (kk:=fun x H'=>kM nt (some d) x env fun env'=>OW P G T nt ρ C all r (fun e s=>Out P G T own nt ρ C rs R k e s.env s.H) env' H') h1 h2 h3 h4 (fun e=>⟨by have:=Nat.blt_eq ▸ hd;exact this,h e⟩) ⟨by have:=Nat.blt_eq ▸ hd;exact this,h' trivial⟩)
theorem Fj {x y:Operand} {X:SV} {t yt n:Nat} (h1:ev G env x=some X) (h2:ev G env y=some .nil) (h3:fE T t=2) (h4:oP H X=some n) (hd:Nat.blt d nt=true)
 (h:n=0→(Out P G T own nt ρ C rs R) (.ops all r::k) .normal ((d,.bool false)::env) H) (h':True→(Out P G T own nt ρ C rs R) (.ops all r::k) .normal ((d,.bool true)::env) H):(Out P G T own nt ρ C rs R) (.ops all (⟨some d,.binOp .neq t x y yt,ty,pos,after,none⟩::r)::k) .normal env H:=
 OW.cons rfl (my (P:=P) (own:=own) (dst:=some d) (ty:=ty) (yt:=yt) (eq:=false) (kk:=fun x H'=>kM nt (some d) x env fun env'=>OW P G T nt ρ C all r (fun e s=>Out P G T own nt ρ C rs R k e s.env s.H) env' H') h1 h2 h3 h4 (fun e=>⟨by have:=Nat.blt_eq ▸ hd;exact this,h e⟩) ⟨by have:=Nat.blt_eq ▸ hd;exact this,h' trivial⟩)
variable {R':SV→List az→Prop} {xs:List SV} {f:Operand} {fv:SV} {args:Array Operand} {tys:Array Nat} {g:FuncId}
theorem nW (h1:ev G env f=some fv) (h2:jL G env args.toList=some xs) (hd:Nat.blt d nt=true) (hc:bL P G fv xs H R') (hk:∀ x H',R' x H'→(Out P G T own nt ρ C rs R) (.ops all r::k) .normal ((d,x)::env) H'):(Out P G T own nt ρ C rs R) (.ops all (⟨some d,.call ⟨.value f,args,tys⟩,ty,pos,after,none⟩::r)::k) .normal env H:=
 OW.cons (own:=own) rfl ⟨fv,h1,xs,h2,hc.mono fun x H' hr=>⟨by have:=Nat.blt_eq ▸ hd;exact this,hk x H' hr⟩⟩
theorem fg (h2:jL G env args.toList=some xs) (hd:Nat.blt d nt=true) (hc:ag P G g xs H R') (hk:∀ x H',R' x H'→(Out P G T own nt ρ C rs R) (.ops all r::k) .normal ((d,x)::env) H'):(Out P G T own nt ρ C rs R) (.ops all (⟨some d,.call ⟨.value (.func g),args,tys⟩,ty,pos,after,none⟩::r)::k) .normal env H:=
 nW rfl h2 hd (bL.of (by simpa using hc)) hk
end
theorem ey.Gm {c:Code} {Q Q':Exit→St→Prop} {s:St} (h:ey P G nt ρ C c Q s) (hq:∀ e s',Q e s'→∃ s2,Wk G nt C s' s2∧Q' e s2):ey P G nt ρ C c Q' s:=by
 intro c' a hc hi hg
 refine wpIn_mono (h c' a hc hi hg) ?_
 rintro e a' w' ⟨s',c2,h1,h2,h3,h4,h5⟩
 obtain⟨s2,h6,h7⟩:=hq e s' h1
 obtain⟨c3,e1,e2,e3,e4⟩:=h6 c2 a' h2 h4 h5
 exact⟨s2,c3,h7,e1,e2.trans h3,e3,e4⟩
theorem eT {α:Type} (E:α→Env) (M:α→List az) (I:α→Prop) {c:Code} (h1:∀ K,nC (∀ env' H' a,I a→Wk G nt C ⟨env',H'⟩ ⟨E a,M a⟩→K env' H')→(Out P G T own nt ρ C rs R) (.code c:: .pred K::k) .normal env H) (h2:∀ a,I a→(Out P G T own nt ρ C rs R) k .normal (E a) (M a)):(Out P G T own nt ρ C rs R) (.code c::k) .normal env H:=by
 have h:=h1 (fun env' H'=>∃ a,I a∧Wk G nt C ⟨env',H'⟩ ⟨E a,M a⟩) (fun env' H' a h3 h4=>⟨a,h3,h4⟩)
 refine ey.Gm h ?_
 rintro e ⟨env',H'⟩ h'
 cases e with
 |normal=>
  obtain⟨env2,he,a,h3,h4⟩:=h'
  refine⟨⟨E a,M a⟩,fun c' a' q1 q2 q3=>h4 c' a' q1 ⟨q2.heap,q2.iS,q2.size,fun t x hx=>q2.env t x (by rw[← he t];exact hx),q2.defs⟩ q3,h2 a h3⟩
 |_=>exact⟨_,Wk.refl _,h'⟩
theorem aC {α:Type} (E:α→Env) (M:α→List az) (μ:α→Nat) (I:α→Prop) (a0:α) {x:Code} (h0:I a0) (hs:Wk G nt C ⟨env,H⟩ ⟨E a0,M a0⟩)
 (round:∀ K a,I a→nC (∀ env' H' a',μ a'<μ a→I a'→Wk G nt C ⟨env',H'⟩ ⟨E a',M a'⟩→K env' H')→(Out P G T own nt ρ C rs R) (.code x:: .pred K::k) .normal (E a) (M a)):(Out P G T own nt ρ C rs R) (.code (.loop x)::k) .normal env H:=by
 refine ey.Gj (fun m s=>∃ a,I a∧μ a=m∧s=⟨E a,M a⟩) (μ a0) ⟨E a0,M a0⟩ hs ⟨a0,h0,rfl,rfl⟩ ?_
 rintro m s ⟨a,h1,rfl,rfl⟩
 refine ey.mono (round (fun env' H'=>∃ m s2,m<μ a∧Wk G nt C ⟨env',H'⟩ s2∧∃ a,I a∧μ a=m∧s2=⟨E a,M a⟩) a h1 fun env' H' a' g1 g2 g3=>⟨μ a',⟨E a',M a'⟩,g1,g3,a',g2,rfl,rfl⟩) ?_
 rintro e ⟨env',H'⟩ h'
 cases e with
 |normal=>
  obtain⟨env2,he,m,s2,h3,h4,h5⟩:=h'
  exact⟨m,s2,h3,fun c' a' q1 q2 q3=>h4 c' a' q1 ⟨q2.heap,q2.iS,q2.size,fun t x hx=>q2.env t x (by rw[← he t];exact hx),q2.defs⟩ q3,h5⟩
 |_=>exact h'
theorem Fin.out {x:SV} {R0:SV→List az→Prop} (hR:nC (∀ y H',R0 y H'→R y H')) (h:R0 x H):Fin C H x R:=Fin.same (hR _ _ h)
theorem Fin.mono {x:SV} {R':SV→List az→Prop} (h:Fin C H x R') (hr:∀ y H',R' y H'→R y H'):Fin C H x R:=fun c v h1 h2 h3 h4=>
 let ⟨c',y,e1,e2,e3⟩:=h c v h1 h2 h3 h4
 ⟨c',y,e1,hr _ _ e2,e3⟩
theorem EP {e:Exit} {env:Env} {H:List az} (h:(Out P G T own nt ρ C rs R) [] e env H):HQ C T rs R e env H:=by
 cases e with
 |normal=>exact h
 |ret=>exact h
 |_=>exact h.elim
theorem ag.aK (T:aE) (own:List Nat) (hT:aq P T) {f:FuncId} {fn:Func} {cd:Code} {args:List SV} {R:SV→List az→Prop} {rs:List ResultVar} (nt:Nat) (hf:P.funcs[f]? =some fn) (hb:fn.body=some cd) (hname:(fn.name== "runtime.NumGoroutine")=false)
 (hnt:fn.ntmps=nt) (hlen:args.length≤nt) (hrs:fn.results=⟨rs⟩) {ie:Env} (hie:au args 0=ie)
 (h:∀ (C:Cx) (R':SV→List az→Prop),nC (∀ x H',R x H'→R' x H')→C.H=H→closed H→eJ G C.H.length→Out P G T own nt none C rs R' [.code cd] .normal ie H):ag P G f args H R:=
 ag.DN hT hf hb hname hnt hlen (by rw[hrs]) fun C h1 h2 h3=>hie ▸ ey.mono (h C R (fun _ _ h=>h) h1 h2 h3) fun e s h=>EP h
end
theorem lB {p:Prop} [Decidable p]:(!decide p)=decide (¬ p):=by simp
end
section
def fq (i:Nat):List Nat→Bool
 |[]=>false
 |j::r=>Nat.beq i j||fq i r
theorem dz {i:Nat}:∀ {l:List Nat},fq i l=true↔i∈l
 |[]=>by simp[fq]
 |j::r=>by
  simp only[fq,Bool.or_eq_true,List.mem_cons,dz (l:=r),Nat.beq_eq]
def Fq (i:Nat) (l:List Nat):List Nat:=bif fq i l then l else i::l
theorem xj {i j:Nat} {l:List Nat}:j∈Fq i l→j=i∨j∈l:=by
 unfold Fq
 cases h:fq i l
 ·simp
 ·exact fun h=> .inr h
def Ho:List Nat→List Nat→List Nat
 |[],m=>m
 |i::r,m=>Fq i (Ho r m)
theorem xk {j:Nat}:∀ {l m:List Nat},j∈Ho l m→j∈l∨j∈m
 |[],m,h=> .inr h
 |i::r,m,h=>by
  rcases xj h with rfl|h
  ·exact .inl (List.mem_cons_self ..)
  ·rcases xk h with h|h
   ·exact .inl (List.mem_cons_of_mem _ h)
   ·exact .inr h
def cu (o:Oper):List Nat:=(o.after.toList.filter fun e=>Region.binds .any e).map (·.on)
def di (l:List (List Nat)) (i:Nat):List Nat:=(l[i]?).getD []
def uM (tb:List (List Nat)):List Nat→List Nat
 |[]=>[]
 |i::r=>Fq i (Ho (di tb i) (uM tb r))
def yr (tb:List (List Nat)):List Oper→List (List Nat)
 |[]=>tb
 |o::r=>yr (tb++[uM tb (cu o)]) r
def jE (ops:List Oper):List (List Nat):=yr [] ops
def tmpsOf (all:List Oper) (o:Oper):List Nat:=
 (gi o.op).filterMap (fun x=>match x with
  | .tmp t=>some t
  |_=>none)++(match o.guard with
  |some (j,_)=>((all[j]?).bind (·.dst)).toList
  |none=>[])
def vI (own:List Nat) (o:Oper):Bool:=
 o.dst.isSome&&match o.op with
 | .move _| .pick .. | .build .. | .load .. | .nilCheck _| .binOp .. | .unOp .. | .convert .. | .makeFunc .. | .slice _ _ _ _ none| .fieldAddr .. | .field .. | .indexAddr .. | .index .. | .lookup .. | .extract .. =>true
 | .assign _=>!pq o.dst own
 | .buildSlice _ len _=>!(len==0||pq o.dst own)
 | .call ⟨.builtin .len,_,_⟩| .call ⟨.builtin .min,_,_⟩| .call ⟨.builtin .max,_,_⟩=>true
 |_=>false
def jB (o:Oper):Bool:=match o.op with
 | .move _| .assign _| .pick .. | .build .. | .unOp .. | .makeFunc .. | .field .. | .extract .. | .index .. | .buildSlice .. =>false
 | .call ⟨.builtin .min,_,_⟩| .call ⟨.builtin .max,_,_⟩=>false
 | .binOp _ _ _ y _=>yW y
 |_=>true
def mh (t:Nat):Nat→List Oper→Option Nat
 |_,[]=>none
 |i,o::r=>bif (match o.dst with
  |some d=>Nat.beq d t
  |none=>false) then some i else mh t (i+1) r
def uS (nt:Nat):Nat→List Oper→List Oper→Bool
 |_,[],_=>true
 |i,o::r,all=>(match o.dst with
  |some d=>Nat.blt d nt&&(match mh d 0 all with
   |some j=>Nat.beq i j
   |none=>false)
  |none=>true)&&(cu o).all (fun j=>Nat.blt j i)&&uS nt (i+1) r all
def qC (tb:List (List Nat)) (all:List Oper):Nat→List Oper→Bool
 |_,[]=>true
 |i,o::r=>(tmpsOf all o).all (fun t=>match mh t 0 all with
  |none=>true
  |some j=>fq j (di tb i)||(!jB o&&(Nat.beq i j||fq i (di tb j))))&&qC tb all (i+1) r
def eG (nt:Nat) (ops:List Oper):Bool:=uS nt 0 ops ops&&qC (jE ops) ops 0 ops
section
variable (P:Program) (G:Gl) (T:aE) (own:List Nat) (nt:Nat)
def qg (all:List Oper) (o:Oper) (env:Env) (H:List az):Option SV:=
 match o.guard with
 |none=>qv G T own env H o.dst o.type o.op
 |some (j,want)=>ob ((all[j]?).bind (·.dst)) fun dj=>ob (look env dj) fun v=>ob (uI v) fun b=>bb (b==some want) (qv G T own env H o.dst o.type o.op) (some .undef)
def la (all:List Oper) (o:Oper) (env:Env) (H:List az) (k:SV→List az→Prop):Prop:=
 match o.guard with
 |none=>c7 P G T own env H o.dst o.type o.op k
 |some (j,want)=>aJ ((all[j]?).bind (·.dst)) fun dj=>aJ (look env dj) fun v=>aJ (uI v) fun b=>Br (b==some want) (c7 P G T own env H o.dst o.type o.op k) (k .undef H)
def cX (d:Option Nat) (x:SV) (env:Env):Env:=match d with
 |some d=>(d,x)::env
 |none=>env
def again (all:List Oper) (j:Nat) (env:Env) (H:List az):List Nat→Prop
 |[]=>True
 |i::r=>(match all[i]? with
  |some o=>(vI own o&&jB o&&!fq i (di (jE all) j))=true→qg G T own all o env H=(o.dst).bind (look env)
  |none=>True)∧again all j env H r
def Dr (all:List Oper):Nat→List Nat→Env→List az→(Env→List az→Prop)→Prop
 |0,_,_,_,_=>False
 |n+1,L,env,H,K=>
  (∃ i o v,all[i]? =some o∧i∉L∧vI own o=true∧(∀ j∈cu o,j∈L)∧qg G T own all o env H=some v∧Dr all n (i::L) (cX o.dst v env) H K)∨
  ((∀ i o,all[i]? =some o→i∉L→(∀ j∈cu o,j∈L)→vI own o=false)∧
   (((∀ i o,all[i]? =some o→i∈L)∧K env H)∨((∃ i o,all[i]? =some o∧i∉L)∧
    ∀ j o,all[j]? =some o→j∉L→(∀ k∈cu o,k∈L)→la P G T own all o env H fun x H'=>again G T own all j (cX o.dst x env) H' L∧Dr all n (j::L) (cX o.dst x env) H' K)))
def Qs (all:List Oper) (n:Nat) (L:List Nat) (env:Env) (H:List az) (K:Env→List az→Prop):Prop:=
 (∀ i o,all[i]? =some o→i∉L→(∀ j∈cu o,j∈L)→vI own o=false)∧
  (((∀ i o,all[i]? =some o→i∈L)∧K env H)∨((∃ i o,all[i]? =some o∧i∉L)∧
   ∀ j o,all[j]? =some o→j∉L→(∀ k∈cu o,k∈L)→la P G T own all o env H fun x H'=>again G T own all j (cX o.dst x env) H' L∧Dr P G T own all n (j::L) (cX o.dst x env) H' K))
end
section
variable {P:Program} {G:Gl} {T:aE} {own:List Nat} {nt B:Nat} {ρ:Option Nat} {C c:Cx} {env env2 E:Env} {H H':List az} {a:Act}
theorem kr {t:Nat}:∀ {l:List Oper} {i m:Nat},mh t i l=some m→∃ k o,m=i+k∧l[k]? =some o∧o.dst=some t
 |[],i,m,h=>by cases h
 |o'::r,i,m,h=>by
  simp only[mh] at h
  cases hd:o'.dst with
  |none=>
   rw[hd] at h
   obtain⟨k,o,h1,h2,h3⟩:=kr (l:=r) (i:=i+1) h
   exact⟨k+1,o,by omega,by simpa using h2,h3⟩
  |some d=>
   rw[hd] at h
   cases hb:Nat.beq d t with
   |true=>simp only[hb,cond_true] at h;cases h;exact⟨0,o',rfl,rfl,by rw[hd,Nat.eq_of_beq_eq_true hb]⟩
   |false=>
    simp only[hb,cond_false] at h
    obtain⟨k,o,h1,h2,h3⟩:=kr (l:=r) (i:=i+1) h
    exact⟨k+1,o,by omega,by simpa using h2,h3⟩
theorem iq {all:List Oper}:∀ {l:List Oper} {i:Nat},uS nt i l all=true→∀ k o,l[k]? =some o→(∀ d,o.dst=some d→d<nt∧mh d 0 all=some (i+k))∧∀ j∈cu o,j<i+k
 |[],i,_,k,o,ho=>by simp at ho
 |o'::r,i,h,k,o,ho=>by
  simp only[uS,Bool.and_eq_true] at h
  cases k with
  |zero=>
   simp at ho
   subst ho
   refine⟨fun d hd=>?_,fun j hj=>?_⟩
   ·have h1:=h.1.1
    rw[hd] at h1
    simp only[Bool.and_eq_true] at h1
    refine⟨by have:=h1.1;rw[Nat.blt_eq] at this;exact this,?_⟩
    have h2:=h1.2
    split at h2
    ·rename_i j hj
     rw[hj,← Nat.eq_of_beq_eq_true h2];rfl
    ·cases h2
   ·have:=List.all_eq_true.1 h.1.2 j hj
    rw[Nat.blt_eq] at this;exact this
  |succ k=>
   have:=iq h.2 k o (by simpa using ho)
   rw[show i+1+k=i+(k+1) by omega] at this
   exact this
theorem l4 {tb:List (List Nat)} {all:List Oper}:∀ {l:List Oper} {i:Nat},qC tb all i l=true→∀ k o,l[k]? =some o→∀ t∈tmpsOf all o,∀ j,mh t 0 all=some j→
 j∈di tb (i+k)∨(jB o=false∧(i+k=j∨i+k∈di tb j))
 |[],i,_,k,o,ho=>by simp at ho
 |o'::r,i,h,k,o,ho=>by
  simp only[qC,Bool.and_eq_true] at h
  cases k with
  |zero=>
   simp at ho
   subst ho
   intro t ht j hj
   have h1:=List.all_eq_true.1 h.1 t ht
   rw[hj] at h1
   simp only[Bool.or_eq_true,Bool.and_eq_true,Bool.not_eq_true',dz] at h1
   rcases h1 with h1|⟨h1,h2⟩
   ·exact .inl h1
   ·refine .inr ⟨h1,?_⟩
    rcases h2 with h2|h2
    ·exact .inl (Nat.eq_of_beq_eq_true h2)
    ·exact .inr h2
  |succ k=>
   have:=l4 h.2 k o (by simpa using ho)
   rw[show i+1+k=i+(k+1) by omega] at this
   exact this
def qJ (ops:List Oper) (S:Nat→Prop):Prop:=∀ i o,ops[i]? =some o→S i→∀ j∈cu o,S j
theorem qZ {tb:List (List Nat)} {S:Nat→Prop} (ht:∀ i,S i→∀ j∈di tb i,S j):∀ {l:List Nat},(∀ i∈l,S i)→∀ j∈uM tb l,S j
 |[],_,j,hj=>by cases hj
 |i::r,hl,j,hj=>by
  rcases xj hj with rfl|hj
  ·exact hl _ (List.mem_cons_self ..)
  ·rcases xk hj with hj|hj
   ·exact ht i (hl i (List.mem_cons_self ..)) j hj
   ·exact qZ ht (fun k hk=>hl k (List.mem_cons_of_mem _ hk)) j hj
theorem CR {tb:List (List Nat)} {x:List Nat} (i:Nat):di (tb++[x]) i=if i<tb.length then di tb i else if i=tb.length then x else []:=by
 unfold di
 rw[List.getElem?_append]
 split
 ·rfl
 ·rename_i h
  split
  ·rename_i h2;rw[h2,Nat.sub_self];rfl
  ·rw[List.getElem?_eq_none (by simp;omega)];rfl
theorem qY {all:List Oper} {S:Nat→Prop} (hS:qJ all S):∀ (rest done:List Oper) (tb:List (List Nat)),all=done++rest→tb.length=done.length→
 (∀ i o,all[i]? =some o→(∀ k∈cu o,S k)→∀ j∈di tb i,S j)→∀ i o,all[i]? =some o→(∀ k∈cu o,S k)→∀ j∈di (yr tb rest) i,S j
 |[],done,tb,_,_,h=>h
 |o::r,done,tb,ha,hl,h=>by
  refine qY hS r (done++[o]) (tb++[uM tb (cu o)]) (by rw[ha];simp) (by simp[hl]) ?_
  intro i oi hi hd j hj
  rw[CR] at hj
  split at hj
  ·exact h i oi hi hd j hj
  ·split at hj
   ·rename_i h2
    have:oi=o:=by
     rw[h2,hl,ha,List.getElem?_append_right (Nat.le_refl _),Nat.sub_self] at hi
     simpa using hi.symm
    subst this
    refine qZ (S:=S) (fun k hk q hq=>?_) hd j hj
    have hlt:k<tb.length:=by
     rcases Nat.lt_or_ge k tb.length with h3|h3
     ·exact h3
     ·unfold di at hq;rw[List.getElem?_eq_none (by omega)] at hq;cases hq
    have hk2:k<all.length:=by rw[ha];simp;omega
    exact h k _ (List.getElem?_eq_getElem hk2) (hS k _ (List.getElem?_eq_getElem hk2) hk) q hq
   ·cases hj
theorem kE {all:List Oper} {S:Nat→Prop} (hS:qJ all S) {i:Nat} {o:Oper} (ho:all[i]? =some o) (hd:∀ k∈cu o,S k):∀ j∈di (jE all) i,S j:=
 qY hS all [] [] rfl rfl (fun i o _ _ j hj=>by simp[di] at hj) i o ho hd
def vK (all:List Oper) (o:Oper) (env env2:Env):Prop:=∀ t∈tmpsOf all o,look env t=look env2 t
theorem vK.ev {all:List Oper} {o:Oper} (h:vK all o env env2):∀ x∈gi o.op,ev G env x=ev G env2 x:=fun x hx=>by
 cases x with
 |tmp t=>exact h t (by unfold tmpsOf;rw[List.mem_append,List.mem_filterMap];exact .inl ⟨_,hx,rfl⟩)
 |_=>rfl
theorem kc {all:List Oper} {o:Oper} (h:vK all o env env2):qg G T own all o env H=qg G T own all o env2 H:=by
 unfold qg
 rw[Bt (T:=T) (own:=own) (dst:=o.dst) (ty:=o.type) (H:=H) (h.ev (G:=G))]
 cases hg:o.guard with
 |none=>rfl
 |some p=>
  obtain⟨j,w⟩:=p
  simp only
  cases hd:(all[j]?).bind (·.dst) with
  |none=>rfl
  |some dj=>
   have:look env dj=look env2 dj:=h dj (by unfold tmpsOf;rw[List.mem_append,hg];right;simp only[hd];simp)
   simp only[mE,this]
theorem pc {all:List Oper} {o:Oper} (h:vK all o env env2) {k:SV→List az→Prop} (hk:la P G T own all o env H k):la P G T own all o env2 H k:=by
 unfold la at hk ⊢
 rw[← pX (P:=P) (T:=T) (own:=own) (dst:=o.dst) (ty:=o.type) (H:=H) (k:=k) (h.ev (G:=G))]
 cases hg:o.guard with
 |none=>rw[hg] at hk;exact hk
 |some p=>
  obtain⟨j,w⟩:=p
  rw[hg] at hk
  obtain⟨dj,h1,h2⟩:=hk
  have:look env dj=look env2 dj:=h dj (by unfold tmpsOf;rw[List.mem_append,hg];right;simp only[h1];simp)
  rw[this] at h2
  exact⟨dj,h1,h2⟩
theorem Hg {all:List Oper} {o:Oper} {v:SV} {k:SV→List az→Prop} (h:qg G T own all o env H=some v) (hk:k v H):la P G T own all o env H k:=by
 unfold qg at h
 unfold la
 cases hg:o.guard with
 |none=>rw[hg] at h;exact ua h hk
 |some p=>
  obtain⟨j,w⟩:=p
  rw[hg] at h
  obtain⟨dj,h1,h2⟩:=aL h
  obtain⟨u,h3,h4⟩:=aL h2
  obtain⟨b,h5,h6⟩:=aL h4
  refine⟨dj,h1,u,h3,b,h5,And.intro (fun e=>?_) (fun e=>?_)⟩
  ·rw[e] at h6;exact ua h6 hk
  ·rw[e] at h6;cases h6;exact hk
theorem jM {all:List Oper} {o:Oper} {k k':SV→List az→Prop} (hk:∀ x H',k x H'→k' x H') (h:la P G T own all o env H k):la P G T own all o env H k':=by
 unfold la at h ⊢
 cases hg:o.guard with
 |none=>rw[hg] at h;exact tG hk h
 |some p=>
  obtain⟨j,w⟩:=p
  rw[hg] at h
  obtain⟨dj,h1,u,h3,b,h5,h6,h7⟩:=h
  exact⟨dj,h1,u,h3,b,h5,And.intro (fun e=>tG hk (h6 e)) (fun e=>hk _ _ (h7 e))⟩
theorem Bu {o:Oper} (hr:jB o=false):qv G T own env H o.dst o.type o.op=qv G T own env H' o.dst o.type o.op:=by
 unfold jB at hr
 split at hr<;>first
  |(cases hr;done)
  |(rename_i he;rw[he];rfl)
  |(rename_i he;rw[he];simp only[qv,xp,hr];done)
  |(rename_i al tl he;rw[he];obtain⟨al⟩:=al;rcases al with _|⟨x,_|⟨y,_|⟨z,r⟩⟩⟩<;>rfl)
theorem Bq {all:List Oper} {o:Oper} (hr:jB o=false):qg G T own all o env H=qg G T own all o env H':=by
 unfold qg
 rw[Bu (H:=H) (H':=H') hr]
theorem DS (hT:aq P T) (hi:Inv G nt B c env a) {ops:Array Oper} {i:Nat} {o:Oper} {k:SV→List az→Prop} {K:Act→World→Prop} {Q:Exit→Act→World→Prop} (ho:ops[i]? =some o) (hd:∀ d,o.dst=some d→d<nt)
 (h:la P G T own ops.toList o env c.H k) (hk:∀ x c' a',k x c'.H→Inv G nt B c' (cX o.dst x env) a'→Grow c c'→K a' c'.w):wpOpIn (FR ρ) 0 P ops Q i K a c.w:=by
 unfold wpOpIn
 rw[ho]
 simp only
 have run:c7 P G T own env c.H o.dst o.type o.op k→o.wpIn (FR ρ) 0 P a c.w K Q:=fun hx=>by
  refine uV hT hi hx fun x c' u e1 e2 e3 e4=>?_
  cases hdd:o.dst with
  |none=>exact hk x c' _ e1 (by rw[hdd];exact hi.ka e4 e2) e4
  |some d=>exact hk x c' _ e1 (by rw[hdd];exact hi.put e4 e2 e3 (hd d hdd)) e4
 unfold la at h
 cases hg:o.guard with
 |none=>
  rw[hg] at h
  simp only[Region.wanted,hg,if_true]
  exact run h
 |some p=>
  obtain⟨j,want⟩:=p
  rw[hg] at h
  obtain⟨d,h1,v,h2,g,h3,h4⟩:=h
  have hy:=k7 hi h1 h2 h3
  simp only[Region.wanted,hg,hy]
  cases hgw:(g==some want) with
  |true=>
   rw[if_pos rfl]
   exact run (h4.1 hgw)
  |false=>
   rw[if_neg (by simp)]
   refine⟨fun _ _=>trivial,?_⟩
   have e1:=h4.2 hgw
   cases hdd:o.dst with
   |none=>exact hk .undef c _ e1 (by rw[hdd];exact hi.ka (Grow.refl c) hi.heap) (Grow.refl c)
   |some d=>exact hk .undef c _ e1 (by rw[hdd];exact hi.put (Grow.refl c) hi.heap aG.undef (hd d hdd)) (Grow.refl c)
def lk (all:List Oper) (S:Nat→Prop) [DecidablePred S] (V:Nat→SV) (pre:Env) (t:Nat):Option SV:=
 match mh t 0 all with
 |some j=>if S j then some (V j) else look pre t
 |none=>look pre t
structure lg (G:Gl) (T:aE) (own:List Nat) (all:List Oper) (pre:Env) (R:Nat→Prop) [DecidablePred R] (L:List Nat) (V:Nat→SV) (env:Env) (H:List az):Prop where
 env:∀ t,look env t=lk all (· ∈L) V pre t
 sub:∀ j,R j→j∈L
 bound:∀ j∈L,j<all.length
 quiet:∀ j o,all[j]? =some o→j∈L→¬ R j→vI own o=true
 closed:qJ all (· ∈L)
 mr:qJ all R
 val:∀ i o,all[i]? =some o→i∈L→¬ R i→∀ E,(∀ t∈tmpsOf all o,look E t=lk all (· ∈di (jE all) i) V pre t)→qg G T own all o E H=some (V i)
section
variable {all:List Oper} {pre:Env} {R:Nat→Prop} [DecidablePred R] {L:List Nat} {V:Nat→SV}
theorem vf (hok:eG nt all=true) {S:Nat→Prop} [DecidablePred S] (hS:qJ all S) {i:Nat} {o:Oper} (ho:all[i]? =some o) (hn:¬ S i) (hd:∀ j∈cu o,S j):
 ∀ t∈tmpsOf all o,lk all S V pre t=lk all (· ∈di (jE all) i) V pre t:=by
 intro t ht
 unfold eG at hok
 simp only[Bool.and_eq_true] at hok
 have hsub:=kE hS ho hd
 unfold lk
 cases hw:mh t 0 all with
 |none=>rfl
 |some j=>
  simp only
  have h1:=l4 hok.2 i o ho t ht j hw
  rw[Nat.zero_add] at h1
  by_cases hj:j∈di (jE all) i
  ·rw[if_pos hj,if_pos (hsub j hj)]
  ·rw[if_neg hj,if_neg]
   intro hSj
   rcases h1 with h1|⟨_,h1|h1⟩
   ·exact hj h1
   ·exact hn (h1 ▸ hSj)
   ·obtain⟨k,oj,e1,e2,e3⟩:=kr hw
    rw[Nat.zero_add] at e1
    subst e1
    exact hn (kE hS e2 (hS _ _ e2 hSj) i h1)
theorem ve (hok:eG nt all=true) {S:Nat→Prop} [DecidablePred S] {S':Nat→Prop} [DecidablePred S'] {i:Nat} {o:Oper} (ho:all[i]? =some o) (hS:∀ j,S' j↔(j=i∨S j)) {v:SV} {V':Nat→SV} (hV:∀ j,S j→j≠i→V' j=V j) (hVi:V' i=v)
 {env:Env} (he:∀ t,look env t=lk all S V pre t):∀ t,look (cX o.dst v env) t=lk all S' V' pre t:=by
 intro t
 unfold eG at hok
 simp only[Bool.and_eq_true] at hok
 have hdd:=(iq hok.1 i o ho).1
 rw[Nat.zero_add] at hdd
 have other:(∀ d,o.dst=some d→t≠d)→look env t=lk all S' V' pre t:=fun hne=>by
  rw[he t]
  unfold lk
  cases hw:mh t 0 all with
  |none=>rfl
  |some j=>
   simp only
   have hji:j≠i:=fun e=>by
    obtain⟨k,oj,e1,e2,e3⟩:=kr hw
    rw[Nat.zero_add] at e1
    rw[← e1,e,ho] at e2
    cases e2
    exact hne t e3 rfl
   by_cases hj:S j
   ·rw[if_pos hj,if_pos ((hS j).2 (.inr hj)),hV j hj hji]
   ·rw[if_neg hj,if_neg (fun h=>by rcases (hS j).1 h with h|h;exact hji h;exact hj h)]
 cases hd:o.dst with
 |none=>exact other (fun d h=>by rw[hd] at h;cases h)
 |some d=>
  simp only[cX,look]
  by_cases htd:t=d
  ·subst htd
   rw[if_pos rfl]
   unfold lk
   rw[(hdd t hd).2]
   simp only
   rw[if_pos ((hS i).2 (.inl rfl)),hVi]
  ·rw[if_neg htd]
   exact other (fun d' h=>by rw[hd] at h;cases h;exact htd)
theorem lg.Bs (hok:eG nt all=true) (D:lg G T own all pre R L V env H) {i:Nat} {o:Oper} {v:SV} (ho:all[i]? =some o) (hn:i∉L) (hq:vI own o=true) (hd:∀ j∈cu o,j∈L) (hv:qg G T own all o env H=some v):
 ∃ V',(∀ j∈L,V' j=V j)∧lg G T own all pre R (i::L) V' (cX o.dst v env) H:=by
 have hcl:∀ k ok,all[k]? =some ok→k∈L→i∉di (jE all) k:=fun k ok hk hkL hi=>hn (kE D.closed hk (D.closed k ok hk hkL) i hi)
 have hcl2:i∉di (jE all) i:=fun hi=>hn (kE D.closed ho hd i hi)
 have lkV:∀ (S:List Nat) t,i∉S→lk all (· ∈S) (fun j=>if j=i then v else V j) pre t=lk all (· ∈S) V pre t:=fun S t hS=>by
  unfold lk
  cases mh t 0 all with
  |none=>rfl
  |some j=>
   simp only
   by_cases hj:j∈S
   ·rw[if_pos hj,if_pos hj,if_neg (fun(e:j=i)=>hS (e ▸ hj))]
   ·rw[if_neg hj,if_neg hj]
 refine⟨fun j=>if j=i then v else V j,fun j hj=>if_neg fun(e:j=i)=>hn (e ▸ hj),⟨?_,fun j hj=>List.mem_cons_of_mem _ (D.sub j hj),?_,?_,?_,D.mr,?_⟩⟩
 ·exact ve hok ho (S:=(· ∈L)) (by simp) (fun j _ hj=>if_neg hj) (if_pos rfl) D.env
 ·intro j hj
  rcases List.mem_cons.1 hj with rfl|hj
  ·exact(List.getElem?_eq_some_iff.1 ho).1
  ·exact D.bound j hj
 ·intro j oj hoj hj hR
  rcases List.mem_cons.1 hj with rfl|hj
  ·rw[ho] at hoj;cases hoj;exact hq
  ·exact D.quiet j oj hoj hj hR
 ·intro j oj hoj hj k hk
  rcases List.mem_cons.1 hj with rfl|hj
  ·rw[ho] at hoj;cases hoj;exact List.mem_cons_of_mem _ (hd k hk)
  ·exact List.mem_cons_of_mem _ (D.closed j oj hoj hj k hk)
 ·intro j oj hoj hj hR E hE
  rcases List.mem_cons.1 hj with rfl|hj
  ·rw[ho] at hoj;cases hoj
   rw[if_pos rfl,← hv]
   refine kc fun t ht=>?_
   rw[hE t ht,lkV _ t hcl2,D.env t]
   exact(vf hok D.closed ho hn hd t ht).symm
  ·have hji:j≠i:=fun e=>hn (e ▸ hj)
   simp only[if_neg hji]
   refine D.val j oj hoj hj hR E fun t ht=>?_
   rw[hE t ht,lkV _ t (hcl j oj hoj hj)]
theorem lg.rest (hok:eG nt all=true) {K:Env→List az→Prop}:∀ (n:Nat) {L:List Nat} {V:Nat→SV} {env:Env},lg G T own all pre R L V env H→Dr P G T own all n L env H K→
 ∃ n' L' V' env',lg G T own all pre R L' V' env' H∧Qs P G T own all n' L' env' H K∧∀ j∈L,j∈L'∧V' j=V j
 |0,L,V,env,D,h=>h.elim
 |n+1,L,V,env,D,h=>by
  rcases h with⟨i,o,v,h1,e3,e4,e5,h2,h3⟩|h
  ·obtain⟨V',hV',D'⟩:=D.Bs hok h1 e3 e4 e5 h2
   obtain⟨n',L',V2,env2,g1,g2,g4⟩:=lg.rest hok n D' h3
   exact⟨n',L',V2,env2,g1,g2,fun j hj=>⟨(g4 j (List.mem_cons_of_mem _ hj)).1,(g4 j (List.mem_cons_of_mem _ hj)).2.trans (hV' j hj)⟩⟩
  ·exact⟨n,L,V,env,D,h,fun _ h=>⟨h,rfl⟩⟩
theorem tj {j:Nat} {env:Env} {H:List az}:∀ {L:List Nat},again G T own all j env H L→∀ i o,i∈L→all[i]? =some o→vI own o=true→jB o=true→i∉di (jE all) j→qg G T own all o env H=(o.dst).bind (look env)
 |[],_,i,o,hi,_,_,_,_=>by cases hi
 |k::r,h,i,o,hi,ho,h1,h2,h3=>by
  obtain⟨h4,h5⟩:=h
  rcases List.mem_cons.1 hi with rfl|hi
  ·rw[ho] at h4
   refine h4 ?_
   have:fq i (di (jE all) j)=false:=by
    cases hh:fq i (di (jE all) j) with
    |false=>rfl
    |true=>exact absurd (dz.1 hh) h3
   rw[h1,h2,this];rfl
  ·exact tj h5 i o hi ho h1 h2 h3
theorem Ds (hok:eG nt all=true) {S:Nat→Prop} [DecidablePred S] {i:Nat} {o:Oper} (ho:all[i]? =some o) (hr:jB o=true) (hsub:∀ j∈di (jE all) i,S j):∀ t∈tmpsOf all o,lk all S V pre t=lk all (· ∈di (jE all) i) V pre t:=by
 intro t ht
 unfold eG at hok
 simp only[Bool.and_eq_true] at hok
 unfold lk
 cases hw:mh t 0 all with
 |none=>rfl
 |some j=>
  simp only
  have h1:=l4 hok.2 i o ho t ht j hw
  rw[Nat.zero_add] at h1
  rcases h1 with h1|⟨h1,_⟩
  ·rw[if_pos h1,if_pos (hsub j h1)]
  ·rw[hr] at h1;cases h1
theorem lg.Dv (hok:eG nt all=true) (D:lg G T own all pre R L V env H) {R':Nat→Prop} [DecidablePred R'] {i:Nat} {o:Oper} {x:SV} (ho:all[i]? =some o) (hn:i∉L) (hd:∀ j∈cu o,R j) (hR':∀ j,R' j↔(j=i∨R j))
 (hag:again G T own all i (cX o.dst x env) H' L):∃ V',(∀ j,j≠i→V' j=V j)∧V' i=x∧lg G T own all pre R' (i::L) V' (cX o.dst x env) H':=by
 have hdL:∀ j∈cu o,j∈L:=fun j hj=>D.sub j (hd j hj)
 have hcl:∀ k ok,all[k]? =some ok→k∈L→i∉di (jE all) k:=fun k ok hk hkL hi=>hn (kE D.closed hk (D.closed k ok hk hkL) i hi)
 have lkV:∀ (S:List Nat) t,i∉S→lk all (· ∈S) (fun j=>if j=i then x else V j) pre t=lk all (· ∈S) V pre t:=fun S t hS=>by
  unfold lk
  cases mh t 0 all with
  |none=>rfl
  |some j=>
   simp only
   by_cases hj:j∈S
   ·rw[if_pos hj,if_pos hj,if_neg (fun(e:j=i)=>hS (e ▸ hj))]
   ·rw[if_neg hj,if_neg hj]
 have henv:∀ t,look (cX o.dst x env) t=lk all (· ∈i::L) (fun j=>if j=i then x else V j) pre t:=ve hok ho (S:=(· ∈L)) (by simp) (fun j _ hj=>if_neg hj) (if_pos rfl) D.env
 refine⟨fun j=>if j=i then x else V j,fun j hj=>if_neg hj,if_pos rfl,⟨henv,?_,?_,?_,?_,?_,?_⟩⟩
 ·intro j hj
  rcases (hR' j).1 hj with rfl|hj
  ·exact List.mem_cons_self ..
  ·exact List.mem_cons_of_mem _ (D.sub j hj)
 ·intro j hj
  rcases List.mem_cons.1 hj with rfl|hj
  ·exact(List.getElem?_eq_some_iff.1 ho).1
  ·exact D.bound j hj
 ·intro j oj hoj hj hR
  rcases List.mem_cons.1 hj with rfl|hj
  ·exact(hR ((hR' j).2 (.inl rfl))).elim
  ·exact D.quiet j oj hoj hj (fun h=>hR ((hR' j).2 (.inr h)))
 ·intro j oj hoj hj k hk
  rcases List.mem_cons.1 hj with rfl|hj
  ·rw[ho] at hoj;cases hoj;exact List.mem_cons_of_mem _ (hdL k hk)
  ·exact List.mem_cons_of_mem _ (D.closed j oj hoj hj k hk)
 ·intro j oj hoj hj k hk
  rcases (hR' j).1 hj with rfl|hj
  ·rw[ho] at hoj;cases hoj;exact(hR' k).2 (.inr (hd k hk))
  ·exact(hR' k).2 (.inr (D.mr j oj hoj hj k hk))
 ·intro j oj hoj hj hR E hE
  have hji:j≠i:=fun e=>hR ((hR' j).2 (.inl e))
  have hjL:j∈L:=(List.mem_cons.1 hj).resolve_left hji
  have hjR:¬ R j:=fun h=>hR ((hR' j).2 (.inr h))
  simp only[if_neg hji]
  have hE':∀ t∈tmpsOf all oj,look E t=lk all (· ∈di (jE all) j) V pre t:=fun t ht=>by rw[hE t ht,lkV _ t (hcl j oj hoj hjL)]
  cases hr:jB oj with
  |false=>rw[Bq (H':=H) hr];exact D.val j oj hoj hjL hjR E hE'
  |true=>
   have hq:=D.quiet j oj hoj hjL hjR
   have hnc:j∉di (jE all) i:=fun h=>hjR (kE D.mr ho hd j h)
   have h1:=tj hag j oj hjL hoj hq hr hnc
   have hsub:∀ k∈di (jE all) j,k∈i::L:=fun k hk=>List.mem_cons_of_mem _ (kE D.closed hoj (D.closed j oj hoj hjL) k hk)
   have h2:qg G T own all oj E H'=qg G T own all oj (cX o.dst x env) H':=kc fun t ht=>by
    rw[hE t ht,henv t]
    exact(Ds (S:=(· ∈i::L)) hok hoj hr hsub t ht).symm
   rw[h2,h1]
   have hds:oj.dst.isSome=true:=by
    unfold vI at hq
    simp only[Bool.and_eq_true] at hq
    exact hq.1
   obtain⟨d,hd'⟩:=Option.isSome_iff_exists.1 hds
   rw[hd',Option.bind_some,henv d]
   have hok':=hok
   unfold eG at hok'
   simp only[Bool.and_eq_true] at hok'
   have:=((iq hok'.1 j oj hoj).1 d hd').2
   rw[Nat.zero_add] at this
   unfold lk
   rw[this]
   simp only
   rw[if_pos hj,if_neg hji]
theorem lg.listed (D:lg G T own all pre R L V env H) {R':Nat→Prop} [DecidablePred R'] {i:Nat} {o:Oper} (ho:all[i]? =some o) (hi:i∈L) (hd:∀ j∈cu o,R j) (hR':∀ j,R' j↔(j=i∨R j)):lg G T own all pre R' L V env H:=by
 refine⟨D.env,?_,D.bound,?_,D.closed,?_,?_⟩
 ·intro j hj
  rcases (hR' j).1 hj with rfl|hj
  ·exact hi
  ·exact D.sub j hj
 ·exact fun j oj hoj hj hR=>D.quiet j oj hoj hj (fun h=>hR ((hR' j).2 (.inr h)))
 ·intro j oj hoj hj k hk
  rcases (hR' j).1 hj with rfl|hj
  ·rw[ho] at hoj;cases hoj;exact(hR' k).2 (.inr (hd k hk))
  ·exact(hR' k).2 (.inr (D.mr j oj hoj hj k hk))
 ·exact fun j oj hoj hj hR=>D.val j oj hoj hj (fun h=>hR ((hR' j).2 (.inr h)))
end
def ta (listed:Array Bool) (j:Nat):Prop:=listed.getD j false=true
instance (listed:Array Bool):DecidablePred (ta listed):=fun j=>inferInstanceAs (Decidable (_=true))
theorem Fx {listed:Array Bool} {i:Nat} (hi:i<listed.size) (j:Nat):ta (listed.setIfInBounds i true) j↔(j=i∨ta listed j):=by
 unfold ta
 by_cases h:j=i
 ·subst h;simp[hi]
 ·rw[getD_set_ne false (fun e=>h e.symm)];simp[h]
theorem Bv {ops:Array Oper} (hok:eG nt ops.toList=true) {listed:Array Bool} (hsz:listed.size=ops.size) (h:Region.ready .any ops listed=[]):∀ i,i<ops.size→ta listed i:=by
 intro i
 induction i using Nat.strongRecOn with
 |_ i ih=>
  intro hi
  by_cases hl:ta listed i
  ·exact hl
  ·exfalso
   have hok':=hok
   unfold eG at hok'
   simp only[Bool.and_eq_true] at hok'
   have hmem:i∈Region.ready .any ops listed:=by
    rw[mem_ready]
    refine⟨?_,ops[i],by simp[hi],fun e he hb=>?_⟩
    ·unfold ta at hl
     have hi':i<listed.size:=by omega
     simp only[Array.getD_eq_getD_getElem?,Array.getElem?_eq_getElem hi',Option.getD_some] at hl ⊢
     simpa using hl
    ·have hlt:=(iq hok'.1 i ops[i] (by simp[hi])).2 e.on (by unfold cu;rw[List.mem_map];exact⟨e,List.mem_filter.2 ⟨by simpa using he,hb⟩,rfl⟩)
     rw[Nat.zero_add] at hlt
     exact ih e.on hlt (by omega)
   rw[h] at hmem
   cases hmem
theorem CE (hT:aq P T) {ops:Array Oper} (hok:eG nt ops.toList=true) {pre:Env} {K:Env→List az→Prop} {Q:Exit→Act→World→Prop}
 (hQ:∀ env c a,K env c.H→Inv G nt C.w.heap.size c env a→Grow C c→Q .normal a c.w):∀ (fuel:Nat) (listed:Array Bool),listed.size=ops.size→listed.toList.count false≤fuel→
 ∀ {L:List Nat} {V:Nat→SV} {env jt:Env} {c:Cx} {a:Act} {n:Nat},lg G T own ops.toList pre (ta listed) L V env c.H→Qs P G T own ops.toList n L env c.H K→
 (∀ t,look jt t=lk ops.toList (ta listed) V pre t)→Inv G nt C.w.heap.size c jt a→Grow C c→wpAnyIn (FR ρ) 0 P .any ops Q fuel listed a c.w:=by
 intro fuel
 have fin:∀ (listed:Array Bool),listed.size=ops.size→∀ {L:List Nat} {V:Nat→SV} {env jt:Env} {c:Cx} {a:Act} {n:Nat},lg G T own ops.toList pre (ta listed) L V env c.H→Qs P G T own ops.toList n L env c.H K→
  (∀ t,look jt t=lk ops.toList (ta listed) V pre t)→Inv G nt C.w.heap.size c jt a→Grow C c→Region.ready .any ops listed=[]→Q .normal a c.w:=by
  intro listed hsz L V env jt c a n D hDr hR hi hg hr
  have hall:=Bv hok hsz hr
  obtain⟨_,hDr⟩:=hDr
  have hDr:K env c.H:=by
   rcases hDr with⟨_,h⟩|⟨⟨i,o,h1,h2⟩,_⟩
   ·exact h
   ·exact(h2 (D.sub i (hall i (by have:=(List.getElem?_eq_some_iff.1 h1).1;simpa using this)))).elim
  ·refine hQ env c a hDr ⟨hi.heap,hi.iS,hi.size,fun t x hx=>hi.env t x ?_,hi.defs⟩ hg
   rw[← hx,D.env t,hR t]
   unfold lk
   cases hw:mh t 0 ops.toList with
   |none=>rfl
   |some j=>
    obtain⟨k,o,e1,e2,e3⟩:=kr hw
    have hlt:=(List.getElem?_eq_some_iff.1 e2).1
    rw[Nat.zero_add] at e1
    have hj:ta listed j:=hall j (by rw[e1];simpa using hlt)
    simp only
    rw[if_pos hj,if_pos (D.sub j hj)]
 induction fuel with
 |zero=>
  intro listed hsz hc L V env jt c a n D hDr hR hi hg
  have hr:Region.ready .any ops listed=[]:=by
   cases hh:Region.ready .any ops listed with
   |nil=>rfl
   |cons m r=>
    have hm:m∈Region.ready .any ops listed:=by rw[hh];exact List.mem_cons_self ..
    rw[mem_ready] at hm
    have h0:listed.toList.count false=0:=by omega
    rw[List.count_eq_zero] at h0
    obtain⟨h1,o,h2,_⟩:=hm
    have hlt:=(Array.getElem?_eq_some_iff.1 h2).1
    have hlt':m<listed.size:=by omega
    rw[Array.getD_eq_getD_getElem?,Array.getElem?_eq_getElem hlt',Option.getD_some] at h1
    exact(h0 (by rw[← h1];simp)).elim
  exact⟨hr,fin listed hsz D hDr hR hi hg hr⟩
 |succ fuel ih=>
  intro listed hsz hc L V env jt c a n D hDr hR hi hg
  refine⟨fun hr=>fin listed hsz D hDr hR hi hg hr,fun i hir=>?_⟩
  rw[mem_ready] at hir
  obtain⟨h1,o,h2,h3⟩:=hir
  have hlt:=(Array.getElem?_eq_some_iff.1 h2).1
  have hlt':i<listed.size:=by omega
  have hol:ops.toList[i]? =some o:=by simpa using h2
  have hn:¬ ta listed i:=by
   unfold ta
   rw[Array.getD_eq_getD_getElem?,Array.getElem?_eq_getElem hlt',Option.getD_some] at h1 ⊢
   rw[h1];simp
  have hdeps:∀ j∈cu o,ta listed j:=fun j hj=>by
   unfold cu at hj
   obtain⟨e,he,rfl⟩:=List.mem_map.1 hj
   obtain⟨he1,he2⟩:=List.mem_filter.1 he
   exact h3 e (by simpa using he1) he2
  have hset:=Fx (listed:=listed) hlt'
  have hcnt:(listed.setIfInBounds i true).toList.count false≤fuel:=by
   have hg:listed.toList[i]'(by simpa using hlt')=false:=by
    rw[Array.getD_eq_getD_getElem?,Array.getElem?_eq_getElem hlt',Option.getD_some] at h1
    simpa using h1
   rw[Array.toList_setIfInBounds,List.count_set (by simpa using hlt'),hg]
   have:0<listed.toList.count false:=List.count_pos_iff.2 (by rw[← hg];simp)
   show listed.toList.count false - 1+0≤fuel
   omega
  have hok':=hok
  unfold eG at hok'
  simp only[Bool.and_eq_true] at hok'
  have hdst:∀ d,o.dst=some d→d<nt:=fun d hd=>((iq hok'.1 i o hol).1 d hd).1
  by_cases hiL:i∈L
  ·have hval:=D.val i o hol hiL hn jt fun t ht=>by
    rw[hR t]
    exact vf hok D.mr hol hn hdeps t ht
   refine DS hT hi h2 hdst (k:=fun x H'=>x=V i∧H'=c.H) (Hg hval ⟨rfl,rfl⟩) ?_
   rintro x c' a' ⟨rfl,hH⟩ hi' hg'
   refine ih (listed.setIfInBounds i true) (by simp[hsz]) hcnt (L:=L) (V:=V) (env:=env) (n:=n) ?_ (by rw[hH];exact hDr) ?_ hi' (hg.trans hg')
   ·rw[hH];exact D.listed hol hiL hdeps hset
   ·exact ve hok hol hset (fun _ _ _=>rfl) rfl hR
  ·have hex:la P G T own ops.toList o env c.H fun x H'=>again G T own ops.toList i (cX o.dst x env) H' L∧Dr P G T own ops.toList n (i::L) (cX o.dst x env) H' K:=by
    rcases hDr.2 with⟨h,_⟩|⟨_,h⟩
    ·exact(hiL (h i o hol)).elim
    ·exact h i o hol hiL (fun j hj=>D.sub j (hdeps j hj))
   ·skip
    have hag:vK ops.toList o env jt:=fun t ht=>by
     rw[D.env t,hR t,vf hok D.closed hol hiL (fun j hj=>D.sub j (hdeps j hj)) t ht]
     exact(vf hok D.mr hol hn hdeps t ht).symm
    refine DS hT hi h2 hdst (pc hag hex) ?_
    rintro x c' a' ⟨hagain,hDr'⟩ hi' hg'
    obtain⟨V',e1,e2,D'⟩:=D.Dv hok hol hiL hdeps hset hagain
    obtain⟨n',L',V2,env2,g1,g2,g4⟩:=lg.rest hok n D' hDr'
    refine ih (listed.setIfInBounds i true) (by simp[hsz]) hcnt g1 g2 (fun t=>?_) hi' (hg.trans hg')
    have hb:∀ j,ta (listed.setIfInBounds i true) j→j∈i::L:=fun j hj=>D'.sub j hj
    refine ve hok hol hset (S:=ta listed) (fun j hj hji=>?_) ?_ hR t
    ·rw[(g4 j (hb j ((hset j).2 (.inr hj)))).2,e1 j hji]
    ·rw[(g4 i (List.mem_cons_self ..)).2,e2]
theorem ey.draw (hT:aq P T) (hm:P.follows .mixedOrders=true) {id:Nat} {ops:Array Oper} {Q:Exit→St→Prop} {s:St} (hok:eG nt ops.toList=true) {n:Nat} (h:Dr P G T own ops.toList n [] s.env s.H fun env H=>Q .normal ⟨env,H⟩):ey P G nt ρ C (.region id ops true) Q s:=by
 intro c a hc hi hg
 refine wpIn_region_any hm ?_
 obtain⟨e1,e2⟩:=Cx.world hi.heap (w':={ c.w with drawn:=c.w.drawn+1}) (fun _ _=>rfl) (Nat.le_refl _) rfl rfl rfl
 have hi':Inv G nt C.w.heap.size { c with w:={ c.w with drawn:=c.w.drawn+1}} s.env a:=⟨e2,hi.iS.grow e1,hi.size,fun t x hx=>(hi.env t x hx).grow e1,hi.defs.grow e1⟩
 have hDr:Dr P G T own ops.toList n [] s.env c.H fun env H=>Q .normal ⟨env,H⟩:=by rw[hc];exact h
 have hno:∀ j,¬ ta (Array.replicate ops.size false) j:=fun j=>by
  unfold ta
  rw[Array.getD_eq_getD_getElem?]
  by_cases hj:j<ops.size
  ·simp[hj]
  ·simp[hj]
 have hlk0:∀ t,look s.env t=lk ops.toList (ta (Array.replicate ops.size false)) (fun _=> .undef) s.env t:=fun t=>by
  unfold lk
  cases mh t 0 ops.toList with
  |none=>rfl
  |some j=>simp only;rw[if_neg (hno j)]
 have D0:lg G T own ops.toList s.env (ta (Array.replicate ops.size false)) [] (fun _=> .undef) s.env c.H:=by
  refine⟨fun t=>?_,fun j hj=>(hno j hj).elim,fun j hj=>(List.not_mem_nil hj).elim,fun j o _ hj=>(List.not_mem_nil hj).elim,fun j o _ hj=>(List.not_mem_nil hj).elim,fun j o _ hj=>(hno j hj).elim,fun j o _ hj=>(List.not_mem_nil hj).elim⟩
  unfold lk
  cases mh t 0 ops.toList with
  |none=>rfl
  |some j=>simp only;rw[if_neg List.not_mem_nil]
 obtain⟨n',L',V',env',g1,g2,g4⟩:=lg.rest hok n D0 hDr
 refine CE (c:={ c with w:={ c.w with drawn:=c.w.drawn+1}}) (pre:=s.env) (Q:=fun e a' w'=>∃ s' c',Q e s'∧c'.H=s'.H∧c'.w=w'∧Inv G nt C.w.heap.size c' s'.env a'∧Grow C c') hT hok (fun env c a hk hi hg=>⟨⟨env,c.H⟩,c,hk,rfl,rfl,hi,hg⟩) ops.size (Array.replicate ops.size false) (by simp) ?_ g1 g2 (fun t=>?_) hi' (hg.trans e1)
 ·exact Nat.le_trans (List.count_le_length ..) (by simp)
 ·rw[hlk0 t]
  unfold lk
  cases mh t 0 ops.toList with
  |none=>rfl
  |some j=>simp only;rw[if_neg (hno j),if_neg (hno j)]
end
end
end Go.Proofs.YtedejleokilohaaGreatDoor
