/- A part of the proof: SvO, SvP, SvQ, SvR, SvS, SwA, SwB, SwC, SwD. Names and spaces are cut short by program. -/
import Derived.Test.YtjdfoonhnmpkdaaGreatDoorMb
import Derived.RangeFuncRecord
import Derived.OrdersIn
set_option linter.unusedSimpArgs false
set_option linter.unusedVariables false
set_option maxRecDepth 10000
set_option maxHeartbeats 4000000
namespace Go.Proofs.YtjdfoonhnmpkdaaGreatDoor
open Go
section
theorem AL {w:World} {b r:Nat} {cs:Array Value} {T:TypeId} {fr:Nat×Nat} {ds:Option (List Deferred)} (h:w.heap[b]? =some (.cells cs T fr)) (hr:w.heap[r]? =some (.deferred ds)):b≠r:=fun e=>by rw[e,hr] at h;cases h
theorem cL (w:World) (r b:Nat) (o:Obj) (h:b≠r):(w.putObj r o).heap[b]? =w.heap[b]? :=World.putObj_heap_other h
theorem lP {w:World} {b o r:Nat} {cs:List Value} {ds:Option (List Deferred)} (h:w.rangeAt b o cs) (hr:w.heap[r]? =some (.deferred ds)) (o':Obj):(w.putObj r o').rangeAt b o cs:=fun j v hv=>by
 have hc:=h j v hv
 have hb:b≠r:=fun e=>by subst e;simp[World.cell?,hr] at hc
 rw[World.cell?_of_block (w:=w) (w':=w.putObj r o') (cL w r b o' hb)]
 exact hc
theorem aB.od {θ:Nat→Option (Nat×Nat)} {H:List av} {w:World} {r:Nat} {ds:Option (List Deferred)} (hr:w.heap[r]? =some (.deferred ds)) (o':Obj):
 (∀ x v,aB ⟨θ,H,w⟩ x v→aB ⟨θ,H,w.putObj r o'⟩ x v)∧(∀ xs vs,ax ⟨θ,H,w⟩ xs vs→ax ⟨θ,H,w.putObj r o'⟩ xs vs):=by
 have hsz:(w.putObj r o').heap.size=w.heap.size:=by simp[World.putObj]
 have himm:∀ b,Cx.qZ ⟨θ,H,w⟩ b→Cx.qZ ⟨θ,H,w.putObj r o'⟩ b:=fun b ⟨h1,h2⟩=>⟨by show b<(w.putObj r o').heap.size;rw[hsz];exact h1,h2⟩
 apply SV.both
 ·intro x h1 h2 h3 h4 h5 h6 v h
  cases x with
  |agg fs=>exact absurd rfl (h1 fs)
  |list n xs=>exact absurd rfl (h2 n xs)
  |gM y=>exact absurd rfl (h3 y)
  |fn f a b=>exact absurd rfl (h4 f a b)
  |tuple xs=>exact absurd rfl (h5 xs)
  |eC b clk born kd ks vs=>exact absurd rfl (h6 b clk born kd ks vs)
  |sl id g off len=>
   simp only[aB] at h ⊢
   refine⟨h.1,?_⟩
   have h:=h.2
   cases hB:H[id]? with
   |none=>simp[hB] at h
   |some B=>
    simp only[hB] at h
    cases B with
    |cells g' sz vals=>
     simp only at h ⊢
     rcases h with h|⟨e,q1,aa,cap,q2,q3,q4,q5⟩
     ·exact .inl h
     ·refine .inr ⟨e,q1,aa,cap,q2,q3,q4,?_⟩
      rcases q5 with q5|⟨b,o,cs,T,fr,q5,q6,q7,q8⟩
      ·exact .inl q5
      ·exact .inr ⟨b,o,cs,T,fr,q5,q6,by rw[cL w r b o' (AL q7 hr)];exact q7,q8⟩
    |_=>exact h
  |_=>exact h
 ·intro fs ih v h
  simp only[aB] at h ⊢
  obtain⟨vs,h1,h2⟩:=h
  exact⟨vs,ih vs h1,h2⟩
 ·intro sz xs ih v h
  simp only[aB] at h ⊢
  obtain⟨a,cap,h0,h1,h2,h3⟩:=h
  refine⟨a,cap,h0,h1,h2,?_⟩
  rcases h3 with h3|⟨b,o,vs,h3,h4,h5,h6,h7⟩
  ·exact .inl h3
  ·exact .inr ⟨b,o,vs,h3,ih vs h4,h5,lP h6 hr o',himm b h7⟩
 ·intro x ih v h
  simp only[aB] at h ⊢
  obtain⟨b,o,u,h0,h1,h2,h3,h4⟩:=h
  exact⟨b,o,u,h0,ih u h1,h2,lP h3 hr o',himm b h4⟩
 ·intro f xs ys ih1 ih2 v h
  simp only[aB] at h ⊢
  obtain⟨us,vs,h0,h1,h2⟩:=h
  exact⟨us,vs,ih1 us h0,ih2 vs h1,h2⟩
 ·intro xs ih v h
  simp only[aB] at h ⊢
  obtain⟨vs,h0,h1⟩:=h
  exact⟨vs,ih vs h0,h1⟩
 ·intro b clk born kd ks vs ih1 ih2 v h
  simp only[aB] at h ⊢
  obtain⟨h0,h1,ents,h2,h3,h4,h5,h6,h7⟩:=h
  exact⟨h0,himm b h1,ents,by rw[cL w r b o' (fun e=>by rw[e] at h2;rw[hr] at h2;cases h2)];exact h2,h3,h4,ih1 _ h5,ih2 _ h6,h7⟩
 ·intro vs h;simpa [ax] using h
 ·intro x xs ih1 ih2 vs h
  obtain⟨u,us,h1,h2,h3⟩:=ax.bg.1 h
  exact ax.bg.2 ⟨u,us,ih1 u h1,ih2 us h2,h3⟩
theorem Cx.RD {θ:Nat→Option (Nat×Nat)} {H:List av} {w:World} (hc:aM ⟨θ,H,w⟩) {r:Nat} {ds:Option (List Deferred)} (hr:w.heap[r]? =some (.deferred ds)) (him:Cx.qZ ⟨θ,H,w⟩ r) (o':Obj):
 aM ⟨θ,H,w.putObj r o'⟩∧∀ C:Cx,C.w.heap.size≤r→Grow C ⟨θ,H,w⟩→Grow C ⟨θ,H,w.putObj r o'⟩:=by
 have hsz:(w.putObj r o').heap.size=w.heap.size:=by simp[World.putObj]
 refine⟨⟨fun id B hB=>?_,hc.inj⟩,fun C hC hg=>?_⟩
 ·have hb:=hc.dQ id B hB
  have hne:∀ b o,B.isLive=true→θ id=some (b,o)→b≠r:=fun b o hl ht e=>him.2 ⟨id,o,⟨B,hB,hl⟩,e ▸ ht⟩
  cases B with
  |dead=>trivial
  |obj ob=>obtain⟨b,h1,h2,h3⟩:=hb;exact⟨b,h1,by rw[show(w.putObj r o').heap[b]? =w.heap[b]? from cL w r b o' (hne b 0 rfl h1)];exact h2,h3⟩
  |cells g sz vals=>
   rcases hb with hb|⟨b,o,cs,T,fr,vs,h1,h2,h3,h4,h5,h6⟩
   ·exact .inl hb
   ·exact .inr ⟨b,o,cs,T,fr,vs,h1,by rw[show(w.putObj r o').heap[b]? =w.heap[b]? from cL w r b o' (hne b o rfl h1)];exact h2,h3,(aB.od hr o').2 _ _ h4,h5,lP h6 hr o'⟩
  |map kd es=>
   obtain⟨b,ents,clk,h1,h2,h3,h4⟩:=hb
   have hE:∀ {es:List (SV×SV)} {l:List MapEntry},cg ⟨θ,H,w⟩ es l→cg ⟨θ,H,w.putObj r o'⟩ es l:=by
    intro es
    induction es with
    |nil=>intro l h;exact h
    |cons p es ih=>
     intro l h
     obtain⟨q,x⟩:=p
     simp only[cg] at h ⊢
     obtain⟨e,es',a1,a2,a3,a4⟩:=h
     exact⟨e,es',(aB.od hr o').1 _ _ a1,(aB.od hr o').1 _ _ a2,ih a3,a4⟩
   exact⟨b,ents,clk,h1,by rw[show(w.putObj r o').heap[b]? =w.heap[b]? from cL w r b o' (hne b 0 rfl h1)];exact h2,hE h3,h4⟩
 ·refine⟨hg.os,hg.tape,hg.output,by show _≤(w.putObj r o').heap.size;rw[hsz];exact hg.size,fun b hb ho=>?_,fun b cs T fr h=>?_,hg.ids,hg.new⟩
  ·show(w.putObj r o').heap[b]? =_
   rw[cL w r b o' (by omega)];exact hg.Fz b hb ho
  ·obtain⟨cs',fr',h1,h2⟩:=hg.shape b cs T fr h
   exact⟨cs',fr',by show(w.putObj r o').heap[b]? =_;rw[cL w r b o' (AL h1 hr)];exact h1,h2⟩
def jA (T:bX) (env:Env) (H:List av):List ResultVar→Option (List SV)
 |[]=>some []
 | .tmp t::r=>match look env t with
  |some x=>(match jA T env H r with
   |some xs=>some (x::xs)
   |none=>none)
  |none=>none
 | .cell t ty::r=>match look env t with
  |some p=>(match T.get ty with
   |some i=>(match mX H i p with
    |some x=>(match jA T env H r with
     |some xs=>some (x::xs)
     |none=>none)
    |none=>none)
   |none=>none)
  |none=>none
def aC:List SV→SV
 |[x]=>x
 |xs=> .tuple xs
def Fin (C:Cx) (H:List av) (x:SV) (R:SV→List av→Prop):Prop:=
 ∀ c v,c.H=H→aM c→aB c x v→Grow C c→∃ c' y,c'.w=c.w∧R y c'.H∧aM c'∧aB c' y v∧Grow C c'
def Pb (C:Cx) (T:bX) (rs:List ResultVar) (R:SV→List av→Prop) (e:Exit) (env:Env) (H:List av):Prop:=
 match e with
 | .normal| .ret=>aE (jA T env H rs) fun xs=>tI (Fin C H (aC xs) R)
 |_=>False
def gk:List SV→Nat→Env
 |[],_=>[]
 |x::r,i=>(i,x)::gk r (i+1)
section
variable {P:Program} {G:Gl} {T:bX} {own:List Nat} {nt B:Nat} {ρ:Option Nat} {C:Cx} {c:Cx} {env:Env} {a:Act}
def Ht (w w':World):Prop:=∀ r:Nat,w'.heap[r]? =w.heap[r]? ∨∃ ds0:Option (List Deferred),w.heap[r]? =some (Obj.deferred ds0)
theorem zU {w w':World} (hw:Ht w w') {b o:Nat} {cs:List Value} (h:w.rangeAt b o cs):w'.rangeAt b o cs:=fun j v hv=>by
 have hc:=h j v hv
 rcases hw b with e|⟨ds,e⟩
 ·rw[World.cell?_of_block (w:=w) (w':=w') e];exact hc
 ·simp[World.cell?,e] at hc
def vx (tmps:Array Value):ResultVar→Sem Value
 | .tmp t=>pure (tmps.getD t undef)
 | .cell x t=>do loadVar t (← asAddr (tmps.getD x undef))
theorem D7 (fn:Func) (tmps:Array Value):results fn tmps=(do
 let vs ← fn.results.mapM (vx tmps)
 pure (if h:vs.size=1 then vs[0] else .tuple vs)):=by
 refine congrArg (fun f:ResultVar→Sem Value=>(do
  let vs ← fn.results.mapM f
  pure (if h:vs.size=1 then vs[0] else Value.tuple vs):Sem Value)) ?_
 funext r
 cases r<;>rfl
theorem zY (hT:aI P T) (hi:Inv G nt B c env a):∀ {rs:List ResultVar} {xs:List SV},jA T env c.H rs=some xs→∃ vs,ax c xs vs∧∀ w',Ht c.w w'→
 (rs.mapM (vx a.tmps)).run P w'= .ok vs w'
 |[],xs,h=>by simp only[jA,Option.some.injEq] at h;subst h;exact⟨[],ax.bQ,fun w' _=>by simp⟩
 | .tmp t::r,xs,h=>by
  simp only[jA] at h
  split at h
  ·rename_i x hx
   split at h
   ·rename_i ys hy
    cases h
    obtain⟨vs,h1,h2⟩:=zY hT hi hy
    exact⟨_::vs,ax.bG (hi.env t x hx) h1,fun w' hw=>by simp[List.mapM_cons,vx,h2 w' hw]⟩
   ·cases h
  ·cases h
 | .cell t ty::r,xs,h=>by
  simp only[jA] at h
  split at h
  ·rename_i p hp
   split at h
   ·rename_i i hti
    split at h
    ·rename_i x hx
     split at h
     ·rename_i ys hy
      cases h
      obtain⟨vs,h1,h2⟩:=zY hT hi hy
      obtain⟨b,o,u,e1,e2,e3,e4⟩:=Fh hi.heap (hi.env t p hp) hx
      exact⟨u::vs,ax.bG e2 h1,fun w' hw=>by
       have hl:=ni (hT _ _ hti) e2 e3 (zU hw e4)
       simp[List.mapM_cons,vx,e1,asAddr,hl,h2 w' hw]⟩
     ·cases h
    ·cases h
   ·cases h
  ·cases h
theorem xM {fn:Func} {R:SV→List av→Prop} {C0:Cx}:∀ (ds:List Deferred) (c:Cx),aM c→pB C0.w.heap.size c ds→Grow C0 c→∀ (x:SV) (v:Value) (tmps:Array Value),aB c x v→R x c.H→
 (∀ w',Ht c.w w'→(results fn tmps).run P w'= .ok v w')→
 LeavesInM (FR none) 0 P fn tmps (tG C0 R) ds .returning c.w
 |[],c,hc,hd,hg,x,v,tmps,hx,hR,hrun=>⟨v,hrun c.w (fun r=> .inl rfl),v,x,c,rfl,rfl,hR,hc,hx,hg⟩
 |d::ds,c,hc,hd,hg,x,v,tmps,hx,hR,hrun=>by
  obtain⟨r,rfl,h1,h2,h3⟩:=hd.1 d (List.mem_cons_self ..)
  obtain⟨θ,H,w⟩:=c
  have hp:=Cx.RD hc h1 h2 (.deferred none)
  refine⟨by simp,.inl ⟨r,w.putObj r (.deferred none),rfl,run_takeDeferred h1,?_⟩⟩
  have hd':pB C0.w.heap.size ⟨θ,H,w.putObj r (.deferred none)⟩ ds:=by
   have hpw:=List.pairwise_cons.1 hd.2
   refine⟨fun d' hd'=>?_,hpw.2⟩
   obtain⟨r',q1,q2,q3,q4⟩:=hd.1 d' (List.mem_cons_of_mem _ hd')
   have hne:r'≠r:=fun e=>hpw.1 d' hd' r rfl (by rw[q1,e])
   refine⟨r',q1,?_,⟨?_,q3.2⟩,q4⟩
   ·show(w.putObj r _).heap[r']? =_
    rw[cL w r r' _ hne];exact q2
   ·show r'<(w.putObj r _).heap.size
    have:=q3.1
    simpa [World.putObj] using this
  refine xM ds ⟨θ,H,w.putObj r (.deferred none)⟩ hp.1 hd' (hp.2 C0 h3 hg) x v tmps ((aB.od h1 _).1 _ _ hx) hR fun w' hw'=>hrun w' fun r'=>?_
  by_cases e:r'=r
  ·exact .inr ⟨_,by rw[e];exact h1⟩
  ·rcases hw' r' with h|⟨ds0,h⟩
   ·left;rw[h];exact cL w r r' _ e
   ·right;exact⟨ds0,by rw[← h];exact(cL w r r' _ e).symm⟩
theorem uO:∀ {xs:List SV} {vs:List Value} {i:Nat} {t:Nat} {x:SV},ax c xs vs→look (gk xs i) t=some x→∃ j,t=i+j∧∃ v,vs[j]? =some v∧aB c x v
 |[],vs,i,t,x,_,h=>by cases h
 |y::xs,vs,i,t,x,hr,h=>by
  obtain⟨u,us,h1,h2,rfl⟩:=ax.bg.1 hr
  simp only[gk,look] at h
  split at h
  ·rename_i e;cases h;exact⟨0,e,u,rfl,h1⟩
  ·obtain⟨j,e,v,h3,h4⟩:=uO h2 h
   exact⟨j+1,by omega,v,by simpa using h3,h4⟩
theorem aq.JL (hT:aI P T) {f:FuncId} {fn:Func} {cd:Code} {args:List SV} {H:List av} {R:SV→List av→Prop} (hf:P.funcs[f]? =some fn) (hb:fn.body=some cd) (hname:(fn.name== "runtime.NumGoroutine")=false)
 (hnt:fn.ntmps=nt) (hlen:args.length≤nt) {rs:List ResultVar} (hrs:fn.results.toList=rs)
 (h:∀ C:Cx,C.H=H→closed H→dW G C.H.length→ep P G nt none C cd (fun e s=>Pb C T rs R e s.env s.H) ⟨gk args 0,H⟩):aq P G f args H R:=by
 refine⟨⟨fn,hf,hname,by rw[hb];rfl⟩,fun c vs hH hc hG hv=>?_⟩
 have hcl:closed H:=hH ▸ hc.closed
 refine callsIn_of_wp_marks hf hb trivial ?_ rfl
 have hvl:vs.length=args.length:=hv.length
 have hinv:Inv G nt c.w.heap.size c (gk args 0) { tmps:=vs.toArray++Array.replicate (fn.ntmps - vs.toArray.size) undef,defers:=[]}:=by
  refine⟨hc,hG,by simp;omega,fun t x hx=>?_,⟨by simp,List.Pairwise.nil⟩⟩
  obtain⟨j,e,v,h1,h2⟩:=uO hv hx
  have hj:j<vs.length:=(List.getElem?_eq_some_iff.1 h1).1
  have:(vs.toArray++Array.replicate (fn.ntmps - vs.toArray.size) undef).getD t undef=v:=by
   rw[Array.getD_eq_getD_getElem?,Array.getElem?_append_left (by simp;omega)]
   rw[e,Nat.zero_add,List.getElem?_toArray,h1];rfl
  rw[this];exact h2
 have hA:=h c hH hcl hG.M9 c _ hH hinv (Grow.refl c)
 refine wpIn_mono hA ?_
 rintro e a' w' ⟨⟨env',H'⟩,c',h1,h2,rfl,h3,h4⟩
 have fin:aE (jA T env' H' rs) (fun xs=>tI (Fin c H' (aC xs) R))→LeavesInM (FR none) 0 P fn a'.tmps (tG c R) a'.defers .returning c'.w:=fun hq=>by
  obtain⟨xs,q1,q2⟩:=hq
  simp only at h2
  rw[← h2] at q1 q2
  obtain⟨vs',k1,k2⟩:=zY hT h3 q1
  have hval:aB c' (aC xs) (if hs:vs'.toArray.size=1 then vs'.toArray[0] else .tuple vs'.toArray):=by
   have hl:=k1.length
   cases xs with
   |nil=>rw[ax.dm.1 k1];simp only[aC,aB];exact⟨[],ax.bQ,by simp⟩
   |cons x xs=>
    cases xs with
    |nil=>
     obtain⟨u,us,e1,e2,rfl⟩:=ax.bg.1 k1
     rw[ax.dm.1 e2]
     simpa [aC] using e1
    |cons y ys=>
     have:¬ vs'.toArray.size=1:=by simp at hl ⊢;omega
     rw[dif_neg this]
     simp only[aC,aB]
     exact⟨vs',k1,rfl⟩
  obtain⟨c2,y,e1,e2,e3,e4,e5⟩:=q2 c' _ rfl h3.heap hval h4
  rw[← e1]
  have hdef:pB c.w.heap.size c2 a'.defers:=by
   refine⟨fun d hd=>?_,h3.defs.2⟩
   obtain⟨r,g1,g2,g3,g4⟩:=h3.defs.1 d hd
   rw[← e1] at g2
   refine⟨r,g1,g2,⟨by rw[e1];exact g3.1,?_⟩,g4⟩
   rintro⟨id,o,⟨B,hB,hl⟩,ht⟩
   have hb:=e3.dQ id B hB
   cases B with
   |dead=>cases hl
   |obj ob=>obtain⟨b,q1,q2,q3⟩:=hb;rw[ht] at q1;cases q1;rw[g2] at q2;cases q2;exact q3 _ rfl
   |map _ _=>obtain⟨b,_,_,q1,q2,_⟩:=hb;rw[ht] at q1;cases q1;rw[g2] at q2;cases q2
   |cells _ _ _=>
    rcases hb with⟨q1,_⟩|⟨b,_,_,_,_,_,q1,q2,_⟩
    ·rw[ht] at q1;cases q1
    ·rw[ht] at q1;cases q1;rw[g2] at q2;cases q2
  refine xM a'.defers c2 e3 hdef e5 y _ a'.tmps e4 e2 fun w2 hw2=>?_
  rw[e1] at hw2
  have hrun:=k2 w2 hw2
  have:(fn.results.mapM (vx a'.tmps)).run P w2= .ok vs'.toArray w2:=by
   rw[Array.mapM_eq_mapM_toList,hrs,Sem.run_map,hrun];rfl
  rw[D7,Sem.run_bind,this]
  rfl
 cases e with
 |normal=>exact fin h1
 |ret=>exact fin h1
 |_=>exact h1.elim
end
def Told (x y:SV):Prop:=y=x∨(x= .nil∧∃ n,y= .list n [])
def mg:List SV→List SV→Prop
 |[],[]=>True
 |x::xs,y::ys=>Told x y∧mg xs ys
 |_,_=>False
theorem Told.rep {c:Cx} {x y:SV} {v:Value} (h:Told x y) (hr:aB c x v):aB c y v:=by
 rcases h with rfl|⟨rfl,n,rfl⟩
 ·exact hr
 ·simp only[aB] at hr ⊢
  exact⟨none,0,hr,Nat.le_refl _,Nat.zero_le _,by simp⟩
theorem mg.rep {c:Cx}:∀ {xs ys:List SV} {vs:List Value},mg xs ys→ax c xs vs→ax c ys vs
 |[],[],vs,_,hr=>hr
 |x::xs,y::ys,vs,h,hr=>by
  obtain⟨u,us,h1,h2,rfl⟩:=ax.bg.1 hr
  exact ax.bG (h.1.rep h1) (h.2.rep h2)
 |[],_::_,_,h,_=>h.elim
 |_::_,[],_,h,_=>h.elim
def bC:SV→SV→Prop
 | .agg xs,.agg ys=>mg xs ys
 |x,y=>Told x y
theorem mg.refl:∀ xs:List SV,mg xs xs
 |[]=>trivial
 |x::xs=>⟨.inl rfl,mg.refl xs⟩
theorem bC.refl (x:SV):bC x x:=by
 cases x with
 |agg xs=>exact mg.refl xs
 |_=>exact .inl rfl
theorem bC.rep {c:Cx} {x y:SV} {v:Value} (h:bC x y) (hr:aB c x v):aB c y v:=by
 unfold bC at h
 split at h
 ·simp only[aB] at hr ⊢
  obtain⟨vs,h1,h2,h3⟩:=hr
  exact⟨vs,h.rep h1,h2,h3⟩
 ·exact h.rep hr
theorem aN {P:Program} {t:Nat} {i:TI} (z0:SV) (hz0:bC z0 i.zero) (h1:Qr P t i.d) (h2:(P.info? t).map (fun j=>(j.size,j.bytes,j.zero.bind aP,j.zero.map fun z=>z.cells.size))=some (i.size,i.bytes,some z0,some i.size)):bT P t i:=by
 refine⟨h1,?_⟩
 cases hi:P.info? t with
 |none=>rw[hi] at h2;cases h2
 |some info=>
  rw[hi] at h2
  simp only[Option.map_some,Option.some.injEq,Prod.mk.injEq] at h2
  obtain⟨a1,a2,a3,a4⟩:=h2
  cases hz:info.zero with
  |none=>rw[hz] at a3;cases a3
  |some z=>
   rw[hz] at a3 a4
   exact⟨info,z,rfl,a1,a2,hz,fun c=>⟨hz0.rep (mu a3 c).1,(mu a3 c).2⟩,by simpa using a4⟩
theorem aI.nil {P:Program}:aI P []:=fun t i h=>by cases h
theorem aI.cons {P:Program} {k:Nat} {x:TI} {T:bX} (h:bT P k x) (r:aI P T):aI P ((k,x)::T):=fun t i hi=>by
 simp only[bX.get] at hi
 cases e:Nat.beq t k with
 |true=>
  rw[e,cond_true] at hi
  cases hi
  have:=Nat.eq_of_beq_eq_true e
  subst this
  exact h
 |false=>
  rw[e,cond_false] at hi
  exact r t i hi
end
section
section
variable {P:Program} {G:Gl} {T:bX} {own:List Nat} {nt B:Nat} {ρ:Option Nat} {C:Cx} {env:Env} {H:List av} {k:Exit→Env→List av→Prop}
def O9 (K Y:Env→List av→Prop):Prop:=∀ env H,Y env H→K env H
theorem O9.go {K Y:Env→List av→Prop} {env:Env} {H:List av} (h:O9 K Y) (y:Y env H):K env H:=h env H y
theorem sj (kd:IntKind) (n:Int) (h:kd.min≤n∧n≤kd.max):aP (.int kd n)=some (.int kd n):=by simp[aP,aQ,h]
theorem AS (n:Int) (h: -9223372036854775808≤n∧n<9223372036854775808):aP (.int .i64 n)=some (.int .i64 n):=sj _ _ (by
 have h1:IntKind.i64.min= -9223372036854775808:=by decide
 have h2:IntKind.i64.max=9223372036854775807:=by decide
 rw[h1,h2];omega)
theorem Dy (n:Int) (h:0≤n∧n<256):aP (.int .u8 n)=some (.int .u8 n):=sj _ _ (by
 have h1:IntKind.u8.min=0:=by decide
 have h2:IntKind.u8.max=255:=by decide
 rw[h1,h2];omega)
theorem yM (b:Bool):aP (.bool b)=some (.bool b):=rfl
theorem AT:aP (.slice none 0 0)=some .nil:=rfl
theorem ua:aP (.pointer none)=some .bt:=rfl
theorem tZ:aP (.map none)=some .b9:=rfl
theorem wrap_i64 (n:Int) (h: -9223372036854775808≤n∧n<9223372036854775808):IntKind.i64.wrap n=n:=by
 simp only[IntKind.wrap,IntKind.bits,IntKind.signed]
 simp
 omega
theorem BS {a b:Int} (h:a≤b):(a≤b)=True:=eq_true h
theorem Ci {a b:Nat} (h:a≤b):(a≤b)=True:=eq_true h
theorem Cj {a b:Nat} (h:a<b):(a<b)=True:=eq_true h
theorem tI.mk {p:Prop} (h:p):tI p:=h
def aW:Env→Env→Prop
 |[],_=>True
 |(t,x)::r,env=>look env t=some x∧aW r env
theorem aW.look:∀ {env2 env:Env},aW env2 env→∀ t x,look env2 t=some x→look env t=some x
 |[],_,_,t,x,h=>by cases h
 |(t',x')::r,env,hs,t,x,h=>by
  simp only[Go.Proofs.YtjdfoonhnmpkdaaGreatDoor.look] at h
  split at h
  ·rename_i e;cases h;subst e;exact hs.1
  ·exact hs.2.look t x h
theorem Wk.refl (s:St):Wk G nt C s s:=fun c a h1 h2 h3=>⟨c,h1,rfl,h2,h3⟩
theorem Wk.sub {env2:Env} (h:aW env2 env):Wk G nt C ⟨env,H⟩ ⟨env2,H⟩:=Wk.env h.look
def oT (p:Prop):Prop:=p
theorem oT.go {p:Prop} (h:oT p):p:=h
theorem Fin.same {x:SV} {R:SV→List av→Prop} (h:R x H):Fin C H x R:=fun c v h1 h2 h3 h4=>⟨c,x,rfl,by rw[h1];exact h,h2,h3,h4⟩
theorem Fin.then {x:SV} {R:SV→List av→Prop} (h:R x H):tI (Fin C H x R):=Fin.same h
end
end
abbrev aD:=List UInt8
mutual
inductive Ex where
 |mk (kind:Int) (name:aD) (n op:Int) (names:List aD) (ae:List Ex) (binds:List Bd) (alts:List Al)
inductive Bd where
 |mk (name:aD) (e:Ex)
inductive Al where
 |mk (kind:Int) (name:aD) (n:Int) (names:List aD) (body:Ex)
end
def Bd.name:Bd→aD
 | .mk s _=>s
def Bd.e:Bd→Ex
 | .mk _ e=>e
def Al.kind:Al→Int
 | .mk k _ _ _ _=>k
def Al.name:Al→aD
 | .mk _ s _ _ _=>s
def Al.n:Al→Int
 | .mk _ _ n _ _=>n
def Al.names:Al→List aD
 | .mk _ _ _ l _=>l
def Al.body:Al→Ex
 | .mk _ _ _ _ e=>e
mutual
def Ex.cells:Ex→List SV
 | .mk k s n op l ae binds alts=>[.int .i64 k,.str s,.int .i64 n,.int .i64 op,.list 1 (l.map .str),.list 8 (ag ae),.list 9 (ad binds),.list 12 (af alts)]
def ag:List Ex→List SV
 |[]=>[]
 |e::r=> .agg e.cells::ag r
def Bd.cells:Bd→List SV
 | .mk s e=> .str s::e.cells
def ad:List Bd→List SV
 |[]=>[]
 |b::r=> .agg b.cells::ad r
def Al.cells:Al→List SV
 | .mk k s n l e=> .int .i64 k:: .str s:: .int .i64 n:: .list 1 (l.map .str)::e.cells
def af:List Al→List SV
 |[]=>[]
 |a::r=> .agg a.cells::af r
end
def Ex.sv (e:Ex):SV:= .agg e.cells
def Bd.sv (b:Bd):SV:= .agg b.cells
def Al.sv (a:Al):SV:= .agg a.cells
theorem Ex.au (e:Ex):e.cells.length=8:=by cases e;rfl
theorem Bd.au (b:Bd):b.cells.length=9:=by cases b;simp[Bd.cells,Ex.au]
theorem Al.au (a:Al):a.cells.length=12:=by cases a;simp[Al.cells,Ex.au]
theorem aL:∀ l:List Ex,ag l=l.map Ex.sv
 |[]=>rfl
 |e::r=>by rw[ag,aL r];rfl
theorem az:∀ l:List Bd,ad l=l.map Bd.sv
 |[]=>rfl
 |e::r=>by rw[ad,az r];rfl
theorem bh:∀ l:List Al,af l=l.map Al.sv
 |[]=>rfl
 |e::r=>by rw[af,bh r];rfl
theorem Ex.ao (e:Ex):e.cells.take 8=e.cells:=List.take_of_length_le (by rw[e.au];exact Nat.le_refl _)
theorem Bd.bf (b:Bd):b.cells= .str b.name::b.e.cells:=by cases b;rfl
theorem Al.bf (a:Al):a.cells= .int .i64 a.kind:: .str a.name:: .int .i64 a.n:: .list 1 (a.names.map .str)::a.body.cells:=by cases a;rfl
mutual
def Ex.size:Ex→Nat
 | .mk _ _ _ _ _ ae binds alts=>1+jT ae+gQ binds+jO alts
def jT:List Ex→Nat
 |[]=>0
 |e::r=>e.size+jT r
def Bd.size:Bd→Nat
 | .mk _ e=>e.size
def gQ:List Bd→Nat
 |[]=>0
 |b::r=>b.size+gQ r
def Al.size:Al→Nat
 | .mk _ _ _ _ e=>e.size
def jO:List Al→Nat
 |[]=>0
 |a::r=>a.size+jO r
end
theorem Ex.size_pos (e:Ex):0<e.size:=by cases e;simp[Ex.size];omega
section
theorem bL (H L:List av):(H++L)[H.length]? =L[0]? :=by rw[List.getElem?_append_right (Nat.le_refl _),Nat.sub_self]
theorem aH (H L:List av) (k:Nat):(H++L)[H.length+k]? =L[k]? :=by simp[List.getElem?_append_right]
theorem dx {H L:List av} {id:Nat} (h:id<H.length):(H++L)[id]? =H[id]? :=List.getElem?_append_left h
theorem du (H L:List av) (x:av):(H++L).set H.length x=H++L.set 0 x:=by simp[List.set_append]
theorem bW (H L:List av) (k:Nat) (x:av):(H++L).set (H.length+k) x=H++L.set k x:=by simp[List.set_append]
theorem gY {H L:List av} {id:Nat} (h:id<H.length) (x:av):(H++L).set id x=H.set id x++L:=by simp[List.set_append,h]
theorem r9 {n m:Nat} (h:n≤m):∀ {es:List (SV×SV)},dq n es=true→dq m es=true
 |[],_=>rfl
 |p::r,hb=>by
  simp only[dq,Bool.and_eq_true] at hb ⊢
  exact⟨⟨(SV.cz h).1 _ hb.1.1,(SV.cz h).1 _ hb.1.2⟩,r9 h hb.2⟩
theorem av.pz {n m:Nat} (h:n≤m) {B:av} (hb:B.under n=true):B.under m=true:=by
 cases B with
 |cells _ _ vals=>exact(SV.cz h).2 _ hb
 |map _ es=>exact r9 h hb
 |_=>rfl
theorem closed.app {H:List av} (h:closed H) {L:List av} (hb:∀ b∈L,b.under (H.length+L.length)=true):closed (H++L):=by
 intro B hB
 rw[List.length_append]
 rcases List.mem_append.1 hB with h1|h1
 ·exact av.pz (by omega) (h B h1)
 ·exact hb B h1
theorem closed.set {H:List av} (h:closed H) {id:Nat} {b:av} (hb:b.under H.length=true):closed (H.set id b):=by
 intro B hB
 rw[List.length_set]
 rcases List.mem_or_eq_of_mem_set hB with h1|h1
 ·exact h B h1
 ·subst h1;exact hb
mutual
theorem Ex.aw (n:Nat):∀ e:Ex,SV.aj n e.cells=true
 | .mk k s m op l ae binds alts=>by
  simp only[Ex.cells,SV.aj,SV.under,bj,bc,aK,bA,Bool.and_self]
theorem bc (n:Nat):∀ l:List Ex,SV.aj n (ag l)=true
 |[]=>rfl
 |e::r=>by simp only[ag,SV.aj,SV.under,Ex.aw n e,bc n r,Bool.and_self]
theorem Bd.aw (n:Nat):∀ b:Bd,SV.aj n b.cells=true
 | .mk s e=>by simp only[Bd.cells,SV.aj,SV.under,Ex.aw n e,Bool.and_self]
theorem aK (n:Nat):∀ l:List Bd,SV.aj n (ad l)=true
 |[]=>rfl
 |e::r=>by simp only[ad,SV.aj,SV.under,Bd.aw n e,aK n r,Bool.and_self]
theorem Al.aw (n:Nat):∀ b:Al,SV.aj n b.cells=true
 | .mk k s m l e=>by simp only[Al.cells,SV.aj,SV.under,bj,Ex.aw n e,Bool.and_self]
theorem bA (n:Nat):∀ l:List Al,SV.aj n (af l)=true
 |[]=>rfl
 |e::r=>by simp only[af,SV.aj,SV.under,Al.aw n e,bA n r,Bool.and_self]
theorem bj (n:Nat):∀ l:List aD,SV.aj n (l.map .str)=true
 |[]=>rfl
 |e::r=>by simp only[List.map,SV.aj,SV.under,bj n r,Bool.and_self]
end
theorem Ex.gx (n:Nat) (e:Ex):e.sv.under n=true:=Ex.aw n e
section
variable {P:Program} {G:Gl} {nt:Nat} {C:Cx} {env:Env} {H:List av}
def Ae (n:Nat):Env→Env→Prop
 |[],_=>True
 |(t,x)::r,env=>(look env t=some x∧x.under n=true)∧Ae n r env
theorem Ae.look {n:Nat}:∀ {env2 env:Env},Ae n env2 env→∀ t x,look env2 t=some x→look env t=some x∧x.under n=true
 |[],_,_,t,x,h=>by cases h
 |(t',x')::r,env,hs,t,x,h=>by
  simp only[Go.Proofs.YtjdfoonhnmpkdaaGreatDoor.look] at h
  split at h
  ·rename_i e;cases h;subst e;exact hs.1
  ·exact hs.2.look t x h
theorem Fin.cut {X:List av} {x:SV} {R:SV→List av→Prop} (hC:C.H.length≤H.length) (hcl:closed H) (hx:x.under H.length=true) (h:R x H):tI (Fin C (H++X) x R):=by
 rintro⟨θ,Hc,w⟩ v h1 h2 h3 h4
 simp only at h1
 subst h1
 obtain⟨k1,k2⟩:=Cx.cut h2 hcl
 exact⟨⟨θ,H,w⟩,x,rfl,h,k1,aB.jg.1 _ _ h3 hx,k2 C hC h4⟩
end
end
theorem bV (l:List Ex):(ag l).length=l.length:=by simp[aL]
theorem aR (l:List Bd):(ad l).length=l.length:=by simp[az]
theorem dF (l:List Al):(af l).length=l.length:=by simp[bh]
theorem Bo (l:List Ex) (i:Nat):(ag l)[i]? =l[i]?.map fun e=> .agg e.cells:=by rw[aL,List.getElem?_map];rfl
theorem AF (l:List Bd) (i:Nat):(ad l)[i]? =l[i]?.map fun e=> .agg (.str e.name::e.e.cells):=by
 rw[az,List.getElem?_map]
 have:Bd.sv=fun e=> .agg (.str e.name::e.e.cells):=by funext e;rw[Bd.sv,Bd.bf]
 rw[this]
theorem Aw (l:List Al) (i:Nat):(af l)[i]? =l[i]?.map fun a=> .agg (.int .i64 a.kind:: .str a.name:: .int .i64 a.n:: .list 1 (a.names.map .str)::a.body.cells):=by
 rw[bh,List.getElem?_map]
 have:Al.sv=fun a=> .agg (.int .i64 a.kind:: .str a.name:: .int .i64 a.n:: .list 1 (a.names.map .str)::a.body.cells):=by funext e;rw[Al.sv,Al.bf]
 rw[this]
def Ex.kind:Ex→Int| .mk k _ _ _ _ _ _ _=>k
def Ex.name:Ex→aD| .mk _ s _ _ _ _ _ _=>s
def Ex.n:Ex→Int| .mk _ _ n _ _ _ _ _=>n
def Ex.op:Ex→Int| .mk _ _ _ o _ _ _ _=>o
def Ex.names:Ex→List aD| .mk _ _ _ _ l _ _ _=>l
def Ex.ae:Ex→List Ex| .mk _ _ _ _ _ l _ _=>l
def Ex.binds:Ex→List Bd| .mk _ _ _ _ _ _ l _=>l
def Ex.alts:Ex→List Al| .mk _ _ _ _ _ _ _ l=>l
def Ex.parts (e:Ex):List Ex:=e.ae++(e.binds.map Bd.e++e.alts.map Al.body)
theorem Ex.ck (k:Int) (s:aD) (n o:Int) (l:List aD) (ae:List Ex) (binds:List Bd) (alts:List Al):(Ex.mk k s n o l ae binds alts).parts=ae++(binds.map Bd.e++alts.map Al.body):=rfl
def gw:List aD→Nat
 |[]=>0
 |s::r=>1+s.length+gw r
mutual
def Ex.wt:Ex→Nat
 | .mk _ _ _ _ l ae binds alts=>1+l.length+cn ae+aV binds+cf alts
def cn:List Ex→Nat
 |[]=>0
 |e::r=>e.wt+cn r
def Bd.wt:Bd→Nat
 | .mk _ e=>1+e.wt
def aV:List Bd→Nat
 |[]=>0
 |b::r=>b.wt+aV r
def Al.wt:Al→Nat
 | .mk _ _ _ l e=>1+l.length+e.wt
def cf:List Al→Nat
 |[]=>0
 |a::r=>a.wt+cf r
end
theorem Ex.bZ (e:Ex):0<e.wt:=by cases e;simp only[Ex.wt];omega
theorem Bd.dw (b:Bd):b.e.wt<b.wt:=by cases b;simp only[Bd.wt,Bd.e];omega
theorem Al.dw (b:Al):b.body.wt<b.wt:=by cases b;simp only[Al.wt,Al.body];omega
theorem eD:∀ l:List aD,l.length≤gw l
 |[]=>Nat.le_refl _
 |s::r=>by simp only[List.length_cons,gw];have:=eD r;omega
theorem iS:∀ l:List Ex,l.length≤cn l
 |[]=>Nat.le_refl _
 |e::r=>by simp only[List.length_cons,cn];have:=iS r;have:=e.bZ;omega
theorem cM:∀ l:List Bd,l.length≤aV l
 |[]=>Nat.le_refl _
 |e::r=>by simp only[List.length_cons,aV];have:=cM r;have:=e.dw;omega
theorem iQ:∀ l:List Al,l.length≤cf l
 |[]=>Nat.le_refl _
 |e::r=>by simp only[List.length_cons,cf];have:=iQ r;have:=e.dw;omega
theorem fg:∀ {l:List Ex} {e:Ex},e∈l→e.wt≤cn l
 |x::r,e,h=>by
  simp only[cn]
  rcases List.mem_cons.1 h with rfl|h
  ·omega
  ·have:=fg h;omega
theorem ea:∀ {l:List Bd} {e:Bd},e∈l→e.wt≤aV l
 |x::r,e,h=>by
  simp only[aV]
  rcases List.mem_cons.1 h with rfl|h
  ·omega
  ·have:=ea h;omega
theorem dZ:∀ {l:List Al} {e:Al},e∈l→e.wt≤cf l
 |x::r,e,h=>by
  simp only[cf]
  rcases List.mem_cons.1 h with rfl|h
  ·omega
  ·have:=dZ h;omega
theorem Ex.cm {e p:Ex} (h:p∈e.parts):p.wt<e.wt:=by
 obtain⟨k,s,n,o,l,ae,binds,alts⟩:=e
 rw[Ex.ck] at h
 simp only[Ex.wt]
 rcases List.mem_append.1 h with h|h
 ·have:=fg h;omega
 ·rcases List.mem_append.1 h with h|h
  ·obtain⟨b,hb,rfl⟩:=List.mem_map.1 h
   have:=ea hb;have:=b.dw;omega
  ·obtain⟨b,hb,rfl⟩:=List.mem_map.1 h
   have:=dZ hb;have:=b.dw;omega
theorem Ex.dn (k:Int) (s:aD) (n o:Int) (l:List aD) (ae:List Ex) (binds:List Bd) (alts:List Al):l.length+ae.length+binds.length+alts.length<(Ex.mk k s n o l ae binds alts).wt:=by
 have h1:=eD l;have h2:=iS ae;have h3:=cM binds;have h4:=iQ alts
 simp only[Ex.wt];omega
section
def ob {α β:Type} (x:Option α) (f:α→Option β):Option β:=x.bind f
theorem oc {α β:Type} (a:α) (f:α→Option β):ob (some a) f=f a:=rfl
@[congr] theorem PJ {α β:Type} {x y:Option α} {f:α→Option β} (h:x=y):ob x f=ob y f:=by rw[h]
theorem aF {α β:Type} {x:Option α} {f:α→Option β} {b:β} (h:ob x f=some b):∃ a,x=some a∧f a=some b:=by
 cases x with
 |none=>cases h
 |some a=>exact⟨a,rfl,h⟩
def dO {α:Type} (p:Prop) [Decidable p] (x:Option α):Option α:=if p then x else none
theorem bB {α:Type} {p:Prop} [Decidable p] {x:Option α} {b:α} (h:dO p x=some b):p∧x=some b:=by
 unfold dO at h
 split at h
 ·exact⟨‹_›,h⟩
 ·cases h
theorem HY {α:Type} {p:Prop} [Decidable p] (h:p) (x:Option α):dO p x=x:=if_pos h
def bb {α:Type} (b:Bool) (x y:Option α):Option α:=match b with
 |true=>x
 |false=>y
theorem yH {α:Type} (x y:Option α):bb true x y=x:=rfl
theorem tM {α:Type} (x y:Option α):bb false x y=y:=rfl
@[congr] theorem Pe {α:Type} {b b':Bool} {x y:Option α} (h:b=b'):bb b x y=bb b' x y:=by rw[h]
def DN:Operand→Bool
 | .const (.slice none 0 0)=>true
 | .const (.map none)=>true
 | .const (.pointer none)=>true
 |_=>false
def Cl (H:List av) (y:Operand):List av:=match DN y with
 |true=>H
 |false=>[]
theorem Cm {H:List av} {y:Operand} {id g:Nat} {q:Nat×List SV} (h:cG (Cl H y) id g=some q):cG H id g=some q:=by
 unfold Cl at h
 split at h
 ·exact h
 ·simp[cG] at h
theorem JE {H:List av} {y:Operand} {id:Nat} {q:Unit} (h:kg (Cl H y) id=some q):kg H id=some q:=by
 unfold Cl at h
 split at h
 ·exact h
 ·simp[kg] at h
def Mc (b:Bool) (op:BinOp) (x:SV):Option SV:=
 match x with
 | .oI z=>(match op with
  | .eql=>dO (b=true) (some (.bool z))
  | .neq=>dO (b=true) (some (.bool (!z)))
  |_=>none)
 |_=>none
theorem Md {b:Bool} {op:BinOp} {x v:SV} {k:SV→Prop} (h:Mc b op x=some v) (hk:k v):uN b op x k:=by
 unfold Mc at h
 split at h
 ·split at h
  ·obtain⟨h1,h2⟩:=bB h;cases h2;exact⟨h1,hk⟩
  ·obtain⟨h1,h2⟩:=bB h;cases h2;exact⟨h1,hk⟩
  ·cases h
 ·cases h
def Lj (H:List av) (tb:Nat) (op:BinOp) (x y:SV):Option SV:=
 match x,y with
 | .int i a,.int j b=>
  match op with
  | .shl=>dO (0≤b) (some (.int i (i.wrap (a*2 ^ (min b.toNat i.bits)))))
  | .shr=>dO (0≤b) (some (.int i (a.fdiv (2 ^ (min b.toNat i.bits)))))
  | .add=>dO (i=j) (some (.int i (i.wrap (a+b))))
  | .sub=>dO (i=j) (some (.int i (i.wrap (a - b))))
  | .mul=>dO (i=j) (some (.int i (i.wrap (a*b))))
  | .quo=>dO (i=j∧b≠0) (some (.int i (i.wrap (a.tdiv b))))
  | .rem=>dO (i=j∧b≠0) (some (.int i (a.tmod b)))
  | .and=>dO (i=j) (ob (l6 .and i a b) fun n=>some (.int i n))
  | .or=>dO (i=j) (ob (l6 .or i a b) fun n=>some (.int i n))
  | .xor=>dO (i=j) (ob (l6 .xor i a b) fun n=>some (.int i n))
  | .andNot=>dO (i=j) (ob (l6 .andNot i a b) fun n=>some (.int i n))
  | .eql=>dO (i=j) (some (.bool (decide (a=b))))
  | .neq=>dO (i=j) (some (.bool (decide (a≠b))))
  | .lss=>dO (i=j) (some (.bool (decide (a<b))))
  | .leq=>dO (i=j) (some (.bool (decide (a≤b))))
  | .gtr=>dO (i=j) (some (.bool (decide (b<a))))
  | .geq=>dO (i=j) (some (.bool (decide (b≤a))))
 | .str a,.str b=>
  match op with
  | .add=>dO (a.length+b.length≤maxLen) (some (.str (a++b)))
  | .eql=>some (.bool (decide (a=b)))
  | .neq=>some (.bool (decide (a≠b)))
  | .lss=>some (.bool (eW a b))
  | .gtr=>some (.bool (!(eW a b||decide (a=b))))
  | .leq=>some (.bool (eW a b||decide (a=b)))
  | .geq=>some (.bool (!eW a b))
  |_=>none
 | .bool a,.bool b=>
  match op with
  | .eql=>dO (tb=1) (some (.bool (a==b)))
  | .neq=>dO (tb=1) (some (.bool (!(a==b))))
  |_=>none
 | .nil,.nil=>
  match op with
  | .eql=>dO (tb=2) (some (.bool true))
  | .neq=>dO (tb=2) (some (.bool false))
  |_=>none
 | .list _ (_::_),.nil=>
  match op with
  | .eql=>dO (tb=2) (some (.bool false))
  | .neq=>dO (tb=2) (some (.bool true))
  |_=>none
 | .sl id g _ (_+1),.nil=>
  match op with
  | .eql=>ob (cG H id g) fun _=>dO (tb=2) (some (.bool false))
  | .neq=>ob (cG H id g) fun _=>dO (tb=2) (some (.bool true))
  |_=>none
 | .b9,.b9=>
  match op with
  | .eql=>dO (tb=3) (some (.bool true))
  | .neq=>dO (tb=3) (some (.bool false))
  |_=>none
 | .map id,.b9=>
  match op with
  | .eql=>ob (kg H id) fun _=>dO (tb=3) (some (.bool false))
  | .neq=>ob (kg H id) fun _=>dO (tb=3) (some (.bool true))
  |_=>none
 | .bt,.bt=>
  match op with
  | .eql=>dO (tb=4) (some (.bool true))
  | .neq=>dO (tb=4) (some (.bool false))
  |_=>none
 | .ptr id g _ _,.bt=>
  match op with
  | .eql=>ob (cG H id g) fun _=>dO (tb=4) (some (.bool false))
  | .neq=>ob (cG H id g) fun _=>dO (tb=4) (some (.bool true))
  |_=>none
 | .gM _,.bt=>
  match op with
  | .eql=>dO (tb=4) (some (.bool false))
  | .neq=>dO (tb=4) (some (.bool true))
  |_=>none
 | .agg xs,.agg ys=>
  match op with
  | .eql=>dO (tb=5+dR xs∧dR ys=dR xs) (ob (rm xs ys) fun b=>some (.bool b))
  | .neq=>dO (tb=5+dR xs∧dR ys=dR xs) (ob (rm xs ys) fun b=>some (.bool (!b)))
  |_=>none
 |_,_=>none
theorem Lk {H:List av} {yo:Operand} {tb:Nat} {op:BinOp} {x y v:SV} {k:SV→Prop} (h:Lj (Cl H yo) tb op x y=some v) (hk:k v):dT H tb op x y k:=by
 unfold Lj at h
 split at h
 ·rename_i i a j b
  cases op<;>simp only at h<;>first
   |(cases h;done)
   |(obtain⟨h1,h2⟩:=bB h;cases h2;simp only[dT,bY,AQ,oX,Bool.not_eq_true',decide_not] at hk ⊢;first
    |exact⟨h1,hk⟩
    |(rw[if_pos h1];exact hk)
    |(rw[if_pos h1.1];exact⟨h1.2,hk⟩))
   |(obtain⟨h1,h2⟩:=bB h;obtain⟨n,h3,h4⟩:=aF h2;cases h4;simp only[dT,if_pos h1,h3,oX];exact hk)
 ·rename_i a b
  cases op<;>simp only at h<;>first
   |(cases h;done)
   |(cases h;simp only[dT,AR,oX,decide_not,bY] at hk ⊢;exact hk)
   |(obtain⟨h1,h2⟩:=bB h;cases h2;exact⟨h1,hk⟩)
 ·rename_i a b
  cases op<;>simp only at h<;>first
   |(cases h;done)
   |(obtain⟨h1,h2⟩:=bB h;cases h2;exact⟨h1,hk⟩)
 all_goals first
  |(cases h;done)
  |(cases op<;>simp only at h<;>first
   |(cases h;done)
   |(obtain⟨h1,h2⟩:=bB h;cases h2;exact⟨h1,hk⟩)
   |(obtain⟨h1,h2⟩:=bB h;cases h2;exact⟨h1,(by intro e;cases e),hk⟩)
   |(obtain⟨h1,h2⟩:=bB h;obtain⟨b,h3,h4⟩:=aF h2;cases h4;exact⟨h1,b,h3,hk⟩)
   |(obtain⟨q,h0,h⟩:=aF h;obtain⟨h1,h2⟩:=bB h;cases h2;exact⟨q,Cm h0,h1,hk⟩)
   |(obtain⟨q,h0,h⟩:=aF h;obtain⟨h1,h2⟩:=bB h;cases h2;exact⟨q,JE h0,h1,hk⟩)
   |(obtain⟨q,h0,h⟩:=aF h;obtain⟨h1,h2⟩:=bB h;cases h2;exact⟨q,Cm h0,h1,(by intro e;cases e),hk⟩))
def RJ (op:UnOp) (x:SV):Option SV:=
 match op,x with
 | .not,.bool b=>some (.bool (!b))
 | .neg,.int i n=>some (.int i (i.wrap (0 - n)))
 |_,_=>none
def Om (H:List av) (i:TI) (v:SV):Option SV:=
 dO (n9 H i.d v=true) (ob (fu H v) fun n=>match i.d with
  | .map _ _=>dO (n≤9223372036854775807) (some (.int .i64 n))
  |_=>some (.int .i64 n))
def gv (b want:Bool) (x:SV):SV:=match b,want with
 |true,true=>x
 |false,false=>x
 |_,_=> .undef
theorem qh (x:SV):gv true true x=x:=rfl
theorem pZ (x:SV):gv false false x=x:=rfl
theorem qf (x:SV):gv true false x= .undef:=rfl
theorem qe (x:SV):gv false true x= .undef:=rfl
theorem iI (b:Bool) (x:SV):gv b b x=x:=by cases b<;>rfl
theorem Ob {b:Bool} (x:SV) (h:b=true):gv b true x=x:=by subst h;rfl
theorem Oa {b:Bool} (x:SV) (h:b=false):gv b false x=x:=by subst h;rfl
theorem IX {a:Prop} {inst:Decidable a} (x:SV) (h:a):gv (decide a) true x=x:=by rw[decide_eq_true h];rfl
theorem IW {a:Prop} {inst:Decidable a} (x:SV) (h:¬ a):gv (decide a) false x=x:=by rw[decide_eq_false h];rfl
theorem Od {a:Prop} {inst:Decidable a} (x:SV) (h:¬ a):gv (decide a) true x= .undef:=by rw[decide_eq_false h];rfl
theorem Oc {a:Prop} {inst:Decidable a} (x:SV) (h:a):gv (decide a) false x= .undef:=by rw[decide_eq_true h];rfl
theorem Pw {b:Bool} (x:SV) (h:b=false):gv b true x= .undef:=by subst h;rfl
theorem Pv {b:Bool} (x:SV) (h:b=true):gv b false x= .undef:=by subst h;rfl
def pk (b:Bool) (x y:SV):SV:=match b with
 |true=>x
 |false=>y
theorem iN (x y:SV):pk true x y=x:=rfl
theorem gp (x y:SV):pk false x y=y:=rfl
theorem OG (b:Bool) (x y:SV):pk b (gv b true x) y=pk b x y:=by cases b<;>rfl
theorem OF (b:Bool) (x y:SV):pk b x (gv b false y)=pk b x y:=by cases b<;>rfl
theorem Qj (b q:Bool):pk b (.bool true) (.bool q)= .bool (b||q):=by cases b<;>rfl
theorem Qi (b p:Bool):pk b (.bool p) (.bool false)= .bool (b&&p):=by cases b<;>rfl
theorem OE (b p:Bool):pk b (.bool p) (.bool true)= .bool (!b||p):=by cases b<;>rfl
theorem OD (b q:Bool):pk b (.bool false) (.bool q)= .bool (!b&&q):=by cases b<;>rfl
def qv (G:Gl) (T:bX) (own:List Nat) (env:Env) (H:List av) (dst:Option Nat) (ty:Nat):Op→Option SV
 | .move x=>ev G env x
 | .assign x=>bb (rC dst own) (ob (elemOf T ty) fun _=>ob (ev G env x) fun v=>match v with
  | .nil=>none
  |v=>some v) (ev G env x)
 | .pick c x y=>ob (ev G env c) fun v=>ob (NK v) fun g=>ob (ev G env x) fun X=>ob (ev G env y) fun Y=>some (pk g X Y)
 | .build t parts=>ob (T.get t) fun i=>dO (jU T i.d=true∧i.zero.isAgg=true) (ob (partsOf T i.d G env parts.toList) fun ps=>nc i.zero ps)
 | .buildSlice t len parts=>ob (elemOf T t) fun e=>dO (((len*e.2.size≤16777216∧0<e.2.size)∧fits e.2 e.2.zero=true)∧(len==0||rC dst own)=false) (ob (cY e.2 G env (List.replicate len e.2.zero) parts.toList) fun xs=>
  some (.list e.2.size xs))
 | .load t x=>ob (T.get t) fun i=>ob (ev G env x) fun p=>mX H i p
 | .nilCheck x=>ob (ev G env x) fun v=>dO (oM H v=true) (some v)
 | .binOp op t x y _=>ob (ev G env x) fun a=>ob (ev G env y) fun b=>bb (pg y) (Mc (xI T t) op a) (Lj (Cl H y) (fM T t) op a b)
 | .unOp op _ x=>ob (ev G env x) fun a=>RJ op a
 | .convert st dt x=>ob (T.get st) fun si=>ob (T.get dt) fun i=>ob (ev G env x) fun v=>match i.d,v with
  | .int j,.int _ n=>some (.int j (j.wrap n))
  | .str,.str s=>some (.str s)
  | .str,v=>dO (om T si.d=true∧lT H 1 v=true) (ob (dU H v) fun xs=>ob (strOf xs) fun s=>some (.str s))
  |_,_=>none
 | .makeFunc fn first cap=>ob (kJ G env first.toList) fun xs=>ob (kJ G env cap.toList) fun ys=>some (.fn fn xs ys)
 | .slice t x lo hi none=>ob (T.get t) fun i=>ob (ev G env x) fun v=>ob (fu H v) fun n=>ob (cp G env lo 0) fun l=>ob (cp G env hi n) fun h=>
  dO (0≤l∧l≤h∧(h≤(n:Int)∨h≤(tU H v:Int))) (ob (ue l.toNat h.toNat v) fun y=>match i.d with
   | .slice _=>ob (elemOf T t) fun e=>dO ((dU H v).isSome=true∧lT H e.2.size v=true) (some y)
   | .str=>(match v with
    | .str _=>some y
    |_=>none)
   |_=>none)
 | .fieldAddr t x f=>ob (ln T t f) fun p=>ob (ev G env x) fun v=>dO (oM H v=true) (fI p.1 p.2 v)
 | .field t x f=>ob (ln T t f) fun p=>ob (ev G env x) fun v=>dO (v.isAgg=true) (sub v p.1 p.2)
 | .indexAddr t x i=>ob (ev G env x) fun s=>ob (ev G env i) fun iv=>ob (Hp iv) fun n=>
  bb (E2 s) (ob (AD T t) fun p=>dO ((0≤n∧n<(p.1:Int))∧oM H s=true) (fI (n.toNat*p.2.size) p.2 s))
  (ob (elemOf T t) fun e=>ob (dU H s) fun xs=>
  dO (0≤n) (ob xs[n.toNat]? fun y=>match s with
   | .list sz _=>dO (sz=e.2.size) (some (.gM y))
   | .sl id g off _=>ob (cG H id g) fun b=>dO (b.1=e.2.size) (some (.ptr id g (off+n.toNat) 0))
   |_=>none))
 | .index t x i=>ob (T.get t) fun ti=>ob (ev G env x) fun s=>ob (ev G env i) fun iv=>ob (Hp iv) fun n=>(match ti.d,s with
  | .str,.str bs=>dO (0≤n) (ob bs[n.toNat]? fun b=>some (.int .u8 b.toNat))
  | .array m e,.agg fs=>dO (0≤n∧n<(m:Int)) (ob (T.get e) fun ie=>sub (.agg fs) (n.toNat*ie.size) ie)
  |_,_=>none)
 | .lookup t m key ok=>ob (dJ T t) fun p=>ob (ev G env m) fun v=>ob (mapOf H p.1 v) fun es=>ob (ev G env key) fun kx=>dO (eU p.1 kx=true)
  (some (if ok then .tuple [(bO es kx).getD p.2.zero,.bool (bO es kx).isSome] else (bO es kx).getD p.2.zero))
 | .extract x j=>ob (ev G env x) fun v=>match v with
  | .tuple xs=>xs[j]?
  |_=>none
 | .call ⟨.builtin .len,⟨[x]⟩,⟨[t]⟩⟩=>ob (T.get t) fun i=>ob (ev G env x) fun v=>Om H i v
 | .call ⟨.builtin .min,⟨[x,y]⟩,_⟩=>ob (ev G env x) fun x=>ob (ev G env y) fun y=>match x,y with
  | .int i a,.int _ b=>dO (i.min≤b∧b≤i.max) (some (.int i (if b<a then b else a)))
  |_,_=>none
 | .call ⟨.builtin .max,⟨[x,y]⟩,_⟩=>ob (ev G env x) fun x=>ob (ev G env y) fun y=>match x,y with
  | .int i a,.int _ b=>dO (i.min≤b∧b≤i.max) (some (.int i (if a<b then b else a)))
  |_,_=>none
 |_=>none
def HH (H:List av) (e:TI) (s:SV) (ys:List SV):Option (SV×List av):=
 match s with
 | .nil=>dO (0<e.bytes∧ys.length*e.bytes≤70368744177664) (some (.sl H.length 0 0 ys.length,H++[.cells 0 e.size ys]))
 | .sl id g off len=>ob (cG H id g) fun b=>dO ((0<e.bytes∧b.1=e.size)∧off+len=b.2.length∧(len+ys.length)*e.bytes≤70368744177664)
  (some (.sl id (g+1) 0 (len+ys.length),H.set id (.cells (g+1) e.size (b.2.drop off++ys))))
 |_=>none
def Le (H:List av) (e:TI) (s:SV) (ys:List SV):Option (SV×List av):=
 match s with
 | .sl id g off len=>ob (cG H id g) fun b=>dO ((0<e.bytes∧b.1=e.size)∧(len+ys.length)*e.bytes≤70368744177664∧0<e.size∧off+len+ys.length≤b.2.length)
  (some (.sl id g off (len+ys.length),H.set id (.cells g e.size (b.2.take (off+len)++ys++b.2.drop (off+len+ys.length)))))
 |_=>none
def copyV (H:List av) (e:TI) (d:SV) (ys:List SV):Option (SV×List av):=
 match d with
 | .sl id g off len=>ob (cG H id g) fun b=>dO (b.1=e.size∧0<e.size∧off+len≤b.2.length)
  (some (.int .i64 (min ys.length len:Nat),H.set id (.cells g e.size (b.2.take off++ys.take (min ys.length len)++b.2.drop (off+min ys.length len)))))
 |_=>none
def Df (H:List av) (e:TI) (x:SV):Option (SV×List av):=
 match x with
 | .nil=>some (.tuple [],H)
 | .sl id g off len=>ob (cG H id g) fun b=>dO (b.1=e.size∧0<e.size∧off+len≤b.2.length)
  (some (.tuple [],H.set id (.cells g e.size (b.2.take off++List.replicate len e.zero++b.2.drop (off+len)))))
 |_=>none
def lv (G:Gl) (T:bX) (own:List Nat) (env:Env) (H:List av) (dst:Option Nat) (ty:Nat):Op→Option (SV×List av)
 | .assign x=>bb (rC dst own) (ob (elemOf T ty) fun e=>ob (ev G env x) fun v=>match v with
  | .nil=>some (.sl H.length 0 0 0,H++[.cells 0 e.2.size []])
  |_=>none) none
 | .alloc t=>ob (T.get t) fun i=>some (.ptr H.length 0 0 0,H++[.cells 0 i.size [i.zero]])
 | .box t x=>ob (T.get t) fun i=>ob (ev G env x) fun v=>dO (fits i v=true) (some (.ptr H.length 0 0 0,H++[.cells 0 i.size [v]]))
 | .buildSlice t len parts=>ob (elemOf T t) fun e=>dO (((len*e.2.size≤16777216∧0<e.2.size)∧fits e.2 e.2.zero=true)∧(len==0||rC dst own)=true) (ob (cY e.2 G env (List.replicate len e.2.zero) parts.toList) fun xs=>
  some (.sl H.length 0 0 len,H++[.cells 0 e.2.size xs]))
 | .store t x y=>ob (T.get t) fun i=>ob (ev G env x) fun p=>ob (ev G env y) fun v=>ob (oq H i v p) fun H'=>some (.undef,H')
 | .makeMap t none=>ob (dJ T t) fun p=>some (.map H.length,H++[.map p.1 []])
 | .convert st dt x=>ob (T.get st) fun si=>ob (T.get dt) fun i=>ob (ev G env x) fun v=>match i.d,v with
  | .slice e,.sl id g off len=>dO (BV T e=true∧st=dt∧0<len) (ob (cG H id g) fun b=>dO (b.1=1) (some (.sl id g off len,H)))
  | .slice e,.str s=>dO (BV T e=true) (some (.sl H.length 0 0 s.length,H++[.cells 0 1 (dN s)]))
  | .str,.str _=>none
  | .str,v=>dO (om T si.d=true∧lT H 1 v=true) (ob (dU H v) fun xs=>ob (strOf xs) fun s=>some (.str s,H))
  |_,_=>none
 | .makeSlice t x y=>ob (elemOf T t) fun e=>ob (ev G env x) fun xv=>ob (Hp xv) fun n=>ob (ev G env y) fun yv=>ob (Hp yv) fun m=>
  dO (m=n∧0≤n∧0<e.2.bytes∧0<e.2.size∧n.toNat*e.2.bytes≤70368744177664) (dO (fits e.2 e.2.zero=true) (some (.sl H.length 0 0 n.toNat,H++[.cells 0 e.2.size (List.replicate n.toNat e.2.zero)])))
 | .slice t x lo (some hi) (some mx)=>ob (elemOf T t) fun e=>ob (ev G env x) fun v=>ob (fu H v) fun n=>ob (cp G env lo 0) fun l=>ob (cp G env (some hi) 0) fun h=>ob (cp G env (some mx) 0) fun m=>
  dO (0≤l∧l≤h∧h≤m∧m≤(n:Int)) (dO ((dU H v).isSome=true) (some (.sl H.length 0 0 0,H++[.dead])))
 | .call ⟨.builtin .copy,⟨[d,s]⟩,⟨[t,ts]⟩⟩=>ob (elemOf T t) fun e=>ob (elemOf T ts) fun _=>ob (ev G env d) fun d=>ob (ev G env s) fun s=>ob (dU H s) fun ys=>dO (lT H e.2.size s=true) (copyV H e.2 d ys)
 | .call ⟨.builtin .clear,⟨[x]⟩,⟨[t]⟩⟩=>ob (elemOf T t) fun e=>ob (ev G env x) fun x=>Df H e.2 x
 | .mapUpdate t m key x=>ob (dJ T t) fun p=>ob (ev G env m) fun v=>(match v with
  | .map id=>ob (mapOf H p.1 v) fun es=>ob (ev G env key) fun kx=>ob (ev G env x) fun y=>dO (eU p.1 kx=true) (some (.undef,H.set id (.map p.1 (cN es kx y))))
  |_=>none)
 | .insert t m key x=>ob (dJ T t) fun p=>ob (ev G env m) fun v=>(match v with
  | .map id=>ob (mapOf H p.1 v) fun es=>ob (ev G env key) fun kx=>ob (ev G env x) fun y=>dO (eU p.1 kx=true) (some (.undef,H.set id (.map p.1 (cN es kx y))))
  |_=>none)
 | .call ⟨.builtin .append,⟨[s,x]⟩,⟨[t,tx]⟩⟩=>ob (elemOf T t) fun e=>ob (T.get tx) fun ix=>ob (ev G env s) fun s=>ob (ev G env x) fun x=>
  match ix.d with
  | .slice _=>ob (dU H x) fun ys=>dO (lT H e.2.size x=true) (HH H e.2 s ys)
  | .str=>(match x with
   | .str bs=>dO (e.2.size=1) (HH H e.2 s (dN bs))
   |_=>none)
  |_=>none
 |_=>none
section
variable {P:Program} {G:Gl} {T:bX} {own:List Nat} {nt B:Nat} {ρ:Option Nat} {C:Cx} {env:Env} {H:List av}
theorem wM {α:Type} {b:Bool} {x y:Option α} {r:α} (h:bb b x y=some r):(b=true∧x=some r)∨(b=false∧y=some r):=by
 cases b
 ·exact .inr ⟨rfl,h⟩
 ·exact .inl ⟨rfl,h⟩
theorem Mi {i:TI} {v r:SV} {k:SV→List av→Prop} (h:Om H i v=some r) (hk:k r H):bY (n9 H i.d v=true) (aE (fu H v) fun n=>match i.d with
 | .map _ _=>bY (n≤9223372036854775807) (k (.int .i64 n) H)
 |_=>k (.int .i64 n) H):=by
 obtain⟨h1,h2⟩:=bB h
 obtain⟨n,h3,h4⟩:=aF h2
 refine⟨h1,n,h3,?_⟩
 split at h4
 ·obtain⟨h5,h6⟩:=bB h4
  cases h6
  exact⟨h5,hk⟩
 ·cases h4
  exact hk
theorem xX {dst:Option Nat} {ty:Nat} {op:Op} {v:SV} {k:SV→List av→Prop} (h:qv G T own env H dst ty op=some v) (hk:k v H):cH P G T own env H dst ty op k:=by
 unfold qv at h
 split at h
 ·exact⟨_,h,hk⟩
 ·rcases wM h with⟨h1,h2⟩|⟨h1,h2⟩
  ·obtain⟨e,h3,h4⟩:=aF h2
   obtain⟨u,h5,h6⟩:=aF h4
   refine And.intro (fun _=>⟨e,h3,u,h5,?_⟩) (fun h=>by rw[h1] at h;cases h)
   cases u<;>first
    |(cases h6;done)
    |(cases h6;exact hk)
  ·exact And.intro (fun h=>by rw[h1] at h;cases h) (fun _=>⟨v,h2,hk⟩)
 ·obtain⟨u,h1,h2⟩:=aF h
  obtain⟨g,h3,h4⟩:=aF h2
  obtain⟨X,h5,h6⟩:=aF h4
  obtain⟨Y,h7,h8⟩:=aF h6
  cases h8
  refine⟨u,h1,g,h3,And.intro (fun hg=>?_) (fun hg=>?_)⟩
  ·rw[hg] at hk;exact⟨_,h5,hk⟩
  ·rw[hg] at hk;exact⟨_,h7,hk⟩
 ·obtain⟨i,h1,h2⟩:=aF h
  obtain⟨h3,h4⟩:=bB h2
  obtain⟨ps,h5,h6⟩:=aF h4
  exact⟨i,h1,h3,ps,h5,v,h6,hk⟩
 ·obtain⟨i,h1,h2⟩:=aF h
  obtain⟨⟨h3,h3'⟩,h4⟩:=bB h2
  obtain⟨ps,h5,h6⟩:=aF h4
  cases h6
  refine⟨i,h1,h3,ps,h5,?_⟩
  exact And.intro (fun hh=>by rw[h3'] at hh;cases hh) (fun _=>hk)
 ·obtain⟨i,h1,h2⟩:=aF h
  obtain⟨p,h3,h4⟩:=aF h2
  exact⟨i,h1,p,h3,v,h4,hk⟩
 ·obtain⟨u,h1,h2⟩:=aF h
  obtain⟨h3,h4⟩:=bB h2
  cases h4
  exact⟨_,h1,h3,hk⟩
 ·obtain⟨a,h1,h2⟩:=aF h
  obtain⟨b,h3,h4⟩:=aF h2
  rcases wM h4 with⟨hn,h5⟩|⟨hn,h5⟩
  ·exact⟨a,h1,b,h3,And.intro (fun _=>Md h5 hk) (fun hh=>by rw[hn] at hh;cases hh)⟩
  ·exact⟨a,h1,b,h3,And.intro (fun hh=>by rw[hn] at hh;cases hh) (fun _=>Lk h5 hk)⟩
 ·obtain⟨a,h1,h2⟩:=aF h
  refine⟨a,h1,?_⟩
  unfold RJ at h2
  split at h2
  ·cases h2;exact hk
  ·cases h2;exact hk
  ·cases h2
 ·obtain⟨i,h1,h2⟩:=aF h
  obtain⟨j,h3,h4⟩:=aF h2
  obtain⟨u,h5,h6⟩:=aF h4
  refine⟨i,h1,j,h3,u,h5,?_⟩
  obtain⟨d,a1,a2,a3⟩:=j
  cases d<;>cases u<;>first
   |(cases h6;done)
   |(cases h6;exact hk)
   |(obtain⟨g1,g2⟩:=bB h6;obtain⟨xs,g3,g4⟩:=aF g2;obtain⟨s,g5,g6⟩:=aF g4;cases g6;exact⟨g1,xs,g3,s,g5,hk⟩)
 ·obtain⟨xs,h1,h2⟩:=aF h
  obtain⟨ys,h3,h4⟩:=aF h2
  cases h4
  exact⟨xs,h1,ys,h3,hk⟩
 ·obtain⟨i,h1,h2⟩:=aF h
  obtain⟨u,h3,h4⟩:=aF h2
  obtain⟨n,h5,h6⟩:=aF h4
  obtain⟨l,h7,h8⟩:=aF h6
  obtain⟨hh,h9,h10⟩:=aF h8
  obtain⟨h11,h12⟩:=bB h10
  obtain⟨y,h13,h14⟩:=aF h12
  refine⟨i,h1,u,h3,n,h5,l,h7,hh,h9,h11,y,h13,?_⟩
  obtain⟨d,a1,a2,a3⟩:=i
  cases d<;>simp only at h14 ⊢ <;>try (cases h14;done)
  ·cases u<;>first
    |(cases h14;done)
    |(cases h14;exact hk)
  ·obtain⟨e,g1,g2⟩:=aF h14
   obtain⟨g3,g4⟩:=bB g2
   cases g4
   exact⟨e,g1,g3.1,g3.2,hk⟩
 ·obtain⟨p,h1,h2⟩:=aF h
  obtain⟨u,h3,h4⟩:=aF h2
  obtain⟨h5,h6⟩:=bB h4
  exact⟨p,h1,u,h3,h5,v,h6,hk⟩
 ·obtain⟨p,h1,h2⟩:=aF h
  obtain⟨u,h3,h4⟩:=aF h2
  obtain⟨h5,h6⟩:=bB h4
  exact⟨p,h1,u,h3,h5,v,h6,hk⟩
 ·obtain⟨s,h3,h4⟩:=aF h
  obtain⟨iv,h5,h6⟩:=aF h4
  obtain⟨n,h7,h8⟩:=aF h6
  refine⟨s,h3,iv,h5,n,h7,?_⟩
  rcases wM h8 with⟨hp,h8⟩|⟨hp,h8⟩
  ·obtain⟨p,g1,g2⟩:=aF h8
   obtain⟨g3,g4⟩:=bB g2
   exact And.intro (fun _=>⟨p,g1,g3,v,g4,hk⟩) (fun h=>by rw[hp] at h;cases h)
  refine And.intro (fun h=>by rw[hp] at h;cases h) (fun _=>?_)
  obtain⟨e,h1,h8⟩:=aF h8
  obtain⟨xs,h9,h10⟩:=aF h8
  obtain⟨h11,h12⟩:=bB h10
  obtain⟨y,h13,h14⟩:=aF h12
  refine⟨e,h1,xs,h9,h11,y,h13,?_⟩
  split at h14
  ·obtain⟨g1,g2⟩:=bB h14
   cases g2
   exact⟨g1,hk⟩
  ·obtain⟨b,g1,g2⟩:=aF h14
   obtain⟨g3,g4⟩:=bB g2
   cases g4
   exact⟨b,g1,g3,hk⟩
  ·cases h14
 ·obtain⟨e,h1,h2⟩:=aF h
  obtain⟨s,h3,h4⟩:=aF h2
  obtain⟨iv,h5,h6⟩:=aF h4
  obtain⟨n,h7,h8⟩:=aF h6
  refine⟨e,h1,s,h3,iv,h5,n,h7,?_⟩
  obtain⟨d,a1,a2,a3⟩:=e
  cases d<;>cases s<;>try (cases h8;done)
  ·obtain⟨g1,g2⟩:=bB h8
   obtain⟨b,g3,g4⟩:=aF g2
   cases g4
   exact⟨g1,b,g3,hk⟩
  ·obtain⟨g1,g2⟩:=bB h8
   obtain⟨b,g3,g4⟩:=aF g2
   exact⟨g1,b,g3,v,g4,hk⟩
 ·obtain⟨p,h1,h2⟩:=aF h
  obtain⟨m,h3,h4⟩:=aF h2
  obtain⟨es,h5,h6⟩:=aF h4
  obtain⟨kx,h7,h8⟩:=aF h6
  obtain⟨g1,g2⟩:=bB h8
  cases g2
  exact⟨p,h1,m,h3,es,h5,kx,h7,g1,hk⟩
 ·obtain⟨u,h1,h2⟩:=aF h
  refine⟨u,h1,?_⟩
  split at h2
  ·exact⟨v,h2,hk⟩
  ·cases h2
 ·obtain⟨i,h1,h2⟩:=aF h
  obtain⟨u,h3,h4⟩:=aF h2
  exact⟨i,h1,u,h3,Mi h4 hk⟩
 ·obtain⟨a,h1,h2⟩:=aF h
  obtain⟨b,h3,h4⟩:=aF h2
  refine⟨a,h1,b,h3,?_⟩
  split at h4
  ·obtain⟨g1,g2⟩:=bB h4
   cases g2
   exact⟨g1,hk⟩
  ·cases h4
 ·obtain⟨a,h1,h2⟩:=aF h
  obtain⟨b,h3,h4⟩:=aF h2
  refine⟨a,h1,b,h3,?_⟩
  split at h4
  ·obtain⟨g1,g2⟩:=bB h4
   cases g2
   exact⟨g1,hk⟩
  ·cases h4
 ·cases h
theorem Ez {e:TI} {s:SV} {ys:List SV} {v:SV} {H':List av} {k:SV→List av→Prop} (h:HH H e s ys=some (v,H')) (hk:k v H'):eX H e s ys k:=by
 unfold HH at h
 split at h
 ·obtain⟨h1,h2⟩:=bB h
  cases h2
  exact⟨h1.1,h1.2,hk⟩
 ·obtain⟨b,h1,h2⟩:=aF h
  obtain⟨h3,h4⟩:=bB h2
  cases h4
  exact⟨b,h1,h3.1,h3.2.2,.inl ⟨h3.2.1,hk⟩⟩
 ·cases h
theorem Lf {e:TI} {s:SV} {ys:List SV} {v:SV} {H':List av} {k:SV→List av→Prop} (h:Le H e s ys=some (v,H')) (hk:k v H'):eX H e s ys k:=by
 unfold Le at h
 split at h
 ·obtain⟨b,h1,h2⟩:=aF h
  obtain⟨h3,h4⟩:=bB h2
  cases h4
  exact⟨b,h1,h3.1,h3.2.1,.inr ⟨h3.2.2.1,h3.2.2.2,hk⟩⟩
 ·cases h
def Qy (G:Gl) (T:bX) (env:Env) (H:List av):Op→Option (SV×List av)
 | .call ⟨.builtin .append,⟨[s,x]⟩,⟨[t,tx]⟩⟩=>ob (elemOf T t) fun e=>ob (elemOf T tx) fun _=>ob (ev G env s) fun s=>ob (ev G env x) fun x=>ob (dU H x) fun ys=>dO (lT H e.2.size x=true) (Le H e.2 s ys)
 |_=>none
theorem Jt {dst:Option Nat} {ty:Nat} {op:Op} {v:SV} {H':List av} {k:SV→List av→Prop} (h:Qy G T env H op=some (v,H')) (hk:k v H'):cH P G T own env H dst ty op k:=by
 unfold Qy at h
 split at h
 ·obtain⟨e,h1,h2⟩:=aF h
  obtain⟨ex,h3,h4⟩:=aF h2
  obtain⟨s,h5,h6⟩:=aF h4
  obtain⟨x,h7,h8⟩:=aF h6
  obtain⟨ys,h9,h10⟩:=aF h8
  obtain⟨h11,h12⟩:=bB h10
  unfold elemOf at h3
  split at h3
  ·rename_i e' z1 z2 z3 hq
   exact⟨e,h1,_,hq,s,h5,x,h7,ys,h9,h11,Lf h12 hk⟩
  ·cases h3
 ·cases h
theorem B6 {dst:Option Nat} {ty:Nat} {op:Op} {v:SV} {H':List av} {k:SV→List av→Prop} (h:lv G T own env H dst ty op=some (v,H')) (hk:k v H'):cH P G T own env H dst ty op k:=by
 unfold lv at h
 split at h
 ·rcases wM h with⟨h1,h2⟩|⟨h1,h2⟩
  ·obtain⟨e,h3,h4⟩:=aF h2
   obtain⟨u,h5,h6⟩:=aF h4
   refine And.intro (fun _=>⟨e,h3,u,h5,?_⟩) (fun h=>by rw[h1] at h;cases h)
   cases u<;>first
    |(cases h6;done)
    |(cases h6;exact hk)
  ·cases h2
 ·obtain⟨i,h1,h2⟩:=aF h
  cases h2
  exact⟨i,h1,hk⟩
 ·obtain⟨i,h1,h2⟩:=aF h
  obtain⟨u,h3,h4⟩:=aF h2
  obtain⟨h5,h6⟩:=bB h4
  cases h6
  exact⟨i,h1,u,h3,h5,hk⟩
 ·obtain⟨i,h1,h2⟩:=aF h
  obtain⟨⟨h3,h3'⟩,h4⟩:=bB h2
  obtain⟨ps,h5,h6⟩:=aF h4
  cases h6
  refine⟨i,h1,h3,ps,h5,?_⟩
  exact And.intro (fun _=>hk) (fun hh=>by rw[h3'] at hh;cases hh)
 ·obtain⟨i,h1,h2⟩:=aF h
  obtain⟨p,h3,h4⟩:=aF h2
  obtain⟨u,h5,h6⟩:=aF h4
  obtain⟨H2,h7,h8⟩:=aF h6
  cases h8
  exact⟨i,h1,p,h3,u,h5,_,h7,hk⟩
 ·obtain⟨i,h1,h2⟩:=aF h
  cases h2
  exact⟨i,h1,hk⟩
 ·obtain⟨i,h1,h2⟩:=aF h
  obtain⟨j,h3,h4⟩:=aF h2
  obtain⟨u,h5,h6⟩:=aF h4
  refine⟨i,h1,j,h3,u,h5,?_⟩
  obtain⟨d,a1,a2,a3⟩:=j
  cases d<;>cases u<;>first
   |(cases h6;done)
   |(obtain⟨g1,g2⟩:=bB h6;cases g2;exact⟨g1,hk⟩)
   |(obtain⟨g1,g2⟩:=bB h6;obtain⟨b,g3,g4⟩:=aF g2;obtain⟨g5,g6⟩:=bB g4;cases g6;exact⟨g1,b,g3,g5,hk⟩)
   |(obtain⟨g1,g2⟩:=bB h6;obtain⟨xs,g3,g4⟩:=aF g2;obtain⟨s,g5,g6⟩:=aF g4;cases g6;exact⟨g1,xs,g3,s,g5,hk⟩)
 ·obtain⟨e,h1,h⟩:=aF h
  obtain⟨xv,h2,h⟩:=aF h
  obtain⟨n,h3,h⟩:=aF h
  obtain⟨yv,h4,h⟩:=aF h
  obtain⟨m,h5,h⟩:=aF h
  obtain⟨h6,h⟩:=bB h
  obtain⟨h7,h⟩:=bB h
  cases h
  exact⟨e,h1,xv,h2,n,h3,yv,h4,m,h5,h6,h7,hk⟩
 ·obtain⟨e,h1,h⟩:=aF h
  obtain⟨xv,h2,h⟩:=aF h
  obtain⟨n,h3,h⟩:=aF h
  obtain⟨l,h4,h⟩:=aF h
  obtain⟨hh,h5,h⟩:=aF h
  obtain⟨m,h6,h⟩:=aF h
  obtain⟨h7,h⟩:=bB h
  obtain⟨h8,h⟩:=bB h
  cases h
  exact⟨e,h1,xv,h2,n,h3,l,h4,hh,h5,m,h6,h7,h8,hk⟩
 ·obtain⟨e,h1,h⟩:=aF h
  obtain⟨e',h2,h⟩:=aF h
  obtain⟨d,h3,h⟩:=aF h
  obtain⟨s,h4,h⟩:=aF h
  obtain⟨ys,h5,h⟩:=aF h
  obtain⟨h6,h⟩:=bB h
  refine⟨e,h1,e',h2,d,h3,s,h4,ys,h5,h6,?_⟩
  unfold copyV at h
  cases d<;>try (cases h;done)
  obtain⟨b,h7,h⟩:=aF h
  obtain⟨h8,h⟩:=bB h
  cases h
  exact⟨b,h7,h8,hk⟩
 ·obtain⟨e,h1,h⟩:=aF h
  obtain⟨xv,h2,h⟩:=aF h
  refine⟨e,h1,xv,h2,?_⟩
  unfold Df at h
  cases xv<;>try (cases h;done)
  ·cases h;exact hk
  ·obtain⟨b,h7,h⟩:=aF h
   obtain⟨h8,h⟩:=bB h
   cases h
   exact⟨b,h7,h8,hk⟩
 ·obtain⟨p,h1,h2⟩:=aF h
  obtain⟨u,h3,h4⟩:=aF h2
  refine⟨p,h1,u,h3,?_⟩
  cases u<;>try (cases h4;done)
  obtain⟨es,h5,h6⟩:=aF h4
  obtain⟨kx,h7,h8⟩:=aF h6
  obtain⟨y,h9,h10⟩:=aF h8
  obtain⟨g1,g2⟩:=bB h10
  cases g2
  exact⟨es,h5,kx,h7,y,h9,g1,hk⟩
 ·obtain⟨p,h1,h2⟩:=aF h
  obtain⟨u,h3,h4⟩:=aF h2
  refine⟨p,h1,u,h3,?_⟩
  cases u<;>try (cases h4;done)
  obtain⟨es,h5,h6⟩:=aF h4
  obtain⟨kx,h7,h8⟩:=aF h6
  obtain⟨y,h9,h10⟩:=aF h8
  obtain⟨g1,g2⟩:=bB h10
  cases g2
  exact⟨es,h5,kx,h7,y,h9,g1,hk⟩
 ·obtain⟨e,h1,h2⟩:=aF h
  obtain⟨ix,h3,h4⟩:=aF h2
  obtain⟨s,h5,h6⟩:=aF h4
  obtain⟨x,h7,h8⟩:=aF h6
  refine⟨e,h1,ix,h3,s,h5,x,h7,?_⟩
  obtain⟨d,a1,a2,a3⟩:=ix
  cases d<;>simp only at h8 ⊢ <;>try (cases h8;done)
  ·cases x<;>simp only at h8 ⊢ <;>try (cases h8;done)
   obtain⟨g1,g2⟩:=bB h8
   exact⟨g1,Ez g2 hk⟩
  ·obtain⟨ys,g1,g2⟩:=aF h8
   obtain⟨g3,g4⟩:=bB g2
   exact⟨ys,g1,g3,Ez g4 hk⟩
 ·cases h
end
end
section
section
variable {P:Program} {G:Gl} {T:bX} {own:List Nat} {nt B:Nat} {ρ:Option Nat} {C:Cx} {env env2:Env} {H:List av}
theorem gC:∀ {l:List Operand},(∀ x∈l,ev G env x=ev G env2 x)→kJ G env l=kJ G env2 l
 |[],_=>rfl
 |x::r,h=>by
  simp only[kJ]
  rw[h x (by simp),gC (l:=r) (fun y hy=>h y (by simp[hy]))]
theorem kr {d:TD}:∀ {l:List (Nat×Operand)},(∀ x∈l.map (·.2),ev G env x=ev G env2 x)→partsOf T d G env l=partsOf T d G env2 l
 |[],_=>rfl
 |(j,x)::r,h=>by
  simp only[partsOf]
  rw[h x (by simp),kr (l:=r) (fun y hy=>h y (by simp only[List.map_cons,List.mem_cons];exact .inr hy))]
theorem ka {i:TI}:∀ {l:List (Nat×Operand)} {xs:List SV},(∀ x∈l.map (·.2),ev G env x=ev G env2 x)→cY i G env xs l=cY i G env2 xs l
 |[],_,_=>rfl
 |(j,x)::r,xs,h=>by
  simp only[cY]
  rw[h x (by simp)]
  cases ev G env2 x with
  |none=>rfl
  |some v=>
   simp only
   split
   ·exact ka (fun y hy=>h y (by simp only[List.map_cons,List.mem_cons];exact .inr hy))
   ·rfl
theorem fH {o:Option Operand} {d:Int} (h:∀ x∈o,ev G env x=ev G env2 x):cp G env o d=cp G env2 o d:=by
 cases o with
 |none=>rfl
 |some x=>simp only[cp];rw[h x rfl]
theorem rp {b:Builtin} {args:List Operand} {tys:List Nat} {k:SV→List av→Prop} (h:∀ x∈args,ev G env x=ev G env2 x):ee T G env H b args tys k=ee T G env2 H b args tys k:=by
 unfold ee
 split
 all_goals first
  |rfl
  |(simp only[List.mem_cons,List.not_mem_nil,or_false,forall_eq_or_imp,forall_eq] at h;simp only[h])
def gK:Op→List Operand
 | .move x| .assign x| .box _ x| .load _ x| .nilCheck x| .unOp _ _ x| .convert _ _ x| .fieldAddr _ x _| .field _ x _| .extract x _=>[x]
 | .pick c x y=>[c,x,y]
 | .build _ ps| .buildSlice _ _ ps=>ps.toList.map (·.2)
 | .store _ x y| .binOp _ _ x y _| .indexAddr _ x y| .index _ x y| .lookup _ x y _=>[x,y]
 | .makeFunc _ f c=>f.toList++c.toList
 | .slice _ x l h m=>x::(l.toList++h.toList++m.toList)
 | .mapUpdate _ m k v=>[m,k,v]
 | .insert _ m k v=>[m,k,v]
 | .makeSlice _ x y=>[x,y]
 | .call c=>(match c.callee with
  | .value f=>[f]
  | .invoke r _=>[r]
  | .builtin _=>[])++c.args.toList
 |_=>[]
theorem su {dst:Option Nat} {ty:Nat} {op:Op} {k:SV→List av→Prop} (h:∀ x∈gK op,ev G env x=ev G env2 x):cH P G T own env H dst ty op k=cH P G T own env2 H dst ty op k:=by
 cases op
 case build t ps=>
  have e1:∀ d,partsOf T d G env ps.toList=partsOf T d G env2 ps.toList:=fun d=>kr h
  simp only[cH,e1]
 case buildSlice t n ps=>
  have e1:∀ (i:TI) xs,cY i G env xs ps.toList=cY i G env2 xs ps.toList:=fun d xs=>ka h
  simp only[cH,e1]
 case makeFunc f a b=>
  have e1:kJ G env a.toList=kJ G env2 a.toList:=gC fun x hx=>h x (by simp only[gK,List.mem_append];exact .inl hx)
  have e2:kJ G env b.toList=kJ G env2 b.toList:=gC fun x hx=>h x (by simp only[gK,List.mem_append];exact .inr hx)
  simp only[cH,e1,e2]
 case slice t x l hh m=>
  have e0:ev G env x=ev G env2 x:=h x (by simp[gK])
  have e1:∀ d,cp G env l d=cp G env2 l d:=fun d=>fH fun y hy=>h y (by simp[gK];exact .inr (.inl hy))
  have e2:∀ d,cp G env hh d=cp G env2 hh d:=fun d=>fH fun y hy=>h y (by simp[gK];exact .inr (.inr (.inl hy)))
  cases m with
  |none=>simp only[cH,e0,e1,e2]
  |some mm=>
   have e3:∀ d,cp G env (some mm) d=cp G env2 (some mm) d:=fun d=>fH fun y hy=>h y (by simp[gK];exact .inr (.inr (.inr (by simpa [eq_comm] using hy))))
   cases hh with
   |none=>simp only[cH]
   |some hv=>simp only[cH,e0,e1,e2,e3]
 case makeMap t r=>cases r<;>rfl
 case call c=>
  obtain⟨cl,args,tys⟩:=c
  cases cl
  case value f=>
   have e0:ev G env f=ev G env2 f:=h f (by simp[gK])
   have e1:kJ G env args.toList=kJ G env2 args.toList:=gC fun x hx=>h x (by simp only[gK,List.mem_append];exact .inr hx)
   simp only[cH,e0,e1]
  case builtin b=>exact rp fun x hx=>h x (by simp only[gK,List.mem_append];exact .inr hx)
  case invoke r m=>simp only[cH]
 all_goals first
  |rfl
  |(simp only[gK,List.mem_cons,List.not_mem_nil,or_false,forall_eq_or_imp,forall_eq] at h;simp only[cH,h])
  |simp only[cH]
theorem GP {dst:Option Nat} {ty:Nat} {op:Op} (h:∀ x∈gK op,ev G env x=ev G env2 x):qv G T own env H dst ty op=qv G T own env2 H dst ty op:=by
 cases op
 case build t ps=>
  have e1:∀ d,partsOf T d G env ps.toList=partsOf T d G env2 ps.toList:=fun d=>kr h
  simp only[qv,e1]
 case buildSlice t n ps=>
  have e1:∀ (i:TI) xs,cY i G env xs ps.toList=cY i G env2 xs ps.toList:=fun d xs=>ka h
  simp only[qv,e1]
 case makeFunc f a b=>
  have e1:kJ G env a.toList=kJ G env2 a.toList:=gC fun x hx=>h x (by simp only[gK,List.mem_append];exact .inl hx)
  have e2:kJ G env b.toList=kJ G env2 b.toList:=gC fun x hx=>h x (by simp only[gK,List.mem_append];exact .inr hx)
  simp only[qv,e1,e2]
 case slice t x l hh m=>
  have e0:ev G env x=ev G env2 x:=h x (by simp[gK])
  have e1:∀ d,cp G env l d=cp G env2 l d:=fun d=>fH fun y hy=>h y (by simp[gK];exact .inr (.inl hy))
  have e2:∀ d,cp G env hh d=cp G env2 hh d:=fun d=>fH fun y hy=>h y (by simp[gK];exact .inr (.inr (.inl hy)))
  cases m<;>simp only[qv,e0,e1,e2]
 case makeMap t r=>cases r<;>rfl
 case call c=>
  obtain⟨cl,args,tys⟩:=c
  cases cl
  case value f=>
   have e0:ev G env f=ev G env2 f:=h f (by simp[gK])
   have e1:kJ G env args.toList=kJ G env2 args.toList:=gC fun x hx=>h x (by simp only[gK,List.mem_append];exact .inr hx)
   simp only[qv,e0,e1]
  case builtin b=>
   obtain⟨al⟩:=args
   obtain⟨tl⟩:=tys
   cases b<;>first
    |rfl
    |(rcases al with _|⟨x,_|⟨y,_|⟨z,al⟩⟩⟩<;>rcases tl with _|⟨t1,_|⟨t2,tl⟩⟩<;>first
     |rfl
     |(simp[gK] at h;simp only[qv,h]))
  case invoke r m=>simp only[qv]
 all_goals first
  |rfl
  |(simp only[gK,List.mem_cons,List.not_mem_nil,or_false,forall_eq_or_imp,forall_eq] at h;simp only[qv,h])
  |simp only[qv]
def jJ (env env2:Env):Prop:=∀ t,look env t=look env2 t
theorem jJ.refl (env:Env):jJ env env:=fun _=>rfl
theorem jJ.symm {env env2:Env} (h:jJ env env2):jJ env2 env:=fun t=>(h t).symm
theorem jJ.trans {a b c:Env} (h:jJ a b) (h2:jJ b c):jJ a c:=fun t=>(h t).trans (h2 t)
theorem jJ.cons {a b:Env} (h:jJ a b) (p:Nat×SV):jJ (p::a) (p::b):=fun t=>by
 obtain⟨k,v⟩:=p
 simp only[look,h t]
theorem jJ.nj {env:Env} {d:Nat} {x:SV} (h:look env d=some x):jJ ((d,x)::env) env:=fun t=>by
 simp only[look]
 split
 ·rename_i e;rw[e,h]
 ·rfl
theorem k9 {α:Type} {x:Option α} {f g:α→Prop} (h:∀ a,f a→g a):aE x f→aE x g:=fun⟨a,h1,h2⟩=>⟨a,h1,h a h2⟩
theorem kC {p q r:Prop} (h:q→r):bY p q→bY p r:=fun⟨a,b⟩=>⟨a,h b⟩
theorem KX {b:Bool} {p q p' q':Prop} (h1:p→p') (h2:q→q'):Br b p q→Br b p' q':=fun⟨x,y⟩=>⟨fun h=>h1 (x h),fun h=>h2 (y h)⟩
theorem C9 {H:List av} {tb:Nat} {op:BinOp} {x y:SV} {k k':SV→Prop} (hk:∀ v,k v→k' v):dT H tb op x y k→dT H tb op x y k':=by
 unfold dT
 repeat' first
  |exact hk _
  |exact id
  |refine k9 fun _=>?_
  |refine kC ?_
  |exact fun h=>⟨fun e=>hk _ (h.1 e),hk _ h.2⟩
  |split
theorem DI {b:Bool} {op:BinOp} {x:SV} {k k':SV→Prop} (hk:∀ v,k v→k' v):uN b op x k→uN b op x k':=by
 unfold uN
 repeat' first
  |exact hk _
  |exact id
  |refine kC ?_
  |split
theorem Hi {op:UnOp} {x:SV} {k k':SV→Prop} (hk:∀ v,k v→k' v):Ei op x k→Ei op x k':=by
 unfold Ei
 repeat' first
  |exact hk _
  |exact id
  |split
theorem wo {e:TI} {s:SV} {ys:List SV} {k k':SV→List av→Prop} (hk:∀ x H',k x H'→k' x H'):eX H e s ys k→eX H e s ys k':=by
 unfold eX
 repeat' first
  |exact hk _ _
  |exact fun h=>h.elim (fun h=> .inl ⟨h.1,hk _ _ h.2⟩) (fun h=> .inr ⟨h.1,h.2.1,hk _ _ h.2.2⟩)
  |exact id
  |refine k9 fun _=>?_
  |refine kC ?_
  |split
theorem uk {b:Builtin} {args:List Operand} {tys:List Nat} {k k':SV→List av→Prop} (hk:∀ x H',k x H'→k' x H'):ee T G env H b args tys k→ee T G env H b args tys k':=by
 unfold ee
 repeat' first
  |exact hk _ _
  |exact id
  |refine k9 fun _=>?_
  |refine kC ?_
  |exact wo hk
  |split
theorem w8 {dst:Option Nat} {ty:Nat} {op:Op} {k k':SV→List av→Prop} (hk:∀ x H',k x H'→k' x H'):cH P G T own env H dst ty op k→cH P G T own env H dst ty op k':=by
 unfold cH
 repeat' first
  |exact hk _ _
  |exact id
  |refine k9 fun _=>?_
  |refine kC ?_
  |refine KX ?_ ?_
  |exact DI fun _=>hk _ _
  |exact C9 fun _=>hk _ _
  |exact Hi fun _=>hk _ _
  |exact uk hk
  |exact fun h=>aY.mono h fun _ _=>hk _ _
  |split
end
end
section
inductive It where
 |code (c:Code)
 |ops (all l:List Oper)
 |pred (K:Env→List av→Prop)
 |dQ (id:Nat)
def FV (C:Cx) (T:bX) (rs:List ResultVar) (R:SV→List av→Prop) (env:Env) (H:List av):Prop:=
 ∃ xs,jA T env H rs=some xs∧Fin C H (aC xs) R
def Fits (all:List Oper) (i:Nat) (l:List Oper) (a:Act):Prop:=
 l=all.drop i∨∃ o r,all.drop i=o::r∧l=⟨o.dst,o.op,o.type,o.pos,o.after,none⟩::r∧Region.wanted o (yielded ⟨all⟩ a.tmps)=true
def OW (P:Program) (G:Gl) (T:bX) (nt:Nat) (ρ:Option Nat) (C:Cx) (all l:List Oper) (K:Exit→St→Prop) (env:Env) (H:List av):Prop:=
 aI P T→∀ (i:Nat) (c:Cx) (a:Act),Fits all i l a→c.H=H→Inv G nt C.w.heap.size c env a→Grow C c→
  wpOpsIn (FR ρ) 0 P ⟨all⟩ (fun e a' w'=>∃ s' c',K e s'∧c'.H=s'.H∧c'.w=w'∧Inv G nt C.w.heap.size c' s'.env a'∧Grow C c') (List.range' i l.length) a c.w
def Out (P:Program) (G:Gl) (T:bX) (own:List Nat) (nt:Nat) (ρ:Option Nat) (C:Cx) (rs:List ResultVar) (R:SV→List av→Prop):List It→Exit→Env→List av→Prop
 |[],.normal,env,H=>FV C T rs R env H
 |[],.ret,env,H=>FV C T rs R env H
 |[],_,_,_=>False
 | .code c::k,.normal,env,H=>ep P G nt ρ C c (fun e s=>Out P G T own nt ρ C rs R k e s.env s.H) ⟨env,H⟩
 | .ops all l::k,.normal,env,H=>OW P G T nt ρ C all l (fun e s=>Out P G T own nt ρ C rs R k e s.env s.H) env H
 | .pred K::k,.normal,env,H=>∃ env',jJ env' env∧K env' H
 | .dQ _::k,.normal,env,H=>Out P G T own nt ρ C rs R k .normal env H
 | .dQ id::k,.exit id',env,H=>if id'=id then Out P G T own nt ρ C rs R k .normal env H else Out P G T own nt ρ C rs R k (.exit id') env H
 |_::k,e,env,H=>Out P G T own nt ρ C rs R k e env H
def O3 (id:Nat):List It→Option (List It)
 |[]=>none
 | .dQ id'::k=>bif Nat.beq id id' then some k else O3 id k
 |_::k=>O3 id k
section
variable {P:Program} {G:Gl} {T:bX} {own:List Nat} {nt B:Nat} {ρ:Option Nat} {C:Cx} {rs:List ResultVar} {R:SV→List av→Prop} {env env2:Env} {H H':List av} {k:List It}
theorem kS (h:jJ env env2):∀ {l:List ResultVar},jA T env H l=jA T env2 H l
 |[]=>rfl
 | .tmp t::r=>by simp only[jA,h t,kS h (l:=r)]
 | .cell t ty::r=>by simp only[jA,h t,kS h (l:=r)]
def Same (o' o:Oper):Prop:=o'.dst=o.dst∧o'.op=o.op∧o'.type=o.type
theorem OW.nil {all:List Oper} {K:Exit→St→Prop} (h:K .normal ⟨env,H⟩):OW P G T nt ρ C all [] K env H:=fun hT i c a hi hc hinv hg=>⟨⟨env,H⟩,c,h,hc,rfl,hinv,hg⟩
theorem OW.step {all r:List Oper} {o:Oper} {K:Exit→St→Prop} (h:aI P T→∀ (c:Cx) (a:Act) (o':Oper),Same o' o→(o'=o∨(o.guard=none∧Region.wanted o' (yielded ⟨all⟩ a.tmps)=true))→c.H=H→Inv G nt C.w.heap.size c env a→Grow C c→∀ next:Act→World→Prop,
 (∀ env' c' a',Inv G nt C.w.heap.size c' env' a'→Grow c c'→OW P G T nt ρ C all r K env' c'.H→next a' c'.w)→
 if Region.wanted o' (yielded ⟨all⟩ a.tmps) then o'.wpIn (FR ρ) 0 P a c.w next (fun e a' w'=>∃ s' c',K e s'∧c'.H=s'.H∧c'.w=w'∧Inv G nt C.w.heap.size c' s'.env a'∧Grow C c') else (∀ f,o'.about P c.w a.eval=some f→(FR ρ).fn f)∧next (a.put o'.dst undef) c.w):
 OW P G T nt ρ C all (o::r) K env H:=by
 intro hT i c a hi hc hinv hg
 have key:∃ o',all.drop i=o'::r∧Same o' o∧(o'=o∨(o.guard=none∧Region.wanted o' (yielded ⟨all⟩ a.tmps)=true)):=by
  rcases hi with hi|⟨o',r',h1,h2,h3⟩
  ·exact⟨o,hi.symm,⟨rfl,rfl,rfl⟩,.inl rfl⟩
  ·cases h2;exact⟨o',h1,⟨rfl,rfl,rfl⟩,.inr ⟨rfl,h3⟩⟩
 obtain⟨o',hd,hs,ho⟩:=key
 have h1:(⟨all⟩:Array Oper)[i]? =some o':=by
  have:=congrArg (fun l=>l[0]?) hd
  simpa using this
 have h2:r=all.drop (i+1):=by
  have:=congrArg List.tail hd
  simpa using this.symm
 simp only[List.length_cons,List.range'_succ,wpOpsIn,h1]
 exact h hT c a o' hs ho hc hinv hg _ fun env' c' a' k1 k2 k3=>k3 hT (i+1) c' a' (.inl h2) rfl k1 (hg.trans k2)
theorem OW.run {all r:List Oper} {o:Oper} {K:Exit→St→Prop} (hw:∀ (c:Cx) (a:Act),c.H=H→Inv G nt C.w.heap.size c env a→Region.wanted o (yielded ⟨all⟩ a.tmps)=true)
 (h:cH P G T own env H o.dst o.type o.op fun x H'=>lM nt o.dst x env fun env'=>OW P G T nt ρ C all r K env' H'):OW P G T nt ρ C all (o::r) K env H:=
 OW.step fun hT c a o' hs ho hc hinv hg next hn=>by
  subst hc
  have hwant:Region.wanted o' (yielded ⟨all⟩ a.tmps)=true:=by
   rcases ho with rfl|ho
   ·exact hw c a rfl hinv
   ·exact ho.2
  rw[if_pos hwant]
  obtain⟨s1,s2,s3⟩:=hs
  rw[← s1,← s2,← s3] at h
  refine y8 hT hinv h fun x c' u e1 e2 e3 e4=>?_
  cases hd:o'.dst with
  |none=>
   rw[hd] at e1
   exact hn env c' _ (hinv.kQ e4 e2) e4 e1
  |some d=>
   rw[hd] at e1
   exact hn _ c' _ (hinv.put e4 e2 e3 e1.1) e4 e1.2
theorem OW.cons {all r:List Oper} {o:Oper} {K:Exit→St→Prop} (hg:o.guard=none) (h:cH P G T own env H o.dst o.type o.op fun x H'=>lM nt o.dst x env fun env'=>OW P G T nt ρ C all r K env' H'):OW P G T nt ρ C all (o::r) K env H:=
 OW.run (fun c a _ _=>by simp only[Region.wanted,hg]) h
theorem OW.QP {all r:List Oper} {o:Oper} {K:Exit→St→Prop} {j dj:Nat} {want:Bool} (hg:o.guard=some (j,want)) (h1:(all[j]?).bind (·.dst)=some dj) (h2:look env dj=some (.bool want)) (h:OW P G T nt ρ C all (⟨o.dst,o.op,o.type,o.pos,o.after,none⟩::r) K env H):OW P G T nt ρ C all (o::r) K env H:=by
 intro hT i c a hi hc hinv hgr
 refine h hT i c a (.inr ⟨o,r,?_,rfl,?_⟩) hc hinv hgr
 ·rcases hi with hi|⟨o',r',e1,e2,e3⟩
  ·exact hi.symm
  ·cases e2;cases hg
 ·simp only[Region.wanted,hg,lY hinv (ops:=⟨all⟩) h1 h2 rfl,beq_self_eq_true]
theorem OW.Ng {all r:List Oper} {o:Oper} {K:Exit→St→Prop} {j dj:Nat} {want:Bool} {v:SV} {g:Option Bool} (hg:o.guard=some (j,want)) (h1:(all[j]?).bind (·.dst)=some dj) (h2:look env dj=some v) (h3:yF v=some g) (hgw:(g==some want)=false)
 (hs:lM nt o.dst .undef env fun env'=>OW P G T nt ρ C all r K env' H):OW P G T nt ρ C all (o::r) K env H:=by
 refine OW.step fun hT c a o' hs' ho hc hinv hgr next hn=>?_
 have ho':o'=o:=by
  rcases ho with ho|ho
  ·exact ho
  ·rw[hg] at ho;cases ho.1
 subst ho'
 subst hc
 rw[if_neg (by simp only[Region.wanted,hg,lY hinv (ops:=⟨all⟩) h1 h2 h3,hgw];simp)]
 refine⟨fun _ _=>trivial,?_⟩
 cases hd:o'.dst with
 |none=>rw[hd] at hs;exact hn env c _ (hinv.kQ (Grow.refl c) hinv.heap) (Grow.refl c) hs
 |some d=>rw[hd] at hs;exact hn _ c _ (hinv.put (Grow.refl c) hinv.heap aB.undef hs.1) (Grow.refl c) hs.2
theorem OW.law {all r:List Oper} {o:Oper} {K:Exit→St→Prop} {R0:SV→List av→Prop} {d:Nat} (hg:o.guard=none) (hd:o.dst=some d) (hdn:Nat.blt d nt=true)
 (h:aI P T→∀ (c:Cx) (a:Act) (o':Oper),Same o' o→c.H=H→Inv G nt C.w.heap.size c env a→Grow C c→∀ (next:Act→World→Prop) (Q:Exit→Act→World→Prop),(∀ x c' u,R0 x c'.H→aM c'→aB c' x u→Grow c c'→next (a.put (some d) u) c'.w)→o'.wpIn (FR ρ) 0 P a c.w next Q)
 (hk:∀ x H',R0 x H'→OW P G T nt ρ C all r K ((d,x)::env) H'):OW P G T nt ρ C all (o::r) K env H:=
 OW.step fun hT c a o' hs ho hc hinv hgr next hn=>by
  have hwant:Region.wanted o' (yielded ⟨all⟩ a.tmps)=true:=by
   rcases ho with rfl|ho
   ·simp only[Region.wanted,hg]
   ·exact ho.2
  rw[if_pos hwant]
  have hdn':d<nt:=by have:=Nat.blt_eq ▸ hdn;exact this
  exact h hT c a o' hs hc hinv hgr next _ fun x c' u e1 e2 e3 e4=>hn _ c' _ (hinv.put e4 e2 e3 hdn') e4 (hk x c'.H e1)
theorem OW.sq {all l:List Oper} {K:Exit→St→Prop} (he:jJ env env2) (h:OW P G T nt ρ C all l K env H):OW P G T nt ρ C all l K env2 H:=fun hT i c a hi hc hinv hg=>
 h hT i c a hi hc ⟨hinv.heap,hinv.gG,hinv.size,fun t x hx=>hinv.env t x (by rw[← he t];exact hx),hinv.defs⟩ hg
theorem Out.sq:∀ {k:List It} {e:Exit} {env env2:Env} {H:List av},jJ env env2→(Out P G T own nt ρ C rs R) k e env H→(Out P G T own nt ρ C rs R) k e env2 H
 |[],e,env,env2,H,he,h=>by
  have hr:FV C T rs R env H→FV C T rs R env2 H:=fun⟨xs,h1,h2⟩=>⟨xs,by rw[← kS he];exact h1,h2⟩
  cases e with
  |normal=>exact hr h
  |ret=>exact hr h
  |_=>exact h
 | .code c::k,e,env,env2,H,he,h=>by
  cases e with
  |normal=>exact ep.wk (Wk.env (fun t x hx=>by rw[← he t];exact hx)) h
  |_=>exact Out.sq (k:=k) he h
 | .ops all l::k,e,env,env2,H,he,h=>by
  cases e with
  |normal=>exact OW.sq he h
  |_=>exact Out.sq (k:=k) he h
 | .pred K::k,e,env,env2,H,he,h=>by
  cases e with
  |normal=>obtain⟨env',h1,h2⟩:=h;exact⟨env',h1.trans he,h2⟩
  |_=>exact Out.sq (k:=k) he h
 | .dQ id::k,e,env,env2,H,he,h=>by
  cases e with
  |normal=>exact Out.sq (k:=k) he h
  |exit id'=>
   simp only[Out] at h ⊢
   split
   ·rename_i hh;rw[if_pos hh] at h;exact Out.sq he h
   ·rename_i hh;rw[if_neg hh] at h;exact Out.sq he h
  |_=>exact Out.sq (k:=k) he h
theorem N9 {x y:Code} (h:(Out P G T own nt ρ C rs R) (.code x:: .code y::k) .normal env H):(Out P G T own nt ρ C rs R) (.code (.seq x y)::k) .normal env H:=by
 refine ep.seq (ep.mono h ?_)
 rintro e ⟨env',H'⟩ h'
 cases e with
 |normal=>exact h'
 |_=>exact h'
theorem L5 (h:(Out P G T own nt ρ C rs R) k .normal env H):(Out P G T own nt ρ C rs R) (.code .skip::k) .normal env H:=ep.skip h
theorem IQ {l:Nat} (h:(Out P G T own nt ρ C rs R) k .normal env H):(Out P G T own nt ρ C rs R) (.code (.label l)::k) .normal env H:=fun c a hc hi hg=>wpIn_label ⟨⟨env,H⟩,c,h,hc,rfl,hi,hg⟩
theorem Out.Kb (h:FV C T rs R env H):∀ {k:List It},(Out P G T own nt ρ C rs R) k .ret env H
 |[]=>h
 | .code _::k=>Out.Kb (k:=k) h
 | .ops _ _::k=>Out.Kb (k:=k) h
 | .pred _::k=>Out.Kb (k:=k) h
 | .dQ _::k=>Out.Kb (k:=k) h
theorem N8 {xs:List SV} (h1:jA T env H rs=some xs) (h:Fin C H (aC xs) R):(Out P G T own nt ρ C rs R) (.code .ret::k) .normal env H:=ep.ret (Out.Kb ⟨xs,h1,h⟩)
theorem N5 {xs:List SV} (h1:jA T env H rs=some xs) (h:Fin C H (aC xs) R):(Out P G T own nt ρ C rs R) [] .normal env H:=⟨xs,h1,h⟩
theorem Out.Bq {id:Nat}:∀ {k k':List It},O3 id k=some k'→(Out P G T own nt ρ C rs R) k' .normal env H→(Out P G T own nt ρ C rs R) k (.exit id) env H
 |[],k',hu,h=>by cases hu
 | .dQ id'::k,k',hu,h=>by
  simp only[O3] at hu
  simp only[Out]
  by_cases hid:id=id'
  ·rw[if_pos hid]
   subst hid
   rw[show Nat.beq id id=true from Nat.beq_refl id] at hu
   cases hu;exact h
  ·rw[if_neg hid]
   have:Nat.beq id id'=false:=by
    cases hb:Nat.beq id id' with
    |false=>rfl
    |true=>exact(hid (Nat.eq_of_beq_eq_true hb)).elim
   rw[this] at hu
   exact Out.Bq hu h
 | .code _::k,k',hu,h=>Out.Bq (k:=k) hu h
 | .ops _ _::k,k',hu,h=>Out.Bq (k:=k) hu h
 | .pred _::k,k',hu,h=>Out.Bq (k:=k) hu h
theorem LW {id:Nat} {k':List It} (hu:O3 id k=some k') (h:(Out P G T own nt ρ C rs R) k' .normal env H):(Out P G T own nt ρ C rs R) (.code (.exit id)::k) .normal env H:=ep.exit (Out.Bq hu h)
theorem N4 {id:Nat} (h:(Out P G T own nt ρ C rs R) k .normal env H):(Out P G T own nt ρ C rs R) (.dQ id::k) .normal env H:=h
theorem IM {id:Nat} {x:Code} (h:(Out P G T own nt ρ C rs R) (.code x:: .dQ id::k) .normal env H):(Out P G T own nt ρ C rs R) (.code (.block id x)::k) .normal env H:=by
 refine ep.block (ep.mono h ?_)
 rintro e ⟨env',H'⟩ h'
 cases e with
 |exit id'=>exact h'
 |_=>exact h'
theorem L3 {K:Env→List av→Prop} (h:K env H):(Out P G T own nt ρ C rs R) (.pred K::k) .normal env H:=⟨env,jJ.refl _,h⟩
theorem Gt (hT:aI P T) {id:Nat} {ops:Array Oper} {l:List Oper} (hl:ops=⟨l⟩) (h:(Out P G T own nt ρ C rs R) (.ops l l::k) .normal env H):(Out P G T own nt ρ C rs R) (.code (.region id ops false)::k) .normal env H:=by
 subst hl
 intro c a hc hi hg
 refine wpIn_region ?_
 rw[List.range_eq_range']
 exact h hT 0 c a (.inl rfl) hc hi hg
theorem IS {all:List Oper} (h:(Out P G T own nt ρ C rs R) k .normal env H):(Out P G T own nt ρ C rs R) (.ops all []::k) .normal env H:=OW.nil h
theorem BE {t:Nat} {p q:Code} (h1:look env t=some (.bool true)) (h:(Out P G T own nt ρ C rs R) (.code p::k) .normal env H):(Out P G T own nt ρ C rs R) (.code (.cond (.tmp t) p q)::k) .normal env H:=
 ep.cond ⟨_,h1,true,rfl,And.intro (fun _=>h) (fun e=>by cases e)⟩
theorem uJ {t:Nat} {p q:Code} (h1:look env t=some (.bool false)) (h:(Out P G T own nt ρ C rs R) (.code q::k) .normal env H):(Out P G T own nt ρ C rs R) (.code (.cond (.tmp t) p q)::k) .normal env H:=
 ep.cond ⟨_,h1,false,rfl,And.intro (fun e=>by cases e) (fun _=>h)⟩
theorem uH {t:Nat} {p q:Code} {b:Bool} (h1:look env t=some (.bool b)) (h:b=true→(Out P G T own nt ρ C rs R) (.code p::k) .normal ((t,.bool true)::env) H) (h':b=false→(Out P G T own nt ρ C rs R) (.code q::k) .normal ((t,.bool false)::env) H):(Out P G T own nt ρ C rs R) (.code (.cond (.tmp t) p q)::k) .normal env H:=
 ep.cond ⟨_,h1,b,rfl,And.intro (fun e=>Out.sq (k:= .code p::k) (jJ.nj (e ▸ h1)) (h e)) (fun e=>Out.sq (k:= .code q::k) (jJ.nj (e ▸ h1)) (h' e))⟩
theorem uI {t:Nat} {p q:Code} {a:Prop} {inst:Decidable a} (h1:look env t=some (.bool (decide a))) (h:a→(Out P G T own nt ρ C rs R) (.code p::k) .normal ((t,.bool true)::env) H) (h':¬ a→(Out P G T own nt ρ C rs R) (.code q::k) .normal ((t,.bool false)::env) H):(Out P G T own nt ρ C rs R) (.code (.cond (.tmp t) p q)::k) .normal env H:=
 uH h1 (fun e=>h (of_decide_eq_true e)) (fun e=>h' (of_decide_eq_false e))
theorem kN {t:Nat} {p q:Code} {a:Prop} {inst:Decidable a} (h1:look env t=some (.bool (decide a))) (ha:a) (h:(Out P G T own nt ρ C rs R) (.code p::k) .normal ((t,.bool true)::env) H):(Out P G T own nt ρ C rs R) (.code (.cond (.tmp t) p q)::k) .normal env H:=
 uI h1 (fun _=>h) (fun e=>(e ha).elim)
theorem eh {t:Nat} {p q:Code} {a:Prop} {inst:Decidable a} (h1:look env t=some (.bool (decide a))) (ha:¬ a) (h:(Out P G T own nt ρ C rs R) (.code q::k) .normal ((t,.bool false)::env) H):(Out P G T own nt ρ C rs R) (.code (.cond (.tmp t) p q)::k) .normal env H:=
 uI h1 (fun e=>(ha e).elim) (fun _=>h)
section
variable {all r:List Oper} {ty d j dj:Nat} {op:Op} {pos:String} {after:Array Edge} {v:SV} {want:Bool}
theorem Pt (h:qv G T own env H (some d) ty op=some v) (hd:Nat.blt d nt=true) (hk:(Out P G T own nt ρ C rs R) (.ops all r::k) .normal ((d,v)::env) H):(Out P G T own nt ρ C rs R) (.ops all (⟨some d,op,ty,pos,after,none⟩::r)::k) .normal env H:=
 OW.cons rfl (xX (k:=fun x H'=>lM nt (some d) x env fun env'=>OW P G T nt ρ C all r (fun e s=>Out P G T own nt ρ C rs R k e s.env s.H) env' H') h ⟨by have:=Nat.blt_eq ▸ hd;exact this,hk⟩)
theorem Pu (h:qv G T own env H none ty op=some v) (hk:(Out P G T own nt ρ C rs R) (.ops all r::k) .normal env H):(Out P G T own nt ρ C rs R) (.ops all (⟨none,op,ty,pos,after,none⟩::r)::k) .normal env H:=
 OW.cons rfl (xX (k:=fun x H'=>lM nt none x env fun env'=>OW P G T nt ρ C all r (fun e s=>Out P G T own nt ρ C rs R k e s.env s.H) env' H') h hk)
theorem QR (h:lv G T own env H (some d) ty op=some (v,H')) (hd:Nat.blt d nt=true) (hk:(Out P G T own nt ρ C rs R) (.ops all r::k) .normal ((d,v)::env) H'):(Out P G T own nt ρ C rs R) (.ops all (⟨some d,op,ty,pos,after,none⟩::r)::k) .normal env H:=
 OW.cons rfl (B6 (k:=fun x H'=>lM nt (some d) x env fun env'=>OW P G T nt ρ C all r (fun e s=>Out P G T own nt ρ C rs R k e s.env s.H) env' H') h ⟨by have:=Nat.blt_eq ▸ hd;exact this,hk⟩)
theorem Ps (h:lv G T own env H none ty op=some (v,H')) (hk:(Out P G T own nt ρ C rs R) (.ops all r::k) .normal env H'):(Out P G T own nt ρ C rs R) (.ops all (⟨none,op,ty,pos,after,none⟩::r)::k) .normal env H:=
 OW.cons rfl (B6 (k:=fun x H'=>lM nt none x env fun env'=>OW P G T nt ρ C all r (fun e s=>Out P G T own nt ρ C rs R k e s.env s.H) env' H') h hk)
theorem ET {dst:Option Nat} (h1:(all[j]?).bind (·.dst)=some dj) (h2:look env dj=some (.bool want)) (hk:(Out P G T own nt ρ C rs R) (.ops all (⟨dst,op,ty,pos,after,none⟩::r)::k) .normal env H):(Out P G T own nt ρ C rs R) (.ops all (⟨dst,op,ty,pos,after,some (j,want)⟩::r)::k) .normal env H:=
 OW.QP rfl h1 h2 hk
theorem pY {v:SV} {b:Option Bool} (h1:(all[j]?).bind (·.dst)=some dj) (h2:look env dj=some v) (h3:yF v=some b) (hb:(b==some want)=false) (hd:Nat.blt d nt=true) (hk:(Out P G T own nt ρ C rs R) (.ops all r::k) .normal ((d,.undef)::env) H):(Out P G T own nt ρ C rs R) (.ops all (⟨some d,op,ty,pos,after,some (j,want)⟩::r)::k) .normal env H:=
 OW.Ng rfl h1 h2 h3 hb ⟨by have:=Nat.blt_eq ▸ hd;exact this,hk⟩
theorem Gr {v:SV} {b:Option Bool} (h1:(all[j]?).bind (·.dst)=some dj) (h2:look env dj=some v) (h3:yF v=some b) (hb:(b==some want)=false) (hk:(Out P G T own nt ρ C rs R) (.ops all r::k) .normal env H):(Out P G T own nt ρ C rs R) (.ops all (⟨none,op,ty,pos,after,some (j,want)⟩::r)::k) .normal env H:=
 OW.Ng rfl h1 h2 h3 hb hk
theorem Ni {o:Oper} {b:Bool} (hg:o.guard=some (j,want)) (h1:(all[j]?).bind (·.dst)=some dj) (h2:look env dj=some (.bool b)) (h:b=true→(Out P G T own nt ρ C rs R) (.ops all (o::r)::k) .normal ((dj,.bool true)::env) H) (h':b=false→(Out P G T own nt ρ C rs R) (.ops all (o::r)::k) .normal ((dj,.bool false)::env) H):(Out P G T own nt ρ C rs R) (.ops all (o::r)::k) .normal env H:=by
 cases b with
 |true=>exact Out.sq (k:= .ops all (o::r)::k) (jJ.nj h2) (h rfl)
 |false=>exact Out.sq (k:= .ops all (o::r)::k) (jJ.nj h2) (h' rfl)
theorem Pq {o:Oper} {a:Prop} {inst:Decidable a} (hg:o.guard=some (j,want)) (h1:(all[j]?).bind (·.dst)=some dj) (h2:look env dj=some (.bool (decide a))) (h:a→(Out P G T own nt ρ C rs R) (.ops all (o::r)::k) .normal ((dj,.bool true)::env) H) (h':¬ a→(Out P G T own nt ρ C rs R) (.ops all (o::r)::k) .normal ((dj,.bool false)::env) H):(Out P G T own nt ρ C rs R) (.ops all (o::r)::k) .normal env H:=
 Ni hg h1 h2 (fun e=>h (of_decide_eq_true e)) (fun e=>h' (of_decide_eq_false e))
theorem IN {b:Bool} (h1:(all[j]?).bind (·.dst)=some dj) (h2:look env dj=some (.bool b)) (hv:b=want→qv G T own env H (some d) ty op=some v) (hd:Nat.blt d nt=true) (hk:(Out P G T own nt ρ C rs R) (.ops all r::k) .normal ((d,gv b want v)::env) H):(Out P G T own nt ρ C rs R) (.ops all (⟨some d,op,ty,pos,after,some (j,want)⟩::r)::k) .normal env H:=by
 by_cases hw:b=want
 ·subst hw
  rw[iI] at hk
  exact ET h1 h2 (Pt (hv rfl) hd hk)
 ·have e:gv b want v= .undef:=by cases b<;>cases want<;>first|rfl|exact(hw rfl).elim
  rw[e] at hk
  exact pY h1 h2 rfl (by cases b<;>cases want<;>first|rfl|exact(hw rfl).elim) hd hk
theorem IP {b b1 w1:Bool} (h1:(all[j]?).bind (·.dst)=some dj) (h2:look env dj=some (gv b1 w1 (.bool b))) (hv:b1=w1→b=want→qv G T own env H (some d) ty op=some v) (hd:Nat.blt d nt=true) (hk:(Out P G T own nt ρ C rs R) (.ops all r::k) .normal ((d,gv b1 w1 (gv b want v))::env) H):(Out P G T own nt ρ C rs R) (.ops all (⟨some d,op,ty,pos,after,some (j,want)⟩::r)::k) .normal env H:=by
 by_cases hw:b1=w1
 ·subst hw
  rw[iI] at hk h2
  exact IN h1 h2 (hv rfl) hd hk
 ·have e:∀ x,gv b1 w1 x= .undef:=fun x=>by cases b1<;>cases w1<;>first|rfl|exact(hw rfl).elim
  rw[e] at hk h2
  exact pY h1 h2 rfl rfl hd hk
theorem N6 {b b1 w1 b2 w2:Bool} (h1:(all[j]?).bind (·.dst)=some dj) (h2:look env dj=some (gv b1 w1 (gv b2 w2 (.bool b)))) (hv:b1=w1→b2=w2→b=want→qv G T own env H (some d) ty op=some v) (hd:Nat.blt d nt=true) (hk:(Out P G T own nt ρ C rs R) (.ops all r::k) .normal ((d,gv b1 w1 (gv b2 w2 (gv b want v)))::env) H):(Out P G T own nt ρ C rs R) (.ops all (⟨some d,op,ty,pos,after,some (j,want)⟩::r)::k) .normal env H:=by
 by_cases hw:b1=w1
 ·subst hw
  rw[iI] at hk h2
  exact IP h1 h2 (hv rfl) hd hk
 ·have e:∀ x,gv b1 w1 x= .undef:=fun x=>by cases b1<;>cases w1<;>first|rfl|exact(hw rfl).elim
  rw[e] at hk h2
  exact pY h1 h2 rfl rfl hd hk
theorem Pr {o:Oper} {b1 w1:Bool} {u:SV} (hg:o.guard=some (j,want)) (h1:(all[j]?).bind (·.dst)=some dj) (h2:look env dj=some (gv b1 w1 u)) (h:∀ c,b1=c→(Out P G T own nt ρ C rs R) (.ops all (o::r)::k) .normal env H):(Out P G T own nt ρ C rs R) (.ops all (o::r)::k) .normal env H:=h _ rfl
def qT (H:List av):SV→Option Nat
 | .list _ xs=>some xs.length
 | .sl id g _ n=>match cG H id g with
  |some _=>some n
  |none=>none
 |_=>none
theorem nM {dst:Option Nat} {x y:Operand} {X:SV} {t yt ty n:Nat} {eq:Bool} {kk:SV→List av→Prop} (h1:ev G env x=some X) (h2:ev G env y=some .nil) (h3:fM T t=2) (h4:qT H X=some n)
 (l:n=0→kk (.bool eq) H) (r:kk (.bool (!eq)) H):cH P G T own env H dst ty (.binOp (if eq then .eql else .neq) t x y yt) kk:=by
 refine⟨X,h1,.nil,h2,fun hi=>?_,fun _=>?_⟩
 ·exfalso
  unfold pg at hi
  split at hi
  ·simp[ev,aP,aQ] at h2
  ·cases hi
 unfold qT at h4
 split at h4
 ·cases h4
  cases eq
  ·exact⟨h3,fun e=>l (by rw[e];rfl),r⟩
  ·exact⟨h3,fun e=>l (by rw[e];rfl),r⟩
 ·split at h4
  ·rename_i q hq
   cases h4
   cases eq
   ·exact⟨q,hq,h3,l,r⟩
   ·exact⟨q,hq,h3,l,r⟩
  ·cases h4
 ·cases h4
theorem LX {x y:Operand} {X:SV} {t yt n:Nat} (h1:ev G env x=some X) (h2:ev G env y=some .nil) (h3:fM T t=2) (h4:qT H X=some n) (hd:Nat.blt d nt=true)
 (h:n=0→(Out P G T own nt ρ C rs R) (.ops all r::k) .normal ((d,.bool true)::env) H) (h':True→(Out P G T own nt ρ C rs R) (.ops all r::k) .normal ((d,.bool false)::env) H):(Out P G T own nt ρ C rs R) (.ops all (⟨some d,.binOp .eql t x y yt,ty,pos,after,none⟩::r)::k) .normal env H:=
 OW.cons rfl (nM (P:=P) (own:=own) (dst:=some d) (ty:=ty) (yt:=yt) (eq:=true) (kk:=fun x H'=>lM nt (some d) x env fun env'=>OW P G T nt ρ C all r (fun e s=>Out P G T own nt ρ C rs R k e s.env s.H) env' H') h1 h2 h3 h4 (fun e=>⟨by have:=Nat.blt_eq ▸ hd;exact this,h e⟩) ⟨by have:=Nat.blt_eq ▸ hd;exact this,h' trivial⟩)
theorem LY {x y:Operand} {X:SV} {t yt n:Nat} (h1:ev G env x=some X) (h2:ev G env y=some .nil) (h3:fM T t=2) (h4:qT H X=some n) (hd:Nat.blt d nt=true)
 (h:n=0→(Out P G T own nt ρ C rs R) (.ops all r::k) .normal ((d,.bool false)::env) H) (h':True→(Out P G T own nt ρ C rs R) (.ops all r::k) .normal ((d,.bool true)::env) H):(Out P G T own nt ρ C rs R) (.ops all (⟨some d,.binOp .neq t x y yt,ty,pos,after,none⟩::r)::k) .normal env H:=
 OW.cons rfl (nM (P:=P) (own:=own) (dst:=some d) (ty:=ty) (yt:=yt) (eq:=false) (kk:=fun x H'=>lM nt (some d) x env fun env'=>OW P G T nt ρ C all r (fun e s=>Out P G T own nt ρ C rs R k e s.env s.H) env' H') h1 h2 h3 h4 (fun e=>⟨by have:=Nat.blt_eq ▸ hd;exact this,h e⟩) ⟨by have:=Nat.blt_eq ▸ hd;exact this,h' trivial⟩)
variable {R':SV→List av→Prop} {xs:List SV} {f:Operand} {fv:SV} {args:Array Operand} {tys:Array Nat} {g:FuncId}
theorem kM (h1:ev G env f=some fv) (h2:kJ G env args.toList=some xs) (hd:Nat.blt d nt=true) (hc:aY P G fv xs H R') (hk:∀ x H',R' x H'→(Out P G T own nt ρ C rs R) (.ops all r::k) .normal ((d,x)::env) H'):(Out P G T own nt ρ C rs R) (.ops all (⟨some d,.call ⟨.value f,args,tys⟩,ty,pos,after,none⟩::r)::k) .normal env H:=
 OW.cons (own:=own) rfl ⟨fv,h1,xs,h2,hc.mono fun x H' hr=>⟨by have:=Nat.blt_eq ▸ hd;exact this,hk x H' hr⟩⟩
theorem gS (h2:kJ G env args.toList=some xs) (hd:Nat.blt d nt=true) (hc:aq P G g xs H R') (hk:∀ x H',R' x H'→(Out P G T own nt ρ C rs R) (.ops all r::k) .normal ((d,x)::env) H'):(Out P G T own nt ρ C rs R) (.ops all (⟨some d,.call ⟨.value (.func g),args,tys⟩,ty,pos,after,none⟩::r)::k) .normal env H:=
 kM rfl h2 hd (aY.of (by simpa using hc)) hk
end
theorem ep.No {c:Code} {Q Q':Exit→St→Prop} {s:St} (h:ep P G nt ρ C c Q s) (hq:∀ e s',Q e s'→∃ s2,Wk G nt C s' s2∧Q' e s2):ep P G nt ρ C c Q' s:=by
 intro c' a hc hi hg
 refine wpIn_mono (h c' a hc hi hg) ?_
 rintro e a' w' ⟨s',c2,h1,h2,h3,h4,h5⟩
 obtain⟨s2,h6,h7⟩:=hq e s' h1
 obtain⟨c3,e1,e2,e3,e4⟩:=h6 c2 a' h2 h4 h5
 exact⟨s2,c3,h7,e1,e2.trans h3,e3,e4⟩
theorem fA {α:Type} (E:α→Env) (M:α→List av) (I:α→Prop) {c:Code} (h1:∀ K,oT (∀ env' H' a,I a→Wk G nt C ⟨env',H'⟩ ⟨E a,M a⟩→K env' H')→(Out P G T own nt ρ C rs R) (.code c:: .pred K::k) .normal env H) (h2:∀ a,I a→(Out P G T own nt ρ C rs R) k .normal (E a) (M a)):(Out P G T own nt ρ C rs R) (.code c::k) .normal env H:=by
 have h:=h1 (fun env' H'=>∃ a,I a∧Wk G nt C ⟨env',H'⟩ ⟨E a,M a⟩) (fun env' H' a h3 h4=>⟨a,h3,h4⟩)
 refine ep.No h ?_
 rintro e ⟨env',H'⟩ h'
 cases e with
 |normal=>
  obtain⟨env2,he,a,h3,h4⟩:=h'
  refine⟨⟨E a,M a⟩,fun c' a' q1 q2 q3=>h4 c' a' q1 ⟨q2.heap,q2.gG,q2.size,fun t x hx=>q2.env t x (by rw[← he t];exact hx),q2.defs⟩ q3,h2 a h3⟩
 |_=>exact⟨_,Wk.refl _,h'⟩
theorem aA {α:Type} (E:α→Env) (M:α→List av) (μ:α→Nat) (I:α→Prop) (a0:α) {x:Code} (h0:I a0) (hs:Wk G nt C ⟨env,H⟩ ⟨E a0,M a0⟩)
 (round:∀ K a,I a→oT (∀ env' H' a',μ a'<μ a→I a'→Wk G nt C ⟨env',H'⟩ ⟨E a',M a'⟩→K env' H')→(Out P G T own nt ρ C rs R) (.code x:: .pred K::k) .normal (E a) (M a)):(Out P G T own nt ρ C rs R) (.code (.loop x)::k) .normal env H:=by
 refine ep.Nl (fun m s=>∃ a,I a∧μ a=m∧s=⟨E a,M a⟩) (μ a0) ⟨E a0,M a0⟩ hs ⟨a0,h0,rfl,rfl⟩ ?_
 rintro m s ⟨a,h1,rfl,rfl⟩
 refine ep.mono (round (fun env' H'=>∃ m s2,m<μ a∧Wk G nt C ⟨env',H'⟩ s2∧∃ a,I a∧μ a=m∧s2=⟨E a,M a⟩) a h1 fun env' H' a' g1 g2 g3=>⟨μ a',⟨E a',M a'⟩,g1,g3,a',g2,rfl,rfl⟩) ?_
 rintro e ⟨env',H'⟩ h'
 cases e with
 |normal=>
  obtain⟨env2,he,m,s2,h3,h4,h5⟩:=h'
  exact⟨m,s2,h3,fun c' a' q1 q2 q3=>h4 c' a' q1 ⟨q2.heap,q2.gG,q2.size,fun t x hx=>q2.env t x (by rw[← he t];exact hx),q2.defs⟩ q3,h5⟩
 |_=>exact h'
theorem Fin.out {x:SV} {R0:SV→List av→Prop} (hR:oT (∀ y H',R0 y H'→R y H')) (h:R0 x H):Fin C H x R:=Fin.same (hR _ _ h)
theorem Fin.mono {x:SV} {R':SV→List av→Prop} (h:Fin C H x R') (hr:∀ y H',R' y H'→R y H'):Fin C H x R:=fun c v h1 h2 h3 h4=>
 let ⟨c',y,e1,e2,e3⟩:=h c v h1 h2 h3 h4
 ⟨c',y,e1,hr _ _ e2,e3⟩
theorem K8 {e:Exit} {env:Env} {H:List av} (h:(Out P G T own nt ρ C rs R) [] e env H):Pb C T rs R e env H:=by
 cases e with
 |normal=>exact h
 |ret=>exact h
 |_=>exact h.elim
theorem aq.PK (T:bX) (own:List Nat) (hT:aI P T) {f:FuncId} {fn:Func} {cd:Code} {args:List SV} {R:SV→List av→Prop} {rs:List ResultVar} (nt:Nat) (hf:P.funcs[f]? =some fn) (hb:fn.body=some cd) (hname:(fn.name== "runtime.NumGoroutine")=false)
 (hnt:fn.ntmps=nt) (hlen:args.length≤nt) (hrs:fn.results=⟨rs⟩) {ie:Env} (hie:gk args 0=ie)
 (h:∀ (C:Cx) (R':SV→List av→Prop),oT (∀ x H',R x H'→R' x H')→C.H=H→closed H→dW G C.H.length→Out P G T own nt none C rs R' [.code cd] .normal ie H):aq P G f args H R:=
 aq.JL hT hf hb hname hnt hlen (by rw[hrs]) fun C h1 h2 h3=>hie ▸ ep.mono (h C R (fun _ _ h=>h) h1 h2 h3) fun e s h=>K8 h
end
theorem Bb {p:Prop} [Decidable p]:(!decide p)=decide (¬ p):=by simp
end
section
def fB (i:Nat):List Nat→Bool
 |[]=>false
 |j::r=>Nat.beq i j||fB i r
theorem dh {i:Nat}:∀ {l:List Nat},fB i l=true↔i∈l
 |[]=>by simp[fB]
 |j::r=>by
  simp only[fB,Bool.or_eq_true,List.mem_cons,dh (l:=r),Nat.beq_eq]
def Me (i:Nat) (l:List Nat):List Nat:=bif fB i l then l else i::l
theorem Ca {i j:Nat} {l:List Nat}:j∈Me i l→j=i∨j∈l:=by
 unfold Me
 cases h:fB i l
 ·simp
 ·exact fun h=> .inr h
def OT:List Nat→List Nat→List Nat
 |[],m=>m
 |i::r,m=>Me i (OT r m)
theorem Cb {j:Nat}:∀ {l m:List Nat},j∈OT l m→j∈l∨j∈m
 |[],m,h=> .inr h
 |i::r,m,h=>by
  rcases Ca h with rfl|h
  ·exact .inl (List.mem_cons_self ..)
  ·rcases Cb h with h|h
   ·exact .inl (List.mem_cons_of_mem _ h)
   ·exact .inr h
def b6 (o:Oper):List Nat:=(o.after.toList.filter fun e=>Region.binds .any e).map (·.on)
def cT (l:List (List Nat)) (i:Nat):List Nat:=(l[i]?).getD []
def yK (tb:List (List Nat)):List Nat→List Nat
 |[]=>[]
 |i::r=>Me i (OT (cT tb i) (yK tb r))
def Dg (tb:List (List Nat)):List Oper→List (List Nat)
 |[]=>tb
 |o::r=>Dg (tb++[yK tb (b6 o)]) r
def kA (ops:List Oper):List (List Nat):=Dg [] ops
def tmpsOf (all:List Oper) (o:Oper):List Nat:=
 (gK o.op).filterMap (fun x=>match x with
  | .tmp t=>some t
  |_=>none)++(match o.guard with
  |some (j,_)=>((all[j]?).bind (·.dst)).toList
  |none=>[])
def An (own:List Nat) (o:Oper):Bool:=
 o.dst.isSome&&match o.op with
 | .move _| .pick .. | .build .. | .load .. | .nilCheck _| .binOp .. | .unOp .. | .convert .. | .makeFunc .. | .slice _ _ _ _ none| .fieldAddr .. | .field .. | .indexAddr .. | .index .. | .lookup .. | .extract .. =>true
 | .assign _=>!rC o.dst own
 | .buildSlice _ len _=>!(len==0||rC o.dst own)
 | .call ⟨.builtin .len,_,_⟩| .call ⟨.builtin .min,_,_⟩| .call ⟨.builtin .max,_,_⟩=>true
 |_=>false
def ku (o:Oper):Bool:=match o.op with
 | .move _| .assign _| .pick .. | .build .. | .unOp .. | .makeFunc .. | .field .. | .extract .. | .index .. | .buildSlice .. =>false
 | .call ⟨.builtin .min,_,_⟩| .call ⟨.builtin .max,_,_⟩=>false
 | .binOp _ _ _ y _=>DN y
 |_=>true
def nA (t:Nat):Nat→List Oper→Option Nat
 |_,[]=>none
 |i,o::r=>bif (match o.dst with
  |some d=>Nat.beq d t
  |none=>false) then some i else nA t (i+1) r
def yU (nt:Nat):Nat→List Oper→List Oper→Bool
 |_,[],_=>true
 |i,o::r,all=>(match o.dst with
  |some d=>Nat.blt d nt&&(match nA d 0 all with
   |some j=>Nat.beq i j
   |none=>false)
  |none=>true)&&(b6 o).all (fun j=>Nat.blt j i)&&yU nt (i+1) r all
def tv (tb:List (List Nat)) (all:List Oper):Nat→List Oper→Bool
 |_,[]=>true
 |i,o::r=>(tmpsOf all o).all (fun t=>match nA t 0 all with
  |none=>true
  |some j=>fB j (cT tb i)||(!ku o&&(Nat.beq i j||fB i (cT tb j))))&&tv tb all (i+1) r
def eA (nt:Nat) (ops:List Oper):Bool:=yU nt 0 ops ops&&tv (kA ops) ops 0 ops
section
variable (P:Program) (G:Gl) (T:bX) (own:List Nat) (nt:Nat)
def qg (all:List Oper) (o:Oper) (env:Env) (H:List av):Option SV:=
 match o.guard with
 |none=>qv G T own env H o.dst o.type o.op
 |some (j,want)=>ob ((all[j]?).bind (·.dst)) fun dj=>ob (look env dj) fun v=>ob (yF v) fun b=>bb (b==some want) (qv G T own env H o.dst o.type o.op) (some .undef)
def ll (all:List Oper) (o:Oper) (env:Env) (H:List av) (k:SV→List av→Prop):Prop:=
 match o.guard with
 |none=>cH P G T own env H o.dst o.type o.op k
 |some (j,want)=>aE ((all[j]?).bind (·.dst)) fun dj=>aE (look env dj) fun v=>aE (yF v) fun b=>Br (b==some want) (cH P G T own env H o.dst o.type o.op k) (k .undef H)
def cE (d:Option Nat) (x:SV) (env:Env):Env:=match d with
 |some d=>(d,x)::env
 |none=>env
def again (all:List Oper) (j:Nat) (env:Env) (H:List av):List Nat→Prop
 |[]=>True
 |i::r=>(match all[i]? with
  |some o=>(An own o&&ku o&&!fB i (cT (kA all) j))=true→qg G T own all o env H=(o.dst).bind (look env)
  |none=>True)∧again all j env H r
def Dr (all:List Oper):Nat→List Nat→Env→List av→(Env→List av→Prop)→Prop
 |0,_,_,_,_=>False
 |n+1,L,env,H,K=>
  (∃ i o v,all[i]? =some o∧i∉L∧An own o=true∧(∀ j∈b6 o,j∈L)∧qg G T own all o env H=some v∧Dr all n (i::L) (cE o.dst v env) H K)∨
  ((∀ i o,all[i]? =some o→i∉L→(∀ j∈b6 o,j∈L)→An own o=false)∧
   (((∀ i o,all[i]? =some o→i∈L)∧K env H)∨((∃ i o,all[i]? =some o∧i∉L)∧
    ∀ j o,all[j]? =some o→j∉L→(∀ k∈b6 o,k∈L)→ll P G T own all o env H fun x H'=>again G T own all j (cE o.dst x env) H' L∧Dr all n (j::L) (cE o.dst x env) H' K)))
def Qs (all:List Oper) (n:Nat) (L:List Nat) (env:Env) (H:List av) (K:Env→List av→Prop):Prop:=
 (∀ i o,all[i]? =some o→i∉L→(∀ j∈b6 o,j∈L)→An own o=false)∧
  (((∀ i o,all[i]? =some o→i∈L)∧K env H)∨((∃ i o,all[i]? =some o∧i∉L)∧
   ∀ j o,all[j]? =some o→j∉L→(∀ k∈b6 o,k∈L)→ll P G T own all o env H fun x H'=>again G T own all j (cE o.dst x env) H' L∧Dr P G T own all n (j::L) (cE o.dst x env) H' K))
end
section
variable {P:Program} {G:Gl} {T:bX} {own:List Nat} {nt B:Nat} {ρ:Option Nat} {C c:Cx} {env env2 E:Env} {H H':List av} {a:Act}
theorem kV {t:Nat}:∀ {l:List Oper} {i m:Nat},nA t i l=some m→∃ k o,m=i+k∧l[k]? =some o∧o.dst=some t
 |[],i,m,h=>by cases h
 |o'::r,i,m,h=>by
  simp only[nA] at h
  cases hd:o'.dst with
  |none=>
   rw[hd] at h
   obtain⟨k,o,h1,h2,h3⟩:=kV (l:=r) (i:=i+1) h
   exact⟨k+1,o,by omega,by simpa using h2,h3⟩
  |some d=>
   rw[hd] at h
   cases hb:Nat.beq d t with
   |true=>simp only[hb,cond_true] at h;cases h;exact⟨0,o',rfl,rfl,by rw[hd,Nat.eq_of_beq_eq_true hb]⟩
   |false=>
    simp only[hb,cond_false] at h
    obtain⟨k,o,h1,h2,h3⟩:=kV (l:=r) (i:=i+1) h
    exact⟨k+1,o,by omega,by simpa using h2,h3⟩
theorem ji {all:List Oper}:∀ {l:List Oper} {i:Nat},yU nt i l all=true→∀ k o,l[k]? =some o→(∀ d,o.dst=some d→d<nt∧nA d 0 all=some (i+k))∧∀ j∈b6 o,j<i+k
 |[],i,_,k,o,ho=>by simp at ho
 |o'::r,i,h,k,o,ho=>by
  simp only[yU,Bool.and_eq_true] at h
  cases k with
  |zero=>
   simp at ho
   subst ho
   refine⟨fun d hd=>?_,fun j hj=>?_⟩
   ·have h1:=h.1.1
    rw[hd] at h1
    simp only[Bool.and_eq_true] at h1
    refine⟨by have:=h1.1;rw[Nat.blt_eq] at this;exact this,?_⟩
    have h2:=h1.2
    split at h2
    ·rename_i j hj
     rw[hj,← Nat.eq_of_beq_eq_true h2];rfl
    ·cases h2
   ·have:=List.all_eq_true.1 h.1.2 j hj
    rw[Nat.blt_eq] at this;exact this
  |succ k=>
   have:=ji h.2 k o (by simpa using ho)
   rw[show i+1+k=i+(k+1) by omega] at this
   exact this
theorem ng {tb:List (List Nat)} {all:List Oper}:∀ {l:List Oper} {i:Nat},tv tb all i l=true→∀ k o,l[k]? =some o→∀ t∈tmpsOf all o,∀ j,nA t 0 all=some j→
 j∈cT tb (i+k)∨(ku o=false∧(i+k=j∨i+k∈cT tb j))
 |[],i,_,k,o,ho=>by simp at ho
 |o'::r,i,h,k,o,ho=>by
  simp only[tv,Bool.and_eq_true] at h
  cases k with
  |zero=>
   simp at ho
   subst ho
   intro t ht j hj
   have h1:=List.all_eq_true.1 h.1 t ht
   rw[hj] at h1
   simp only[Bool.or_eq_true,Bool.and_eq_true,Bool.not_eq_true',dh] at h1
   rcases h1 with h1|⟨h1,h2⟩
   ·exact .inl h1
   ·refine .inr ⟨h1,?_⟩
    rcases h2 with h2|h2
    ·exact .inl (Nat.eq_of_beq_eq_true h2)
    ·exact .inr h2
  |succ k=>
   have:=ng h.2 k o (by simpa using ho)
   rw[show i+1+k=i+(k+1) by omega] at this
   exact this
def tF (ops:List Oper) (S:Nat→Prop):Prop:=∀ i o,ops[i]? =some o→S i→∀ j∈b6 o,S j
theorem tX {tb:List (List Nat)} {S:Nat→Prop} (ht:∀ i,S i→∀ j∈cT tb i,S j):∀ {l:List Nat},(∀ i∈l,S i)→∀ j∈yK tb l,S j
 |[],_,j,hj=>by cases hj
 |i::r,hl,j,hj=>by
  rcases Ca hj with rfl|hj
  ·exact hl _ (List.mem_cons_self ..)
  ·rcases Cb hj with hj|hj
   ·exact ht i (hl i (List.mem_cons_self ..)) j hj
   ·exact tX ht (fun k hk=>hl k (List.mem_cons_of_mem _ hk)) j hj
theorem IL {tb:List (List Nat)} {x:List Nat} (i:Nat):cT (tb++[x]) i=if i<tb.length then cT tb i else if i=tb.length then x else []:=by
 unfold cT
 rw[List.getElem?_append]
 split
 ·rfl
 ·rename_i h
  split
  ·rename_i h2;rw[h2,Nat.sub_self];rfl
  ·rw[List.getElem?_eq_none (by simp;omega)];rfl
theorem tW {all:List Oper} {S:Nat→Prop} (hS:tF all S):∀ (rest done:List Oper) (tb:List (List Nat)),all=done++rest→tb.length=done.length→
 (∀ i o,all[i]? =some o→(∀ k∈b6 o,S k)→∀ j∈cT tb i,S j)→∀ i o,all[i]? =some o→(∀ k∈b6 o,S k)→∀ j∈cT (Dg tb rest) i,S j
 |[],done,tb,_,_,h=>h
 |o::r,done,tb,ha,hl,h=>by
  refine tW hS r (done++[o]) (tb++[yK tb (b6 o)]) (by rw[ha];simp) (by simp[hl]) ?_
  intro i oi hi hd j hj
  rw[IL] at hj
  split at hj
  ·exact h i oi hi hd j hj
  ·split at hj
   ·rename_i h2
    have:oi=o:=by
     rw[h2,hl,ha,List.getElem?_append_right (Nat.le_refl _),Nat.sub_self] at hi
     simpa using hi.symm
    subst this
    refine tX (S:=S) (fun k hk q hq=>?_) hd j hj
    have hlt:k<tb.length:=by
     rcases Nat.lt_or_ge k tb.length with h3|h3
     ·exact h3
     ·unfold cT at hq;rw[List.getElem?_eq_none (by omega)] at hq;cases hq
    have hk2:k<all.length:=by rw[ha];simp;omega
    exact h k _ (List.getElem?_eq_getElem hk2) (hS k _ (List.getElem?_eq_getElem hk2) hk) q hq
   ·cases hj
theorem lg {all:List Oper} {S:Nat→Prop} (hS:tF all S) {i:Nat} {o:Oper} (ho:all[i]? =some o) (hd:∀ k∈b6 o,S k):∀ j∈cT (kA all) i,S j:=
 tW hS all [] [] rfl rfl (fun i o _ _ j hj=>by simp[cT] at hj) i o ho hd
def Ar (all:List Oper) (o:Oper) (env env2:Env):Prop:=∀ t∈tmpsOf all o,look env t=look env2 t
theorem Ar.ev {all:List Oper} {o:Oper} (h:Ar all o env env2):∀ x∈gK o.op,ev G env x=ev G env2 x:=fun x hx=>by
 cases x with
 |tmp t=>exact h t (by unfold tmpsOf;rw[List.mem_append,List.mem_filterMap];exact .inl ⟨_,hx,rfl⟩)
 |_=>rfl
theorem kR {all:List Oper} {o:Oper} (h:Ar all o env env2):qg G T own all o env H=qg G T own all o env2 H:=by
 unfold qg
 rw[GP (T:=T) (own:=own) (dst:=o.dst) (ty:=o.type) (H:=H) (h.ev (G:=G))]
 cases hg:o.guard with
 |none=>rfl
 |some p=>
  obtain⟨j,w⟩:=p
  simp only
  cases hd:(all[j]?).bind (·.dst) with
  |none=>rfl
  |some dj=>
   have:look env dj=look env2 dj:=h dj (by unfold tmpsOf;rw[List.mem_append,hg];right;simp only[hd];simp)
   simp only[oc,this]
theorem rr {all:List Oper} {o:Oper} (h:Ar all o env env2) {k:SV→List av→Prop} (hk:ll P G T own all o env H k):ll P G T own all o env2 H k:=by
 unfold ll at hk ⊢
 rw[← su (P:=P) (T:=T) (own:=own) (dst:=o.dst) (ty:=o.type) (H:=H) (k:=k) (h.ev (G:=G))]
 cases hg:o.guard with
 |none=>rw[hg] at hk;exact hk
 |some p=>
  obtain⟨j,w⟩:=p
  rw[hg] at hk
  obtain⟨dj,h1,h2⟩:=hk
  have:look env dj=look env2 dj:=h dj (by unfold tmpsOf;rw[List.mem_append,hg];right;simp only[h1];simp)
  rw[this] at h2
  exact⟨dj,h1,h2⟩
theorem OJ {all:List Oper} {o:Oper} {v:SV} {k:SV→List av→Prop} (h:qg G T own all o env H=some v) (hk:k v H):ll P G T own all o env H k:=by
 unfold qg at h
 unfold ll
 cases hg:o.guard with
 |none=>rw[hg] at h;exact xX h hk
 |some p=>
  obtain⟨j,w⟩:=p
  rw[hg] at h
  obtain⟨dj,h1,h2⟩:=aF h
  obtain⟨u,h3,h4⟩:=aF h2
  obtain⟨b,h5,h6⟩:=aF h4
  refine⟨dj,h1,u,h3,b,h5,And.intro (fun e=>?_) (fun e=>?_)⟩
  ·rw[e] at h6;exact xX h6 hk
  ·rw[e] at h6;cases h6;exact hk
theorem kK {all:List Oper} {o:Oper} {k k':SV→List av→Prop} (hk:∀ x H',k x H'→k' x H') (h:ll P G T own all o env H k):ll P G T own all o env H k':=by
 unfold ll at h ⊢
 cases hg:o.guard with
 |none=>rw[hg] at h;exact w8 hk h
 |some p=>
  obtain⟨j,w⟩:=p
  rw[hg] at h
  obtain⟨dj,h1,u,h3,b,h5,h6,h7⟩:=h
  exact⟨dj,h1,u,h3,b,h5,And.intro (fun e=>w8 hk (h6 e)) (fun e=>hk _ _ (h7 e))⟩
theorem GQ {o:Oper} (hr:ku o=false):qv G T own env H o.dst o.type o.op=qv G T own env H' o.dst o.type o.op:=by
 unfold ku at hr
 split at hr<;>first
  |(cases hr;done)
  |(rename_i he;rw[he];rfl)
  |(rename_i he;rw[he];simp only[qv,Cl,hr];done)
  |(rename_i al tl he;rw[he];obtain⟨al⟩:=al;rcases al with _|⟨x,_|⟨y,_|⟨z,r⟩⟩⟩<;>rfl)
theorem GN {all:List Oper} {o:Oper} (hr:ku o=false):qg G T own all o env H=qg G T own all o env H':=by
 unfold qg
 rw[GQ (H:=H) (H':=H') hr]
theorem JT (hT:aI P T) (hi:Inv G nt B c env a) {ops:Array Oper} {i:Nat} {o:Oper} {k:SV→List av→Prop} {K:Act→World→Prop} {Q:Exit→Act→World→Prop} (ho:ops[i]? =some o) (hd:∀ d,o.dst=some d→d<nt)
 (h:ll P G T own ops.toList o env c.H k) (hk:∀ x c' a',k x c'.H→Inv G nt B c' (cE o.dst x env) a'→Grow c c'→K a' c'.w):wpOpIn (FR ρ) 0 P ops Q i K a c.w:=by
 unfold wpOpIn
 rw[ho]
 simp only
 have run:cH P G T own env c.H o.dst o.type o.op k→o.wpIn (FR ρ) 0 P a c.w K Q:=fun hx=>by
  refine y8 hT hi hx fun x c' u e1 e2 e3 e4=>?_
  cases hdd:o.dst with
  |none=>exact hk x c' _ e1 (by rw[hdd];exact hi.kQ e4 e2) e4
  |some d=>exact hk x c' _ e1 (by rw[hdd];exact hi.put e4 e2 e3 (hd d hdd)) e4
 unfold ll at h
 cases hg:o.guard with
 |none=>
  rw[hg] at h
  simp only[Region.wanted,hg,if_true]
  exact run h
 |some p=>
  obtain⟨j,want⟩:=p
  rw[hg] at h
  obtain⟨d,h1,v,h2,g,h3,h4⟩:=h
  have hy:=lY hi h1 h2 h3
  simp only[Region.wanted,hg,hy]
  cases hgw:(g==some want) with
  |true=>
   rw[if_pos rfl]
   exact run (h4.1 hgw)
  |false=>
   rw[if_neg (by simp)]
   refine⟨fun _ _=>trivial,?_⟩
   have e1:=h4.2 hgw
   cases hdd:o.dst with
   |none=>exact hk .undef c _ e1 (by rw[hdd];exact hi.kQ (Grow.refl c) hi.heap) (Grow.refl c)
   |some d=>exact hk .undef c _ e1 (by rw[hdd];exact hi.put (Grow.refl c) hi.heap aB.undef (hd d hdd)) (Grow.refl c)
def lk (all:List Oper) (S:Nat→Prop) [DecidablePred S] (V:Nat→SV) (pre:Env) (t:Nat):Option SV:=
 match nA t 0 all with
 |some j=>if S j then some (V j) else look pre t
 |none=>look pre t
structure l7 (G:Gl) (T:bX) (own:List Nat) (all:List Oper) (pre:Env) (R:Nat→Prop) [DecidablePred R] (L:List Nat) (V:Nat→SV) (env:Env) (H:List av):Prop where
 env:∀ t,look env t=lk all (· ∈L) V pre t
 sub:∀ j,R j→j∈L
 bound:∀ j∈L,j<all.length
 quiet:∀ j o,all[j]? =some o→j∈L→¬ R j→An own o=true
 closed:tF all (· ∈L)
 nG:tF all R
 val:∀ i o,all[i]? =some o→i∈L→¬ R i→∀ E,(∀ t∈tmpsOf all o,look E t=lk all (· ∈cT (kA all) i) V pre t)→qg G T own all o E H=some (V i)
section
variable {all:List Oper} {pre:Env} {R:Nat→Prop} [DecidablePred R] {L:List Nat} {V:Nat→SV}
theorem zv (hok:eA nt all=true) {S:Nat→Prop} [DecidablePred S] (hS:tF all S) {i:Nat} {o:Oper} (ho:all[i]? =some o) (hn:¬ S i) (hd:∀ j∈b6 o,S j):
 ∀ t∈tmpsOf all o,lk all S V pre t=lk all (· ∈cT (kA all) i) V pre t:=by
 intro t ht
 unfold eA at hok
 simp only[Bool.and_eq_true] at hok
 have hsub:=lg hS ho hd
 unfold lk
 cases hw:nA t 0 all with
 |none=>rfl
 |some j=>
  simp only
  have h1:=ng hok.2 i o ho t ht j hw
  rw[Nat.zero_add] at h1
  by_cases hj:j∈cT (kA all) i
  ·rw[if_pos hj,if_pos (hsub j hj)]
  ·rw[if_neg hj,if_neg]
   intro hSj
   rcases h1 with h1|⟨_,h1|h1⟩
   ·exact hj h1
   ·exact hn (h1 ▸ hSj)
   ·obtain⟨k,oj,e1,e2,e3⟩:=kV hw
    rw[Nat.zero_add] at e1
    subst e1
    exact hn (lg hS e2 (hS _ _ e2 hSj) i h1)
theorem zu (hok:eA nt all=true) {S:Nat→Prop} [DecidablePred S] {S':Nat→Prop} [DecidablePred S'] {i:Nat} {o:Oper} (ho:all[i]? =some o) (hS:∀ j,S' j↔(j=i∨S j)) {v:SV} {V':Nat→SV} (hV:∀ j,S j→j≠i→V' j=V j) (hVi:V' i=v)
 {env:Env} (he:∀ t,look env t=lk all S V pre t):∀ t,look (cE o.dst v env) t=lk all S' V' pre t:=by
 intro t
 unfold eA at hok
 simp only[Bool.and_eq_true] at hok
 have hdd:=(ji hok.1 i o ho).1
 rw[Nat.zero_add] at hdd
 have other:(∀ d,o.dst=some d→t≠d)→look env t=lk all S' V' pre t:=fun hne=>by
  rw[he t]
  unfold lk
  cases hw:nA t 0 all with
  |none=>rfl
  |some j=>
   simp only
   have hji:j≠i:=fun e=>by
    obtain⟨k,oj,e1,e2,e3⟩:=kV hw
    rw[Nat.zero_add] at e1
    rw[← e1,e,ho] at e2
    cases e2
    exact hne t e3 rfl
   by_cases hj:S j
   ·rw[if_pos hj,if_pos ((hS j).2 (.inr hj)),hV j hj hji]
   ·rw[if_neg hj,if_neg (fun h=>by rcases (hS j).1 h with h|h;exact hji h;exact hj h)]
 cases hd:o.dst with
 |none=>exact other (fun d h=>by rw[hd] at h;cases h)
 |some d=>
  simp only[cE,look]
  by_cases htd:t=d
  ·subst htd
   rw[if_pos rfl]
   unfold lk
   rw[(hdd t hd).2]
   simp only
   rw[if_pos ((hS i).2 (.inl rfl)),hVi]
  ·rw[if_neg htd]
   exact other (fun d' h=>by rw[hd] at h;cases h;exact htd)
theorem l7.GO (hok:eA nt all=true) (D:l7 G T own all pre R L V env H) {i:Nat} {o:Oper} {v:SV} (ho:all[i]? =some o) (hn:i∉L) (hq:An own o=true) (hd:∀ j∈b6 o,j∈L) (hv:qg G T own all o env H=some v):
 ∃ V',(∀ j∈L,V' j=V j)∧l7 G T own all pre R (i::L) V' (cE o.dst v env) H:=by
 have hcl:∀ k ok,all[k]? =some ok→k∈L→i∉cT (kA all) k:=fun k ok hk hkL hi=>hn (lg D.closed hk (D.closed k ok hk hkL) i hi)
 have hcl2:i∉cT (kA all) i:=fun hi=>hn (lg D.closed ho hd i hi)
 have lkV:∀ (S:List Nat) t,i∉S→lk all (· ∈S) (fun j=>if j=i then v else V j) pre t=lk all (· ∈S) V pre t:=fun S t hS=>by
  unfold lk
  cases nA t 0 all with
  |none=>rfl
  |some j=>
   simp only
   by_cases hj:j∈S
   ·rw[if_pos hj,if_pos hj,if_neg (fun(e:j=i)=>hS (e ▸ hj))]
   ·rw[if_neg hj,if_neg hj]
 refine⟨fun j=>if j=i then v else V j,fun j hj=>if_neg fun(e:j=i)=>hn (e ▸ hj),⟨?_,fun j hj=>List.mem_cons_of_mem _ (D.sub j hj),?_,?_,?_,D.nG,?_⟩⟩
 ·exact zu hok ho (S:=(· ∈L)) (by simp) (fun j _ hj=>if_neg hj) (if_pos rfl) D.env
 ·intro j hj
  rcases List.mem_cons.1 hj with rfl|hj
  ·exact(List.getElem?_eq_some_iff.1 ho).1
  ·exact D.bound j hj
 ·intro j oj hoj hj hR
  rcases List.mem_cons.1 hj with rfl|hj
  ·rw[ho] at hoj;cases hoj;exact hq
  ·exact D.quiet j oj hoj hj hR
 ·intro j oj hoj hj k hk
  rcases List.mem_cons.1 hj with rfl|hj
  ·rw[ho] at hoj;cases hoj;exact List.mem_cons_of_mem _ (hd k hk)
  ·exact List.mem_cons_of_mem _ (D.closed j oj hoj hj k hk)
 ·intro j oj hoj hj hR E hE
  rcases List.mem_cons.1 hj with rfl|hj
  ·rw[ho] at hoj;cases hoj
   rw[if_pos rfl,← hv]
   refine kR fun t ht=>?_
   rw[hE t ht,lkV _ t hcl2,D.env t]
   exact(zv hok D.closed ho hn hd t ht).symm
  ·have hji:j≠i:=fun e=>hn (e ▸ hj)
   simp only[if_neg hji]
   refine D.val j oj hoj hj hR E fun t ht=>?_
   rw[hE t ht,lkV _ t (hcl j oj hoj hj)]
theorem l7.rest (hok:eA nt all=true) {K:Env→List av→Prop}:∀ (n:Nat) {L:List Nat} {V:Nat→SV} {env:Env},l7 G T own all pre R L V env H→Dr P G T own all n L env H K→
 ∃ n' L' V' env',l7 G T own all pre R L' V' env' H∧Qs P G T own all n' L' env' H K∧∀ j∈L,j∈L'∧V' j=V j
 |0,L,V,env,D,h=>h.elim
 |n+1,L,V,env,D,h=>by
  rcases h with⟨i,o,v,h1,e3,e4,e5,h2,h3⟩|h
  ·obtain⟨V',hV',D'⟩:=D.GO hok h1 e3 e4 e5 h2
   obtain⟨n',L',V2,env2,g1,g2,g4⟩:=l7.rest hok n D' h3
   exact⟨n',L',V2,env2,g1,g2,fun j hj=>⟨(g4 j (List.mem_cons_of_mem _ hj)).1,(g4 j (List.mem_cons_of_mem _ hj)).2.trans (hV' j hj)⟩⟩
  ·exact⟨n,L,V,env,D,h,fun _ h=>⟨h,rfl⟩⟩
theorem wF {j:Nat} {env:Env} {H:List av}:∀ {L:List Nat},again G T own all j env H L→∀ i o,i∈L→all[i]? =some o→An own o=true→ku o=true→i∉cT (kA all) j→qg G T own all o env H=(o.dst).bind (look env)
 |[],_,i,o,hi,_,_,_,_=>by cases hi
 |k::r,h,i,o,hi,ho,h1,h2,h3=>by
  obtain⟨h4,h5⟩:=h
  rcases List.mem_cons.1 hi with rfl|hi
  ·rw[ho] at h4
   refine h4 ?_
   have:fB i (cT (kA all) j)=false:=by
    cases hh:fB i (cT (kA all) j) with
    |false=>rfl
    |true=>exact absurd (dh.1 hh) h3
   rw[h1,h2,this];rfl
  ·exact wF h5 i o hi ho h1 h2 h3
theorem Jm (hok:eA nt all=true) {S:Nat→Prop} [DecidablePred S] {i:Nat} {o:Oper} (ho:all[i]? =some o) (hr:ku o=true) (hsub:∀ j∈cT (kA all) i,S j):∀ t∈tmpsOf all o,lk all S V pre t=lk all (· ∈cT (kA all) i) V pre t:=by
 intro t ht
 unfold eA at hok
 simp only[Bool.and_eq_true] at hok
 unfold lk
 cases hw:nA t 0 all with
 |none=>rfl
 |some j=>
  simp only
  have h1:=ng hok.2 i o ho t ht j hw
  rw[Nat.zero_add] at h1
  rcases h1 with h1|⟨h1,_⟩
  ·rw[if_pos h1,if_pos (hsub j h1)]
  ·rw[hr] at h1;cases h1
theorem l7.Jr (hok:eA nt all=true) (D:l7 G T own all pre R L V env H) {R':Nat→Prop} [DecidablePred R'] {i:Nat} {o:Oper} {x:SV} (ho:all[i]? =some o) (hn:i∉L) (hd:∀ j∈b6 o,R j) (hR':∀ j,R' j↔(j=i∨R j))
 (hag:again G T own all i (cE o.dst x env) H' L):∃ V',(∀ j,j≠i→V' j=V j)∧V' i=x∧l7 G T own all pre R' (i::L) V' (cE o.dst x env) H':=by
 have hdL:∀ j∈b6 o,j∈L:=fun j hj=>D.sub j (hd j hj)
 have hcl:∀ k ok,all[k]? =some ok→k∈L→i∉cT (kA all) k:=fun k ok hk hkL hi=>hn (lg D.closed hk (D.closed k ok hk hkL) i hi)
 have lkV:∀ (S:List Nat) t,i∉S→lk all (· ∈S) (fun j=>if j=i then x else V j) pre t=lk all (· ∈S) V pre t:=fun S t hS=>by
  unfold lk
  cases nA t 0 all with
  |none=>rfl
  |some j=>
   simp only
   by_cases hj:j∈S
   ·rw[if_pos hj,if_pos hj,if_neg (fun(e:j=i)=>hS (e ▸ hj))]
   ·rw[if_neg hj,if_neg hj]
 have henv:∀ t,look (cE o.dst x env) t=lk all (· ∈i::L) (fun j=>if j=i then x else V j) pre t:=zu hok ho (S:=(· ∈L)) (by simp) (fun j _ hj=>if_neg hj) (if_pos rfl) D.env
 refine⟨fun j=>if j=i then x else V j,fun j hj=>if_neg hj,if_pos rfl,⟨henv,?_,?_,?_,?_,?_,?_⟩⟩
 ·intro j hj
  rcases (hR' j).1 hj with rfl|hj
  ·exact List.mem_cons_self ..
  ·exact List.mem_cons_of_mem _ (D.sub j hj)
 ·intro j hj
  rcases List.mem_cons.1 hj with rfl|hj
  ·exact(List.getElem?_eq_some_iff.1 ho).1
  ·exact D.bound j hj
 ·intro j oj hoj hj hR
  rcases List.mem_cons.1 hj with rfl|hj
  ·exact(hR ((hR' j).2 (.inl rfl))).elim
  ·exact D.quiet j oj hoj hj (fun h=>hR ((hR' j).2 (.inr h)))
 ·intro j oj hoj hj k hk
  rcases List.mem_cons.1 hj with rfl|hj
  ·rw[ho] at hoj;cases hoj;exact List.mem_cons_of_mem _ (hdL k hk)
  ·exact List.mem_cons_of_mem _ (D.closed j oj hoj hj k hk)
 ·intro j oj hoj hj k hk
  rcases (hR' j).1 hj with rfl|hj
  ·rw[ho] at hoj;cases hoj;exact(hR' k).2 (.inr (hd k hk))
  ·exact(hR' k).2 (.inr (D.nG j oj hoj hj k hk))
 ·intro j oj hoj hj hR E hE
  have hji:j≠i:=fun e=>hR ((hR' j).2 (.inl e))
  have hjL:j∈L:=(List.mem_cons.1 hj).resolve_left hji
  have hjR:¬ R j:=fun h=>hR ((hR' j).2 (.inr h))
  simp only[if_neg hji]
  have hE':∀ t∈tmpsOf all oj,look E t=lk all (· ∈cT (kA all) j) V pre t:=fun t ht=>by rw[hE t ht,lkV _ t (hcl j oj hoj hjL)]
  cases hr:ku oj with
  |false=>rw[GN (H':=H) hr];exact D.val j oj hoj hjL hjR E hE'
  |true=>
   have hq:=D.quiet j oj hoj hjL hjR
   have hnc:j∉cT (kA all) i:=fun h=>hjR (lg D.nG ho hd j h)
   have h1:=wF hag j oj hjL hoj hq hr hnc
   have hsub:∀ k∈cT (kA all) j,k∈i::L:=fun k hk=>List.mem_cons_of_mem _ (lg D.closed hoj (D.closed j oj hoj hjL) k hk)
   have h2:qg G T own all oj E H'=qg G T own all oj (cE o.dst x env) H':=kR fun t ht=>by
    rw[hE t ht,henv t]
    exact(Jm (S:=(· ∈i::L)) hok hoj hr hsub t ht).symm
   rw[h2,h1]
   have hds:oj.dst.isSome=true:=by
    unfold An at hq
    simp only[Bool.and_eq_true] at hq
    exact hq.1
   obtain⟨d,hd'⟩:=Option.isSome_iff_exists.1 hds
   rw[hd',Option.bind_some,henv d]
   have hok':=hok
   unfold eA at hok'
   simp only[Bool.and_eq_true] at hok'
   have:=((ji hok'.1 j oj hoj).1 d hd').2
   rw[Nat.zero_add] at this
   unfold lk
   rw[this]
   simp only
   rw[if_pos hj,if_neg hji]
theorem l7.listed (D:l7 G T own all pre R L V env H) {R':Nat→Prop} [DecidablePred R'] {i:Nat} {o:Oper} (ho:all[i]? =some o) (hi:i∈L) (hd:∀ j∈b6 o,R j) (hR':∀ j,R' j↔(j=i∨R j)):l7 G T own all pre R' L V env H:=by
 refine⟨D.env,?_,D.bound,?_,D.closed,?_,?_⟩
 ·intro j hj
  rcases (hR' j).1 hj with rfl|hj
  ·exact hi
  ·exact D.sub j hj
 ·exact fun j oj hoj hj hR=>D.quiet j oj hoj hj (fun h=>hR ((hR' j).2 (.inr h)))
 ·intro j oj hoj hj k hk
  rcases (hR' j).1 hj with rfl|hj
  ·rw[ho] at hoj;cases hoj;exact(hR' k).2 (.inr (hd k hk))
  ·exact(hR' k).2 (.inr (D.nG j oj hoj hj k hk))
 ·exact fun j oj hoj hj hR=>D.val j oj hoj hj (fun h=>hR ((hR' j).2 (.inr h)))
end
def wz (listed:Array Bool) (j:Nat):Prop:=listed.getD j false=true
instance (listed:Array Bool):DecidablePred (wz listed):=fun j=>inferInstanceAs (Decidable (_=true))
theorem Mn {listed:Array Bool} {i:Nat} (hi:i<listed.size) (j:Nat):wz (listed.setIfInBounds i true) j↔(j=i∨wz listed j):=by
 unfold wz
 by_cases h:j=i
 ·subst h;simp[hi]
 ·rw[getD_set_ne false (fun e=>h e.symm)];simp[h]
theorem GU {ops:Array Oper} (hok:eA nt ops.toList=true) {listed:Array Bool} (hsz:listed.size=ops.size) (h:Region.ready .any ops listed=[]):∀ i,i<ops.size→wz listed i:=by
 intro i
 induction i using Nat.strongRecOn with
 |_ i ih=>
  intro hi
  by_cases hl:wz listed i
  ·exact hl
  ·exfalso
   have hok':=hok
   unfold eA at hok'
   simp only[Bool.and_eq_true] at hok'
   have hmem:i∈Region.ready .any ops listed:=by
    rw[mem_ready]
    refine⟨?_,ops[i],by simp[hi],fun e he hb=>?_⟩
    ·unfold wz at hl
     have hi':i<listed.size:=by omega
     simp only[Array.getD_eq_getD_getElem?,Array.getElem?_eq_getElem hi',Option.getD_some] at hl ⊢
     simpa using hl
    ·have hlt:=(ji hok'.1 i ops[i] (by simp[hi])).2 e.on (by unfold b6;rw[List.mem_map];exact⟨e,List.mem_filter.2 ⟨by simpa using he,hb⟩,rfl⟩)
     rw[Nat.zero_add] at hlt
     exact ih e.on hlt (by omega)
   rw[h] at hmem
   cases hmem
theorem Ig (hT:aI P T) {ops:Array Oper} (hok:eA nt ops.toList=true) {pre:Env} {K:Env→List av→Prop} {Q:Exit→Act→World→Prop}
 (hQ:∀ env c a,K env c.H→Inv G nt C.w.heap.size c env a→Grow C c→Q .normal a c.w):∀ (fuel:Nat) (listed:Array Bool),listed.size=ops.size→listed.toList.count false≤fuel→
 ∀ {L:List Nat} {V:Nat→SV} {env j9:Env} {c:Cx} {a:Act} {n:Nat},l7 G T own ops.toList pre (wz listed) L V env c.H→Qs P G T own ops.toList n L env c.H K→
 (∀ t,look j9 t=lk ops.toList (wz listed) V pre t)→Inv G nt C.w.heap.size c j9 a→Grow C c→wpAnyIn (FR ρ) 0 P .any ops Q fuel listed a c.w:=by
 intro fuel
 have fin:∀ (listed:Array Bool),listed.size=ops.size→∀ {L:List Nat} {V:Nat→SV} {env j9:Env} {c:Cx} {a:Act} {n:Nat},l7 G T own ops.toList pre (wz listed) L V env c.H→Qs P G T own ops.toList n L env c.H K→
  (∀ t,look j9 t=lk ops.toList (wz listed) V pre t)→Inv G nt C.w.heap.size c j9 a→Grow C c→Region.ready .any ops listed=[]→Q .normal a c.w:=by
  intro listed hsz L V env j9 c a n D hDr hR hi hg hr
  have hall:=GU hok hsz hr
  obtain⟨_,hDr⟩:=hDr
  have hDr:K env c.H:=by
   rcases hDr with⟨_,h⟩|⟨⟨i,o,h1,h2⟩,_⟩
   ·exact h
   ·exact(h2 (D.sub i (hall i (by have:=(List.getElem?_eq_some_iff.1 h1).1;simpa using this)))).elim
  ·refine hQ env c a hDr ⟨hi.heap,hi.gG,hi.size,fun t x hx=>hi.env t x ?_,hi.defs⟩ hg
   rw[← hx,D.env t,hR t]
   unfold lk
   cases hw:nA t 0 ops.toList with
   |none=>rfl
   |some j=>
    obtain⟨k,o,e1,e2,e3⟩:=kV hw
    have hlt:=(List.getElem?_eq_some_iff.1 e2).1
    rw[Nat.zero_add] at e1
    have hj:wz listed j:=hall j (by rw[e1];simpa using hlt)
    simp only
    rw[if_pos hj,if_pos (D.sub j hj)]
 induction fuel with
 |zero=>
  intro listed hsz hc L V env j9 c a n D hDr hR hi hg
  have hr:Region.ready .any ops listed=[]:=by
   cases hh:Region.ready .any ops listed with
   |nil=>rfl
   |cons m r=>
    have hm:m∈Region.ready .any ops listed:=by rw[hh];exact List.mem_cons_self ..
    rw[mem_ready] at hm
    have h0:listed.toList.count false=0:=by omega
    rw[List.count_eq_zero] at h0
    obtain⟨h1,o,h2,_⟩:=hm
    have hlt:=(Array.getElem?_eq_some_iff.1 h2).1
    have hlt':m<listed.size:=by omega
    rw[Array.getD_eq_getD_getElem?,Array.getElem?_eq_getElem hlt',Option.getD_some] at h1
    exact(h0 (by rw[← h1];simp)).elim
  exact⟨hr,fin listed hsz D hDr hR hi hg hr⟩
 |succ fuel ih=>
  intro listed hsz hc L V env j9 c a n D hDr hR hi hg
  refine⟨fun hr=>fin listed hsz D hDr hR hi hg hr,fun i hir=>?_⟩
  rw[mem_ready] at hir
  obtain⟨h1,o,h2,h3⟩:=hir
  have hlt:=(Array.getElem?_eq_some_iff.1 h2).1
  have hlt':i<listed.size:=by omega
  have hol:ops.toList[i]? =some o:=by simpa using h2
  have hn:¬ wz listed i:=by
   unfold wz
   rw[Array.getD_eq_getD_getElem?,Array.getElem?_eq_getElem hlt',Option.getD_some] at h1 ⊢
   rw[h1];simp
  have hdeps:∀ j∈b6 o,wz listed j:=fun j hj=>by
   unfold b6 at hj
   obtain⟨e,he,rfl⟩:=List.mem_map.1 hj
   obtain⟨he1,he2⟩:=List.mem_filter.1 he
   exact h3 e (by simpa using he1) he2
  have hset:=Mn (listed:=listed) hlt'
  have hcnt:(listed.setIfInBounds i true).toList.count false≤fuel:=by
   have hg:listed.toList[i]'(by simpa using hlt')=false:=by
    rw[Array.getD_eq_getD_getElem?,Array.getElem?_eq_getElem hlt',Option.getD_some] at h1
    simpa using h1
   rw[Array.toList_setIfInBounds,List.count_set (by simpa using hlt'),hg]
   have:0<listed.toList.count false:=List.count_pos_iff.2 (by rw[← hg];simp)
   show listed.toList.count false - 1+0≤fuel
   omega
  have hok':=hok
  unfold eA at hok'
  simp only[Bool.and_eq_true] at hok'
  have hdst:∀ d,o.dst=some d→d<nt:=fun d hd=>((ji hok'.1 i o hol).1 d hd).1
  by_cases hiL:i∈L
  ·have hval:=D.val i o hol hiL hn j9 fun t ht=>by
    rw[hR t]
    exact zv hok D.nG hol hn hdeps t ht
   refine JT hT hi h2 hdst (k:=fun x H'=>x=V i∧H'=c.H) (OJ hval ⟨rfl,rfl⟩) ?_
   rintro x c' a' ⟨rfl,hH⟩ hi' hg'
   refine ih (listed.setIfInBounds i true) (by simp[hsz]) hcnt (L:=L) (V:=V) (env:=env) (n:=n) ?_ (by rw[hH];exact hDr) ?_ hi' (hg.trans hg')
   ·rw[hH];exact D.listed hol hiL hdeps hset
   ·exact zu hok hol hset (fun _ _ _=>rfl) rfl hR
  ·have hex:ll P G T own ops.toList o env c.H fun x H'=>again G T own ops.toList i (cE o.dst x env) H' L∧Dr P G T own ops.toList n (i::L) (cE o.dst x env) H' K:=by
    rcases hDr.2 with⟨h,_⟩|⟨_,h⟩
    ·exact(hiL (h i o hol)).elim
    ·exact h i o hol hiL (fun j hj=>D.sub j (hdeps j hj))
   ·skip
    have hag:Ar ops.toList o env j9:=fun t ht=>by
     rw[D.env t,hR t,zv hok D.closed hol hiL (fun j hj=>D.sub j (hdeps j hj)) t ht]
     exact(zv hok D.nG hol hn hdeps t ht).symm
    refine JT hT hi h2 hdst (rr hag hex) ?_
    rintro x c' a' ⟨hagain,hDr'⟩ hi' hg'
    obtain⟨V',e1,e2,D'⟩:=D.Jr hok hol hiL hdeps hset hagain
    obtain⟨n',L',V2,env2,g1,g2,g4⟩:=l7.rest hok n D' hDr'
    refine ih (listed.setIfInBounds i true) (by simp[hsz]) hcnt g1 g2 (fun t=>?_) hi' (hg.trans hg')
    have hb:∀ j,wz (listed.setIfInBounds i true) j→j∈i::L:=fun j hj=>D'.sub j hj
    refine zu hok hol hset (S:=wz listed) (fun j hj hji=>?_) ?_ hR t
    ·rw[(g4 j (hb j ((hset j).2 (.inr hj)))).2,e1 j hji]
    ·rw[(g4 i (List.mem_cons_self ..)).2,e2]
theorem ep.draw (hT:aI P T) (hm:P.follows .mixedOrders=true) {id:Nat} {ops:Array Oper} {Q:Exit→St→Prop} {s:St} (hok:eA nt ops.toList=true) {n:Nat} (h:Dr P G T own ops.toList n [] s.env s.H fun env H=>Q .normal ⟨env,H⟩):ep P G nt ρ C (.region id ops true) Q s:=by
 intro c a hc hi hg
 refine wpIn_region_any hm ?_
 obtain⟨e1,e2⟩:=Cx.world hi.heap (w':={ c.w with drawn:=c.w.drawn+1}) (fun _ _=>rfl) (Nat.le_refl _) rfl rfl rfl
 have hi':Inv G nt C.w.heap.size { c with w:={ c.w with drawn:=c.w.drawn+1}} s.env a:=⟨e2,hi.gG.grow e1,hi.size,fun t x hx=>(hi.env t x hx).grow e1,hi.defs.grow e1⟩
 have hDr:Dr P G T own ops.toList n [] s.env c.H fun env H=>Q .normal ⟨env,H⟩:=by rw[hc];exact h
 have hno:∀ j,¬ wz (Array.replicate ops.size false) j:=fun j=>by
  unfold wz
  rw[Array.getD_eq_getD_getElem?]
  by_cases hj:j<ops.size
  ·simp[hj]
  ·simp[hj]
 have hlk0:∀ t,look s.env t=lk ops.toList (wz (Array.replicate ops.size false)) (fun _=> .undef) s.env t:=fun t=>by
  unfold lk
  cases nA t 0 ops.toList with
  |none=>rfl
  |some j=>simp only;rw[if_neg (hno j)]
 have D0:l7 G T own ops.toList s.env (wz (Array.replicate ops.size false)) [] (fun _=> .undef) s.env c.H:=by
  refine⟨fun t=>?_,fun j hj=>(hno j hj).elim,fun j hj=>(List.not_mem_nil hj).elim,fun j o _ hj=>(List.not_mem_nil hj).elim,fun j o _ hj=>(List.not_mem_nil hj).elim,fun j o _ hj=>(hno j hj).elim,fun j o _ hj=>(List.not_mem_nil hj).elim⟩
  unfold lk
  cases nA t 0 ops.toList with
  |none=>rfl
  |some j=>simp only;rw[if_neg List.not_mem_nil]
 obtain⟨n',L',V',env',g1,g2,g4⟩:=l7.rest hok n D0 hDr
 refine Ig (c:={ c with w:={ c.w with drawn:=c.w.drawn+1}}) (pre:=s.env) (Q:=fun e a' w'=>∃ s' c',Q e s'∧c'.H=s'.H∧c'.w=w'∧Inv G nt C.w.heap.size c' s'.env a'∧Grow C c') hT hok (fun env c a hk hi hg=>⟨⟨env,c.H⟩,c,hk,rfl,rfl,hi,hg⟩) ops.size (Array.replicate ops.size false) (by simp) ?_ g1 g2 (fun t=>?_) hi' (hg.trans e1)
 ·exact Nat.le_trans (List.count_le_length ..) (by simp)
 ·rw[hlk0 t]
  unfold lk
  cases nA t 0 ops.toList with
  |none=>rfl
  |some j=>simp only;rw[if_neg (hno j),if_neg (hno j)]
end
end
end Go.Proofs.YtjdfoonhnmpkdaaGreatDoor
