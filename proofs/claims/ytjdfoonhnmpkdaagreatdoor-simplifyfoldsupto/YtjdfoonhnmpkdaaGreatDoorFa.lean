/- Proves SimplifyFolds in its Upto form: a sum of numbers is its number behind one pass, if it does not fail; condition: the bulk of what is handed in is at most 2^20. Names and spaces are cut short by program. -/
import Derived.Test.YtjdfoonhnmpkdaaGreatDoorMl
set_option linter.unusedSimpArgs false
set_option linter.unusedVariables false
set_option maxRecDepth 10000
set_option maxHeartbeats 4000000
namespace Go.Proofs.YtjdfoonhnmpkdaaGreatDoor
open Go
inductive Sm where
 |mk (op n:Int) (ae:List Sm)
def Sm.op:Sm→Int| .mk o _ _=>o
def Sm.n:Sm→Int| .mk _ n _=>n
def Sm.ae:Sm→List Sm| .mk _ _ l=>l
mutual
def Sm.cells:Sm→List SV
 | .mk op n ae=>[.int .i64 op,.int .i64 n,.list 3 (gZ ae)]
def gZ:List Sm→List SV
 |[]=>[]
 |s::r=> .agg s.cells::gZ r
end
def Sm.sv (s:Sm):SV:= .agg s.cells
theorem np:∀ l:List Sm,gZ l=l.map Sm.sv
 |[]=>rfl
 |s::r=>by rw[gZ,np r];rfl
theorem sL (l:List Sm):(gZ l).length=l.length:=by rw[np,List.length_map]
mutual
def Sm.wt:Sm→Nat
 | .mk _ _ ae=>1+nq ae
def nq:List Sm→Nat
 |[]=>0
 |s::r=>s.wt+nq r
end
theorem Sm.bZ (s:Sm):0<s.wt:=by cases s;simp only[Sm.wt];omega
theorem yg:∀ l:List Sm,l.length≤nq l
 |[]=>Nat.le_refl _
 |s::r=>by have:=s.bZ;have:=yg r;simp only[List.length_cons,nq];omega
def zQ (op:Int):Int:=(op.tmod 5+5).tmod 5
theorem Kr (op:Int): -5<op.tmod 5∧op.tmod 5<5:=⟨by have:=Int.lt_tmod_of_pos op (show(0:Int)<5 by decide);omega,Int.tmod_lt_of_pos op (by decide)⟩
theorem zR (op:Int):0≤zQ op∧zQ op≤4:=by
 obtain⟨h1,h2⟩:=Kr op
 unfold zQ
 have h3:=Int.tmod_lt_of_pos (op.tmod 5+5) (show(0:Int)<5 by decide)
 have h4:=Int.tmod_nonneg (a:=op.tmod 5+5) 5 (by omega)
 omega
def wB (o x y:Int):Option Int:=
 if o=0 then some (yq (x+y)) else if o=1 then some (yq (x - y)) else if o=2 then some (yq (x*y))
 else if o=3 then (if y=0 then none else if y= -1 then some (yq (-x)) else some (yq (x.tdiv y)))
 else (if y=0 then none else if y= -1 then some 0 else some (x.tmod y))
def dy:Nat→Sm→Ex
 |k+1,.mk op _ [a,b]=>c7 (1+zQ op) [dy k a,dy k b]
 |_,s=>cI s.n
def kz:Nat→Sm→Option Int
 |k+1,.mk op _ [a,b]=>match kz k a,kz k b with
  |some x,some y=>wB (zQ op) x y
  |_,_=>none
 |_,s=>some s.n
theorem o8 (k:Nat) (op n:Int) (a b:Sm):dy (k+1) (.mk op n [a,b])=c7 (1+zQ op) [dy k a,dy k b]:=rfl
theorem mD {k:Nat} {s:Sm} (h:k=0∨s.ae.length≠2):dy k s=cI s.n∧kz k s=some s.n:=by
 obtain⟨op,n,l⟩:=s
 cases k with
 |zero=>exact⟨rfl,rfl⟩
 |succ k=>
  have h:l.length≠2:=h.resolve_left (by omega)
  match l,h with
  |[],_=>exact⟨rfl,rfl⟩
  |[_],_=>exact⟨rfl,rfl⟩
  |[_,_],h=>exact absurd rfl h
  |_::_::_::_,_=>exact⟨rfl,rfl⟩
theorem j6 {M:Nat→Sm→Prop} (hl:∀ k s,(k=0∨s.ae.length≠2)→M k s) (ht:∀ k op n a b,M k a→M k b→M (k+1) (.mk op n [a,b])):∀ k s,M k s
 |0,s=>hl 0 s (.inl rfl)
 |k+1,.mk op n l=>by
  by_cases h:l.length=2
  ·match l,h with
   |[a,b],_=>exact ht k op n a b (j6 hl ht k a) (j6 hl ht k b)
  ·exact hl _ _ (.inr h)
theorem IB {o x y:Int} (h:0≤o∧o≤4):(∀ v,wB o x y=some v→fV (c7 (1+o) [cI x,cI y])=cI v)∧(wB o x y=none→fV (c7 (1+o) [cI x,cI y])=c7 (1+o) [cI x,cI y]):=by
 have ho:o=0∨o=1∨o=2∨o=3∨o=4:=by omega
 rcases ho with rfl|rfl|rfl|rfl|rfl
 ·refine⟨fun v hv=>?_,fun hv=>?_⟩<;>simp[wB] at hv
  subst hv;rfl
 ·refine⟨fun v hv=>?_,fun hv=>?_⟩<;>simp[wB] at hv
  subst hv;rfl
 ·refine⟨fun v hv=>?_,fun hv=>?_⟩<;>simp[wB] at hv
  subst hv;rfl
 ·have e:fV (c7 (1+3) [cI x,cI y])=if y=0 then c7 (1+3) [cI x,cI y] else cI (yq (x.tdiv y)):=rfl
  rw[e]
  by_cases h0:y=0
  ·simp[wB,h0]
  ·by_cases h1:y= -1
   ·subst h1
    simp[wB]
   ·simp[wB,h0,h1]
 ·have e:fV (c7 (1+4) [cI x,cI y])=if y=0 then c7 (1+4) [cI x,cI y] else cI (x.tmod y):=rfl
  rw[e]
  by_cases h0:y=0
  ·simp[wB,h0]
  ·by_cases h1:y= -1
   ·subst h1
    simp[wB]
   ·simp[wB,h0,h1]
theorem By {o:Int} {a b:Ex} (h:0≤o∧o≤4) (hk:a.kind=8∨b.kind=8):fV (c7 (1+o) [a,b])=c7 (1+o) [a,b]:=by
 have e:([a,b].any fun x=>!decide (x.kind=2))=true:=by
  simp only[List.any_cons,List.any_nil,Bool.or_false,Bool.or_eq_true,Bool.not_eq_true',decide_eq_false_iff_not]
  omega
 unfold fV
 rw[if_pos (.inr e)]
def RM (E:Ex):Option Int→Prop
 |some v=>E=cI v
 |none=>E.kind=8
theorem OO (kn:Kn):∀ (k:Nat) (s:Sm) (m n:Nat),(dy k s).wt≤m→(en m (dy k s) kn n).2=n∧RM (en m (dy k s) kn n).1 (kz k s):=by
 refine j6 (fun k s h m n hm=>?_) (fun k op nn a b ha hb m n hm=>?_)
 ·obtain⟨h1,h2⟩:=mD h
  rw[h1] at hm ⊢
  rw[h2]
  obtain⟨m,rfl⟩:∃ q,m=q+1:=⟨m - 1,by have:=(cI s.n).bZ;omega⟩
  exact⟨rfl,rfl⟩
 ·rw[o8] at hm ⊢
  have hw:(c7 (1+zQ op) [dy k a,dy k b]).wt=1+((dy k a).wt+(dy k b).wt):=by simp only[c7,Ex.wt,cn,aV,cf,List.length_nil];omega
  obtain⟨m,rfl⟩:∃ q,m=q+1:=⟨m - 1,by omega⟩
  obtain⟨a1,a2⟩:=ha m n (by omega)
  obtain⟨b1,b2⟩:=hb m n (by omega)
  have hrg:=zR op
  have e:en (m+1) (c7 (1+zQ op) [dy k a,dy k b]) kn n=(fV (c7 (1+zQ op) [(en m (dy k a) kn n).1,(en m (dy k b) kn (en m (dy k a) kn n).2).1]),(en m (dy k b) kn (en m (dy k a) kn n).2).2):=rfl
  rw[e,a1]
  refine⟨b1,?_⟩
  have hv:kz (k+1) (.mk op nn [a,b])=match kz k a,kz k b with
   |some x,some y=>wB (zQ op) x y
   |_,_=>none:=rfl
  rw[hv]
  generalize (en m (dy k a) kn n).1=A at*
  generalize (en m (dy k b) kn n).1=B at*
  generalize zQ op=o at*
  cases ha2:kz k a with
  |none=>
   rw[ha2] at a2
   rw[By hrg (.inl a2)]
   exact rfl
  |some x=>
   rw[ha2] at a2
   cases hb2:kz k b with
   |none=>
    rw[hb2] at b2
    rw[By hrg (.inr b2)]
    exact rfl
   |some y=>
    rw[hb2] at b2
    have a2:A=cI x:=a2
    have b2:B=cI y:=b2
    subst a2;subst b2
    obtain⟨f1,f2⟩:=IB (x:=x) (y:=y) hrg
    dsimp only
    cases ho:wB o x y with
    |some v=>exact f1 v ho
    |none=>rw[f2 ho];exact rfl
def cR (E:Ex):Pg:=⟨kh,[.mk ct (df [[115]] (ed jc [E]))]⟩
theorem rF (binds:List Bd):∀ (f:Nat) (todo:List aD) (out:List Int),∀ i∈out,i∈jt binds f todo out
 |0,_,_,_,h=>h
 |_+1,[],_,_,h=>h
 |f+1,s::rest,out,i,h=>by
  rw[jt]
  split
  ·exact rF binds f _ _ i (List.mem_append_left _ h)
  ·exact rF binds f _ _ i h
theorem GG (X:Ex):(0:Int)∈dB (cX ct) [.mk ct X]:=by
 have hf:de (cX ct)=[ct]:=by decide+kernel
 unfold dB
 rw[hf]
 refine(List.mergeSort_perm _ _).mem_iff.2 ?_
 have e:([ct].length+me [.mk ct X] [])=me [.mk ct X] []+1:=by rw[List.length_singleton];omega
 rw[e,jt,if_pos ⟨List.mem_singleton_self _,by simp⟩]
 exact rF _ _ _ _ _ (List.mem_singleton.2 rfl)
theorem Ge (X:Ex):pN [.mk ct X]=[.mk ct X]:=by
 unfold pN
 rw[List.filter_eq_self]
 intro b hb
 rw[List.mem_singleton.1 hb]
 refine decide_eq_true ?_
 unfold gr
 refine(lS _).mem_iff.2 (List.mem_map.2 ⟨0,GG X,rfl⟩)
theorem GY (X:Ex):kT [.mk ct X]=[.mk ct X]:=by
 unfold kT
 have:[Bd.mk ct X].findIdx? wj=none:=by
  rw[List.findIdx?_eq_none_iff]
  intro b hb
  rw[List.mem_singleton.1 hb]
  unfold wj
  rw[show(Bd.mk ct X).name=ct from rfl,decide_eq_true rfl];rfl
 rw[this]
theorem MG (k:Nat) (s:Sm):∃ E,iq (cR (dy k s))=cR E∧RM E (kz k s):=by
 have hw:(df [[115]] (ed jc [dy k s])).wt=(dy k s).wt+1+1+1:=by simp only[df,ed,Ex.wt,cn,aV,cf,List.length_nil,List.length_cons];omega
 obtain⟨h1,h2⟩:=OO (E7 (cR (dy k s)).binds) k s ((dy k s).wt+1) (ju (cR (dy k s)).binds) (by omega)
 refine⟨(en ((dy k s).wt+1) (dy k s) (E7 (cR (dy k s)).binds) (ju (cR (dy k s)).binds)).1,?_,h2⟩
 have ht:fa (cR (dy k s))=[.mk ct (df [[115]] (ed jc [(en ((dy k s).wt+1) (dy k s) (E7 (cR (dy k s)).binds) (ju (cR (dy k s)).binds)).1]))]:=by
  have e:fa (cR (dy k s))=[.mk ct (en (df [[115]] (ed jc [dy k s])).wt (df [[115]] (ed jc [dy k s])) (E7 (cR (dy k s)).binds) (ju (cR (dy k s)).binds)).1]:=rfl
  rw[e,hw];rfl
 unfold iq
 rw[ht,Ge,GY];rfl
theorem DC (p:Ex→Bool) (hl:∀ n,p (cI n)=true) (ht:∀ o a b,0≤o∧o≤4→p (c7 (1+o) [a,b])=true):∀ k s,eM p (dy k s)=true:=by
 refine j6 (fun k s h=>?_) (fun k op n a b ha hb=>?_)
 ·rw[(mD h).1,dk,hl];rfl
 ·rw[o8,dk,ht _ _ _ (zR op)]
  show(true&&[dy k a,dy k b].all (eM p))=true
  simp[ha,hb]
theorem NZ (k:Nat) (s:Sm):eM sU (dy k s)=true:=DC sU (fun n=>(nk ..).2 ⟨by unfold jN;simp,rfl⟩) (fun o a b h=>(nk ..).2 ⟨by
 have ha:kZ (1+o)=2:=by unfold kZ;rw[if_pos (by omega)]
 rw[ha];unfold jN;simp,rfl⟩) k s
theorem NY (k:Nat) (s:Sm):eM (l9 kh) (dy k s)=true:=DC _ (fun n=>rfl) (fun o a b h=>by
 have ha:kZ (1+o)=2:=by unfold kZ;rw[if_pos (by omega)]
 show decide ((2:Int)=kZ (1+o))=true
 rw[ha];rfl) k s
theorem NW (k:Nat) (s:Sm):eM (sP kh) (dy k s)=true:=DC _ (fun n=>rfl) (fun o a b h=>rfl) k s
theorem Is:∀ k s,iF (dy k s)=[]:=by
 refine j6 (fun k s h=>?_) (fun k op n a b ha hb=>?_)
 ·rw[(mD h).1];rfl
 ·rw[o8,c7,la]
  simp[ha,hb]
theorem N0:∀ (k:Nat) (s:Sm) (m:Nat) (st:BO),(eP m (dy k s) st).2=st.2:=by
 refine j6 (fun k s h m st=>?_) (fun k op n a b ha hb m st=>?_)
 ·rw[(mD h).1];cases m<;>rfl
 ·rw[o8]
  cases m with
  |zero=>rfl
  |succ m=>
   show(eP m (dy k b) _).2=st.2
   rw[hb]
   show(eP m (dy k a) _).2=st.2
   rw[ha]
theorem NX:∀ k s,dep (dy k s)≤k+1:=by
 refine j6 (fun k s h=>?_) (fun k op n a b ha hb=>?_)
 ·rw[(mD h).1,nI]
  show gJ []+1≤k+1
  have:gJ []=0:=rfl
  omega
 ·rw[o8,nI]
  show gJ [dep (dy k a),dep (dy k b)]+1≤k+1+1
  have:gJ [dep (dy k a),dep (dy k b)]=max (max 0 (dep (dy k a))) (dep (dy k b)):=rfl
  omega
theorem Ff (k:Nat) (s:Sm) (hk:k≤41) (hs:(dy k s).size≤20000):bJ (cR (dy k s))=0:=by
 have h1:=NZ k s
 have h2:=NY k s
 have h3:=NW k s
 have h4:=Is k s
 have h5:=N0 k s
 have h6:=NX k s
 generalize dy k s=E at*
 have hsz:e9 (cR E).binds=E.size+2:=by
  show(1+((1+(E.size+0)+0+0)+0)+0+0)+0=_
  omega
 have hdp:oZ (cR E).binds=dep E+2:=by
  show gJ [dep (df [[115]] (ed jc [E]))]=_
  rw[show gJ [dep (df [[115]] (ed jc [E]))]=max 0 (dep (df [[115]] (ed jc [E]))) from rfl,nI]
  show max 0 (gJ [dep (ed jc [E])]+1)=_
  rw[show gJ [dep (ed jc [E])]=max 0 (dep (ed jc [E])) from rfl,nI]
  show max 0 (max 0 (gJ [dep E]+1)+1)=_
  rw[show gJ [dep E]=max 0 (dep E) from rfl]
  omega
 have hal:∀ p:Ex→Bool,p (df [[115]] (ed jc [E]))=true→p (ed jc [E])=true→eM p E=true→((cR E).binds.all fun b=>eM p b.e)=true:=fun p q1 q2 q3=>by
  show(eM p (df [[115]] (ed jc [E]))&&true)=true
  rw[dk,q1]
  show(true&&[ed jc [E]].all (eM p)&&true)=true
  rw[List.all_cons,dk (e:=ed jc [E]),q2]
  show(true&&((true&&[E].all (eM p))&&true)&&true)=true
  rw[List.all_cons,q3];rfl
 have hbn:aU (cR E).binds=[ct,[115]]:=by
  show(ct::iF (df [[115]] (ed jc [E])))++[]=_
  rw[df,la,ed]
  simp only[List.flatMap_cons,List.flatMap_nil,la,h4]
  rfl
 have hbad:dd (cR E).binds=false:=by
  have h:cW (aU (cR E).binds)=[ct,[115]]:=by
   rw[hbn]
   exact List.mergeSort_of_pairwise (by decide+kernel)
  unfold dd
  rw[h,hbn]
  decide+kernel
 have hsc:((cR E).binds.all (sO (lW (cR E).binds)))=true:=by
  show(sO _ (.mk ct (df [[115]] (ed jc [E])))&&true)=true
  rw[Bool.and_true]
  unfold sO
  have hw:(Bd.mk ct (df [[115]] (ed jc [E]))).e.wt=E.wt+1+1+1:=by simp only[Bd.e,df,ed,Ex.wt,cn,aV,cf,List.length_nil,List.length_cons];omega
  rw[hw]
  refine decide_eq_true ?_
  show(eP (E.wt+1) E _).2.length=0
  rw[h5];rfl
 unfold bJ
 rw[hsz,hdp,if_neg (by omega),if_neg (by omega),hal sU rfl rfl h1]
 rw[show ga [] (cR E).cons=true from(show ga [] kh=true by decide+kernel),hbad,hsc,show mV (cR E).cons=true from(show mV kh=true by decide+kernel),hal (l9 (cR E).cons) rfl rfl h2,hal (sP (cR E).cons) rfl rfl h3]
 rfl
theorem Jl (v:Int):bJ (cR (cI v))=0:=Ff 0 (.mk 0 v []) (by decide) (by show 1+0+0+0≤20000;decide)
def RZ (G:Gl) (m:Nat):Prop:=∀ (e:Ex) (H:List av) (at_:Nat),e.wt≤m→e.wt<4294967296→aq Tryz.prog G 63 [e.sv,.int .i64 (at_:Int)] H (fun r H'=>∃ (n:Nat) (b:Bool),(H'=H∧r= .tuple [.int .i64 n,.bool b])∧n≤e.wt∧(b=true→n=e.size∧n≤20000))
theorem se (G:Gl) (hG:ah G):∀ m,RZ G m
 |0,e,H,at_,h,_=>absurd e.bZ (by omega)
 |m+1,e,H,at_,hm,hw0=>by
  have hrec:=se G hG m
  have hep:=e.bZ
  by_cases hat:(300:Int)<(at_:Int)
  ·refine bP [] Tryz.func63 Tryz.ntmps63 fun C R' hR hC hcl hB hC' X=>?_
   (refine iu ?_)
   refine kN rfl hat ?_
   (refine run ?_)
   exact aZ (n0:=H.length) hR hC' hcl (.same _ rfl) ⟨1,false,⟨rfl,rfl⟩,by omega,fun h=>by cases h⟩
  have hpt:=fun i (h:i<e.parts.length)=>Ex.cm (List.getElem_mem h)
  have hpo:=fun H i (h:i<e.parts.length)=>FB G hG e (by omega) i h H
  have hpw:=vo e
  have hsz:=e.jE
  have hsz1:∀ i (h:i<e.parts.length),((e.parts.take (i+1)).map Ex.size).sum=((e.parts.take i).map Ex.size).sum+e.parts[i].size:=fun i h=>by rw[List.take_succ_eq_append_getElem h,List.map_append,List.sum_append,List.map_singleton,List.sum_singleton]
  have hsum:∀ i (h:i<e.parts.length),((e.parts.take (i+1)).map Ex.wt).sum=((e.parts.take i).map Ex.wt).sum+e.parts[i].wt:=fun i h=>by rw[List.take_succ_eq_append_getElem h,List.map_append,List.sum_append,List.map_singleton,List.sum_singleton]
  have hsml:∀ i,((e.parts.take i).map Ex.wt).sum≤(e.parts.map Ex.wt).sum:=fun i=>by rw[List.map_take];exact nv i
  have hat2:(at_:Int)+1=((at_+1:Nat):Int):=by omega
  obtain⟨kd,nm,nn,op,names,ae,binds,alts⟩:=e
  have hle:=Ex.dn kd nm nn op names ae binds alts
  have hpl:(Ex.mk kd nm nn op names ae binds alts).parts.length=ae.length+binds.length+alts.length:=by rw[Ex.ck];simp;omega
  generalize hP:(Ex.mk kd nm nn op names ae binds alts).parts=P at*
  generalize hW:(Ex.mk kd nm nn op names ae binds alts).wt=W at*
  generalize hZ:(Ex.mk kd nm nn op names ae binds alts).size=Z at*
  refine bP [] Tryz.func63 Tryz.ntmps63 fun C R' hR hC hcl hB hC' X=>?_
  (refine iu ?_)
  refine eh rfl hat ?_
  (refine run ?_)
  refine aA (fun a:Nat×Nat=>[(1,.int .i64 (at_:Int)),(2,.ptr H.length 0 0 0),(6,.int .i64 (a.2:Int)),(7,.int .i64 (a.1:Int))]) (fun _=>H++[.cells 0 8 [.agg [.int .i64 kd,.str nm,.int .i64 nn,.int .i64 op,.list 1 (names.map .str),.list 8 (ag ae),.list 9 (ad binds),.list 12 (af alts)]]]) (fun a=>P.length - a.1) (fun a=>(a.1≤P.length∧a.2≤1+((P.take a.1).map Ex.wt).sum)∧a.2=1+((P.take a.1).map Ex.size).sum∧a.2≤20000) (0,1) ⟨⟨Nat.zero_le _,by simp⟩,by simp,by simp⟩ ?_ ?_
  ·exact bI (n0:=H.length) [(H.length,0)] hG hB hC' hcl
  rintro K ⟨i,n⟩ ⟨⟨hi,hn⟩,hn7,hn8⟩ hK
  simp only at hi hn hn7 hn8
  dsimp only
  have hs2:=hsml i
  rcases Nat.lt_or_ge i P.length with hlt|hge
  ·have hp1:=hpt i hlt
   have c1:=fun H=>hpo H i hlt
   have hs1:=hsum i hlt
   have hs3:=hsml (i+1)
   have hs4:=hsz1 i hlt
   have hgd:(i:Int)<(ae.length:Int)+(binds.length:Int)+(alts.length:Int):=by omega
   have hcall:=fun H=>hrec P[i] H (at_+1) (by omega) (by omega)
   generalize P[i]=x at*
   have X:=fc aO hat2 hgd
   (refine run ?_)
   refine br (hcall _) ?_
   rintro r H' ⟨n2,b2,⟨rfl,rfl⟩,hn2,hn9⟩
   have hnn:(n:Int)+(n2:Int)=((n+n2:Nat):Int):=by omega
   have X:=And.intro aO hnn
   (refine run ?_;with_reducible repeat' first|exact trivial|(apply aJ.mk<;>intro hb)|apply bN.mk)
   ·exact aZ (n0:=H.length) hR hC' hcl (.same _ rfl) ⟨n+n2,false,⟨rfl,rfl⟩,by omega,fun h=>by cases h⟩
   ·have hb3:b2=true∧n+n2≤20000:=by
     simp only[Bool.or_eq_false_iff,Bool.not_eq_false',decide_eq_false_iff_not] at hb
     exact⟨hb.1,by omega⟩
    have hn9:=hn9 hb3.1
    refine hK _ _ (i+1,n+n2) (by simp only;omega) ⟨⟨by simp only;omega,by simp only;omega⟩,by simp only;omega,by simp only;omega⟩ ?_
    dsimp only
    exact bI (n0:=H.length) [(H.length,0)] hG hB hC' hcl
  ·have hgd:¬ (i:Int)<(ae.length:Int)+(binds.length:Int)+(alts.length:Int):=by omega
   have X:=And.intro aO hgd
   clear hK
   (refine run ?_)
   exact aZ (n0:=H.length) hR hC' hcl (.same _ rfl) ⟨n,true,⟨rfl,rfl⟩,by omega,fun _=>⟨by rw[hn7,List.take_of_length_le (by omega)];omega,hn8⟩⟩
theorem As (G:Gl) (hG:ah G) (e:Ex) (hw:e.wt<4294967296) (H:List av):aq Tryz.prog G 17 [e.sv] H (fun r H'=>∃ (n:Nat) (b:Bool),(H'=H∧r= .tuple [.int .i64 n,.bool b])∧(b=true→e.size≤20000)):=by
 refine bP [] Tryz.func17 Tryz.ntmps17 fun C R' hR hC hcl hB hC' X=>?_
 (refine run ?_)
 refine br (se G hG e.wt e _ 0 (Nat.le_refl _) hw) ?_
 rintro r H' ⟨n,b,⟨rfl,rfl⟩,hn,hn2⟩
 (refine run ?_)
 exact aZ (n0:=H.length) hR hC' hcl (.same _ rfl) ⟨n,b,⟨rfl,rfl⟩,fun h=>by have:=hn2 h;omega⟩
theorem K0 (G:Gl) (hG:ah G) (H:List av):aq Tryz.prog G 18 [] H (fun r H'=>H'=H∧r= .list 4 (ay kh)):=by
 refine bP [] Tryz.func18 Tryz.ntmps18 fun C R' hR hC hcl hB hC' X=>?_
 (refine run ?_)
 exact Fin.out hR ⟨rfl,rfl⟩
theorem oR (n:Nat):∀ l:List Sm,SV.aj n (gZ l)=true:=by
 suffices h:∀ (m:Nat) (s:Sm),s.wt≤m→SV.aj n s.cells=true by
  intro l
  induction l with
  |nil=>rfl
  |cons s r ih=>simp only[gZ,SV.aj,SV.under,h s.wt s (Nat.le_refl _),ih,Bool.and_self]
 intro m
 induction m with
 |zero=>intro s h;have:=s.bZ;omega
 |succ m ih=>
  intro s h
  obtain⟨op,k,l⟩:=s
  simp only[Sm.cells,SV.aj,SV.under,Bool.and_true,Bool.true_and]
  simp only[Sm.wt] at h
  have h2:nq l≤m:=by omega
  clear h
  induction l with
  |nil=>rfl
  |cons s r ihr=>
   simp only[nq] at h2
   simp only[gZ,SV.aj,SV.under,ih s (by omega),ihr (by omega),Bool.and_self]
theorem FJ {s:Sm} (h:s.wt<4294967296):s.ae.length<4294967296:=by
 obtain⟨op,n,l⟩:=s
 have:=yg l
 simp only[Sm.wt,Sm.ae] at*
 omega
theorem Bs (G:Gl) (hG:ah G) (k:Nat) (s:Sm) (hk:k≤41) (hw:s.wt<4294967296) (hc:k=0∨s.ae.length≠2) (H:List av):aq Tryz.prog G 16 [s.sv,.int .i64 ((41 - k:Nat):Int)] H (fun r H'=>H'=H∧r=(dy k s).sv):=by
 have hll:=FJ hw
 rw[(mD hc).1]
 obtain⟨op,n,l⟩:=s
 have hlc:=sL l
 have hlu:=oR H.length l
 rw[show(Sm.mk op n l).sv= .agg [.int .i64 op,.int .i64 n,.list 3 (gZ l)] from rfl,show(cI (Sm.mk op n l).n).sv= .agg [.int .i64 2,.str [],.int .i64 n,.int .i64 0,.list 1 [],.list 8 [],.list 9 [],.list 12 []] from rfl]
 dsimp only[Sm.ae] at hll hc
 by_cases h2:l.length=2
 ·obtain rfl:=hc.resolve_right (fun h=>h h2)
  have h2i:(l.length:Int)=2:=by omega
  have hat:((41 - 0:Nat):Int)=41:=rfl
  rw[hat]
  refine bP [] Tryz.func16 Tryz.ntmps16 fun C R' hR hC hcl hB hC' X=>?_
  have X:=fc aO hlc h2i
  (refine run ?_)
  exact Fin.aS (n0:=H.length) hR rfl hC' hcl (.same _ rfl) ⟨rfl,rfl⟩
 ·have h2i:¬ (l.length:Int)=2:=by omega
  refine bP [] Tryz.func16 Tryz.ntmps16 fun C R' hR hC hcl hB hC' X=>?_
  have X:=fc aO hlc h2i
  (refine run ?_)
  exact Fin.aS (n0:=H.length) hR rfl hC' hcl (.same _ rfl) ⟨rfl,rfl⟩
theorem y9 (G:Gl) (hG:ah G):∀ (k:Nat) (s:Sm),k≤41→s.wt<4294967296→∀ H,aq Tryz.prog G 16 [s.sv,.int .i64 ((41 - k:Nat):Int)] H (fun r H'=>H'=H∧r=(dy k s).sv)
 |0,s,hk,hw,H=>Bs G hG 0 s hk hw (.inl rfl) H
 |k+1,.mk op n l,hk,hw,H=>by
  by_cases h2:l.length=2
  rotate_left
  ·exact Bs G hG (k+1) (.mk op n l) hk hw (.inr h2) H
  obtain⟨a,b,rfl⟩:∃ a b,l=[a,b]:=by
   match l,h2 with
   |[a,b],_=>exact⟨a,b,rfl⟩
  have hwa:a.wt<4294967296∧b.wt<4294967296:=by simp only[Sm.wt,nq] at hw;omega
  have ha:=y9 G hG k a (by omega) hwa.1
  have hb':=y9 G hG k b (by omega) hwa.2
  rw[o8]
  have hrg:=zR op
  obtain⟨h51,h52⟩:=Kr op
  have hw5:IntKind.i64.wrap (op.tmod 5+5)=op.tmod 5+5:=wrap_i64 _ (by omega)
  have hos:(op.tmod 5+5).tmod 5=zQ op:=rfl
  have hw6:IntKind.i64.wrap (1+zQ op)=1+zQ op:=wrap_i64 _ (by omega)
  have hat:¬ (40:Int)<((41 - (k+1):Nat):Int):=by omega
  have hat2:((41 - (k+1):Nat):Int)+1=((41 - k:Nat):Int):=by omega
  have hab:(0:Int)≤((41 - (k+1):Nat):Int)∧((41 - (k+1):Nat):Int)≤40:=by omega
  have hsu:=a.sv
  rw[show(Sm.mk op n [a,b]).sv= .agg [.int .i64 op,.int .i64 n,.list 3 [.agg a.cells,.agg b.cells]] from rfl,show(c7 (1+zQ op) [dy k a,dy k b]).sv= .agg [.int .i64 8,.str [],.int .i64 0,.int .i64 (1+zQ op),.list 1 [],.list 8 [.agg (dy k a).cells,.agg (dy k b).cells],.list 9 [],.list 12 []] from rfl]
  rw[show a.sv= .agg a.cells from rfl,show(dy k a).sv= .agg (dy k a).cells from rfl] at ha
  rw[show b.sv= .agg b.cells from rfl,show(dy k b).sv= .agg (dy k b).cells from rfl] at hb'
  have hua:=(dy k a).aw H.length
  have hub:=(dy k b).aw H.length
  have ha8:=(dy k a).au
  have hb8:=(dy k b).au
  have haT:=(dy k a).ao
  have hbT:=(dy k b).ao
  have ha3:a.cells.length=3∧a.cells.take 3=a.cells:=by cases a;exact⟨rfl,rfl⟩
  have hb3:b.cells.length=3∧b.cells.take 3=b.cells:=by cases b;exact⟨rfl,rfl⟩
  generalize (dy k a).cells=xa at*
  generalize (dy k b).cells=xb at*
  generalize ((41 - (k+1):Nat):Int)=n1 at*
  generalize ((41 - k:Nat):Int)=n2 at*
  generalize a.cells=ca at*
  generalize b.cells=cb at*
  clear hsu
  refine bP [] Tryz.func16 Tryz.ntmps16 fun C R' hR hC hcl hB hC' X=>?_
  have X:=QG aO hw5 hos hw6 hat hat2 ha8 hb8 haT hbT ha3.1 ha3.2 hb3.1 hb3.2
  have c1:=ha
  have c2:=hb'
  (refine run ?_)
  exact Fin.aS (n0:=H.length) hR rfl hC' hcl (.same _ (by simp only[aC,SV.under,SV.aj,hua,hub,Bool.and_self])) ⟨rfl,rfl⟩
theorem yp (G:Gl) (hG:ah G) (k:Nat) (s:Sm) (hk:k≤41) (hw:s.wt<4294967296) (hc:k=0∨s.ae.length≠2) (H:List av):aq Tryz.prog G 19 [s.sv,.int .i64 ((41 - k:Nat):Int)] H (fun r H'=>H'=H∧r= .tuple [.int .i64 ((kz k s).getD 0),.bool (kz k s).isSome]):=by
 have hll:=FJ hw
 rw[(mD hc).2]
 obtain⟨op,n,l⟩:=s
 have hlc:=sL l
 have hlu:=oR H.length l
 rw[show(Sm.mk op n l).sv= .agg [.int .i64 op,.int .i64 n,.list 3 (gZ l)] from rfl]
 simp only[Sm.n,Option.getD_some,Option.isSome_some]
 dsimp only[Sm.ae] at hll hc
 by_cases h2:l.length=2
 ·obtain rfl:=hc.resolve_right (fun h=>h h2)
  have h2i:(l.length:Int)=2:=by omega
  have hat:((41 - 0:Nat):Int)=41:=rfl
  rw[hat]
  refine bP [] Tryz.func19 Tryz.ntmps19 fun C R' hR hC hcl hB hC' X=>?_
  have X:=fc aO hlc h2i
  (refine run ?_)
  exact Fin.aS (n0:=H.length) hR rfl hC' hcl (.same _ rfl) ⟨rfl,rfl⟩
 ·have h2i:¬ (l.length:Int)=2:=by omega
  refine bP [] Tryz.func19 Tryz.ntmps19 fun C R' hR hC hcl hB hC' X=>?_
  have X:=fc aO hlc h2i
  (refine run ?_)
  exact Fin.aS (n0:=H.length) hR rfl hC' hcl (.same _ rfl) ⟨rfl,rfl⟩
theorem vW (G:Gl) (hG:ah G):∀ (k:Nat) (s:Sm),k≤41→s.wt<4294967296→∀ H,aq Tryz.prog G 19 [s.sv,.int .i64 ((41 - k:Nat):Int)] H (fun r H'=>H'=H∧r= .tuple [.int .i64 ((kz k s).getD 0),.bool (kz k s).isSome])
 |0,s,hk,hw,H=>yp G hG 0 s hk hw (.inl rfl) H
 |k+1,.mk op n l,hk,hw,H=>by
  by_cases h2:l.length=2
  rotate_left
  ·exact yp G hG (k+1) (.mk op n l) hk hw (.inr h2) H
  obtain⟨a,b,rfl⟩:∃ a b,l=[a,b]:=by
   match l,h2 with
   |[a,b],_=>exact⟨a,b,rfl⟩
  have hwa:a.wt<4294967296∧b.wt<4294967296:=by simp only[Sm.wt,nq] at hw;omega
  have c1:=vW G hG k a (by omega) hwa.1
  have c2:=vW G hG k b (by omega) hwa.2
  have hv:kz (k+1) (.mk op n [a,b])=match kz k a,kz k b with
   |some x,some y=>wB (zQ op) x y
   |_,_=>none:=rfl
  rw[hv]
  have hrg:=zR op
  obtain⟨h51,h52⟩:=Kr op
  have hw5:IntKind.i64.wrap (op.tmod 5+5)=op.tmod 5+5:=wrap_i64 _ (by omega)
  have hos:(op.tmod 5+5).tmod 5=zQ op:=rfl
  have hat:¬ (40:Int)<((41 - (k+1):Nat):Int):=by omega
  have hat2:((41 - (k+1):Nat):Int)+1=((41 - k:Nat):Int):=by omega
  have hab:(0:Int)≤((41 - (k+1):Nat):Int)∧((41 - (k+1):Nat):Int)≤40:=by omega
  rw[show(Sm.mk op n [a,b]).sv= .agg [.int .i64 op,.int .i64 n,.list 3 [.agg a.cells,.agg b.cells]] from rfl]
  rw[show a.sv= .agg a.cells from rfl] at c1
  rw[show b.sv= .agg b.cells from rfl] at c2
  have ha3:a.cells.length=3∧a.cells.take 3=a.cells:=by cases a;exact⟨rfl,rfl⟩
  have hb3:b.cells.length=3∧b.cells.take 3=b.cells:=by cases b;exact⟨rfl,rfl⟩
  clear hv
  generalize ((41 - (k+1):Nat):Int)=n1 at*
  generalize ((41 - k:Nat):Int)=n2 at*
  generalize a.cells=ca at*
  generalize b.cells=cb at*
  generalize kz k a=va at*
  generalize kz k b=vb at*
  generalize zQ op=o at*
  refine bP [] Tryz.func19 Tryz.ntmps19 fun C R' hR hC hcl hB hC' X=>?_
  cases va with
  |none=>
   simp only[Option.getD_none,Option.isSome_none] at c1 hR
   have X:=eu aO hat hat2 ha3.1 ha3.2 hb3.1 hb3.2
   (refine run ?_)
   exact Fin.aS (n0:=H.length) hR rfl hC' hcl (.same _ rfl) ⟨rfl,rfl⟩
  |some x=>
   cases vb with
   |none=>
    simp only[Option.getD_none,Option.isSome_none,Option.getD_some,Option.isSome_some] at c1 c2 hR
    have X:=eu aO hat hat2 ha3.1 ha3.2 hb3.1 hb3.2
    (refine run ?_)
    exact Fin.aS (n0:=H.length) hR rfl hC' hcl (.same _ rfl) ⟨rfl,rfl⟩
   |some y=>
    simp only[Option.getD_some,Option.isSome_some] at c1 c2
    have ho:o=0∨o=1∨o=2∨o=3∨o=4:=by omega
    have hwd:∀ z:Int,IntKind.i64.wrap z=yq z:=fun z=>rfl
    rcases ho with rfl|rfl|rfl|rfl|rfl
    ·have X:=C3 aO hw5 hos hat hat2 ha3.1 ha3.2 hb3.1 hb3.2
     (refine run ?_)
     exact Fin.aS (n0:=H.length) hR rfl hC' hcl (.same _ rfl) ⟨rfl,rfl⟩
    ·have X:=C3 aO hw5 hos hat hat2 ha3.1 ha3.2 hb3.1 hb3.2
     (refine run ?_)
     exact Fin.aS (n0:=H.length) hR rfl hC' hcl (.same _ rfl) ⟨rfl,rfl⟩
    ·have X:=C3 aO hw5 hos hat hat2 ha3.1 ha3.2 hb3.1 hb3.2
     (refine run ?_)
     exact Fin.aS (n0:=H.length) hR rfl hC' hcl (.same _ rfl) ⟨rfl,rfl⟩
    ·by_cases y0:y=0
     ·have X:=wh aO y0 hw5 hos hat hat2 ha3.1 ha3.2 hb3.1 hb3.2
      (refine run ?_)
      exact Fin.aS (n0:=H.length) hR rfl hC' hcl (.same _ rfl) ⟨rfl,by simp[aC,wB,y0]⟩
     ·by_cases y1:y= -1
      ·have X:=wh aO y1 hw5 hos hat hat2 ha3.1 ha3.2 hb3.1 hb3.2
       (refine run ?_)
       exact Fin.aS (n0:=H.length) hR rfl hC' hcl (.same _ rfl) ⟨rfl,by simp[aC,wB,y0,y1,yq]⟩
      ·have X:=Lb aO y0 y1 hw5 hos hat hat2 ha3.1 ha3.2 hb3.1 hb3.2
       (refine run ?_)
       exact Fin.aS (n0:=H.length) hR rfl hC' hcl (.same _ rfl) ⟨rfl,by simp[aC,wB,y0,y1,yq]⟩
    ·by_cases y0:y=0
     ·have X:=wh aO y0 hw5 hos hat hat2 ha3.1 ha3.2 hb3.1 hb3.2
      (refine run ?_)
      exact Fin.aS (n0:=H.length) hR rfl hC' hcl (.same _ rfl) ⟨rfl,by simp[aC,wB,y0]⟩
     ·by_cases y1:y= -1
      ·have X:=wh aO y1 hw5 hos hat hat2 ha3.1 ha3.2 hb3.1 hb3.2
       (refine run ?_)
       exact Fin.aS (n0:=H.length) hR rfl hC' hcl (.same _ rfl) ⟨rfl,by simp[aC,wB,y0,y1,yq]⟩
      ·have X:=Lb aO y0 y1 hw5 hos hat hat2 ha3.1 ha3.2 hb3.1 hb3.2
       (refine run ?_)
       exact Fin.aS (n0:=H.length) hR rfl hC' hcl (.same _ rfl) ⟨rfl,by simp[aC,wB,y0,y1,yq]⟩
theorem Po:∀ k s,(dy k s).wt≤s.wt:=by
 refine j6 (fun k s h=>?_) (fun k op n a b ha hb=>?_)
 ·rw[(mD h).1]
  have:=s.bZ
  have:(cI s.n).wt=1:=rfl
  omega
 ·rw[o8]
  simp only[c7,Ex.wt,cn,aV,cf,List.length_nil,Sm.wt,nq]
  omega
theorem ME (k:Nat) (s:Sm):∃ E,cD (cR (dy k s))=cR E∧∀ v,kz k s=some v→E=cI v:=by
 obtain⟨E,h1,h2⟩:=MG k s
 by_cases h0:bJ (cR E)=0
 ·refine⟨E,by unfold cD;rw[h1,if_pos h0],fun v hv=>?_⟩
  rw[hv] at h2;exact h2
 ·refine⟨dy k s,by unfold cD;rw[h1,if_neg h0],fun v hv=>?_⟩
  rw[hv] at h2
  have h2:E=cI v:=h2
  subst h2
  exact absurd (Jl v) h0
theorem Cw (E:Ex) {xe:List SV} (h:E.cells=xe):(cR E).sv= .agg [.list 4 (ay kh),.list 9 [.agg [.str [77,97,105,110,46,109,97,105,110],.int .i64 3,.str [],.int .i64 0,.int .i64 0,.list 1 [.str [115]],.list 8 [.agg [.int .i64 7,.str [80,114,105,109,46,66,111,120],.int .i64 0,.int .i64 0,.list 1 [],.list 8 [.agg xe],.list 9 [],.list 12 []]],.list 9 [],.list 12 []]]]:=by subst h;rfl
theorem rN (G:Gl) (hG:ah G) (hB0:dW G 0) (C0:Cx) (hb0:G.base=some C0) (hl0:lZ C0) (haw:∀ H,aq Tryz.prog G 8 [] H (fun r H'=>H'=H∧r= .bool true)) (s:Sm) (H:List av) (hw:s.wt<67108000):
 aq Tryz.prog G 5 [s.sv] H (fun r H'=>H'=H∧r= .bool true):=by
 have hex:=fun H=>y9 G hG 41 s (by decide) (by omega) H
 have hva:=fun H=>vW G hG 41 s (by decide) (by omega) H
 rw[show(((41 - 41:Nat):Int))=0 from rfl] at hex hva
 have hew:=Po 41 s
 have hbd:=fun H=>As G hG (dy 41 s) (by omega) H
 have hpw:aV (cR (dy 41 s)).binds<67108864:=by
  have:aV (cR (dy 41 s)).binds=(dy 41 s).wt+4:=by simp only[cR,df,ed,aV,Bd.wt,Ex.wt,cn,cf,List.length_nil,List.length_cons];omega
  omega
 have hbn:∀ x∈aU (cR (dy 41 s)).binds,x.length<4294967296:=by
  have h4:=Is 41 s
  have:aU (cR (dy 41 s)).binds=[ct,[115]]:=by
   show(ct::iF (df [[115]] (ed jc [dy 41 s])))++[]=_
   rw[df,la,ed]
   simp only[List.flatMap_cons,List.flatMap_nil,la,h4]
   rfl
  rw[this]
  decide
 have hlin:=fun H=>iM G hG (cR (dy 41 s)) H (by omega) (by show 4<_;decide)
 have hlz:=fun hs=>Ff 41 s (by decide) hs
 have hps:=fun h0 H=>nD G hG hB0 C0 hb0 hl0 (cR (dy 41 s)) (vp h0 hpw hbn) (by show 4≤1000;decide) (fun i hi=>(fh i (by unfold NN L0 at hi;omega)).2) (fun s h=>h) (by unfold L0;omega) H
 obtain⟨E',hE1,hE2⟩:=ME 41 s
 rw[hE1] at hps
 generalize dy 41 s=E at*
 generalize kz 41 s=V at*
 have hx8:=E.au
 have hxT:=E.ao
 have hxu:=E.aw
 rw[show E.sv= .agg E.cells from rfl] at hex hbd
 rw[Cw E rfl] at hlin hps
 rw[Cw E' rfl] at hps
 have hy8:=E'.au
 have hyT:=E'.ao
 generalize E.cells=xe at*
 have hs3:s.cells.length=3∧s.cells.take 3=s.cells:=by cases s;exact⟨rfl,rfl⟩
 rw[show s.sv= .agg s.cells from rfl] at*
 generalize s.cells=xs at*
 have c1:=haw
 have c2:=hex
 have cC:=fun n=>aX n kh
 refine bP [] Tryz.func5 Tryz.ntmps5 fun C R' hR hC hcl hB hC' X=>?_
 have X:=j8 aO hx8 hxT hs3.1 hs3.2
 (refine run ?_)
 refine br (hbd _) ?_
 rintro r H' ⟨n,b,⟨rfl,rfl⟩,hb⟩
 cases b
 ·(refine run ?_)
  exact aZ (n0:=H.length) hR hC' hcl (.same _ rfl) ⟨rfl,rfl⟩
 have hsz:=hb rfl
 have hl0':=hlz hsz
 rw[hl0'] at hlin
 have c3:=hlin
 have c4:=hps hl0'
 have c5:=hva
 have c6:=fun H=>K0 G hG H
 cases V with
 |none=>
  simp only[Option.getD_none,Option.isSome_none] at c5
  generalize E'.cells=ye at*
  have X:=eu aO hx8 hxT hs3.1 hs3.2 hy8 hyT
  (refine run ?_;with_reducible repeat' first|exact trivial|(apply aJ.mk<;>intro hb)|apply bN.mk)
  all_goals exact aZ (n0:=H.length) hR hC' hcl (.same _ rfl) ⟨rfl,rfl⟩
 |some v=>
  obtain rfl:=hE2 v rfl
  simp only[Option.getD_some,Option.isSome_some] at c5
  rw[show(cI v).cells=[.int .i64 2,.str [],.int .i64 v,.int .i64 0,.list 1 [],.list 8 [],.list 9 [],.list 12 []] from rfl] at c4 hy8 hyT
  have hsm:=fun H=>z8 G hG 1 (cI v) (cI v) H (by show 1≤1;decide) (by show 1<_;decide) (by show 1<_;decide)
  rw[vM 1 (cI v) (Nat.le_refl _),show(cI v).sv= .agg [.int .i64 2,.str [],.int .i64 v,.int .i64 0,.list 1 [],.list 8 [],.list 9 [],.list 12 []] from rfl] at hsm
  have X:=oD aO hx8 hxT hs3.1 hs3.2 hy8
  (refine run ?_;with_reducible repeat' first|exact trivial|(apply aJ.mk<;>intro hb)|apply bN.mk)
  all_goals
   refine br (hsm _) ?_
   rintro r H' ⟨rfl,rfl⟩
   (refine run ?_)
   exact aZ (n0:=H.length) hR hC' hcl (.same _ rfl) ⟨rfl,by simp[aC]⟩
section
open Go Go.ChangeShapes Go.WideShapes Go.RowKit
section
variable {H:Type} {enc:TypeId×Value→H} {W:World} {sp:Nat→Bool}
theorem yh:∀ l:List Sm,nq l=(l.map Sm.wt).sum
 |[]=>rfl
 |s::r=>by simp only[nq,List.map_cons,List.sum_cons,yh r]
theorem MJ (n:Nat):Rd enc Tryz.prog W sp n 43 Sm.cells Sm.wt:=by
 induction n using Nat.strongRecOn with
 |_ n ih=>
 intro cs x hx
 obtain⟨xs,m,rfl,rfl,hl,hlen,hf⟩:=DataW.trod_struct Tryz.underlying43 hx
 obtain⟨z0,z1,z2,rfl⟩:∃ z0 z1 z2,xs=[z0,z1,z2]:=by
  match xs,(show xs.length=3 from hlen) with
  |[a,b,c],_=>exact⟨a,b,c,rfl⟩
 have hsz:Tryz.prog.cellsOf 43=3:=by kernel_rfl
 have hsubs:∀ m',m=m'+1→Rd enc Tryz.prog W sp m' 43 Sm.cells Sm.wt:=fun m' e=>ih m' (by omega)
 obtain⟨y0,k,e0,g0,w0⟩:=b8 hf 0 0 1 (by kernel_rfl) (by kernel_rfl) (fN m) (by simp)
 obtain⟨y1,i,e1,g1,w1⟩:=b8 hf 1 1 1 (by kernel_rfl) (by kernel_rfl) (fN m) (by simp)
 obtain⟨y2,ae,e2,g2,w2⟩:=b8 hf 2 2 1 (by kernel_rfl) (by kernel_rfl) (jx (t:=41) (e:=43) true (by kernel_rfl) (by kernel_rfl) (n:=3) (by kernel_rfl) (by omega) (.inl rfl) hsubs) (by simp)
 rw[hsz] at hl
 refine⟨.mk k i ae,?_,by rw[hsz,hl],?_⟩
 ·have:(Sm.mk k i ae).cells=[.int .i64 k]++([.int .i64 i]++([.list 3 (ae.map fun x=>bx true x.cells)]++[])):=by simp only[Sm.cells,np];rfl
  rw[this,← List.drop_zero (l:=cs)]
  refine .cut g0 (.cut g1 (.cut g2 ?_))
  rw[List.drop_eq_nil_of_le (by omega)]
  exact .nil
 ·cases e0;cases e1;cases e2
  simp only[Rows.uptoBulk,Rows.uptoBulkAll,List.map_cons,List.map_nil,Sm.wt,yh]
  omega
end
end
end Go.Proofs.YtjdfoonhnmpkdaaGreatDoor
section
open Go
namespace Go.Proofs.YtjdfoonhnmpkdaaGreatDoor.simplifyFolds
open Go Go.ChangeShapes Go.WideShapes Go.RowKit
set_option maxRecDepth 100000 in
theorem je (H:Type) (enc:TypeId×Value→H) (W:World) (base:Nat) (args:Array Value) (ds gs:List (DataW H)) (before:List MemPlace)
 (hval:∀ (j:Nat) t v,Tryz.f5.params[j]? =some t→args[j]? =some v→Value.okWide Tryz.prog W .any base t v)
 (hW:DataW.Whole enc Tryz.prog Tryz.f5.params.toList Rows.simplifyFoldsSpec.vars false W args.toList ds gs before) (hL:laidMetH Tryz.prog Rows.simplifyFoldsUptoRow.laid W) (hk:Rows.uptoSmall H (ds++gs)=true):
 Calls Tryz.prog 5 args W fun e W'=>∃ v,e= .returned v∧Rows.simplifyFoldsSpec.post enc Tryz.prog Tryz.f5 false true false false W args v W':=by
 have hW':=hW
 obtain⟨p,q,hA0,hV,rfl,hfz,hnd⟩:=hW
 have hA:DataW.TrodAll enc Tryz.prog W 0 (fun _=>true) true Tryz.f5.params.toList args.toList ds p:=hA0
 rw[Tryz.params5] at hA hval
 obtain⟨v0,vs0,d0,ds0,p0,q0,hargs,rfl,rfl,h0,r0⟩:=trodAll_cons hA
 obtain⟨rfl,rfl,rfl⟩:=trodAll_nil r0
 obtain rfl:args= #[v0]:=by cases args;simp_all
 obtain⟨rfl,rfl⟩:=trodVars_none hV
 obtain⟨cs0,rfl,_⟩:=okWide_struct Tryz.underlying43 (hval 0 43 v0 (by simp) (by simp))
 obtain⟨fuel0,hf0⟩:=h0
 obtain⟨e0,hg0,_,hw0⟩:=MJ fuel0 _ _ hf0
 have hbulk:e0.wt≤1048576:=by
  simp only[Rows.uptoSmall,decide_eq_true_eq,List.append_nil,Rows.uptoBulkAll] at hk
  simp only at hw0
  omega
 refine(lL (args:=[e0.sv]) (vs:=[.agg cs0]) (rN (GB W) (im W) (yG W) (vt W) rfl (sC hL) (pG (GB W) (im W) (vt W) rfl (sC hL)) e0 [] (by omega)) (L6 W) ?_ (fun W'=>qz laid rfl hW' ?_ rfl (by kernel_rfl) rfl rfl rfl)).mono ?_
 ·refine ax.bG ?_ (ax.bQ)
  ·simp only[Sm.sv,aB];exact⟨cs0.toList,hg0.1,hg0.2,rfl⟩
 ·intro t ht
  rw[Tryz.params5] at ht
  simp only[List.mem_cons,List.not_mem_nil,or_false] at ht
  rcases ht with rfl<;>exact⟨by kernel_rfl,of_decide_eq_true (by kernel_rfl)⟩
 ·rintro _ W' ⟨v,rfl,rfl,hp⟩
  exact⟨_,rfl,hp⟩
theorem jr (os:Os):laidMet Tryz.prog Rows.simplifyFoldsUptoRow.laid ((dD os).forCall (fun _ _=>0) ⟨#[],#[Value.agg #[.int .i64 0,.int .i64 0,.slice none 0 0]],[]⟩).memory:=
 laidMet_of_run' 8 (by kernel_rfl) (by kernel_rfl)
theorem reads (os:Os) {H:Type} (enc:TypeId×Value→H):∃ places,DataW.whole enc Tryz.prog ((dD os).forCall (fun _ _=>0) ⟨#[],#[Value.agg #[.int .i64 0,.int .i64 0,.slice none 0 0]],[]⟩).memory Tryz.f5.params.toList Rows.simplifyFoldsSpec.vars false (#[Value.agg #[.int .i64 0,.int .i64 0,.slice none 0 0]]:Array Value).toList 8=some ([.agg [.lit (.int .i64 0),.lit (.int .i64 0),.nil]],[],places):=
 ⟨[],by kernel_rfl⟩
set_option maxRecDepth 100000 in
theorem lifted (os:Os) (started:os.Started) (H:Type) (enc:TypeId×Value→H) (F:Stop.Interp):
 ReturnsInHanded {} Tryz.checked os 5 .any ((Rows.OpenSpec.upto Rows.simplifyFoldsSpec).preRow enc Tryz.prog Tryz.f5 Rows.simplifyFoldsUptoRow.domain false Rows.simplifyFoldsUptoRow.laid) (((Rows.OpenSpec.upto Rows.simplifyFoldsSpec).at F).post enc Tryz.prog Tryz.f5 false true false false):=by
 obtain⟨places,hx⟩:=reads os enc
 refine returnsInHanded_of_row (C:=Tryz.checked) (s:=Rows.OpenSpec.upto Rows.simplifyFoldsSpec) own started (by kernel_rfl) Tryz.func5
  (witness_row_at (enc:=enc) (C:=Tryz.checked) false (dD os) #[Value.agg #[.int .i64 0,.int .i64 0,.slice none 0 0]] rfl (by kernel_rfl) (by kernel_rfl) (by kernel_rfl)
   (OpenSpec.preRow_of_cond 8 hx (by kernel_rfl) (fun k hk=>by cases hk;kernel_rfl) (by kernel_rfl) (jr os))) ?_
 intro W base args ds gs before hval hW _ hcond _ hL _ _
 exact je H enc W base args ds gs before hval hW hL (hcond _ rfl)
theorem said:Rows.SimplifyFoldsUptoSaid:=
 OpenClaim.holds_of_cond 5 Tryz.f5 rfl rfl rfl rfl rfl rfl rfl ⟨rfl,rfl,rfl,rfl,rfl⟩ rfl rfl rfl rfl rfl (by kernel_rfl) Tryz.func5 (by kernel_rfl)
  (of_decide_eq_true (by kernel_rfl)) (by unfold Func.isWrapper;first|(rw[if_pos (by decide+kernel)];kernel_rfl)|(rw[if_neg (by decide+kernel)];exact⟨rfl,rfl⟩))
  (fun os started H enc _ F=>by rw[OpenClaim.pre_eq_preRow];exact lifted os started H enc F)
theorem plain (f:FuncId) (fn:Func) (hf:Tryz.pinned.checked.prog.funcNamed "teasel/teasellaw14.SimplifyFolds" =some f) (hfn:Tryz.pinned.checked.prog.funcs[f]? =some fn):
 true=Tryz.pinned.checked.prog.looks []∧∀ (j:Nat) t,fn.params[j]? =some t→Tryz.pinned.checked.prog.wantsStandIn t=false:=by
 obtain rfl:f=5:=Option.some.inj ((show Tryz.prog.funcNamed "teasel/teasellaw14.SimplifyFolds" =some 5 by kernel_rfl).symm.trans hf)|>.symm
 obtain rfl:fn=Tryz.f5:=(Option.some.inj (Tryz.func5.symm.trans hfn)).symm
 refine⟨by kernel_rfl,fun j t ht=>?_⟩
 rw[Tryz.params5] at ht
 have hm:=Array.mem_of_getElem? ht
 have hm2:t=43:=by
  have h3:t=43:=by simpa using hm
  rcases h3 with rfl<;>simp
 subst hm2
 ·exact(show Tryz.prog.wantsStandIn 43=false by kernel_rfl)
theorem proved:Rows.SimplifyFoldsUptoCardSaid:=
 Claim7.holds_tied_plain_at .later [] _ _ _ _ said (fun _ h=>by cases h) (by kernel_rfl) (fun _ h=>by cases h) simplifyFoldsUpto_row_tie rfl ⟨rfl,rfl⟩ (by kernel_rfl) rfl plain (by kernel_rfl)
end Go.Proofs.YtjdfoonhnmpkdaaGreatDoor.simplifyFolds
end
namespace Go.Proofs.YtjdfoonhnmpkdaaGreatDoor
open Go
end Go.Proofs.YtjdfoonhnmpkdaaGreatDoor
