/- A part of the proof: H1, M1, M2, M3, M4, H2, H3, H4, H5, H6. Names and spaces are cut short by program. -/
import Derived.Test.YtedejleokilohaaGreatDoorMj
set_option linter.unusedSimpArgs false
set_option linter.unusedVariables false
set_option maxRecDepth 10000
set_option maxHeartbeats 4000000
namespace Go.Proofs.YtedejleokilohaaGreatDoor
open Go
theorem su (G:Gl) (hG:aw G) (e:Ex) (H:List az):ag Tryz.prog G 72 [e.sv] H (fun r H'=>H'=H∧r= .bool (pn e)):=by
 have h1:pn e=(decide (e.kind=1)||decide (e.kind=2)):=rfl
 rw[h1]
 obtain⟨k2,n2,nn2,op2,ns2,ss2,bs2,as2⟩:=e
 simp only[Ex.kind]
 refine ag.aK TB [] aF _ Tryz.func72 rfl (by decide) Tryz.ntmps72 (by simp) rfl (by simp only[au,Nat.reduceAdd];rfl) fun C R' hR hC hcl hB=>?_;have X:=aO;have hC':=congrArg List.length hC
 by_cases hk:k2=1
 ·have X:=And.intro aO hk
  (refine run ?_;with_reducible repeat' first|exact trivial|(apply af.mk<;>intro hb)|apply ax.mk)
  exact aS (n0:=H.length) hR hC' hcl (.same _ rfl) ⟨rfl,by first|(simp[hk,pk,bA];done)|(simp[hk,pk,bA];congr)⟩
 ·have X:=And.intro aO hk
  (refine run ?_;with_reducible repeat' first|exact trivial|(apply af.mk<;>intro hb)|apply ax.mk)
  exact aS (n0:=H.length) hR hC' hcl (.same _ rfl) ⟨rfl,by first|(simp[hk,pk,bA];done)|(simp[hk,pk,bA];congr)⟩
theorem oG (G:Gl) (hG:aw G) (e:Ex) (H:List az):ag Tryz.prog G 73 [e.sv] H (fun r H'=>H'=H∧r= .agg [.str e.name,.int .i64 e.n]):=by
 obtain⟨k2,n2,nn2,op2,ns2,ss2,bs2,as2⟩:=e
 simp only[Ex.name,Ex.n]
 refine ag.aK TB [] aF _ Tryz.func73 rfl (by decide) Tryz.ntmps73 (by simp) rfl (by simp only[au,Nat.reduceAdd];rfl) fun C R' hR hC hcl hB=>?_;have X:=aO;have hC':=congrArg List.length hC
 (refine run ?_;with_reducible repeat' first|exact trivial|(apply af.mk<;>intro hb)|apply ax.mk)
 exact aS (n0:=H.length) hR hC' hcl (.same _ rfl) ⟨rfl,rfl⟩
theorem kh (G:Gl) (hG:aw G) (s:aI) (H:List az):ag Tryz.prog G 75 [.str s] H (fun r H'=>H'=H∧r= .agg [.str s,.int .i64 0]):=by
 refine ag.aK TB [] aF _ Tryz.func75 rfl (by decide) Tryz.ntmps75 (by simp) rfl (by simp only[au,Nat.reduceAdd];rfl) fun C R' hR hC hcl hB=>?_;have X:=aO;have hC':=congrArg List.length hC
 (refine run ?_;with_reducible repeat' first|exact trivial|(apply af.mk<;>intro hb)|apply ax.mk)
 exact aS (n0:=H.length) hR hC' hcl (.same _ rfl) ⟨rfl,rfl⟩
theorem vv (G:Gl) (hG:aw G) (l:List Sb) (b:List SV) (hb:b.length=7) (H:List az) (hbu:SV.aB H.length b=true):ag Tryz.prog G 117 [.list 8 (aX l),.agg b] H (fun r H'=>H'=H∧r= .agg [.int .i64 6,.str [],.int .i64 0,.list 2 [],.list 7 [.agg b],.list 8 (aX l),.list 11 []]):=by
 match b,hb with
 |[b0,b1,b2,b3,b4,b5,b6],_=>
  have hu:=aY H.length l
  refine ag.aK TB [] aF _ Tryz.func117 rfl (by decide) Tryz.ntmps117 (by simp) rfl (by simp only[au,Nat.reduceAdd];rfl) fun C R' hR hC hcl hB=>?_;have X:=aO;have hC':=congrArg List.length hC
  (refine run ?_;with_reducible repeat' first|exact trivial|(apply af.mk<;>intro hb)|apply ax.mk)
  exact aS (n0:=H.length) hR hC' hcl (.same _ (by simp only[bA,SV.under,SV.aB,hu,Bool.and_true,Bool.true_and];simpa only[SV.aB,Bool.and_true] using hbu)) ⟨rfl,rfl⟩
theorem pD (G:Gl) (hG:aw G) (x:Sg) (s:aI) (b:List SV) (hb:b.length=7) (H:List az) (hbu:SV.aB H.length b=true):ag Tryz.prog G 120 [.agg x.cells,.str s,.agg b] H (fun r H'=>H'=H∧r= .agg [.int .i64 5,.str s,.int .i64 0,.list 2 [],.list 7 [.agg x.cells],.list 8 [],.list 11 [.agg ([.int .i64 3,.str [],.int .i64 0,.list 1 []]++b)]]):=by
 have hu:=Sg.aP H.length x
 have hx7:=x.aH
 have hx7t:=x.aU
 have hx7d:x.cells.drop 7=[]:=List.drop_eq_nil_of_le (by omega)
 generalize x.cells=xc at*
 match b,hb with
 |[b0,b1,b2,b3,b4,b5,b6],_=>
  refine ag.aK TB [] aF _ Tryz.func120 rfl (by decide) Tryz.ntmps120 (by simp) rfl (by simp only[au,Nat.reduceAdd];rfl) fun C R' hR hC hcl hB=>?_;have X:=aO;have hC':=congrArg List.length hC
  have X:=And.intro aO (And.intro hx7 (And.intro hx7t hx7d))
  (refine run ?_;with_reducible repeat' first|exact trivial|(apply af.mk<;>intro hb)|apply ax.mk)
  exact aS (n0:=H.length) hR hC' hcl (.same _ (by simp only[bA,SV.under,SV.aB,hu,List.cons_append,List.nil_append,Bool.and_true,Bool.true_and];simpa only[SV.aB,Bool.and_true] using hbu)) ⟨rfl,rfl⟩
theorem gk (G:Gl) (hG:aw G) (mb g0 nx:Nat) (kb:SV) (H:List az) (h2:H[mb]? =some (.cells g0 2 [.agg [.int .i64 (nx:Int),kb]])) (hn:nx<4294967295):
 ag Tryz.prog G 74 [.ptr mb g0 0 0] H (fun r H'=>H'=H.set mb (.cells g0 2 [.agg [.int .i64 ((nx+1:Nat):Int),kb]])∧r= .str (eB bW nx)):=by
 have c1:=fun H=>BV G hG nx (by omega) H
 have lm:=(List.getElem?_eq_some_iff.1 h2).1
 generalize eB bW nx=s at*
 have hg2:(H.set mb (.cells g0 2 [.agg [.int .i64 ((nx+1:Nat):Int),kb]]))[mb]? =some (.cells g0 2 [.agg [.int .i64 ((nx+1:Nat):Int),kb]]):=List.getElem?_set_self lm
 refine ag.aK TB [] aF _ Tryz.func74 rfl (by decide) Tryz.ntmps74 (by simp) rfl (by simp only[au,Nat.reduceAdd];rfl) fun C R' hR hC hcl hB=>?_;have X:=aO;have hC':=congrArg List.length hC
 have hww:=wrap_i64 ((nx+1:Nat):Int) (by omega)
 have hww2:=wrap_i64 (nx:Int) (by omega)
 have e1:(nx:Int)+1=((nx+1:Nat):Int):=by omega
 have e2:((nx+1:Nat):Int) - 1=(nx:Int):=by omega
 have X:=And.intro aO (And.intro h2 (And.intro e1 (And.intro hww (And.intro e2 (And.intro hww2 hg2)))))
 (refine run ?_;with_reducible repeat' first|exact trivial|(apply af.mk<;>intro hb)|apply ax.mk)
 exact Fin.out hR ⟨rfl,rfl⟩
def kL:List aI→aI→List aI
 |[],s=>[s]
 |x::r,s=>if x<s then x::kL r s else s::x::r
abbrev yh (l:List aI):Prop:=l.Pairwise (fun x y=>x<y)
theorem rL {s t:aI}:∀ {o:List aI},t∈kL o s↔t=s∨t∈o
 |[]=>by simp[kL]
 |x::r=>by
  rw[kL]
  split
  ·rw[List.mem_cons,rL,List.mem_cons]
   constructor
   ·rintro (h|h|h)
    ·exact .inr (.inl h)
    ·exact .inl h
    ·exact .inr (.inr h)
   ·rintro (h|h|h)
    ·exact .inr (.inl h)
    ·exact .inl h
    ·exact .inr (.inr h)
  ·simp only[List.mem_cons]
theorem wX (s:aI):∀ o:List aI,(kL o s).length=o.length+1
 |[]=>rfl
 |x::r=>by
  rw[kL]
  split
  ·rw[List.length_cons,wX s r,List.length_cons]
  ·rfl
theorem FT {a b:aI} (h:¬ a<b) (hn:a≠b):b<a:=by
 rcases Classical.em (b<a) with h3|h3
 ·exact h3
 ·exact(hn (List.le_antisymm h3 h)).elim
theorem tO {s:aI}:∀ {o:List aI},yh o→s∉o→yh (kL o s)
 |[],_,_=>by simp[kL,yh]
 |x::r,h,hs=>by
  have h1:=List.pairwise_cons.1 h
  have hne:x≠s:=fun e=>hs (e ▸ List.mem_cons_self ..)
  rw[kL]
  split
  ·rename_i hlt
   refine List.pairwise_cons.2 ⟨fun t ht=>?_,tO h1.2 (fun h=>hs (List.mem_cons_of_mem _ h))⟩
   rcases rL.1 ht with rfl|ht
   ·exact hlt
   ·exact h1.1 t ht
  ·rename_i hlt
   have hsx:=FT hlt hne
   refine List.pairwise_cons.2 ⟨fun t ht=>?_,h⟩
   rcases List.mem_cons.1 ht with rfl|ht
   ·exact hsx
   ·exact List.lt_trans hsx (h1.1 t ht)
theorem xJ:∀ {a b:List aI},yh a→yh b→(∀ s,s∈a↔s∈b)→a=b
 |[],[],_,_,_=>rfl
 |[],y::t,_,_,h=>by simpa using (h y).2 (List.mem_cons_self ..)
 |x::r,[],_,_,h=>by simpa using (h x).1 (List.mem_cons_self ..)
 |x::r,y::t,ha,hb,h=>by
  have h1:=List.pairwise_cons.1 ha
  have h2:=List.pairwise_cons.1 hb
  have hxy:x=y:=by
   rcases List.mem_cons.1 ((h x).1 (List.mem_cons_self ..)) with e|e
   ·exact e
   rcases List.mem_cons.1 ((h y).2 (List.mem_cons_self ..)) with e2|e2
   ·exact e2.symm
   exact(List.lt_irrefl (α:=UInt8) _ (List.lt_trans (h1.1 y e2) (h2.1 x e))).elim
  subst hxy
  refine congrArg (x:: ·) (xJ h1.2 h2.2 fun s=>⟨fun hs=>?_,fun hs=>?_⟩)
  ·rcases List.mem_cons.1 ((h s).1 (List.mem_cons_of_mem _ hs)) with e|e
   ·subst e;exact(List.lt_irrefl (α:=UInt8) _ (h1.1 s hs)).elim
   ·exact e
  ·rcases List.mem_cons.1 ((h s).2 (List.mem_cons_of_mem _ hs)) with e|e
   ·subst e;exact(List.lt_irrefl (α:=UInt8) _ (h2.1 s hs)).elim
   ·exact e
def jC:Nat→Ex→List aI→List aI→List aI
 |0,_,_,out=>out
 |m+1,e,gn,out=>if e.kind=1 then (if e.name∈gn∨e.name∈out then out else kL out e.name) else (aR e).foldl (fun o p=>jC m p.1 (gn++p.2) o) out
theorem xH:∀ (m:Nat) (e:Ex) (gn out:List aI),yh out→yh (jC m e gn out)
 |0,_,_,_,h=>h
 |m+1,e,gn,out,h=>by
  rw[jC]
  split
  ·split
   ·exact h
   ·rename_i hn
    exact tO h (fun h2=>hn (.inr h2))
  ·generalize aR e=l
   induction l generalizing out with
   |nil=>exact h
   |cons p l ih=>exact ih _ (xH m p.1 _ _ h)
theorem Ao:∀ (m:Nat) (e:Ex) (gn out:List aI),(jC m e gn out).length≤out.length+e.wt
 |0,_,_,_=>by simp[jC]
 |m+1,e,gn,out=>by
  rw[jC]
  have hp:=e.bz
  split
  ·split
   ·omega
   ·rw[wX];omega
  ·have hs:=pF e
   generalize aR e=l at hs
   have key:∀ (l:List (Ex×List aI)) (o:List aI),(l.foldl (fun o p=>jC m p.1 (gn++p.2) o) o).length≤o.length+(l.map fun p=>p.1.wt).sum:=fun l=>by
    induction l with
    |nil=>intro o;exact Nat.le_refl _
    |cons p l ih=>
     intro o
     rw[List.foldl_cons]
     have h1:=ih (jC m p.1 (gn++p.2) o)
     have h2:=Ao m p.1 (gn++p.2) o
     simp only[List.map_cons,List.sum_cons]
     omega
   have:=key l out
   omega
theorem Ap:∀ (m:Nat) (e:Ex) (gn out:List aI) (st:BO),(∀ t,cK st.1 t=(gn.count t:Int))→(∀ t,t∈out↔t∈st.2)→∀ t,t∈jC m e gn out↔t∈(dN m e st).2
 |0,_,_,_,_,_,ho,t=>ho t
 |m+1,e,gn,out,st,hb,ho,t=>by
  rw[jC,dN]
  split
  ·have hz:cK st.1 e.name=0↔e.name∉gn:=by
    rw[hb]
    constructor
    ·intro h hm
     have:=List.count_pos_iff.2 hm
     omega
    ·intro h
     rw[List.count_eq_zero.2 h];rfl
   by_cases h1:e.name∈gn
   ·rw[if_pos (.inl h1),if_neg (fun h=>hz.1 h h1)]
    exact ho t
   ·rw[if_pos (hz.2 h1)]
    simp only[h1,false_or,j9]
    by_cases h2:e.name∈out
    ·rw[if_pos h2,if_pos ((ho _).1 h2)];exact ho t
    ·rw[if_neg h2,if_neg (fun h=>h2 ((ho _).2 h)),rL,List.mem_append,List.mem_singleton,ho]
     exact Or.comm
  ·generalize aR e=l
   induction l generalizing out st with
   |nil=>exact ho t
   |cons p l ih=>
    rw[List.foldl_cons,List.foldl_cons]
    refine ih (jC m p.1 (gn++p.2) out) (fo (dN m) st p) (fun t=>?_) (fun t=>?_)
    ·rw[mu,hb]
    ·exact Ap m p.1 (gn++p.2) out (jx st.1 p.2,st.2) (fun t=>by simp only[gM,hb,List.count_append];omega) ho t
theorem D4 (e:Ex):jC e.wt e [] []=cz e:=
 xJ (xH _ _ _ _ List.Pairwise.nil) (CO e) fun s=>by
  rw[Ap e.wt e [] [] ([],[]) (fun t=>by simp[cK]) (fun t=>Iff.rfl),cz,(gm _).mem_iff]
theorem zV {s:aI}:∀ {o:List aI} {i:Nat},i≤o.length→(∀ (k:Nat) (h:k<o.length),k<i→o[k]<s)→kL o s=o.take i++kL (o.drop i) s
 |o,0,_,_=>by simp
 |[],i+1,h,_=>by simp at h
 |x::r,i+1,h,hl=>by
  have h0:x<s:=hl 0 (by simp) (by omega)
  rw[kL,if_pos h0,List.take_succ_cons,List.drop_succ_cons,List.cons_append,zV (by simpa using h) (fun k hk hki=>hl (k+1) (by simpa using hk) (by omega))]
theorem De {s:aI} {o:List aI} {i:Nat} (hi:i≤o.length) (hl:∀ (k:Nat) (h:k<o.length),k<i→o[k]<s) (he:∀ h:i<o.length,¬ o[i]<s):kL o s=o.take i++s::o.drop i:=by
 rw[zV hi hl]
 rcases Nat.lt_or_ge i o.length with h|h
 ·rw[List.drop_eq_getElem_cons h,kL,if_neg (he h)]
 ·rw[List.drop_of_length_le h];rfl
theorem FL (m:Nat) (e:Ex) (hk:e.kind≠1) (gn out:List aI):∃ O:Nat→List aI,O 0=out∧(∀ j p,(aR e)[j]? =some p→O (j+1)=jC m p.1 (gn++p.2) (O j)∧(O j).length+p.1.wt≤out.length+e.wt)∧O (aR e).length=jC (m+1) e gn out:=by
 have hs:=pF e
 have key:∀ (l:List (Ex×List aI)) (o:List aI),(l.foldl (fun o p=>jC m p.1 (gn++p.2) o) o).length≤o.length+(l.map fun p=>p.1.wt).sum:=fun l=>by
  induction l with
  |nil=>intro o;exact Nat.le_refl _
  |cons p l ih=>
   intro o
   rw[List.foldl_cons]
   have h1:=ih (jC m p.1 (gn++p.2) o)
   have h2:=Ao m p.1 (gn++p.2) o
   simp only[List.map_cons,List.sum_cons]
   omega
 refine⟨fun j=>((aR e).take j).foldl (fun o p=>jC m p.1 (gn++p.2) o) out,by simp,fun j p hp=>?_,by rw[jC,if_neg hk];simp only[List.take_length]⟩
 obtain⟨hj,rfl⟩:=List.getElem?_eq_some_iff.1 hp
 refine⟨by simp only;rw[List.take_succ_eq_append_getElem hj,List.foldl_append];rfl,?_⟩
 have h1:=key ((aR e).take j) out
 have h2:(((aR e).take j).map fun p=>p.1.wt).sum+(aR e)[j].1.wt≤((aR e).map fun p=>p.1.wt).sum:=by
  conv=>rhs;rw[← List.take_append_drop j (aR e),List.drop_eq_getElem_cons hj]
  simp only[List.map_append,List.map_cons,List.sum_append,List.sum_cons]
  omega
 simp only
 omega
theorem oK (G:Gl) (hG:aw G) (a b:List aI) (ha:a.length<549755813888) (hb0:b.length<549755813888) (H:List az):
 ag Tryz.prog G 148 [.list 1 (a.map .str),.list 1 (b.map .str)] H (fun r H'=>H'=H∧r= .list 1 ((a++b).map .str)):=by
 have h1:(a.map SV.str).length=a.length:=by simp
 have h2:(b.map SV.str).length=b.length:=by simp
 have hu:SV.aB H.length ((a++b).map SV.str)=true:=SV.bX fun _ _=>rfl
 rw[List.map_append] at hu ⊢
 generalize a.map SV.str=A at*
 generalize b.map SV.str=B at*
 refine ag.aK TB [5] aF _ Tryz.func148 rfl (by decide) Tryz.ntmps148 (by simp) rfl (by simp only[au,Nat.reduceAdd];rfl) fun C R' hR hC hcl hB=>?_;have X:=aO;have hC':=congrArg List.length hC
 have X:=And.intro X (And.intro h1 h2)
 (refine run ?_;with_reducible repeat' first|exact trivial|(apply af.mk<;>intro hb)|apply ax.mk)
 exact aS (n0:=H.length) (y:= .list 1 (A++B)) hR hC' hcl (bV.sf (by rw[dh];rfl) (by omega) (by simp) (by rw[List.drop_zero,List.take_of_length_le (by simp;omega)]) hu) ⟨rfl,rfl⟩
theorem uf (G:Gl) (hG:aw G) (binds:List Bd) (hb:binds.length<549755813888) (H:List az):
 ag Tryz.prog G 64 [.list 9 (ao binds)] H (fun r H'=>H'=H∧r= .list 1 ((binds.map Bd.name).map .str)):=by
 refine ag.aK TB [3] aF _ Tryz.func64 rfl (by decide) Tryz.ntmps64 (by simp) rfl (by simp only[au,Nat.reduceAdd];rfl) fun C R' hR hC hcl hB=>?_;have X:=aO;have hC':=congrArg List.length hC
 (refine run ?_;with_reducible repeat' first|exact trivial|(apply af.mk<;>intro hb)|apply ax.mk)
 refine aC (fun i:Nat=>[(0,.list 9 (ao binds)),(3,.sl H.length 0 0 i),(4,.int .i64 i)])
  (fun i=>H++[.cells 0 1 ((binds.take i).map fun b=> .str b.name)]) (fun i=>binds.length - i) (fun i=>i≤binds.length) 0 (Nat.zero_le _) ?_ ?_
 ·exact bB (n0:=H.length) [(H.length,0)] hG hB hC' hcl
 rintro K i hi hK
 rcases Nat.lt_or_ge i binds.length with hlt|hge
 ·(refine bP ?_;with_reducible repeat' first|exact trivial|(apply af.mk<;>intro hb)|apply ax.mk)
  refine hK _ _ (i+1) (by omega) (by omega) ?_
  simp only[List.take_succ_eq_append_getElem hlt,List.map_append,List.map_cons,List.map_nil]
  exact bB (n0:=H.length) [(H.length,0)] hG hB hC' hcl
 obtain rfl:i=binds.length:=by omega
 clear hK
 have X:=And.intro aO (Int.lt_irrefl (binds.length:Int))
 (refine run ?_;with_reducible repeat' first|exact trivial|(apply af.mk<;>intro hb)|apply ax.mk)
 refine aS (n0:=H.length) (y:= .list 1 ((binds.map Bd.name).map .str)) hR hC' hcl (bV.sf (by rw[dh];rfl) (by omega) (by simp) ?_ (SV.bX fun _ _=>rfl)) ⟨rfl,rfl⟩
 rw[List.take_length,List.drop_zero,List.take_of_length_le (by simp),List.map_map];rfl
def KP (G:Gl) (m:Nat):Prop:=∀ (e:Ex) (gn out:List aI) (H:List az),e.wt≤m→gn.length+e.wt<549755813888→out.length+e.wt<549755813888→
 ag Tryz.prog G 116 [e.sv,.list 1 (gn.map .str),.list 1 (out.map .str)] H (fun r H'=>H'=H∧r= .list 1 ((jC m e gn out).map .str))
theorem xX {a b:aI}:dK a b=decide (a<b):=by unfold dK;rw[bytesLess_eq]
theorem wY {out:List aI} {nm:aI} {i:Nat} (hi:i≤out.length):List.take (min (i - 0) out.length+(1+min (out.length - i) (List.drop i (out.map SV.str)).length)) (List.drop 0 (List.take (i - 0) (out.map SV.str)++SV.str nm::List.take (out.length - i) (List.drop i (out.map SV.str))))=(out.take i++nm::out.drop i).map SV.str:=by
 simp only[List.drop_zero,Nat.sub_zero]
 rw[List.take_of_length_le (l:=List.drop i _) (by simp),List.take_of_length_le (by simp;omega)]
 simp[List.map_take,List.map_drop]
theorem xI (G:Gl) (hG:aw G):∀ m,KP G m
 |0,e,gn,out,H,h,_,_=>absurd e.bz (by omega)
 |m+1,e,gn,out,H,hm,hwb,hwo=>by
  have hrec:=xI G hG m
  obtain⟨kd,nm,nn,op,names,ad,binds,alts⟩:=e
  have hle:=Ex.cY kd nm nn op names ad binds alts
  by_cases hk:kd=1
  ·subst hk
   have er:jC (m+1) (.mk 1 nm nn op names ad binds alts) gn out=if nm∈gn∨nm∈out then out else kL out nm:=by rw[jC];rfl
   rw[er]
   clear er
   have c1:=fun H=>gC G gn nm H (by omega)
   have c2:=fun H=>gC G out nm H (by omega)
   by_cases h1:nm∈gn
   ·rw[if_pos (.inl h1)]
    simp only[h1,decide_true] at c1
    clear c2
    refine ag.aK TB [9] aF _ Tryz.func116 rfl (by decide) Tryz.ntmps116 (by simp) rfl (by simp only[au,Nat.reduceAdd];rfl) fun C R' hR hC hcl hB=>?_;have X:=aO;have hC':=congrArg List.length hC
    (refine jD ?_;with_reducible repeat' first|exact trivial|(apply af.mk<;>intro hb)|apply ax.mk)
    refine gd rfl trivial ?_
    (refine bP ?_;with_reducible repeat' first|exact trivial|(apply af.mk<;>intro hb)|apply ax.mk)
    exact aS (n0:=H.length) hR hC' hcl (.same _ kX) ⟨rfl,rfl⟩
   simp only[h1,decide_false] at c1
   by_cases hout:nm∈out
   ·rw[if_pos (.inr hout)]
    simp only[hout,decide_true] at c2
    refine ag.aK TB [9] aF _ Tryz.func116 rfl (by decide) Tryz.ntmps116 (by simp) rfl (by simp only[au,Nat.reduceAdd];rfl) fun C R' hR hC hcl hB=>?_;have X:=aO;have hC':=congrArg List.length hC
    (refine jD ?_;with_reducible repeat' first|exact trivial|(apply af.mk<;>intro hb)|apply ax.mk)
    refine gd rfl trivial ?_
    (refine bP ?_;with_reducible repeat' first|exact trivial|(apply af.mk<;>intro hb)|apply ax.mk)
    exact aS (n0:=H.length) hR hC' hcl (.same _ kX) ⟨rfl,rfl⟩
   ·simp only[hout,decide_false] at c2
    rw[if_neg (by rintro (h|h);exact h1 h;exact hout h)]
    refine ag.aK TB [9] aF _ Tryz.func116 rfl (by decide) Tryz.ntmps116 (by simp) rfl (by simp only[au,Nat.reduceAdd];rfl) fun C R' hR hC hcl hB=>?_;have X:=aO;have hC':=congrArg List.length hC
    (refine jD ?_;with_reducible repeat' first|exact trivial|(apply af.mk<;>intro hb)|apply ax.mk)
    refine gd rfl trivial ?_
    (refine jD ?_;with_reducible repeat' first|exact trivial|(apply af.mk<;>intro hb)|apply ax.mk)
    refine rC rfl ?_
    clear c1 c2
    (refine bP ?_;with_reducible repeat' first|exact trivial|(apply af.mk<;>intro hb)|apply ax.mk)
    refine aC (fun i:Nat=>[(2,.list 1 (out.map .str)),(3,.ptr H.length 0 0 0),(8,.int .i64 i)]) (fun _=>H++[.cells 0 8 [.agg [.int .i64 1,.str nm,.int .i64 nn,.int .i64 op,.list 1 (names.map .str),.list 8 (aj ad),.list 9 (ao binds),.list 12 (aA alts)]]]) (fun i=>out.length - i) (fun i=>i≤out.length∧∀ (k:Nat) (h:k<out.length),k<i→out[k]<nm) 0 ⟨Nat.zero_le _,fun k _ h=>by omega⟩ (bB (n0:=H.length) [(H.length,0)] hG hB hC' hcl) ?_
    rintro K i ⟨hi,hall⟩ hK
    have hfin:(∀ h:i<out.length,¬ out[i]<nm)→kL out nm=out.take i++nm::out.drop i:=fun h=>De hi hall h
    rcases Nat.lt_or_ge i out.length with hlt|hge
    ·by_cases hl:out[i]<nm
     ·have X:=And.intro aO (show dK out[i] nm=true by rw[xX];exact decide_eq_true hl)
      (refine run ?_;with_reducible repeat' first|exact trivial|(apply af.mk<;>intro hb)|apply ax.mk)
      exact hK _ _ (i+1) (by omega) ⟨by omega,fun k hk hki=>by
       rcases Nat.lt_or_ge k i with h|h
       ·exact hall k hk h
       ·have:k=i:=by omega
        subst this;exact hl⟩ (bB (n0:=H.length) [(H.length,0)] hG hB hC' hcl)
     ·have e0:=hfin fun _=>hl
      have X:=And.intro aO (show dK out[i] nm=false by rw[xX];exact decide_eq_false hl)
      (refine run ?_;with_reducible repeat' first|exact trivial|(apply af.mk<;>intro hb)|apply ax.mk)
      refine aS (n0:=H.length) (y:= .list 1 ((kL out nm).map .str)) hR hC' hcl (bV.sf (by rw[bJ];rfl) (by omega) (by simp) (by rw[e0];exact wY hi) (SV.bX fun _ _=>rfl)) ⟨rfl,rfl⟩
    ·have e0:=hfin fun h=>by omega
     have X:=And.intro aO (show ¬ ((i:Int)<(out.length:Int)) from by omega)
     (refine run ?_;with_reducible repeat' first|exact trivial|(apply af.mk<;>intro hb)|apply ax.mk)
     refine aS (n0:=H.length) (y:= .list 1 ((kL out nm).map .str)) hR hC' hcl (bV.sf (by rw[bJ];rfl) (by omega) (by simp) (by rw[e0];exact wY hi) (SV.bX fun _ _=>rfl)) ⟨rfl,rfl⟩
  ·obtain⟨O,o1,o2,o3⟩:=FL m (.mk kd nm nn op names ad binds alts) hk gn out
   rw[← o3]
   clear o3
   have hpl:(aR (Ex.mk kd nm nn op names ad binds alts)).length=ad.length+binds.length+alts.length:=by simp[aR];omega
   rw[hpl]
   have hpw:∀ {j:Nat} {p:Ex×List aI},(aR (Ex.mk kd nm nn op names ad binds alts))[j]? =some p→p.1.wt+p.2.length<(Ex.mk kd nm nn op names ad binds alts).wt:=fun h=>sD (List.mem_of_getElem? h)
   have hstep:∀ {j:Nat} {p:Ex×List aI},(aR (Ex.mk kd nm nn op names ad binds alts))[j]? =some p→∀ H,ag Tryz.prog G 116 [p.1.sv,.list 1 ((gn++p.2).map .str),.list 1 ((O j).map .str)] H (fun r H'=>H'=H∧r= .list 1 ((O (j+1)).map .str)):=fun {j p} h H=>by
    have h1:=hpw h
    have h2:=o2 j p h
    rw[h2.1]
    exact hrec p.1 (gn++p.2) (O j) H (by omega) (by rw[List.length_append];omega) (by omega)
   have hs1:=fun(i:Nat) (h:i<ad.length)=>hstep (uj (nm:=nm) (nn:=nn) (op:=op) (kd:=kd) (names:=names) (binds:=binds) (alts:=alts) h)
   have hs2:=fun(i:Nat) (h:i<binds.length)=>hstep (sC (nm:=nm) (nn:=nn) (op:=op) (kd:=kd) (names:=names) (ad:=ad) (alts:=alts) h)
   have hs3:=fun(i:Nat) (h:i<alts.length)=>hstep (ui (nm:=nm) (nn:=nn) (op:=op) (kd:=kd) (names:=names) (ad:=ad) (binds:=binds) h)
   have hnl:=fun(i:Nat) (h:i<alts.length)=>Al.j8 (kd:=kd) (nm:=nm) (nn:=nn) (op:=op) (names:=names) (ad:=ad) (binds:=binds) h
   clear hstep o2
   subst o1
   simp only at hs1 hs2 hs3
   refine ag.aK TB [9] aF _ Tryz.func116 rfl (by decide) Tryz.ntmps116 (by simp) rfl (by simp only[au,Nat.reduceAdd];rfl) fun C R' hR hC hcl hB=>?_;have X:=aO;have hC':=congrArg List.length hC
   have X:=And.intro X (decide_eq_false hk)
   (refine jD ?_;with_reducible repeat' first|exact trivial|(apply af.mk<;>intro hb)|apply ax.mk)
   refine rC rfl ?_
   clear X
   refine eT (fun _:Unit=>[(1,.list 1 (gn.map .str)),(2,.list 1 ((O 0).map .str)),(3,.ptr H.length 0 0 0),(7,.list 1 ((gn++cT kd names binds).map .str))]) (fun _=>H++[.cells 0 8 [.agg [.int .i64 kd,.str nm,.int .i64 nn,.int .i64 op,.list 1 (names.map .str),.list 8 (aj ad),.list 9 (ao binds),.list 12 (aA alts)]]]) (fun _=>True) (fun K hK=>?_) (fun _ _=>?_)
   ·have c1:=fun H=>oK G hG gn names (by omega) (by omega) H
    have c2:=fun H=>uf G hG binds (by omega) H
    have c3:=fun H=>oK G hG gn (binds.map Bd.name) (by omega) (by simp;omega) H
    (refine bP ?_;with_reducible repeat' first|exact trivial|(apply af.mk<;>intro hb)|apply ax.mk)
    ·refine hK _ _ () trivial ?_
     simp only[cT,if_pos hb]
     exact bB (n0:=H.length) [(H.length,0)] hG hB hC' hcl
    ·refine hK _ _ () trivial ?_
     have hb3:¬ kd=3:=by omega
     simp only[cT,if_neg hb3,if_pos hb]
     exact bB (n0:=H.length) [(H.length,0)] hG hB hC' hcl
    ·refine hK _ _ () trivial ?_
     have hb3:¬ kd=3:=by assumption
     simp only[cT,if_neg hb3,if_neg hb,List.append_nil]
     exact bB (n0:=H.length) [(H.length,0)] hG hB hC' hcl
   (refine bP ?_;with_reducible repeat' first|exact trivial|(apply af.mk<;>intro hb)|apply ax.mk)
   refine aC (fun i:Nat=>[(1,.list 1 (gn.map .str)),(2,.list 1 ((O i).map .str)),(3,.ptr H.length 0 0 0),(7,.list 1 ((gn++cT kd names binds).map .str)),(10,.int .i64 i)])
    (fun _=>H++[.cells 0 8 [.agg [.int .i64 kd,.str nm,.int .i64 nn,.int .i64 op,.list 1 (names.map .str),.list 8 (aj ad),.list 9 (ao binds),.list 12 (aA alts)]]]) (fun i=>ad.length - i) (fun i=>i≤ad.length) 0 (Nat.zero_le _) (bB (n0:=H.length) [(H.length,0)] hG hB hC' hcl) ?_
   rintro K i hi hK
   rcases Nat.lt_or_ge i ad.length with hlt|hge
   ·have c1:=hs1 i hlt
    (refine run ?_;with_reducible repeat' first|exact trivial|(apply af.mk<;>intro hb)|apply ax.mk)
    exact hK _ _ (i+1) (by omega) (by omega) (bB (n0:=H.length) [(H.length,0)] hG hB hC' hcl)
   obtain rfl:i=ad.length:=by omega
   clear hK hs1
   (refine bP ?_;with_reducible repeat' first|exact trivial|(apply af.mk<;>intro hb)|apply ax.mk)
   refine aC (fun i:Nat=>[(1,.list 1 (gn.map .str)),(2,.list 1 ((O (ad.length+i)).map .str)),(3,.ptr H.length 0 0 0),(7,.list 1 ((gn++cT kd names binds).map .str)),(11,.int .i64 i)])
    (fun _=>H++[.cells 0 8 [.agg [.int .i64 kd,.str nm,.int .i64 nn,.int .i64 op,.list 1 (names.map .str),.list 8 (aj ad),.list 9 (ao binds),.list 12 (aA alts)]]]) (fun i=>binds.length - i) (fun i=>i≤binds.length) 0 (Nat.zero_le _) (bB (n0:=H.length) [(H.length,0)] hG hB hC' hcl) ?_
   rintro K i hi hK
   rcases Nat.lt_or_ge i binds.length with hlt|hge
   ·have c1:=hs2 i hlt
    (refine run ?_;with_reducible repeat' first|exact trivial|(apply af.mk<;>intro hb)|apply ax.mk)
    exact hK _ _ (i+1) (by omega) (by omega) (bB (n0:=H.length) [(H.length,0)] hG hB hC' hcl)
   obtain rfl:i=binds.length:=by omega
   clear hK hs2
   (refine bP ?_;with_reducible repeat' first|exact trivial|(apply af.mk<;>intro hb)|apply ax.mk)
   refine aC (fun i:Nat=>[(1,.list 1 (gn.map .str)),(2,.list 1 ((O (ad.length+binds.length+i)).map .str)),(3,.ptr H.length 0 0 0),(12,.int .i64 i)])
    (fun _=>H++[.cells 0 8 [.agg [.int .i64 kd,.str nm,.int .i64 nn,.int .i64 op,.list 1 (names.map .str),.list 8 (aj ad),.list 9 (ao binds),.list 12 (aA alts)]]]) (fun i=>alts.length - i) (fun i=>i≤alts.length) 0 (Nat.zero_le _) (bB (n0:=H.length) [(H.length,0)] hG hB hC' hcl) ?_
   rintro K i hi hK
   rcases Nat.lt_or_ge i alts.length with hlt|hge
   ·have c1:=fun H=>oK G hG gn alts[i].names (by omega) (by have:=hnl i hlt;omega) H
    (refine jD ?_;with_reducible repeat' first|exact trivial|(apply af.mk<;>intro hb)|apply ax.mk)
    refine gd rfl (by omega) ?_
    (refine jD ?_;with_reducible repeat' first|exact trivial|(apply af.mk<;>intro hb)|apply ax.mk)
    refine eT (fun _:Unit=>[(1,.list 1 (gn.map .str)),(2,.list 1 ((O (ad.length+binds.length+i)).map .str)),(3,.ptr H.length 0 0 0),(12,.int .i64 i),(13,.list 1 ((gn++(alts[i].names++if kd=6 then [nm] else [])).map .str))]) (fun _=>H++[.cells 0 8 [.agg [.int .i64 kd,.str nm,.int .i64 nn,.int .i64 op,.list 1 (names.map .str),.list 8 (aj ad),.list 9 (ao binds),.list 12 (aA alts)]]]) (fun _=>True) (fun K2 hK2=>?_) (fun _ _=>?_)
    ·have c2:=fun H=>oK G hG (gn++alts[i].names) [nm] (by have:=hnl i hlt;rw[List.length_append];omega) (by simp) H
     simp only[List.append_assoc,List.map_cons,List.map_nil] at c2
     (refine run ?_;with_reducible repeat' first|exact trivial|(apply af.mk<;>intro hb)|apply ax.mk)
     ·refine hK2 _ _ () trivial ?_
      simp only[if_pos hb]
      exact bB (n0:=H.length) [(H.length,0)] hG hB hC' hcl
     ·refine hK2 _ _ () trivial ?_
      simp only[if_neg hb,List.append_nil]
      exact bB (n0:=H.length) [(H.length,0)] hG hB hC' hcl
    have c2:=hs3 i hlt
    (refine run ?_;with_reducible repeat' first|exact trivial|(apply af.mk<;>intro hb)|apply ax.mk)
    refine hK _ _ (i+1) (by omega) (by omega) ?_
    rw[← Nat.add_assoc ad.length binds.length (i+1)]
    exact(bB (n0:=H.length) [(H.length,0)] hG hB hC' hcl)
   obtain rfl:i=alts.length:=by omega
   clear hK hs3
   (refine bP ?_;with_reducible repeat' first|exact trivial|(apply af.mk<;>intro hb)|apply ax.mk)
   exact aS (n0:=H.length) hR hC' hcl (.same _ kX) ⟨rfl,by rw[← Nat.add_assoc];rfl⟩
theorem pB (G:Gl) (hG:aw G) (e:Ex) (hw:e.wt<549755813888) (H:List az):ag Tryz.prog G 65 [e.sv] H (fun r H'=>H'=H∧r= .list 1 ((cz e).map .str)):=by
 have c1:∀ H,ag Tryz.prog G 116 [e.sv,.nil,.nil] H (fun r H'=>H'=H∧r= .list 1 ((cz e).map .str)):=fun H=>by
  have h:=xI G hG e.wt e [] [] H (Nat.le_refl _) (by simpa using hw) (by simpa using hw)
  rw[D4] at h
  refine h.o5 fun c vs hv=>?_
  obtain⟨v0,r0,q0,h0,rfl⟩:=aD.bC.1 hv
  obtain⟨v1,r1,q1,h1,rfl⟩:=aD.bC.1 h0
  obtain⟨v2,r2,q2,h2,rfl⟩:=aD.bC.1 h1
  exact aD.bT q0 (aD.bT q1.xt (aD.bT q2.xt h2))
 refine ag.aK TB [] aF _ Tryz.func65 rfl (by decide) Tryz.ntmps65 (by simp) rfl (by simp only[au,Nat.reduceAdd];rfl) fun C R' hR hC hcl hB=>?_;have X:=aO;have hC':=congrArg List.length hC
 (refine bP ?_;with_reducible repeat' first|exact trivial|(apply af.mk<;>intro hb)|apply ax.mk)
 exact aS (n0:=H.length) hR hC' hcl (.same _ kX) ⟨rfl,rfl⟩
def MZ (G:Gl) (cs:List Cn) (m:Nat):Prop:=∀ (e:Ex) (s:aI) (H:List az),e.wt≤m→e.wt<4294967296→Sh cs e→ag Tryz.prog G 150 [e.sv,.str s] H (fun r H'=>H'=H∧r= .bool (b9 m e s))
theorem As (G:Gl) (hG:aw G) (cs:List Cn):∀ m,MZ G cs m
 |0,e,_,_,h,_,_=>absurd e.bz (by omega)
 |m+1,e,s,H,hm,hw,hs=>by
  have hrec:=As G hG cs m
  obtain⟨kd,nm,nn,op,names,ad,binds,alts⟩:=e
  have hlen:=Ex.cY kd nm nn op names ad binds alts
  have hww:(Ex.mk kd nm nn op names ad binds alts).wt=1+nm.length+cW names+bt ad+aW binds+cp alts:=by simp only[Ex.wt]
  have hnode:=hs.node
  have hsub:∀ x∈ad,x.wt≤m∧x.wt<4294967296∧Sh cs x:=fun x hx=>⟨by have:=cH hx;omega,by have:=cH hx;omega,hs.sub hx⟩
  have halt:∀ x∈alts,x.body.wt≤m∧x.body.wt<4294967296∧Sh cs x.body:=fun x hx=>⟨by have:=cN hx;have:=x.cZ;omega,by have:=cN hx;have:=x.cZ;omega,hs.alt hx⟩
  have hr0:b9 (m+1) (.mk kd nm nn op names ad binds alts) s=(if kd=1 then decide (nm=s)
   else if kd=8 then ad.any (fun e=>b9 m e s)
   else if kd=4 then (ad.take 1).any (fun e=>b9 m e s)
   else if kd=6 then (ad.take 1).any (fun e=>b9 m e s)||(!decide (nm=s)&&alts.any (fun a=>!decide (s∈a.names)&&b9 m a.body s))
   else if kd=5 then !(binds.any fun b=>decide (b.name=s))&&ad.any (fun e=>b9 m e s)
   else false):=rfl
  generalize b9 (m+1) (.mk kd nm nn op names ad binds alts) s=r0 at*
  have hbd:(∃ b∈binds,b.name=s)→r0=false:=fun⟨b,hb,hbs⟩=>by
   have hk:kd=5:=by
    have:0<binds.length:=List.length_pos_of_mem hb
    unfold dM at hnode;omega
   rw[hr0,hk,if_neg (by omega),if_neg (by omega),if_neg (by omega),if_neg (by omega),if_pos rfl]
   have:(binds.any fun b=>decide (b.name=s))=true:=List.any_eq_true.2 ⟨b,hb,decide_eq_true hbs⟩
   rw[this];rfl
  have hx0:∀ x0,ad.head?=some x0→(ad.take 1).any (fun e=>b9 m e s)=b9 m x0 s:=fun x0 h=>by
   cases ad with
   |nil=>cases h
   |cons a r=>cases h;simp
  have hx1:ad.length=1→ad.any (fun e=>b9 m e s)=(ad.take 1).any (fun e=>b9 m e s):=fun h=>by
   rw[List.take_of_length_le (by omega)]
  have d1:=vi H.length [0] (by decide)
  refine ag.aK TB [] aF _ Tryz.func150 rfl (by decide) Tryz.ntmps150 (by simp) rfl (by simp only[au,Nat.reduceAdd];rfl) fun C R' hR hC hcl hB=>?_;have X:=aO;have hC':=congrArg List.length hC
  (refine run ?_;with_reducible repeat' first|exact trivial|(apply af.mk<;>intro hb)|apply ax.mk)
  refine aC (fun i:Nat=>[(1,.str s),(2,.ptr H.length 0 0 0),(5,.int .i64 (i:Int))]) (fun _=>H++[.cells 0 8 [.agg [.int .i64 kd,.str nm,.int .i64 nn,.int .i64 op,.list 1 (names.map .str),.list 8 (aj ad),.list 9 (ao binds),.list 12 (aA alts)]]]) (fun i=>binds.length - i) (fun i=>i≤binds.length∧∀ b∈binds.take i,¬ b.name=s) 0 ⟨Nat.zero_le _,by simp⟩ ?_ ?_
  ·exact bB (n0:=H.length) [(H.length,0)] hG hB hC' hcl (hd:=d1)
  rintro K i ⟨hi,hno⟩ hK
  have hbl:=iV binds
  rcases Nat.lt_or_ge i binds.length with hlt|hge
  ·have hcg:(ao binds)[i]? =some (.agg (.str binds[i].name::binds[i].e.cells)):=by rw[cr,List.getElem?_map,List.getElem?_eq_getElem hlt,Option.map_some,Bd.sv,Bd.df]
   have hbm:=List.getElem_mem hlt
   have hts:=List.take_succ_eq_append_getElem hlt
   by_cases hn:binds[i].name=s
   ·have hr:=hbd ⟨_,hbm,hn⟩
    generalize binds[i].name=bn at*
    generalize binds[i].e.cells=bc at*
    have X:=And.intro aO (And.intro hcg (And.intro hbl hn))
    (refine run ?_;with_reducible repeat' first|exact trivial|(apply af.mk<;>intro hb)|apply ax.mk)
    exact aS (n0:=H.length) hR hC' hcl (.same _ rfl) ⟨rfl,by rw[hr];rfl⟩
   ·have hno2:∀ b∈binds.take (i+1),¬ b.name=s:=fun b hb=>by
     rw[hts] at hb
     rcases List.mem_append.1 hb with hb|hb
     ·exact hno b hb
     ·rw[List.mem_singleton.1 hb];exact hn
    generalize binds[i].name=bn at*
    generalize binds[i].e.cells=bc at*
    have X:=And.intro aO (And.intro hcg (And.intro hbl hn))
    (refine run ?_;with_reducible repeat' first|exact trivial|(apply af.mk<;>intro hb)|apply ax.mk)
    refine hK _ _ (i+1) (by omega) ⟨by omega,hno2⟩ ?_
    exact bB (n0:=H.length) [(H.length,0)] hG hB hC' hcl (hd:=d1)
  clear hK hbd
  obtain rfl:i=binds.length:=by omega
  rw[List.take_length] at hno
  have hna:(binds.any fun b=>decide (b.name=s))=false:=by
   rw[List.any_eq_false]
   exact fun b hb=>by simpa using hno b hb
  rw[hna] at hr0
  have hli:=Int.lt_irrefl (binds.length:Int)
  by_cases h1:kd=1
  ·rw[if_pos h1] at hr0
   subst h1;subst hr0
   have X:=And.intro aO (And.intro hli hbl)
   (refine run ?_;with_reducible repeat' first|exact trivial|(apply af.mk<;>intro hb)|apply ax.mk)
   exact aS (n0:=H.length) hR hC' hcl (.same _ rfl) ⟨rfl,rfl⟩
  rw[if_neg h1] at hr0
  by_cases h8:kd=8
  ·rw[if_pos h8] at hr0
   subst h8
   have hsl:=ct ad
   have hal0:alts.length=0:=by unfold dM at hnode;omega
   have hal:=iU alts
   have X:=And.intro aO (And.intro hli hbl)
   (refine run ?_;with_reducible repeat' first|exact trivial|(apply af.mk<;>intro hb)|apply ax.mk)
   refine aC (fun j:Nat=>[(1,.str s),(2,.ptr H.length 0 0 0),(6,.int .i64 (j:Int))]) (fun _=>H++[.cells 0 8 [.agg [.int .i64 8,.str nm,.int .i64 nn,.int .i64 op,.list 1 (names.map .str),.list 8 (aj ad),.list 9 (ao binds),.list 12 (aA alts)]]]) (fun j=>ad.length - j) (fun j=>j≤ad.length∧∀ x∈ad.take j,b9 m x s=false) 0 ⟨Nat.zero_le _,by simp⟩ ?_ ?_
   ·exact bB (n0:=H.length) [(H.length,0)] hG hB hC' hcl (hd:=d1)
   rintro K j ⟨hj,hnj⟩ hK
   rcases Nat.lt_or_ge j ad.length with hltj|hgej
   ·have hm2:=List.getElem_mem hltj
    obtain⟨q1,q2,q3⟩:=hsub _ hm2
    have c1:=fun H=>hrec ad[j] s H q1 q2 q3
    have hcj:=ga hltj
    have hts:=List.take_succ_eq_append_getElem hltj
    have hx8:=ad[j].aH
    have hx8d:=ad[j].bY
    have hx8t:=ad[j].aU
    cases hb:b9 m ad[j] s
    ·have hn2:∀ x∈ad.take (j+1),b9 m x s=false:=fun x hx=>by
      rw[hts] at hx
      rcases List.mem_append.1 hx with hx|hx
      ·exact hnj x hx
      ·rw[List.mem_singleton.1 hx];exact hb
     rw[hb,show ad[j].sv= .agg ad[j].cells from rfl] at c1
     generalize ad[j].cells=xc at*
     have X:=And.intro aO (And.intro hcj (And.intro hsl (And.intro hx8 (And.intro hx8d hx8t))))
     (refine run ?_;with_reducible repeat' first|exact trivial|(apply af.mk<;>intro hb)|apply ax.mk)
     refine hK _ _ (j+1) (by omega) ⟨by omega,hn2⟩ ?_
     exact bB (n0:=H.length) [(H.length,0)] hG hB hC' hcl (hd:=d1)
    ·have hr:r0=true:=by rw[hr0];exact List.any_eq_true.2 ⟨_,hm2,hb⟩
     rw[hb,show ad[j].sv= .agg ad[j].cells from rfl] at c1
     generalize ad[j].cells=xc at*
     have X:=And.intro aO (And.intro hcj (And.intro hsl (And.intro hx8 (And.intro hx8d hx8t))))
     (refine run ?_;with_reducible repeat' first|exact trivial|(apply af.mk<;>intro hb)|apply ax.mk)
     exact aS (n0:=H.length) hR hC' hcl (.same _ rfl) ⟨rfl,by rw[hr];rfl⟩
   clear hK
   obtain rfl:j=ad.length:=by omega
   rw[List.take_length] at hnj
   have hr:r0=false:=by rw[hr0,List.any_eq_false];exact fun x hx=>by simp[hnj x hx]
   have hal1:alts=[]:=List.length_eq_zero_iff.1 hal0
   subst hal1
   have X:=And.intro aO (And.intro (Int.lt_irrefl (ad.length:Int)) (And.intro hsl hal))
   (refine run ?_;with_reducible repeat' first|exact trivial|(apply af.mk<;>intro hb)|apply ax.mk)
   refine aC (fun _:Unit=>[(1,.str s),(2,.ptr H.length 0 0 0),(7,.int .i64 0)]) (fun _=>H++[.cells 0 8 [.agg [.int .i64 8,.str nm,.int .i64 nn,.int .i64 op,.list 1 (names.map .str),.list 8 (aj ad),.list 9 (ao binds),.list 12 (aA [])]]]) (fun _=>0) (fun _=>True) () trivial ?_ ?_
   ·exact bB (n0:=H.length) [(H.length,0)] hG hB hC' hcl (hd:=d1)
   rintro K _ _ hK
   clear hK
   have X:=And.intro aO hal
   (refine run ?_;with_reducible repeat' first|exact trivial|(apply af.mk<;>intro hb)|apply ax.mk)
   exact aS (n0:=H.length) hR hC' hcl (.same _ rfl) ⟨rfl,by rw[hr];rfl⟩
  rw[if_neg h8] at hr0
  have hfirst:0<ad.length→∃ x0,x0∈ad∧(aj ad)[0]? =some x0.sv∧(ad.take 1).any (fun e=>b9 m e s)=b9 m x0 s:=fun h=>by
   cases ad with
   |nil=>simp at h
   |cons a r=>exact⟨a,List.mem_cons_self ..,rfl,by simp⟩
  have hsl:=ct ad
  have hal:=iU alts
  by_cases hk4:kd=4
  ·rw[if_pos hk4] at hr0
   subst hk4
   have hs0:0<ad.length:=by have:=hs.app;omega
   have hs1:(0:Int)<(ad.length:Int):=by omega
   have hal1:alts=[]:=List.length_eq_zero_iff.1 (by unfold dM at hnode;omega)
   subst hal1
   obtain⟨x0,hx0m,hg0,hx0e⟩:=hfirst hs0
   rw[hx0e] at hr0
   obtain⟨q1,q2,q3⟩:=hsub _ hx0m
   have c1:=fun H=>hrec x0 s H q1 q2 q3
   have hx8:=x0.aH
   have hx8d:=x0.bY
   have hx8t:=x0.aU
   rw[← hr0,show x0.sv= .agg x0.cells from rfl] at c1
   rw[show x0.sv= .agg x0.cells from rfl] at hg0
   generalize x0.cells=xc at*
   clear hr0
   cases r0
   ·have X:=And.intro aO (And.intro hli (And.intro hbl (And.intro hs1 (And.intro hsl (And.intro hg0 (And.intro hx8 (And.intro hx8d (And.intro hx8t hal))))))))
    (refine run ?_;with_reducible repeat' first|exact trivial|(apply af.mk<;>intro hb)|apply ax.mk)
    refine aC (fun _:Unit=>[(1,.str s),(2,.ptr H.length 0 0 0),(7,.int .i64 0)]) (fun _=>H++[.cells 0 8 [.agg [.int .i64 4,.str nm,.int .i64 nn,.int .i64 op,.list 1 (names.map .str),.list 8 (aj ad),.list 9 (ao binds),.list 12 (aA [])]]]) (fun _=>0) (fun _=>True) () trivial ?_ ?_
    ·exact bB (n0:=H.length) [(H.length,0)] hG hB hC' hcl (hd:=d1)
    rintro K _ _ hK
    clear hK
    have X:=And.intro aO hal
    (refine run ?_;with_reducible repeat' first|exact trivial|(apply af.mk<;>intro hb)|apply ax.mk)
    exact aS (n0:=H.length) hR hC' hcl (.same _ rfl) ⟨rfl,rfl⟩
   ·have X:=And.intro aO (And.intro hli (And.intro hbl (And.intro hs1 (And.intro hsl (And.intro hg0 (And.intro hx8 (And.intro hx8d (And.intro hx8t hal))))))))
    (refine run ?_;with_reducible repeat' first|exact trivial|(apply af.mk<;>intro hb)|apply ax.mk)
    exact aS (n0:=H.length) hR hC' hcl (.same _ rfl) ⟨rfl,rfl⟩
  by_cases hk5:kd=5
  ·rw[if_neg hk4,if_neg (by omega),if_pos hk5] at hr0
   subst hk5
   have hs0:0<ad.length:=by unfold dM at hnode;omega
   have hs1:(0:Int)<(ad.length:Int):=by omega
   have hal1:alts=[]:=List.length_eq_zero_iff.1 (by unfold dM at hnode;omega)
   subst hal1
   obtain⟨x0,hx0m,hg0,hx0e⟩:=hfirst hs0
   rw[Bool.not_false,Bool.true_and,hx1 (by unfold dM at hnode;omega),hx0e] at hr0
   obtain⟨q1,q2,q3⟩:=hsub _ hx0m
   have c1:=fun H=>hrec x0 s H q1 q2 q3
   have hx8:=x0.aH
   have hx8d:=x0.bY
   have hx8t:=x0.aU
   rw[← hr0,show x0.sv= .agg x0.cells from rfl] at c1
   rw[show x0.sv= .agg x0.cells from rfl] at hg0
   generalize x0.cells=xc at*
   clear hr0
   cases r0
   ·have X:=And.intro aO (And.intro hli (And.intro hbl (And.intro hs1 (And.intro hsl (And.intro hg0 (And.intro hx8 (And.intro hx8d (And.intro hx8t hal))))))))
    (refine run ?_;with_reducible repeat' first|exact trivial|(apply af.mk<;>intro hb)|apply ax.mk)
    refine aC (fun _:Unit=>[(1,.str s),(2,.ptr H.length 0 0 0),(7,.int .i64 0)]) (fun _=>H++[.cells 0 8 [.agg [.int .i64 5,.str nm,.int .i64 nn,.int .i64 op,.list 1 (names.map .str),.list 8 (aj ad),.list 9 (ao binds),.list 12 (aA [])]]]) (fun _=>0) (fun _=>True) () trivial ?_ ?_
    ·exact bB (n0:=H.length) [(H.length,0)] hG hB hC' hcl (hd:=d1)
    rintro K _ _ hK
    clear hK
    have X:=And.intro aO hal
    (refine run ?_;with_reducible repeat' first|exact trivial|(apply af.mk<;>intro hb)|apply ax.mk)
    exact aS (n0:=H.length) hR hC' hcl (.same _ rfl) ⟨rfl,rfl⟩
   ·have X:=And.intro aO (And.intro hli (And.intro hbl (And.intro hs1 (And.intro hsl (And.intro hg0 (And.intro hx8 (And.intro hx8d (And.intro hx8t hal))))))))
    (refine run ?_;with_reducible repeat' first|exact trivial|(apply af.mk<;>intro hb)|apply ax.mk)
    exact aS (n0:=H.length) hR hC' hcl (.same _ rfl) ⟨rfl,rfl⟩
  by_cases hk:kd=6
  ·rw[if_neg hk4,if_pos hk] at hr0
   subst hk
   have hs0:0<ad.length:=by unfold dM at hnode;omega
   have hs1:(0:Int)<(ad.length:Int):=by omega
   obtain⟨x0,hx0m,hg0,hx0e⟩:=hfirst hs0
   rw[hx0e] at hr0
   obtain⟨q1,q2,q3⟩:=hsub _ hx0m
   have c1:=fun H=>hrec x0 s H q1 q2 q3
   have hx8:=x0.aH
   have hx8d:=x0.bY
   have hx8t:=x0.aU
   rw[show x0.sv= .agg x0.cells from rfl] at c1 hg0
   generalize x0.cells=xc at*
   generalize b9 m x0 s=b0 at*
   cases b0
   rotate_left
   ·rw[Bool.true_or] at hr0
    subst hr0
    have X:=And.intro aO (And.intro hli (And.intro hbl (And.intro hs1 (And.intro hsl (And.intro hg0 (And.intro hx8 (And.intro hx8d (And.intro hx8t hal))))))))
    (refine run ?_;with_reducible repeat' first|exact trivial|(apply af.mk<;>intro hb)|apply ax.mk)
    exact aS (n0:=H.length) hR hC' hcl (.same _ rfl) ⟨rfl,rfl⟩
   rw[Bool.false_or] at hr0
   have X:=And.intro aO (And.intro hli (And.intro hbl (And.intro hs1 (And.intro hsl (And.intro hg0 (And.intro hx8 (And.intro hx8d (And.intro hx8t hal))))))))
   (refine run ?_;with_reducible repeat' first|exact trivial|(apply af.mk<;>intro hb)|apply ax.mk)
   refine aC (fun j:Nat=>[(1,.str s),(2,.ptr H.length 0 0 0),(7,.int .i64 (j:Int))]) (fun _=>H++[.cells 0 8 [.agg [.int .i64 6,.str nm,.int .i64 nn,.int .i64 op,.list 1 (names.map .str),.list 8 (aj ad),.list 9 (ao binds),.list 12 (aA alts)]]]) (fun j=>alts.length - j) (fun j=>j≤alts.length∧(nm=s∨∀ a∈alts.take j,(!decide (s∈a.names)&&b9 m a.body s)=false)) 0 ⟨Nat.zero_le _,.inr (by simp)⟩ ?_ ?_
   ·exact bB (n0:=H.length) [(H.length,0)] hG hB hC' hcl (hd:=d1)
   rintro K j ⟨hj,hnj⟩ hK
   by_cases hn:nm=s
   ·rw[decide_eq_true hn,Bool.not_true,Bool.false_and] at hr0
    subst hr0
    clear hK
    by_cases hlt2:(j:Int)<(alts.length:Int)
    ·have X:=And.intro aO (And.intro hal (And.intro hn hlt2))
     (refine run ?_;with_reducible repeat' first|exact trivial|(apply af.mk<;>intro hb)|apply ax.mk)
     exact aS (n0:=H.length) hR hC' hcl (.same _ rfl) ⟨rfl,rfl⟩
    ·have X:=And.intro aO (And.intro hal (And.intro hn hlt2))
     (refine run ?_;with_reducible repeat' first|exact trivial|(apply af.mk<;>intro hb)|apply ax.mk)
     exact aS (n0:=H.length) hR hC' hcl (.same _ rfl) ⟨rfl,rfl⟩
   have hnj:=hnj.resolve_left hn
   rw[decide_eq_false hn,Bool.not_false,Bool.true_and] at hr0
   rcases Nat.lt_or_ge j alts.length with hltj|hgej
   ·have hm2:=List.getElem_mem hltj
    obtain⟨q1,q2,q3⟩:=halt _ hm2
    have c1:=fun H=>hrec alts[j].body s H q1 q2 q3
    have hw1:=alts[j].ku
    have hw2:=cN hm2
    have c2:=fun H=>gC G alts[j].names s H (by omega)
    have hcj:(aA alts)[j]? =some (.agg (.int .i64 alts[j].kind:: .str alts[j].name:: .int .i64 alts[j].n:: .list 1 (alts[j].names.map .str)::alts[j].body.cells)):=by rw[gy,List.getElem?_eq_getElem hltj];rfl
    have hts:=List.take_succ_eq_append_getElem hltj
    have hx8:=alts[j].body.aH
    have hx8d:=alts[j].body.bY
    have hx8t:=alts[j].body.aU
    have hany:(!decide (s∈alts[j].names)&&b9 m alts[j].body s)=true→r0=true:=fun h=>by rw[hr0];exact List.any_eq_true.2 ⟨_,hm2,h⟩
    have hnext:(!decide (s∈alts[j].names)&&b9 m alts[j].body s)=false→∀ a∈alts.take (j+1),(!decide (s∈a.names)&&b9 m a.body s)=false:=fun h a ha=>by
     rw[hts] at ha
     rcases List.mem_append.1 ha with ha|ha
     ·exact hnj a ha
     ·rw[List.mem_singleton.1 ha];exact h
    generalize b9 m alts[j].body s=b1 at*
    rw[show alts[j].body.sv= .agg alts[j].body.cells from rfl] at c1
    generalize alts[j].body.cells=xc2 at*
    generalize alts[j].names=ans at*
    generalize alts[j].kind=y1 at*
    generalize alts[j].name=y2 at*
    generalize alts[j].n=y3 at*
    have hlt2:(j:Int)<(alts.length:Int):=by omega
    by_cases hin:s∈ans
    ·rw[decide_eq_true hin] at c2 hnext
     have X:=And.intro aO (And.intro hal (And.intro hn (And.intro hlt2 (And.intro hcj (And.intro hx8 (And.intro hx8d hx8t))))))
     (refine run ?_;with_reducible repeat' first|exact trivial|(apply af.mk<;>intro hb)|apply ax.mk)
     refine hK _ _ (j+1) (by omega) ⟨by omega,.inr (hnext rfl)⟩ ?_
     exact bB (n0:=H.length) [(H.length,0)] hG hB hC' hcl (hd:=d1)
    ·rw[decide_eq_false hin] at c2 hnext hany
     cases b1
     ·have X:=And.intro aO (And.intro hal (And.intro hn (And.intro hlt2 (And.intro hcj (And.intro hx8 (And.intro hx8d hx8t))))))
      (refine run ?_;with_reducible repeat' first|exact trivial|(apply af.mk<;>intro hb)|apply ax.mk)
      refine hK _ _ (j+1) (by omega) ⟨by omega,.inr (hnext rfl)⟩ ?_
      exact bB (n0:=H.length) [(H.length,0)] hG hB hC' hcl (hd:=d1)
     ·have hr:=hany rfl
      have X:=And.intro aO (And.intro hal (And.intro hn (And.intro hlt2 (And.intro hcj (And.intro hx8 (And.intro hx8d hx8t))))))
      (refine run ?_;with_reducible repeat' first|exact trivial|(apply af.mk<;>intro hb)|apply ax.mk)
      exact aS (n0:=H.length) hR hC' hcl (.same _ rfl) ⟨rfl,by rw[hr];rfl⟩
   clear hK
   obtain rfl:j=alts.length:=by omega
   rw[List.take_length] at hnj
   have hr:r0=false:=by rw[hr0,List.any_eq_false];exact fun a ha=>by rw[hnj a ha];exact Bool.false_ne_true
   have X:=And.intro aO (And.intro (Int.lt_irrefl (alts.length:Int)) (And.intro hal hn))
   (refine run ?_;with_reducible repeat' first|exact trivial|(apply af.mk<;>intro hb)|apply ax.mk)
   exact aS (n0:=H.length) hR hC' hcl (.same _ rfl) ⟨rfl,by rw[hr];rfl⟩
  have hal0:alts=[]:=List.length_eq_zero_iff.1 (by unfold dM at hnode;omega)
  subst hal0
  rw[if_neg hk4,if_neg hk,if_neg hk5] at hr0
  have X:=And.intro aO (And.intro hli (And.intro hbl (And.intro h1 (And.intro h8 (And.intro hk4 (And.intro hk5 (And.intro hk hal)))))))
  (refine run ?_;with_reducible repeat' first|exact trivial|(apply af.mk<;>intro hb)|apply ax.mk)
  refine aC (fun _:Unit=>[(1,.str s),(2,.ptr H.length 0 0 0),(7,.int .i64 0)]) (fun _=>H++[.cells 0 8 [.agg [.int .i64 kd,.str nm,.int .i64 nn,.int .i64 op,.list 1 (names.map .str),.list 8 (aj ad),.list 9 (ao binds),.list 12 (aA [])]]]) (fun _=>0) (fun _=>True) () trivial ?_ ?_
  ·exact bB (n0:=H.length) [(H.length,0)] hG hB hC' hcl (hd:=d1)
  rintro K _ _ hK
  clear hK
  have X:=And.intro aO hal
  (refine run ?_;with_reducible repeat' first|exact trivial|(apply af.mk<;>intro hb)|apply ax.mk)
  exact aS (n0:=H.length) hR hC' hcl (.same _ rfl) ⟨rfl,by rw[hr0];rfl⟩
theorem vw (G:Gl) (hG:aw G) (cs:List Cn) (e:Ex) (s:aI) (H:List az) (hw:e.wt<4294967296) (hs:Sh cs e):
 ag Tryz.prog G 121 [e.sv,.str s] H (fun r H'=>H'=H∧r= .bool (oS e s)):=by
 have c1:=fun H=>xL G hG e.wt e s H (Nat.le_refl _) hw
 have c2:=fun H=>As G hG cs e.wt e s H (Nat.le_refl _) hw hs
 unfold oS Dx
 generalize fX s e=n at*
 generalize eA s false e=b0 at*
 generalize b9 e.wt e s=b1 at*
 obtain⟨k2,n2,nn2,op2,ns2,ss2,bs2,as2⟩:=e
 refine ag.aK TB [] aF _ Tryz.func121 rfl (by decide) Tryz.ntmps121 (by simp) rfl (by simp only[au,Nat.reduceAdd];rfl) fun C R' hR hC hcl hB=>?_;have X:=aO;have hC':=congrArg List.length hC
 by_cases hn:n=1
 ·have hn':(n:Int)=1:=by omega
  have X:=And.intro aO hn'
  (refine run ?_;with_reducible repeat' first|exact trivial|(apply af.mk<;>intro hb)|apply ax.mk)
  exact aS (n0:=H.length) hR hC' hcl (.same _ rfl) ⟨rfl,by simp[hn,bA]⟩
 ·have hn':¬ (n:Int)=1:=by omega
  have X:=And.intro aO hn'
  (refine run ?_;with_reducible repeat' first|exact trivial|(apply af.mk<;>intro hb)|apply ax.mk)
  exact aS (n0:=H.length) hR hC' hcl (.same _ rfl) ⟨rfl,by simp[hn,bA,pk]⟩
theorem Bx (G:Gl) (hG:aw G) (T:List aI) (hT:T.length<1099511627776) (e:Ex) (hw:e.wt<67108864) (H:List az) (sb g0:Nat) (nx:SV) (h2:H[sb]? =some (.cells g0 2 [.agg [nx,.list 1 (T.map .str)]])):
 ag Tryz.prog G 70 [.ptr sb g0 0 0,e.sv] H (fun r H'=>H'=H∧r= .list 1 ((iO T e).map .str)):=by
 have l2:=(List.getElem?_eq_some_iff.1 h2).1
 have c1:=fun H=>pB G hG e (by omega) H
 have hfl:(cz e).length≤e.wt:=by
  have:=gS e.wt e ([],[])
  rw[cz,eP]
  simpa using this
 have htop:iO T e=(cz e).filter (fun s=>!decide (s∈T)):=rfl
 rw[htop]
 clear htop
 generalize cz e=F at*
 obtain⟨kd,nm,nn,op,names,ad,binds,alts⟩:=e
 have hFl:(F.map SV.str).length=F.length:=List.length_map ..
 have hx:=fun L=>(show(H++L)[sb]? =some (.cells g0 2 [.agg [nx,.list 1 (T.map .str)]]) by rw[du l2];exact h2)
 have d2:=vi H.length [0,1] (by decide)
 have hlen:=fun i=>List.length_filter_le (fun s=>!decide (s∈T)) (F.take i)
 refine ag.aK TB [5] aF _ Tryz.func70 rfl (by decide) Tryz.ntmps70 (by simp) rfl (by simp only[au,Nat.reduceAdd];rfl) fun C R' hR hC hcl hB=>?_;have X:=aO;have hC':=congrArg List.length hC
 (refine run ?_;with_reducible repeat' first|exact trivial|(apply af.mk<;>intro hb)|apply ax.mk)
 refine aC (fun i:Nat=>[(0,.ptr sb g0 0 0),(5,.sl (H.length+1) 0 0 ((F.take i).filter (fun s=>!decide (s∈T))).length),(6,.list 1 (F.map .str)),(7,.int .i64 (i:Int))])
  (fun i=>H++[.cells 0 8 [.agg [.int .i64 kd,.str nm,.int .i64 nn,.int .i64 op,.list 1 (names.map .str),.list 8 (aj ad),.list 9 (ao binds),.list 12 (aA alts)]],.cells 0 1 (((F.take i).filter (fun s=>!decide (s∈T))).map .str)]) (fun i=>F.length - i) (fun i=>i≤F.length) 0 (Nat.zero_le _) ?_ ?_
 ·simp only[List.take_zero,List.filter_nil,List.map_nil,List.length_nil]
  exact bB (n0:=H.length) [(H.length,0),(H.length+1,0)] hG hB hC' hcl (hd:=d2)
 rintro K i hi hK
 have hli:=hlen i
 rw[List.length_take] at hli
 rcases Nat.lt_or_ge i F.length with hlt|hge
 ·have hg:(F.map SV.str)[i]? =some (.str F[i]):=by simp[hlt]
  have c1:=fun H=>gC G T F[i] H (by omega)
  have hfs:=lE (fun s=>!decide (s∈T)) (F.take i) F[i]
  rw[← List.take_succ_eq_append_getElem hlt] at hfs
  have hDl:(((F.take i).filter (fun s=>!decide (s∈T))).map SV.str).length=((F.take i).filter (fun s=>!decide (s∈T))).length:=List.length_map ..
  generalize (F.take i).filter (fun s=>!decide (s∈T))=D at*
  generalize F[i]=s at*
  by_cases hin:s∈T
  ·rw[decide_eq_true hin,Bool.not_true,if_neg Bool.false_ne_true,List.append_nil] at hfs
   rw[decide_eq_true hin] at c1
   have X:=And.intro aO (And.intro hg (And.intro hFl hx))
   (refine run ?_;with_reducible repeat' first|exact trivial|(apply af.mk<;>intro hb)|apply ax.mk)
   refine hK _ _ (i+1) (by omega) (by omega) ?_
   rw[hfs]
   exact bB (n0:=H.length) [(H.length,0),(H.length+1,0)] hG hB hC' hcl (hd:=d2)
  ·rw[decide_eq_false hin,Bool.not_false,if_pos rfl] at hfs
   rw[decide_eq_false hin] at c1
   have X:=And.intro aO (And.intro hg (And.intro hFl (And.intro hx hDl)))
   (refine run ?_;with_reducible repeat' first|exact trivial|(apply af.mk<;>intro hb)|apply ax.mk)
   refine hK _ _ (i+1) (by omega) (by omega) ?_
   rw[hfs,List.map_append,List.length_append,List.length_singleton]
   exact bB (n0:=H.length) [(H.length,0),(H.length+1,0)] hG hB hC' hcl (hd:=d2)
 clear hK
 obtain rfl:i=F.length:=by omega
 rw[List.take_length] at*
 have X:=And.intro aO (And.intro (Int.lt_irrefl (F.length:Int)) hFl)
 (refine run ?_;with_reducible repeat' first|exact trivial|(apply af.mk<;>intro hb)|apply ax.mk)
 exact aS (n0:=H.length) hR hC' hcl (bV.sf (g:=0) (sz:=1) (by rw[bJ];rfl) (by omega) (by simp) (by rw[List.drop_zero,List.take_of_length_le (by simp)]) (cm _ _)) ⟨rfl,rfl⟩
theorem FM {H:List az} {sb g0 nx0:Nat} {T:List aI} (h2:H[sb]? =some (.cells g0 2 [.agg [.int .i64 (nx0:Int),.list 1 (T.map .str)]])):
 ∃ Q:Nat→List az,Q nx0=H∧(∀ nx:Nat,H.set sb (.cells g0 2 [.agg [.int .i64 (nx:Int),.list 1 (T.map .str)]])=Q nx)∧(∀ nx,(Q nx).length=H.length)∧
  ((∀ (nx:Nat) L,(Q nx++L)[sb]? =some (.cells g0 2 [.agg [.int .i64 (nx:Int),.list 1 (T.map .str)]]))∧(∀ (nx nx':Nat) L,(Q nx++L).set sb (.cells g0 2 [.agg [.int .i64 (nx':Int),.list 1 (T.map .str)]])=Q nx'++L))∧(closed H→∀ nx,closed (Q nx))∧
  ∀ id B,id≠sb→H[id]? =some B→∀ nx L,(Q nx++L)[id]? =some B:=by
 have l2:=(List.getElem?_eq_some_iff.1 h2).1
 refine⟨fun nx=>H.set sb (.cells g0 2 [.agg [.int .i64 (nx:Int),.list 1 (T.map .str)]]),dV h2,fun _=>rfl,fun nx=>by simp,⟨fun nx L=>?_,fun nx nx' L=>?_⟩,fun hc nx=>hc.set ?_,fun id B hne hid nx L=>?_⟩
 ·rw[List.getElem?_append_left (by simpa using l2),List.getElem?_set_self (by simpa using l2)]
 ·rw[fV (by simpa using l2),List.set_set]
 ·simp only[az.under,SV.aB,SV.under,cm,Bool.and_self]
 ·have l1:=(List.getElem?_eq_some_iff.1 hid).1
  rw[List.getElem?_append_left (by simpa using l1),List.getElem?_set_ne (fun e=>hne e.symm),hid]
def AB (G:Gl) (cs:List Cn) (T:List aI) (P:Ex→Prop) (E:Ex→Nat→Sg×Nat):Prop:=
 ∀ (e:Ex) (H:List az) (sb g0 nx:Nat),P e→e.wt<67108864→Sh cs e→nx+e.wt≤4294967290→H[sb]? =some (.cells g0 2 [.agg [.int .i64 (nx:Int),.list 1 (T.map .str)]])→
  ag Tryz.prog G 71 [.ptr sb g0 0 0,e.sv] H (fun r H'=>H'=H.set sb (.cells g0 2 [.agg [.int .i64 ((E e nx).2:Int),.list 1 (T.map .str)]])∧r=(E e nx).1.sv)
def AA (G:Gl) (cs:List Cn) (T:List aI) (P:Ex→Prop) (B:aI→Ex→Bool→Nat→List Sb×Nat):Prop:=
 ∀ (s:aI) (e:Ex) (u:Bool) (H:List az) (sb g0 nx:Nat),P e→e.wt<67108864→Sh cs e→nx+e.wt≤4294967290+(if e.kind=3 then 1 else 0)→H[sb]? =some (.cells g0 2 [.agg [.int .i64 (nx:Int),.list 1 (T.map .str)]])→
  ag Tryz.prog G 23 [.ptr sb g0 0 0,.str s,e.sv,.bool u] H (fun r H'=>H'=H.set sb (.cells g0 2 [.agg [.int .i64 ((B s e u nx).2:Int),.list 1 (T.map .str)]])∧r= .list 8 (aX (B s e u nx).1))
def fW (k:Int) (nm:aI) (op:Int) (ss:List Sg) (bs:List Sb) (als:List Sl) (done:List At) (dv:SV) (l:List Ex) (A:List At) (W:List Ar):List SV:=
 if done.length=l.length then [.int .i64 k,.str nm,.int .i64 op,dv,.list 7 (cJ ss),.list 8 (aX bs),.list 11 (bU als)] else (dy W (.mk k nm op (done++A) ss bs als)).cells
def EN (H:List az) (dv:SV) (done:List At):Prop:=(dv= .nil∧done=[])∨∃ id g,dv= .sl id g 0 done.length∧H[id]? =some (.cells g 2 (bq done))
theorem tv {H:List az} {id sb g g0:Nat} {done:List At} {nx:Int} {x:SV} (h1:H[id]? =some (.cells g 2 (bq done))) (h2:H[sb]? =some (.cells g0 2 [.agg [.int .i64 nx,x]])):id≠sb:=by
 rintro rfl
 rw[h1] at h2
 have h3:=Option.some.inj h2
 injection h3 with _ _ h4
 cases done with
 |nil=>cases h4
 |cons a r=>simp[bq,At.cells] at h4
def KK (G:Gl) (cs:List Cn) (T:List aI) (P:Ex→Prop) (B:aI→Ex→Bool→Nat→List Sb×Nat) (n:Nat):Prop:=
 ∀ (l:List Ex) (done:List At) (k:Int) (nm:aI) (op:Int) (oa:List At) (ss:List Sg) (bs:List Sb) (als:List Sl) (dv:SV) (H:List az) (sb g0 nx:Nat),l.length=done.length+n→EN H dv done→(∀ x∈l,P x∧Sh cs x)→bt l<67108864→nx+bt (l.drop done.length)+1≤4294967290→
  H[sb]? =some (.cells g0 2 [.agg [.int .i64 (nx:Int),.list 1 (T.map .str)]])→
  ag Tryz.prog G 118 [.ptr sb g0 0 0,.list 8 (aj l),dv,.agg (Sg.mk k nm op oa ss bs als).cells] H (fun r H'=>H'=H.set sb (.cells g0 2 [.agg [.int .i64 ((aM B (l.drop done.length) nx).2:Int),.list 1 (T.map .str)]])∧r= .agg (fW k nm op ss bs als done dv l (aM B (l.drop done.length) nx).1.1 (aM B (l.drop done.length) nx).1.2))
theorem eK (k:Int) (nm:aI) (op:Int) (ss:List Sg) (bs:List Sb) (als:List Sl) (d:List At) (dv:SV) (l:List Ex) (A:List At) (W:List Ar):(fW k nm op ss bs als d dv l A W).length=7:=by
 unfold fW
 split
 ·rfl
 ·exact Sg.aH _
theorem eE (k:Int) (nm:aI) (op:Int) (ss:List Sg) (bs:List Sb) (als:List Sl) (d:List At) (dv:SV) (l:List Ex) (A:List At) (W:List Ar) (n:Nat) (h:dv.under n=true):SV.aB n (fW k nm op ss bs als d dv l A W)=true:=by
 unfold fW
 split
 ·have hu1:=da n ss
  have hu2:=aY n bs
  have hu3:=cg n als
  simp only[SV.under,SV.aB,hu1,hu2,hu3,h,Bool.and_true]
 ·exact Sg.aP _ _
theorem gz {HH:List az} {n0 id g:Nat} {d:List At} (k:Int) (nm:aI) (op:Int) (ss:List Sg) (bs:List Sb) (als:List Sl) (l:List Ex) (A:List At) (W:List Ar) (hb:HH[id]? =some (.cells g 2 (bq d))) (hn:n0≤id) (h0:d.length=l.length→A=[]∧W=[]):
 de HH n0 [] (fW k nm op ss bs als d (.sl id g 0 d.length) l A W) (dy W (.mk k nm op (d++A) ss bs als)).cells:=by
 unfold fW
 split
 ·rename_i h
  obtain⟨rfl,rfl⟩:=h0 h
  have e:(dy [] (.mk k nm op (d++[]) ss bs als)).cells=[.int .i64 k,.str nm,.int .i64 op,.list 2 (bq d),.list 7 (cJ ss),.list 8 (aX bs),.list 11 (bU als)]:=by rw[List.append_nil];rfl
  have hal:=dk d
  have ht:((bq d).drop 0).take d.length=bq d:=by rw[List.drop_zero];exact List.take_of_length_le (by omega)
  rw[e]
  refine .cons _ _ _ _ (.same _ rfl) (.cons _ _ _ _ (.same _ rfl) (.cons _ _ _ _ (.same _ rfl) (.cons _ _ _ _ (.sl id g 0 d.length 2 (bq d) (bq d) hb hn (fun p hp=>by cases hp) ?_) (de.same ?_))))
  ·rw[ht]
   exact de.same (bS _ _)
  ·have hu1:=da n0 ss
   have hu2:=aY n0 bs
   have hu3:=cg n0 als
   simp only[SV.under,SV.aB,hu1,hu2,hu3,Bool.and_true]
 ·exact de.same (Sg.aP _ _)
theorem lr {B:aI→Ex→Bool→Nat→List Sb×Nat} {l:List Ex} {m n:Nat} (h:m=l.length):(aM B (l.drop m) n).1.1=[]∧(aM B (l.drop m) n).1.2=[]:=by
 rw[h,List.drop_length]
 exact⟨rfl,rfl⟩
theorem DV (G:Gl) (hG:aw G) (cs:List Cn) (T:List aI) (P:Ex→Prop) (B:aI→Ex→Bool→Nat→List Sb×Nat) (hBd:AA G cs T (fun e=>P e) B) (hcnt:oZ cs B):∀ n,KK G cs T P B n:=by
 intro n
 induction n with
 |zero=>
  intro l done k nm op oa ss bs als dv H sb g0 nx0 hlen hdv hl hw hnx h2
  have hd:done.length=l.length:=by omega
  have l2:=(List.getElem?_eq_some_iff.1 h2).1
  have hc0:aM B (l.drop done.length) nx0=(([],[]),nx0):=by rw[hd,List.drop_length];rfl
  rw[hc0]
  simp only[fW,if_pos hd]
  rw[dV h2]
  have hdi:(done.length:Int)=(l.length:Int):=by omega
  have hll:=ct l
  have hu1:=da H.length ss
  have hu2:=aY H.length bs
  have hu3:=cg H.length als
  rcases hdv with⟨rfl,rfl⟩|⟨id,g,rfl,hid⟩
  ·have hl0:l.length=0:=hd.symm
   refine ag.aK TB [10] aF _ Tryz.func118 rfl (by decide) Tryz.ntmps118 (by simp) rfl (by simp only[au,Nat.reduceAdd];rfl) fun C R' hR hC hcl hB=>?_;have X:=aO;have hC':=congrArg List.length hC
   have X:=And.intro aO (And.intro hll hl0)
   (refine run ?_;with_reducible repeat' first|exact trivial|(apply af.mk<;>intro hb)|apply ax.mk)
   exact aS (n0:=H.length) hR hC' hcl (.same _ (by show SV.aB _ [.int .i64 k,.str nm,.int .i64 op,.nil,.list 7 (cJ ss),.list 8 (aX bs),.list 11 (bU als)]=true;simp only[SV.under,SV.aB,hu1,hu2,hu3,Bool.and_self])) ⟨rfl,rfl⟩
  ·have li:=(List.getElem?_eq_some_iff.1 hid).1
   have hids:=fun L=>(show(H++L)[id]? =some (.cells g 2 (bq done)) by rw[du li];exact hid)
   have hal:=dk done
   refine ag.aK TB [10] aF _ Tryz.func118 rfl (by decide) Tryz.ntmps118 (by simp) rfl (by simp only[au,Nat.reduceAdd];rfl) fun C R' hR hC hcl hB=>?_;have X:=aO;have hC':=congrArg List.length hC
   have X:=And.intro aO (And.intro hll (And.intro hdi (And.intro hids hal)))
   (refine run ?_;with_reducible repeat' first|exact trivial|(apply af.mk<;>intro hb)|apply ax.mk)
   exact aS (n0:=H.length) hR hC' hcl (.same _ (by show SV.aB _ [.int .i64 k,.str nm,.int .i64 op,.sl id g 0 done.length,.list 7 (cJ ss),.list 8 (aX bs),.list 11 (bU als)]=true;simp only[SV.under,SV.aB,hu1,hu2,hu3,decide_eq_true li,Bool.and_self])) ⟨rfl,rfl⟩
 |succ n ih=>
  intro l done k nm op oa ss bs als dv H sb g0 nx0 hlen hdv hl hw hnx h2
  have hlt:done.length<l.length:=by omega
  have hne:¬ done.length=l.length:=by omega
  have hnei:¬ (done.length:Int)=(l.length:Int):=by omega
  have l2:=(List.getElem?_eq_some_iff.1 h2).1
  have hle:=gU l
  have hll:=ct l
  have hcg:(aj l)[done.length]? =some (.agg l[done.length].cells):=ga hlt
  have hmem:=List.getElem_mem hlt
  obtain⟨hP,hsh⟩:=hl _ hmem
  have hxw:=cH hmem
  have hdw:=ir hlt
  have hc:aM B (l.drop done.length) nx0=if pn l[done.length] then ((Cc l[done.length]::(aM B (l.drop (done.length+1)) nx0).1.1,(aM B (l.drop (done.length+1)) nx0).1.2),(aM B (l.drop (done.length+1)) nx0).2)
   else ((⟨eB bW nx0,0⟩::(aM B (l.drop (done.length+1)) (B (eB bW nx0) l[done.length] true (nx0+1)).2).1.1,.bs (B (eB bW nx0) l[done.length] true (nx0+1)).1::(aM B (l.drop (done.length+1)) (B (eB bW nx0) l[done.length] true (nx0+1)).2).1.2),(aM B (l.drop (done.length+1)) (B (eB bW nx0) l[done.length] true (nx0+1)).2).2):=by
   rw[List.drop_eq_getElem_cons hlt];rfl
  rw[hc]
  simp only[fW,if_neg hne]
  have hcn:=hcnt (eB bW nx0) l[done.length] true (nx0+1) hsh
  have ca:=fun H=>su G hG l[done.length] H
  have cb:=fun H=>oG G hG l[done.length] H
  have hat:Cc l[done.length]=⟨l[done.length].name,l[done.length].n⟩:=rfl
  rw[hat]
  clear hat
  obtain⟨Q,q0,qd,hlenQ,qx,qc,qid⟩:=FM h2
  simp only[qd]
  have hcb:=fun L=>hBd (eB bW nx0) l[done.length] true (Q (nx0+1)++L) sb g0 (nx0+1) hP (by omega) hsh (by split<;>omega) (qx.1 _ _)
  have hx8:=l[done.length].aH
  have hx8d:=l[done.length].bY
  have hx8t:=l[done.length].aU
  have hpos:=l[done.length].bz
  rw[show l[done.length].sv= .agg l[done.length].cells from rfl] at*
  generalize B (eB bW nx0) l[done.length] true (nx0+1)=r0 at*
  obtain⟨bb,nx2⟩:=r0
  simp only at hcb hcn
  have hrecA:=fun(a:At) dv' nx L (hdv':EN (Q nx++L) dv' (done++[a])) (hb:nx+bt (l.drop (done.length+1))+1≤4294967290)=>ih l (done++[a]) k nm op oa ss bs als dv' (Q nx++L) sb g0 nx (by simp only[List.length_append,List.length_cons,List.length_nil];omega) hdv' hl hw (by simpa only[List.length_append,List.length_cons,List.length_nil] using hb) (qx.1 _ _)
  simp only[List.length_append,List.length_cons,List.length_nil,Nat.zero_add] at hrecA
  have hz:=fun n=>lr (B:=B) (l:=l) (m:=done.length+1) (n:=n)
  generalize l.drop (done.length+1)=rest at*
  generalize l[done.length].wt=xw at*
  generalize pn l[done.length]=b at*
  generalize l[done.length].name=xn at*
  generalize l[done.length].n=xv at*
  generalize l[done.length].cells=xc at*
  generalize bt rest=rw0 at*
  have hal:=dk done
  have htk:List.take done.length (bq done)=bq done:=List.take_of_length_le (by omega)
  rcases hdv with⟨rfl,hdn⟩|⟨id,g,rfl,hid⟩
  ·have hdi:(done.length:Int)=0:=by rw[hdn];rfl
   have hdn0:bq done=[]:=by rw[hdn];rfl
   have hdl:done.length=0:=by rw[hdn];rfl
   have hlp:¬ (0:Int)=(l.length:Int):=by omega
   have hcg0:(aj l)[0]? =some (.agg xc):=by rw[← hdl];exact hcg
   rw[← q0]
   refine ag.aK TB [10] aF _ Tryz.func118 rfl (by decide) Tryz.ntmps118 (by simp) rfl (by simp only[au,Nat.reduceAdd];rfl) fun C R' hR hC hcl hB=>?_;have X:=aO;have hC':=congrArg List.length hC
   have hC':=hC'.trans (hlenQ _)
   have hcls:∀ nx,closed (Q nx):=fun nx=>qc (q0 ▸ hcl) nx
   clear q0 h2
   generalize hn0:H.length=n0 at*
   have hx21:=hlenQ
   have hx22:∀ nx L,(Q nx++L)[n0]? =L[0]? :=fun nx L=>by rw[← hlenQ nx];exact dh _ _
   have hx23:∀ nx L k,(Q nx++L)[n0+k]? =L[k]? :=fun nx L k=>by rw[← hlenQ nx];exact bJ _ _ _
   have hx24:∀ nx L x,(Q nx++L).set n0 x=Q nx++L.set 0 x:=fun nx L x=>by rw[← hlenQ nx];exact dB _ _ _
   have hx25:∀ nx L k x,(Q nx++L).set (n0+k) x=Q nx++L.set k x:=fun nx L k x=>by rw[← hlenQ nx];exact cq _ _ _ _
   have hu1:=fun n=>da n ss
   have hu2:=fun n=>aY n bs
   have hu3:=fun n=>cg n als
   cases b
   ·simp only[Bool.false_eq_true,if_false] at hR
    have c1:=ca
    have X:=And.intro (And.intro aO (And.intro qx (And.intro hx21 (And.intro hx22 (And.intro hx23 (And.intro hx24 hx25)))))) (And.intro hcg0 (And.intro hll (And.intro hlp (And.intro hx8 (And.intro hx8d hx8t)))))
    (refine run ?_;with_reducible repeat' first|exact trivial|(apply af.mk<;>intro hb)|apply ax.mk)
    refine bh (gk G hG sb g0 nx0 _ _ (qx.1 _ _) (by omega)) ?_
    rintro r H' ⟨rfl,rfl⟩
    rw[qx.2]
    generalize eB bW nx0=tt at*
    (refine run ?_;with_reducible repeat' first|exact trivial|(apply af.mk<;>intro hb)|apply ax.mk)
    refine bh (hcb _) ?_
    rintro r H' ⟨rfl,rfl⟩
    rw[qx.2]
    clear c1
    have c1:=fun H=>kh G hG tt H
    have hsn:=cx done ⟨tt,0⟩
    have X:=And.intro (And.intro (And.intro aO (And.intro qx (And.intro hx21 (And.intro hx22 (And.intro hx23 (And.intro hx24 hx25)))))) (And.intro hcg0 (And.intro hll (And.intro hlp (And.intro hx8 (And.intro hx8d hx8t)))))) hsn
    (refine run ?_;with_reducible repeat' first|exact trivial|(apply af.mk<;>intro hb)|apply ax.mk)
    refine dq (hrecA ⟨tt,0⟩ (.sl (n0+3) 2 0 1) nx2 _ (.inr ⟨n0+3,2,by rw[hdn];rfl,by rw[hx23,hdn];rfl⟩) (by omega)) ?_
    rintro r H' ⟨rfl,rfl⟩
    rw[qx.2]
    have hz:=hz nx2
    generalize aM B rest nx2=r1 at*
    obtain⟨⟨A1,W1⟩,nx3⟩:=r1
    simp only at hz
    dsimp only
    have g7:=eK k nm op ss bs als (done++[⟨tt,0⟩]) (.sl (n0+3) 2 0 1) l A1 W1
    have gu:=fun n h=>eE k nm op ss bs als (done++[⟨tt,0⟩]) (.sl (n0+3) 2 0 1) l A1 W1 n h
    have gf:=fun HH hb=>gz (HH:=HH) (n0:=n0) (id:=n0+3) (g:=2) (d:=done++[⟨tt,0⟩]) k nm op ss bs als l A1 W1 hb (by omega) (fun h=>hz (by simpa only[List.length_append,List.length_cons,List.length_nil,Nat.zero_add] using h))
    simp only[List.length_append,List.length_cons,List.length_nil,Nat.zero_add,List.append_assoc,List.cons_append,List.nil_append] at gf
    rw[hdl,Nat.zero_add] at gf
    generalize fW k nm op ss bs als (done++[⟨tt,0⟩]) (.sl (n0+3) 2 0 1) l A1 W1=rb at*
    clear c1
    have c1:=fun H hu=>vv G hG bb rb g7 H hu
    (refine run ?_;with_reducible repeat' first|exact trivial|(apply af.mk<;>intro hb)|apply ax.mk)
    refine dq (c1 _ (gu _ (by simp only[SV.under,List.length_append,hlenQ,List.length_cons,List.length_nil,decide_eq_true_eq];omega))) ?_
    rintro r H' ⟨rfl,rfl⟩
    (refine run ?_;with_reducible repeat' first|exact trivial|(apply af.mk<;>intro hb)|apply ax.mk)
    exact aS (n0:=n0) hR hC' (hcls _) (.agg _ _ (.cons _ _ _ _ (.same _ rfl) (.cons _ _ _ _ (.same _ rfl) (.cons _ _ _ _ (.same _ rfl) (.cons _ _ _ _ (.same _ rfl) (.cons _ _ _ _ (.list _ _ _ (.cons _ _ _ _ (.agg _ _ (gf _ (by rw[hx23,hdn];rfl))) .nil)) (.cons _ _ _ _ (.same _ (by simp only[SV.under,aY])) (.cons _ _ _ _ (.same _ rfl) .nil)))))))) ⟨rfl,rfl⟩ (hn:=hlenQ _)
   ·simp only[if_true] at hR
    have c1:=ca
    have c2:=cb
    have hsn:=cx done ⟨xn,xv⟩
    have X:=And.intro (And.intro (And.intro aO (And.intro qx (And.intro hx21 (And.intro hx22 (And.intro hx23 (And.intro hx24 hx25)))))) (And.intro hcg0 (And.intro hll (And.intro hlp (And.intro hx8 (And.intro hx8d hx8t)))))) hsn
    (refine run ?_;with_reducible repeat' first|exact trivial|(apply af.mk<;>intro hb)|apply ax.mk)
    refine dq (hrecA ⟨xn,xv⟩ (.sl (n0+3) 2 0 1) nx0 _ (.inr ⟨n0+3,2,by rw[hdn];rfl,by rw[hx23,hdn];rfl⟩) (by omega)) ?_
    rintro r H' ⟨rfl,rfl⟩
    rw[qx.2]
    have hz:=hz nx0
    generalize aM B rest nx0=r1 at*
    obtain⟨⟨A1,W1⟩,nx3⟩:=r1
    simp only at hz
    dsimp only
    have g7:=eK k nm op ss bs als (done++[⟨xn,xv⟩]) (.sl (n0+3) 2 0 1) l A1 W1
    have gu:=fun n h=>eE k nm op ss bs als (done++[⟨xn,xv⟩]) (.sl (n0+3) 2 0 1) l A1 W1 n h
    have gf:=fun HH hb=>gz (HH:=HH) (n0:=n0) (id:=n0+3) (g:=2) (d:=done++[⟨xn,xv⟩]) k nm op ss bs als l A1 W1 hb (by omega) (fun h=>hz (by simpa only[List.length_append,List.length_cons,List.length_nil,Nat.zero_add] using h))
    simp only[List.length_append,List.length_cons,List.length_nil,Nat.zero_add,List.append_assoc,List.cons_append,List.nil_append] at gf
    rw[hdl,Nat.zero_add] at gf
    generalize fW k nm op ss bs als (done++[⟨xn,xv⟩]) (.sl (n0+3) 2 0 1) l A1 W1=rb at*
    have g7t:rb.take 7=rb:=List.take_of_length_le (by omega)
    have g7d:rb.drop 7=[]:=List.drop_eq_nil_of_le (by omega)
    have X:=And.intro X (And.intro g7 (And.intro g7t g7d))
    clear c1 c2
    (refine run ?_;with_reducible repeat' first|exact trivial|(apply af.mk<;>intro hb)|apply ax.mk)
    exact aS (n0:=n0) hR hC' (hcls _) (.agg _ _ (gf _ (by rw[hx23,hdn];rfl))) ⟨rfl,rfl⟩ (hn:=hlenQ _)
  ·have hids:=qid id _ (tv hid h2) hid
   rw[← q0]
   refine ag.aK TB [10] aF _ Tryz.func118 rfl (by decide) Tryz.ntmps118 (by simp) rfl (by simp only[au,Nat.reduceAdd];rfl) fun C R' hR hC hcl hB=>?_;have X:=aO;have hC':=congrArg List.length hC
   have hC':=hC'.trans (hlenQ _)
   have hcls:∀ nx,closed (Q nx):=fun nx=>qc (q0 ▸ hcl) nx
   clear q0 h2
   generalize hn0:H.length=n0 at*
   have hx21:=hlenQ
   have hx22:∀ nx L,(Q nx++L)[n0]? =L[0]? :=fun nx L=>by rw[← hlenQ nx];exact dh _ _
   have hx23:∀ nx L k,(Q nx++L)[n0+k]? =L[k]? :=fun nx L k=>by rw[← hlenQ nx];exact bJ _ _ _
   have hx24:∀ nx L x,(Q nx++L).set n0 x=Q nx++L.set 0 x:=fun nx L x=>by rw[← hlenQ nx];exact dB _ _ _
   have hx25:∀ nx L k x,(Q nx++L).set (n0+k) x=Q nx++L.set k x:=fun nx L k x=>by rw[← hlenQ nx];exact cq _ _ _ _
   have hu1:=fun n=>da n ss
   have hu2:=fun n=>aY n bs
   have hu3:=fun n=>cg n als
   cases b
   ·simp only[Bool.false_eq_true,if_false] at hR
    have c1:=ca
    have X:=And.intro (And.intro aO (And.intro qx (And.intro hx21 (And.intro hx22 (And.intro hx23 (And.intro hx24 hx25)))))) (And.intro hids (And.intro hcg (And.intro hll (And.intro hnei (And.intro hal (And.intro htk (And.intro hx8 (And.intro hx8d hx8t))))))))
    (refine run ?_;with_reducible repeat' first|exact trivial|(apply af.mk<;>intro hb)|apply ax.mk)
    refine bh (gk G hG sb g0 nx0 _ _ (qx.1 _ _) (by omega)) ?_
    rintro r H' ⟨rfl,rfl⟩
    rw[qx.2]
    generalize eB bW nx0=tt at*
    (refine run ?_;with_reducible repeat' first|exact trivial|(apply af.mk<;>intro hb)|apply ax.mk)
    refine bh (hcb _) ?_
    rintro r H' ⟨rfl,rfl⟩
    rw[qx.2]
    clear c1
    have c1:=fun H=>kh G hG tt H
    have hsn:=cx done ⟨tt,0⟩
    have X:=And.intro (And.intro (And.intro aO (And.intro qx (And.intro hx21 (And.intro hx22 (And.intro hx23 (And.intro hx24 hx25)))))) (And.intro hids (And.intro hcg (And.intro hll (And.intro hnei (And.intro hal (And.intro htk (And.intro hx8 (And.intro hx8d hx8t))))))))) hsn
    (refine run ?_;with_reducible repeat' first|exact trivial|(apply af.mk<;>intro hb)|apply ax.mk)
    refine dq (hrecA ⟨tt,0⟩ (.sl (n0+3) 2 0 (done.length+1)) nx2 _ (.inr ⟨n0+3,2,by simp only[List.length_append,List.length_cons,List.length_nil,Nat.zero_add],by rw[hx23];rfl⟩) (by omega)) ?_
    rintro r H' ⟨rfl,rfl⟩
    rw[qx.2]
    have hz:=hz nx2
    generalize aM B rest nx2=r1 at*
    obtain⟨⟨A1,W1⟩,nx3⟩:=r1
    simp only at hz
    dsimp only
    have g7:=eK k nm op ss bs als (done++[⟨tt,0⟩]) (.sl (n0+3) 2 0 (done.length+1)) l A1 W1
    have gu:=fun n h=>eE k nm op ss bs als (done++[⟨tt,0⟩]) (.sl (n0+3) 2 0 (done.length+1)) l A1 W1 n h
    have gf:=fun HH hb=>gz (HH:=HH) (n0:=n0) (id:=n0+3) (g:=2) (d:=done++[⟨tt,0⟩]) k nm op ss bs als l A1 W1 hb (by omega) (fun h=>hz (by simpa only[List.length_append,List.length_cons,List.length_nil,Nat.zero_add] using h))
    simp only[List.length_append,List.length_cons,List.length_nil,Nat.zero_add,List.append_assoc,List.cons_append,List.nil_append] at gf
    skip
    generalize fW k nm op ss bs als (done++[⟨tt,0⟩]) (.sl (n0+3) 2 0 (done.length+1)) l A1 W1=rb at*
    clear c1
    have c1:=fun H hu=>vv G hG bb rb g7 H hu
    (refine run ?_;with_reducible repeat' first|exact trivial|(apply af.mk<;>intro hb)|apply ax.mk)
    refine dq (c1 _ (gu _ (by simp only[SV.under,List.length_append,hlenQ,List.length_cons,List.length_nil,decide_eq_true_eq];omega))) ?_
    rintro r H' ⟨rfl,rfl⟩
    (refine run ?_;with_reducible repeat' first|exact trivial|(apply af.mk<;>intro hb)|apply ax.mk)
    exact aS (n0:=n0) hR hC' (hcls _) (.agg _ _ (.cons _ _ _ _ (.same _ rfl) (.cons _ _ _ _ (.same _ rfl) (.cons _ _ _ _ (.same _ rfl) (.cons _ _ _ _ (.same _ rfl) (.cons _ _ _ _ (.list _ _ _ (.cons _ _ _ _ (.agg _ _ (gf _ (by rw[hx23];rfl))) .nil)) (.cons _ _ _ _ (.same _ (by simp only[SV.under,aY])) (.cons _ _ _ _ (.same _ rfl) .nil)))))))) ⟨rfl,rfl⟩ (hn:=hlenQ _)
   ·simp only[if_true] at hR
    have c1:=ca
    have c2:=cb
    have hsn:=cx done ⟨xn,xv⟩
    have X:=And.intro (And.intro (And.intro aO (And.intro qx (And.intro hx21 (And.intro hx22 (And.intro hx23 (And.intro hx24 hx25)))))) (And.intro hids (And.intro hcg (And.intro hll (And.intro hnei (And.intro hal (And.intro htk (And.intro hx8 (And.intro hx8d hx8t))))))))) hsn
    (refine run ?_;with_reducible repeat' first|exact trivial|(apply af.mk<;>intro hb)|apply ax.mk)
    refine dq (hrecA ⟨xn,xv⟩ (.sl (n0+3) 2 0 (done.length+1)) nx0 _ (.inr ⟨n0+3,2,by simp only[List.length_append,List.length_cons,List.length_nil,Nat.zero_add],by rw[hx23];rfl⟩) (by omega)) ?_
    rintro r H' ⟨rfl,rfl⟩
    rw[qx.2]
    have hz:=hz nx0
    generalize aM B rest nx0=r1 at*
    obtain⟨⟨A1,W1⟩,nx3⟩:=r1
    simp only at hz
    dsimp only
    have g7:=eK k nm op ss bs als (done++[⟨xn,xv⟩]) (.sl (n0+3) 2 0 (done.length+1)) l A1 W1
    have gu:=fun n h=>eE k nm op ss bs als (done++[⟨xn,xv⟩]) (.sl (n0+3) 2 0 (done.length+1)) l A1 W1 n h
    have gf:=fun HH hb=>gz (HH:=HH) (n0:=n0) (id:=n0+3) (g:=2) (d:=done++[⟨xn,xv⟩]) k nm op ss bs als l A1 W1 hb (by omega) (fun h=>hz (by simpa only[List.length_append,List.length_cons,List.length_nil,Nat.zero_add] using h))
    simp only[List.length_append,List.length_cons,List.length_nil,Nat.zero_add,List.append_assoc,List.cons_append,List.nil_append] at gf
    skip
    generalize fW k nm op ss bs als (done++[⟨xn,xv⟩]) (.sl (n0+3) 2 0 (done.length+1)) l A1 W1=rb at*
    have g7t:rb.take 7=rb:=List.take_of_length_le (by omega)
    have g7d:rb.drop 7=[]:=List.drop_eq_nil_of_le (by omega)
    have X:=And.intro X (And.intro g7 (And.intro g7t g7d))
    clear c1 c2
    (refine run ?_;with_reducible repeat' first|exact trivial|(apply af.mk<;>intro hb)|apply ax.mk)
    exact aS (n0:=n0) hR hC' (hcls _) (.agg _ _ (gf _ (by rw[hx23];rfl))) ⟨rfl,rfl⟩ (hn:=hlenQ _)
def KL (G:Gl) (cs:List Cn) (T:List aI) (P:Ex→Prop) (E:Ex→Nat→Sg×Nat) (n:Nat):Prop:=
 ∀ (l:List Ex) (done:List At) (op:Int) (dv:SV) (H:List az) (sb g0 nx:Nat),l.length=done.length+n→EN H dv done→(∀ x∈l,P x∧Sh cs x)→bt l<67108864→nx+bt (l.drop done.length)+1≤4294967290→
  H[sb]? =some (.cells g0 2 [.agg [.int .i64 (nx:Int),.list 1 (T.map .str)]])→
  ag Tryz.prog G 119 [.ptr sb g0 0 0,.list 8 (aj l),dv,.int .i64 op] H (fun r H'=>H'=H.set sb (.cells g0 2 [.agg [.int .i64 ((bG E (l.drop done.length) nx).2:Int),.list 1 (T.map .str)]])∧r= .agg (fW 4 [] op [] [] [] done dv l (bG E (l.drop done.length) nx).1.1 (bG E (l.drop done.length) nx).1.2))
theorem sV {E:Ex→Nat→Sg×Nat} {l:List Ex} {m n:Nat} (h:m=l.length):(bG E (l.drop m) n).1.1=[]∧(bG E (l.drop m) n).1.2=[]:=by
 rw[h,List.drop_length]
 exact⟨rfl,rfl⟩
theorem D6 (G:Gl) (hG:aw G) (cs:List Cn) (T:List aI) (P:Ex→Prop) (E:Ex→Nat→Sg×Nat) (hEx:AB G cs T P E) (hcnt:o4 cs E):∀ n,KL G cs T P E n:=by
 intro n
 induction n with
 |zero=>
  intro l done op dv H sb g0 nx0 hlen hdv hl hw hnx h2
  have hd:done.length=l.length:=by omega
  have l2:=(List.getElem?_eq_some_iff.1 h2).1
  have hc0:bG E (l.drop done.length) nx0=(([],[]),nx0):=by rw[hd,List.drop_length];rfl
  rw[hc0]
  simp only[fW,if_pos hd]
  rw[dV h2]
  have hdi:(done.length:Int)=(l.length:Int):=by omega
  have hll:=ct l
  rcases hdv with⟨rfl,rfl⟩|⟨id,g,rfl,hid⟩
  ·have hl0:l.length=0:=hd.symm
   refine ag.aK TB [10] aF _ Tryz.func119 rfl (by decide) Tryz.ntmps119 (by simp) rfl (by simp only[au,Nat.reduceAdd];rfl) fun C R' hR hC hcl hB=>?_;have X:=aO;have hC':=congrArg List.length hC
   have X:=And.intro aO (And.intro hll hl0)
   (refine run ?_;with_reducible repeat' first|exact trivial|(apply af.mk<;>intro hb)|apply ax.mk)
   exact aS (n0:=H.length) hR hC' hcl (.same _ rfl) ⟨rfl,rfl⟩
  ·have li:=(List.getElem?_eq_some_iff.1 hid).1
   have hids:=fun L=>(show(H++L)[id]? =some (.cells g 2 (bq done)) by rw[du li];exact hid)
   have hal:=dk done
   refine ag.aK TB [10] aF _ Tryz.func119 rfl (by decide) Tryz.ntmps119 (by simp) rfl (by simp only[au,Nat.reduceAdd];rfl) fun C R' hR hC hcl hB=>?_;have X:=aO;have hC':=congrArg List.length hC
   have X:=And.intro aO (And.intro hll (And.intro hdi (And.intro hids hal)))
   (refine run ?_;with_reducible repeat' first|exact trivial|(apply af.mk<;>intro hb)|apply ax.mk)
   exact aS (n0:=H.length) hR hC' hcl (.same _ (by show SV.aB _ [.int .i64 4,.str [],.int .i64 op,.sl id g 0 done.length,.list 7 [],.list 8 [],.list 11 []]=true;simp only[SV.under,SV.aB,decide_eq_true li,Bool.and_self])) ⟨rfl,rfl⟩
 |succ n ih=>
  intro l done op dv H sb g0 nx0 hlen hdv hl hw hnx h2
  have hlt:done.length<l.length:=by omega
  have hne:¬ done.length=l.length:=by omega
  have hnei:¬ (done.length:Int)=(l.length:Int):=by omega
  have l2:=(List.getElem?_eq_some_iff.1 h2).1
  have hle:=gU l
  have hll:=ct l
  have hcg:(aj l)[done.length]? =some (.agg l[done.length].cells):=ga hlt
  have hmem:=List.getElem_mem hlt
  obtain⟨hP,hsh⟩:=hl _ hmem
  have hxw:=cH hmem
  have hdw:=ir hlt
  have hc:bG E (l.drop done.length) nx0=if l[done.length].kind=2 then ((Cc l[done.length]::(bG E (l.drop (done.length+1)) nx0).1.1,(bG E (l.drop (done.length+1)) nx0).1.2),(bG E (l.drop (done.length+1)) nx0).2)
   else ((⟨eB bW nx0,0⟩::(bG E (l.drop (done.length+1)) (E l[done.length] (nx0+1)).2).1.1,.look (eB bW nx0) (E l[done.length] (nx0+1)).1::(bG E (l.drop (done.length+1)) (E l[done.length] (nx0+1)).2).1.2),(bG E (l.drop (done.length+1)) (E l[done.length] (nx0+1)).2).2):=by
   rw[List.drop_eq_getElem_cons hlt];rfl
  rw[hc]
  simp only[fW,if_neg hne]
  have hcn:=hcnt l[done.length] (nx0+1) hsh
  have cb:=fun H=>oG G hG l[done.length] H
  have hat:Cc l[done.length]=⟨l[done.length].name,l[done.length].n⟩:=rfl
  rw[hat]
  clear hat
  obtain⟨Q,q0,qd,hlenQ,qx,qc,qid⟩:=FM h2
  simp only[qd]
  have hpos:=l[done.length].bz
  have hcb:=fun L=>hEx l[done.length] (Q (nx0+1)++L) sb g0 (nx0+1) hP (by omega) hsh (by omega) (qx.1 _ _)
  have hz:=fun n=>sV (E:=E) (l:=l) (m:=done.length+1) (n:=n)
  have hrecA:=fun(a:At) dv' nx L (hdv':EN (Q nx++L) dv' (done++[a])) (hb:nx+bt (l.drop (done.length+1))+1≤4294967290)=>ih l (done++[a]) op dv' (Q nx++L) sb g0 nx (by simp only[List.length_append,List.length_cons,List.length_nil];omega) hdv' hl hw (by simpa only[List.length_append,List.length_cons,List.length_nil] using hb) (qx.1 _ _)
  simp only[List.length_append,List.length_cons,List.length_nil,Nat.zero_add] at hrecA
  generalize hE:E l[done.length] (nx0+1)=r0 at*
  clear hE
  obtain⟨y,nx2⟩:=r0
  simp only at hcb hcn
  generalize l.drop (done.length+1)=rest at*
  generalize l[done.length].wt=xw at*
  clear hP hsh hmem hc
  generalize l[done.length]=x at*
  obtain⟨k2,n2,nn2,op2,ns2,ss2,bs2,as2⟩:=x
  simp only[Ex.name,Ex.n,Ex.kind] at cb ⊢
  rw[show(Ex.mk k2 n2 nn2 op2 ns2 ss2 bs2 as2).cells=[.int .i64 k2,.str n2,.int .i64 nn2,.int .i64 op2,.list 1 (ns2.map .str),.list 8 (aj ss2),.list 9 (ao bs2),.list 12 (aA as2)] from rfl] at hcg
  rw[show(Ex.mk k2 n2 nn2 op2 ns2 ss2 bs2 as2).sv= .agg [.int .i64 k2,.str n2,.int .i64 nn2,.int .i64 op2,.list 1 (ns2.map .str),.list 8 (aj ss2),.list 9 (ao bs2),.list 12 (aA as2)] from rfl] at*
  generalize bt rest=rw0 at*
  have hal:=dk done
  have htk:List.take done.length (bq done)=bq done:=List.take_of_length_le (by omega)
  have hy7:=y.aH
  have hy7t:=y.aU
  have hy7d:y.cells.drop 7=[]:=List.drop_eq_nil_of_le (by omega)
  rcases hdv with⟨rfl,hdn⟩|⟨id,g,rfl,hid⟩
  ·have hdi:(done.length:Int)=0:=by rw[hdn];rfl
   have hdn0:bq done=[]:=by rw[hdn];rfl
   have hdl:done.length=0:=by rw[hdn];rfl
   have hlp:¬ (0:Int)=(l.length:Int):=by omega
   rw[hdl] at hcg
   rw[← q0]
   refine ag.aK TB [10] aF _ Tryz.func119 rfl (by decide) Tryz.ntmps119 (by simp) rfl (by simp only[au,Nat.reduceAdd];rfl) fun C R' hR hC hcl hB=>?_;have X:=aO;have hC':=congrArg List.length hC
   have hC':=hC'.trans (hlenQ _)
   have hcls:∀ nx,closed (Q nx):=fun nx=>qc (q0 ▸ hcl) nx
   clear q0 h2
   generalize hn0:H.length=n0 at*
   have hx21:=hlenQ
   have hx22:∀ nx L,(Q nx++L)[n0]? =L[0]? :=fun nx L=>by rw[← hlenQ nx];exact dh _ _
   have hx23:∀ nx L k,(Q nx++L)[n0+k]? =L[k]? :=fun nx L k=>by rw[← hlenQ nx];exact bJ _ _ _
   have hx24:∀ nx L x,(Q nx++L).set n0 x=Q nx++L.set 0 x:=fun nx L x=>by rw[← hlenQ nx];exact dB _ _ _
   have hx25:∀ nx L k x,(Q nx++L).set (n0+k) x=Q nx++L.set k x:=fun nx L k x=>by rw[← hlenQ nx];exact cq _ _ _ _
   by_cases hk:k2=2
   rotate_left
   ·simp only[eq_false hk,if_false] at hR
    have X:=And.intro (And.intro hk (And.intro (And.intro aO (And.intro qx (And.intro hx21 (And.intro hx22 (And.intro hx23 (And.intro hx24 hx25)))))) (And.intro hcg (And.intro hll hlp)))) (And.intro hy7 (And.intro hy7t hy7d))
    (refine run ?_;with_reducible repeat' first|exact trivial|(apply af.mk<;>intro hb)|apply ax.mk)
    refine bh (gk G hG sb g0 nx0 _ _ (qx.1 _ _) (by omega)) ?_
    rintro r H' ⟨rfl,rfl⟩
    rw[qx.2]
    generalize eB bW nx0=tt at*
    (refine run ?_;with_reducible repeat' first|exact trivial|(apply af.mk<;>intro hb)|apply ax.mk)
    refine bh (hcb _) ?_
    rintro r H' ⟨rfl,rfl⟩
    rw[qx.2,show y.sv= .agg y.cells from rfl]
    have c1:=fun H=>kh G hG tt H
    have hsn:=cx done ⟨tt,0⟩
    have X:=And.intro X hsn
    (refine run ?_;with_reducible repeat' first|exact trivial|(apply af.mk<;>intro hb)|apply ax.mk)
    refine dq (hrecA ⟨tt,0⟩ (.sl (n0+2) 2 0 1) nx2 _ (.inr ⟨n0+2,2,by rw[hdn];rfl,by rw[hx23,hdn];rfl⟩) (by omega)) ?_
    rintro r H' ⟨rfl,rfl⟩
    rw[qx.2]
    have hz:=hz nx2
    generalize bG E rest nx2=r1 at*
    obtain⟨⟨A1,W1⟩,nx3⟩:=r1
    simp only at hz
    dsimp only
    have g7:=eK 4 [] op [] [] [] (done++[⟨tt,0⟩]) (.sl (n0+2) 2 0 1) l A1 W1
    have gu:=fun n h=>eE 4 [] op [] [] [] (done++[⟨tt,0⟩]) (.sl (n0+2) 2 0 1) l A1 W1 n h
    have gf:=fun HH hb=>gz (HH:=HH) (n0:=n0) (id:=n0+2) (g:=2) (d:=done++[⟨tt,0⟩]) 4 [] op [] [] [] l A1 W1 hb (by omega) (fun h=>hz (by simpa only[List.length_append,List.length_cons,List.length_nil,Nat.zero_add] using h))
    simp only[List.length_append,List.length_cons,List.length_nil,Nat.zero_add,List.append_assoc,List.cons_append,List.nil_append] at gf
    rw[hdl,Nat.zero_add] at gf
    generalize fW 4 [] op [] [] [] (done++[⟨tt,0⟩]) (.sl (n0+2) 2 0 1) l A1 W1=rb at*
    clear c1
    have c1:=fun H hu=>pD G hG y tt rb g7 H hu
    (refine run ?_;with_reducible repeat' first|exact trivial|(apply af.mk<;>intro hb)|apply ax.mk)
    refine dq (c1 _ (gu _ (by simp only[SV.under,List.length_append,hlenQ,List.length_cons,List.length_nil,decide_eq_true_eq];omega))) ?_
    rintro r H' ⟨rfl,rfl⟩
    (refine run ?_;with_reducible repeat' first|exact trivial|(apply af.mk<;>intro hb)|apply ax.mk)
    exact aS (n0:=n0) hR hC' (hcls _) (.agg _ _ (.cons _ _ _ _ (.same _ rfl) (.cons _ _ _ _ (.same _ rfl) (.cons _ _ _ _ (.same _ rfl) (.cons _ _ _ _ (.same _ rfl) (.cons _ _ _ _ (.same _ (by simp only[SV.under,SV.aB,Sg.aP,Bool.and_self])) (.cons _ _ _ _ (.same _ rfl) (.cons _ _ _ _ (.list _ _ _ (.cons _ _ _ _ (.agg _ _ (.cons _ _ _ _ (.same _ rfl) (.cons _ _ _ _ (.same _ rfl) (.cons _ _ _ _ (.same _ rfl) (.cons _ _ _ _ (.same _ rfl) (gf _ (by rw[hx23,hdn];rfl))))))) .nil)) .nil)))))))) ⟨rfl,rfl⟩ (hn:=hlenQ _)
   ·simp only[eq_true hk,if_true] at hR
    subst hk
    have c2:=cb
    have hsn:=cx done ⟨n2,nn2⟩
    have X:=And.intro (And.intro (And.intro aO (And.intro qx (And.intro hx21 (And.intro hx22 (And.intro hx23 (And.intro hx24 hx25)))))) (And.intro hcg (And.intro hll hlp))) hsn
    (refine run ?_;with_reducible repeat' first|exact trivial|(apply af.mk<;>intro hb)|apply ax.mk)
    refine bh (hrecA ⟨n2,nn2⟩ (.sl (n0+2) 2 0 1) nx0 _ (.inr ⟨n0+2,2,by rw[hdn];rfl,by rw[hx23,hdn];rfl⟩) (by omega)) ?_
    rintro r H' ⟨rfl,rfl⟩
    rw[qx.2]
    have hz:=hz nx0
    generalize bG E rest nx0=r1 at*
    obtain⟨⟨A1,W1⟩,nx3⟩:=r1
    simp only at hz
    dsimp only
    have g7:=eK 4 [] op [] [] [] (done++[⟨n2,nn2⟩]) (.sl (n0+2) 2 0 1) l A1 W1
    have gu:=fun n h=>eE 4 [] op [] [] [] (done++[⟨n2,nn2⟩]) (.sl (n0+2) 2 0 1) l A1 W1 n h
    have gf:=fun HH hb=>gz (HH:=HH) (n0:=n0) (id:=n0+2) (g:=2) (d:=done++[⟨n2,nn2⟩]) 4 [] op [] [] [] l A1 W1 hb (by omega) (fun h=>hz (by simpa only[List.length_append,List.length_cons,List.length_nil,Nat.zero_add] using h))
    simp only[List.length_append,List.length_cons,List.length_nil,Nat.zero_add,List.append_assoc,List.cons_append,List.nil_append] at gf
    rw[hdl,Nat.zero_add] at gf
    generalize fW 4 [] op [] [] [] (done++[⟨n2,nn2⟩]) (.sl (n0+2) 2 0 1) l A1 W1=rb at*
    have g7t:rb.take 7=rb:=List.take_of_length_le (by omega)
    have g7d:rb.drop 7=[]:=List.drop_eq_nil_of_le (by omega)
    have X:=And.intro X (And.intro g7 (And.intro g7t g7d))
    clear c2
    (refine run ?_;with_reducible repeat' first|exact trivial|(apply af.mk<;>intro hb)|apply ax.mk)
    exact aS (n0:=n0) hR hC' (hcls _) (.agg _ _ (gf _ (by rw[hx23,hdn];rfl))) ⟨rfl,rfl⟩ (hn:=hlenQ _)
  ·have hids:=qid id _ (tv hid h2) hid
   rw[← q0]
   refine ag.aK TB [10] aF _ Tryz.func119 rfl (by decide) Tryz.ntmps119 (by simp) rfl (by simp only[au,Nat.reduceAdd];rfl) fun C R' hR hC hcl hB=>?_;have X:=aO;have hC':=congrArg List.length hC
   have hC':=hC'.trans (hlenQ _)
   have hcls:∀ nx,closed (Q nx):=fun nx=>qc (q0 ▸ hcl) nx
   clear q0 h2
   generalize hn0:H.length=n0 at*
   have hx21:=hlenQ
   have hx22:∀ nx L,(Q nx++L)[n0]? =L[0]? :=fun nx L=>by rw[← hlenQ nx];exact dh _ _
   have hx23:∀ nx L k,(Q nx++L)[n0+k]? =L[k]? :=fun nx L k=>by rw[← hlenQ nx];exact bJ _ _ _
   have hx24:∀ nx L x,(Q nx++L).set n0 x=Q nx++L.set 0 x:=fun nx L x=>by rw[← hlenQ nx];exact dB _ _ _
   have hx25:∀ nx L k x,(Q nx++L).set (n0+k) x=Q nx++L.set k x:=fun nx L k x=>by rw[← hlenQ nx];exact cq _ _ _ _
   by_cases hk:k2=2
   rotate_left
   ·simp only[eq_false hk,if_false] at hR
    have X:=And.intro (And.intro hk (And.intro (And.intro aO (And.intro qx (And.intro hx21 (And.intro hx22 (And.intro hx23 (And.intro hx24 hx25)))))) (And.intro hids (And.intro hcg (And.intro hll (And.intro hnei (And.intro hal htk))))))) (And.intro hy7 (And.intro hy7t hy7d))
    (refine run ?_;with_reducible repeat' first|exact trivial|(apply af.mk<;>intro hb)|apply ax.mk)
    refine bh (gk G hG sb g0 nx0 _ _ (qx.1 _ _) (by omega)) ?_
    rintro r H' ⟨rfl,rfl⟩
    rw[qx.2]
    generalize eB bW nx0=tt at*
    (refine run ?_;with_reducible repeat' first|exact trivial|(apply af.mk<;>intro hb)|apply ax.mk)
    refine bh (hcb _) ?_
    rintro r H' ⟨rfl,rfl⟩
    rw[qx.2,show y.sv= .agg y.cells from rfl]
    have c1:=fun H=>kh G hG tt H
    have hsn:=cx done ⟨tt,0⟩
    have X:=And.intro X hsn
    (refine run ?_;with_reducible repeat' first|exact trivial|(apply af.mk<;>intro hb)|apply ax.mk)
    refine dq (hrecA ⟨tt,0⟩ (.sl (n0+2) 2 0 (done.length+1)) nx2 _ (.inr ⟨n0+2,2,by simp only[List.length_append,List.length_cons,List.length_nil,Nat.zero_add],by rw[hx23];rfl⟩) (by omega)) ?_
    rintro r H' ⟨rfl,rfl⟩
    rw[qx.2]
    have hz:=hz nx2
    generalize bG E rest nx2=r1 at*
    obtain⟨⟨A1,W1⟩,nx3⟩:=r1
    simp only at hz
    dsimp only
    have g7:=eK 4 [] op [] [] [] (done++[⟨tt,0⟩]) (.sl (n0+2) 2 0 (done.length+1)) l A1 W1
    have gu:=fun n h=>eE 4 [] op [] [] [] (done++[⟨tt,0⟩]) (.sl (n0+2) 2 0 (done.length+1)) l A1 W1 n h
    have gf:=fun HH hb=>gz (HH:=HH) (n0:=n0) (id:=n0+2) (g:=2) (d:=done++[⟨tt,0⟩]) 4 [] op [] [] [] l A1 W1 hb (by omega) (fun h=>hz (by simpa only[List.length_append,List.length_cons,List.length_nil,Nat.zero_add] using h))
    simp only[List.length_append,List.length_cons,List.length_nil,Nat.zero_add,List.append_assoc,List.cons_append,List.nil_append] at gf
    skip
    generalize fW 4 [] op [] [] [] (done++[⟨tt,0⟩]) (.sl (n0+2) 2 0 (done.length+1)) l A1 W1=rb at*
    clear c1
    have c1:=fun H hu=>pD G hG y tt rb g7 H hu
    (refine run ?_;with_reducible repeat' first|exact trivial|(apply af.mk<;>intro hb)|apply ax.mk)
    refine dq (c1 _ (gu _ (by simp only[SV.under,List.length_append,hlenQ,List.length_cons,List.length_nil,decide_eq_true_eq];omega))) ?_
    rintro r H' ⟨rfl,rfl⟩
    (refine run ?_;with_reducible repeat' first|exact trivial|(apply af.mk<;>intro hb)|apply ax.mk)
    exact aS (n0:=n0) hR hC' (hcls _) (.agg _ _ (.cons _ _ _ _ (.same _ rfl) (.cons _ _ _ _ (.same _ rfl) (.cons _ _ _ _ (.same _ rfl) (.cons _ _ _ _ (.same _ rfl) (.cons _ _ _ _ (.same _ (by simp only[SV.under,SV.aB,Sg.aP,Bool.and_self])) (.cons _ _ _ _ (.same _ rfl) (.cons _ _ _ _ (.list _ _ _ (.cons _ _ _ _ (.agg _ _ (.cons _ _ _ _ (.same _ rfl) (.cons _ _ _ _ (.same _ rfl) (.cons _ _ _ _ (.same _ rfl) (.cons _ _ _ _ (.same _ rfl) (gf _ (by rw[hx23];rfl))))))) .nil)) .nil)))))))) ⟨rfl,rfl⟩ (hn:=hlenQ _)
   ·simp only[eq_true hk,if_true] at hR
    subst hk
    have c2:=cb
    have hsn:=cx done ⟨n2,nn2⟩
    have X:=And.intro (And.intro (And.intro aO (And.intro qx (And.intro hx21 (And.intro hx22 (And.intro hx23 (And.intro hx24 hx25)))))) (And.intro hids (And.intro hcg (And.intro hll (And.intro hnei (And.intro hal htk)))))) hsn
    (refine run ?_;with_reducible repeat' first|exact trivial|(apply af.mk<;>intro hb)|apply ax.mk)
    refine bh (hrecA ⟨n2,nn2⟩ (.sl (n0+2) 2 0 (done.length+1)) nx0 _ (.inr ⟨n0+2,2,by simp only[List.length_append,List.length_cons,List.length_nil,Nat.zero_add],by rw[hx23];rfl⟩) (by omega)) ?_
    rintro r H' ⟨rfl,rfl⟩
    rw[qx.2]
    have hz:=hz nx0
    generalize bG E rest nx0=r1 at*
    obtain⟨⟨A1,W1⟩,nx3⟩:=r1
    simp only at hz
    dsimp only
    have g7:=eK 4 [] op [] [] [] (done++[⟨n2,nn2⟩]) (.sl (n0+2) 2 0 (done.length+1)) l A1 W1
    have gu:=fun n h=>eE 4 [] op [] [] [] (done++[⟨n2,nn2⟩]) (.sl (n0+2) 2 0 (done.length+1)) l A1 W1 n h
    have gf:=fun HH hb=>gz (HH:=HH) (n0:=n0) (id:=n0+2) (g:=2) (d:=done++[⟨n2,nn2⟩]) 4 [] op [] [] [] l A1 W1 hb (by omega) (fun h=>hz (by simpa only[List.length_append,List.length_cons,List.length_nil,Nat.zero_add] using h))
    simp only[List.length_append,List.length_cons,List.length_nil,Nat.zero_add,List.append_assoc,List.cons_append,List.nil_append] at gf
    skip
    generalize fW 4 [] op [] [] [] (done++[⟨n2,nn2⟩]) (.sl (n0+2) 2 0 (done.length+1)) l A1 W1=rb at*
    have g7t:rb.take 7=rb:=List.take_of_length_le (by omega)
    have g7d:rb.drop 7=[]:=List.drop_eq_nil_of_le (by omega)
    have X:=And.intro X (And.intro g7 (And.intro g7t g7d))
    clear c2
    (refine run ?_;with_reducible repeat' first|exact trivial|(apply af.mk<;>intro hb)|apply ax.mk)
    exact aS (n0:=n0) hR hC' (hcls _) (.agg _ _ (gf _ (by rw[hx23];rfl))) ⟨rfl,rfl⟩ (hn:=hlenQ _)
theorem yk (W:List Ar) (l:List Sb):dI (W++[.bs l])=dI W++l:=by
 induction W with
 |nil=>simp[dI]
 |cons a r ih=>
  cases a with
  |bs x=>rw[List.cons_append,dI,dI,ih,List.append_assoc]
  |look s x=>rw[List.cons_append,dI,dI,ih]
theorem de.app {H:List az} {n:Nat} {ks:ez}:∀ {xs ys us vs:List SV},de H n ks xs ys→de H n ks us vs→de H n ks (xs++us) (ys++vs)
 |[],ys,us,vs,h,t=>by cases h;exact t
 |x::xs,ys,us,vs,h,t=>by
  cases h
  rename_i y ys h1 h2
  exact .cons _ _ _ _ h1 (de.app h2 t)
theorem DW (G:Gl) (hG:aw G) (cs:List Cn) (T:List aI) (hT:T.length<1099511627776) (m:Nat) (E:Ex→Nat→Sg×Nat) (B:aI→Ex→Bool→Nat→List Sb×Nat)
 (hEx:AB G cs T (fun e=>qD e≤m) E) (hBd:AA G cs T (fun e=>l6 e≤m) B) (cE:o4 cs E) (cB:oZ cs B):AA G cs T (fun e=>l6 e≤m+1) (fK T E B):=by
 intro s e u H sb g0 nx0 hP hw hsh hnx h2
 have l2:=(List.getElem?_eq_some_iff.1 h2).1
 obtain⟨kd,nm,nn,op,names,ad,binds,alts⟩:=e
 have hlen:=Ex.cY kd nm nn op names ad binds alts
 have hww:(Ex.mk kd nm nn op names ad binds alts).wt=1+nm.length+cW names+bt ad+aW binds+cp alts:=by simp only[Ex.wt]
 have hnode:=hsh.node
 have hnl:=ea names
 have hnx:nx0+(Ex.mk kd nm nn op names ad binds alts).wt≤4294967290+(if kd=3 then 1 else 0):=hnx
 obtain⟨Q,q0,qd,hlenQ,qx,qc,qid⟩:=FM h2
 simp only[qd]
 rw[← q0]
 have hfree:=fun nx L=>Bx G hG T hT (.mk kd nm nn op names ad binds alts) hw (Q nx++L) sb g0 _ (qx.1 nx L)
 rw[nK]
 generalize iO T (.mk kd nm nn op names ad binds alts)=F2 at*
 refine ag.aK TB [9,10] aF _ Tryz.func23 rfl (by decide) Tryz.ntmps23 (by simp) rfl (by simp only[au,Nat.reduceAdd];rfl) fun C R' hR hC hcl hB=>?_;have X:=aO;have hC':=congrArg List.length hC
 have hC':=hC'.trans (hlenQ _)
 have hcls:∀ nx,closed (Q nx):=fun nx=>qc (q0 ▸ hcl) nx
 clear q0 h2
 generalize hn0:H.length=n0 at*
 have hx21:=hlenQ
 have hx22:∀ nx L,(Q nx++L)[n0]? =L[0]? :=fun nx L=>by rw[← hlenQ nx];exact dh _ _
 have hx23:∀ nx L k,(Q nx++L)[n0+k]? =L[k]? :=fun nx L k=>by rw[← hlenQ nx];exact bJ _ _ _
 have hx24:∀ nx L x,(Q nx++L).set n0 x=Q nx++L.set 0 x:=fun nx L x=>by rw[← hlenQ nx];exact dB _ _ _
 have hx25:∀ nx L k x,(Q nx++L).set (n0+k) x=Q nx++L.set k x:=fun nx L k x=>by rw[← hlenQ nx];exact cq _ _ _ _
 by_cases h3:kd=3
 ·rw[if_pos h3] at hR hnx
  subst h3
  have hs:ad.length=1:=by unfold dM at hnode;omega
  have h0:=b7 (l:=ad) (by omega)
  have hm:=cP (l:=ad) (by omega)
  have hsub:ad=[ad.headD bw]:=by
   match ad,hs with
   |[x],_=>rfl
  have hcx:=fun L=>hEx (ad.headD bw) (Q nx0++L) sb g0 nx0 (by unfold l6 at hP;have:=(l7 (e:= .mk 3 nm nn op names ad binds alts) (x:=ad.headD bw) (by omega)).1;omega) (by omega) (hsh.sub hm) (by omega) (qx.1 _ _)
  have hg0:(aj ad)[0]? =some (ad.headD bw).sv:=by rw[hsub];rfl
  generalize ad.headD bw=x at*
  have hx8:=x.aH
  have hx8d:=x.bY
  have hx8t:=x.aU
  generalize E x nx0=r0 at*
  obtain⟨y,nx2⟩:=r0
  simp only at hR hcx
  rw[show x.sv= .agg x.cells from rfl] at*
  generalize x.cells=xc at*
  have hy7:=y.aH
  have hy7t:=y.aU
  have hy7d:y.cells.drop 7=[]:=List.drop_eq_nil_of_le (by omega)
  have X:=And.intro (And.intro aO (And.intro qx (And.intro hx21 (And.intro hx22 (And.intro hx23 (And.intro hx24 hx25)))))) (And.intro hg0 (And.intro hx8 (And.intro hx8d (And.intro hx8t (And.intro hy7 (And.intro hy7t hy7d))))))
  (refine run ?_;with_reducible repeat' first|exact trivial|(apply af.mk<;>intro hb)|apply ax.mk)
  refine dq (hfree _ _) ?_
  rintro r H' ⟨rfl,rfl⟩
  (refine run ?_;with_reducible repeat' first|exact trivial|(apply af.mk<;>intro hb)|apply ax.mk)
  refine dq (hcx _) ?_
  rintro v H' ⟨rfl,rfl⟩
  rw[qx.2,show y.sv= .agg y.cells from rfl]
  (refine run ?_;with_reducible repeat' first|exact trivial|(apply af.mk<;>intro hb)|apply ax.mk)
  exact aS (n0:=n0) hR hC' (hcls _) (.same _ (by simp only[bA,SV.under,SV.aB,Sg.aP,cm,Bool.and_self])) ⟨rfl,rfl⟩ (hn:=hlenQ _)
 by_cases h7:kd=7
 ·rw[if_neg h3,if_pos h7] at hR
  rw[if_neg h3] at hnx
  subst h7
  have d3:=vi n0 [0,1,2] (by decide)
  have hsl:(aj ad).length=ad.length:=ct _
  have X:=And.intro aO (And.intro qx (And.intro hx21 (And.intro hx22 (And.intro hx23 (And.intro hx24 hx25)))))
  (refine run ?_;with_reducible repeat' first|exact trivial|(apply af.mk<;>intro hb)|apply ax.mk)
  refine aC (fun a:Nat×List At×List Ar×Nat=>[(0,.ptr sb g0 0 0),(1,.str s),(6,.ptr n0 0 0 0),(9,.sl (n0+1) 0 0 (dI a.2.2.1).length),(10,.sl (n0+2) 0 0 a.2.1.length),(11,.int .i64 (a.1:Int))])
   (fun a=>Q a.2.2.2++[.cells 0 8 [.agg [.int .i64 7,.str nm,.int .i64 nn,.int .i64 op,.list 1 (names.map .str),.list 8 (aj ad),.list 9 (ao binds),.list 12 (aA alts)]],.cells 0 8 (aX (dI a.2.2.1)),.cells 0 2 (bq a.2.1)]) (fun a=>ad.length - a.1)
   (fun a=>(a.1≤ad.length∧a.2.1.length=a.1∧(dI a.2.2.1).length+bt (ad.drop a.1)≤bt ad∧a.2.2.2+bt (ad.drop a.1)≤nx0+bt ad)∧aM B ad nx0=((a.2.1++(aM B (ad.drop a.1) a.2.2.2).1.1,a.2.2.1++(aM B (ad.drop a.1) a.2.2.2).1.2),(aM B (ad.drop a.1) a.2.2.2).2)) (0,[],[],nx0) ⟨⟨Nat.zero_le _,rfl,by simp[dI],Nat.le_refl _⟩,rfl⟩ ?_ ?_
  ·simp only[show bq []=[] from rfl,show dI []=[] from rfl,show aX []=[] from rfl,List.length_nil]
   exact bB (n0:=n0) [(n0,0),(n0+1,0),(n0+2,0)] hG hB hC' (hcls _) (hn:=hlenQ _) (hd:=d3)
  rintro K ⟨i,A,W,nx⟩ ⟨⟨hi,hA,hW,hnw⟩,hmp⟩ hK
  simp only at hi hA hW hnw hmp
  dsimp only
  rcases Nat.lt_or_ge i ad.length with hlt|hge
  ·have hmem:=List.getElem_mem hlt
   have hxw:=cH hmem
   have hdr:=ir hlt
   have hshx:=hsh.sub hmem
   obtain⟨ni,cut2⟩:=qW hlt hmp
   have hcg:(aj ad)[i]? =some (.agg ad[i].cells):=ga hlt
   have c1:=fun H=>su G hG ad[i] H
   have c2:=fun H=>oG G hG ad[i] H
   have hpos:=ad[i].bz
   have hcb:=fun L=>hBd (eB bW nx) ad[i] true (Q (nx+1)++L) sb g0 (nx+1) (by unfold l6 at hP;have:=(l7 (e:= .mk 7 nm nn op names ad binds alts) (x:=ad[i]) (by omega)).2;omega) (by omega) hshx (by split<;>omega) (qx.1 _ _)
   have hcn:=cB (eB bW nx) ad[i] true (nx+1) hshx
   have hx8:=ad[i].aH
   have hx8d:=ad[i].bY
   have hx8t:=ad[i].aU
   have hat:Cc ad[i]=⟨ad[i].name,ad[i].n⟩:=rfl
   rw[hat] at ni
   clear hat
   rw[show ad[i].sv= .agg ad[i].cells from rfl] at*
   generalize pn ad[i]=b at*
   generalize ad[i].name=xn at*
   generalize ad[i].n=xv at*
   generalize B (eB bW nx) ad[i] true (nx+1)=r0 at*
   obtain⟨bs,nx2⟩:=r0
   simp only at cut2 hcb hcn
   generalize ad[i].wt=xw at*
   generalize ad[i].cells=xc at*
   have hAl:=dk A
   have hsn:=cx A ⟨xn,xv⟩
   have hsn2:=cx A ⟨eB bW nx,0⟩
   have hbw:=yk W bs
   have hDl:=cc (dI W)
   have hsn3:=ff (dI W) bs
   have hbl:=cc bs
   rw[← hbw] at hsn3
   have hbwl:(dI (W++[.bs bs])).length=(dI W).length+bs.length:=by rw[hbw,List.length_append]
   clear hbw
   cases b
   ·have cut2:=cut2 rfl
    clear c2
    have X:=And.intro (And.intro aO (And.intro qx (And.intro hx21 (And.intro hx22 (And.intro hx23 (And.intro hx24 hx25)))))) (And.intro hcg (And.intro hsl (And.intro hx8 (And.intro hx8d (And.intro hx8t (And.intro hAl (And.intro hsn2 (And.intro hDl (And.intro hsn3 hbl)))))))))
    (refine run ?_;with_reducible repeat' first|exact trivial|(apply af.mk<;>intro hb)|apply ax.mk)
    refine bh (gk G hG sb g0 nx _ _ (qx.1 _ _) (by omega)) ?_
    rintro r H' ⟨rfl,rfl⟩
    rw[qx.2]
    generalize eB bW nx=tt at*
    (refine run ?_;with_reducible repeat' first|exact trivial|(apply af.mk<;>intro hb)|apply ax.mk)
    refine bh (hcb _) ?_
    rintro r H' ⟨rfl,rfl⟩
    rw[qx.2]
    clear c1
    have c1:=fun H=>kh G hG tt H
    (refine run ?_;with_reducible repeat' first|exact trivial|(apply af.mk<;>intro hb)|apply ax.mk)
    refine hK _ _ (i+1,A++[⟨tt,0⟩],W++[.bs bs],nx2) (by simp only;omega) ⟨⟨by simp only;omega,by simp only[List.length_append,List.length_cons,List.length_nil];omega,by simp only;omega,by simp only;omega⟩,cut2⟩ ?_
    simp only[List.length_append,List.length_cons,List.length_nil,hbwl]
    have bF:=bS
    have dJ:=aY
    exact bB (n0:=n0) [(n0,0),(n0+1,0),(n0+2,0)] hG hB hC' (hcls _) (hn:=hlenQ _) (hd:=d3)
   ·have ni:=ni rfl
    have X:=And.intro (And.intro aO (And.intro qx (And.intro hx21 (And.intro hx22 (And.intro hx23 (And.intro hx24 hx25)))))) (And.intro hcg (And.intro hsl (And.intro hx8 (And.intro hx8d (And.intro hx8t (And.intro hAl hsn))))))
    (refine run ?_;with_reducible repeat' first|exact trivial|(apply af.mk<;>intro hb)|apply ax.mk)
    refine hK _ _ (i+1,A++[⟨xn,xv⟩],W,nx) (by simp only;omega) ⟨⟨by simp only;omega,by simp only[List.length_append,List.length_cons,List.length_nil];omega,by simp only;omega,by simp only;omega⟩,ni⟩ ?_
    simp only[List.length_append,List.length_cons,List.length_nil]
    have bF:=bS
    have dJ:=aY
    exact bB (n0:=n0) [(n0,0),(n0+1,0),(n0+2,0)] hG hB hC' (hcls _) (hn:=hlenQ _) (hd:=d3)
  clear hK
  have hni:¬ (i:Int)<(ad.length:Int):=by omega
  rw[List.drop_eq_nil_of_le hge] at hmp
  simp only[aM,List.append_nil] at hmp
  rw[hmp] at hR
  simp only at hR
  generalize dI W=D at*
  have hDl:=cc D
  have hAl:=dk A
  have X:=And.intro (And.intro aO (And.intro qx (And.intro hx21 (And.intro hx22 (And.intro hx23 (And.intro hx24 hx25)))))) (And.intro hni (And.intro hsl hDl))
  (refine run ?_;with_reducible repeat' first|exact trivial|(apply af.mk<;>intro hb)|apply ax.mk)
  exact aS (n0:=n0) hR hC' (hcls _) (.sl (n0+1) 1 0 (D.length+1) 8 _ (aX (D++[.mk s 3 [] [] false nm A []])) (by rw[hx23];rfl) (by omega) (by simp) (by
   rw[List.drop_zero,List.take_of_length_le (by rw[List.length_append,hDl];exact Nat.le_refl _),← ff]
   exact de.app (de.same (aY _ _)) (.cons _ _ _ _ (.agg _ _ (.cons _ _ _ _ (.same _ rfl) (.cons _ _ _ _ (.same _ rfl) (.cons _ _ _ _ (.same _ rfl) (.cons _ _ _ _ (.same _ rfl) (.cons _ _ _ _ (.same _ rfl) (.cons _ _ _ _ (.same _ rfl) (.cons _ _ _ _ (bV.sf (g:=0) (sz:=2) (vals:=bq A) (by rw[hx23];rfl) (by omega) (by simp) (by simp) (bS _ _)) (.cons _ _ _ _ (.same _ rfl) .nil))))))))) .nil))) ⟨rfl,rfl⟩ (hn:=hlenQ _)
 ·rw[if_neg h3,if_neg h7] at hR
  rw[if_neg h3] at hnx
  have hcx:=fun L=>hEx (.mk kd nm nn op names ad binds alts) (Q nx0++L) sb g0 nx0 (by show qD _≤m;unfold l6 at hP;unfold qD;rw[if_neg (show ¬ (Ex.mk kd nm nn op names ad binds alts).kind=3 from h3)];omega) hw hsh (by omega) (qx.1 _ _)
  generalize E (.mk kd nm nn op names ad binds alts) nx0=r0 at*
  obtain⟨y,nx2⟩:=r0
  simp only at hR hcx
  have hy7:=y.aH
  have hy7t:=y.aU
  have hy7d:y.cells.drop 7=[]:=List.drop_eq_nil_of_le (by omega)
  have X:=And.intro (And.intro aO (And.intro qx (And.intro hx21 (And.intro hx22 (And.intro hx23 (And.intro hx24 hx25)))))) (And.intro h3 (And.intro h7 (And.intro hy7 (And.intro hy7t hy7d))))
  (refine run ?_;with_reducible repeat' first|exact trivial|(apply af.mk<;>intro hb)|apply ax.mk)
  refine dq (hfree _ _) ?_
  rintro r H' ⟨rfl,rfl⟩
  (refine run ?_;with_reducible repeat' first|exact trivial|(apply af.mk<;>intro hb)|apply ax.mk)
  refine dq (hcx _) ?_
  rintro v H' ⟨rfl,rfl⟩
  rw[qx.2,show y.sv= .agg y.cells from rfl]
  (refine run ?_;with_reducible repeat' first|exact trivial|(apply af.mk<;>intro hb)|apply ax.mk)
  exact aS (n0:=n0) hR hC' (hcls _) (.same _ (by simp only[bA,SV.under,SV.aB,Sg.aP,cm,Bool.and_self])) ⟨rfl,rfl⟩ (hn:=hlenQ _)
end Go.Proofs.YtedejleokilohaaGreatDoor
