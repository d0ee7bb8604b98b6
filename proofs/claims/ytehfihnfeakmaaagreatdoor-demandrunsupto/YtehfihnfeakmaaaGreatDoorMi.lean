/- A part of the proof: I3, J3, I4, I5, I6, I7, I8, SwL, SwM, SwN, SwO, Sh2, I9, I10. Names and spaces are cut short by program. -/
import Derived.Test.YtehfihnfeakmaaaGreatDoorMh
import Derived.Shelf.Strconv.AtoiErr
import Derived.Shelf.SlMaps.Clone
import Derived.Test.YtehfihnfeakmaaaGreatDoorProg
set_option linter.unusedSimpArgs false
set_option linter.unusedVariables false
set_option maxRecDepth 10000
set_option maxHeartbeats 4000000
namespace Go.Proofs.YtehfihnfeakmaaaGreatDoor
open Go
theorem CX (G:Gl) (hG:au G) (e:Ex) (hw:e.wt<549755813888) (fv:SV) (p:Ex→Bool) (H:List ax) (hfu:fv.under H.length=true)
 (hy:∀ x∈e.parts,∀ X,bz Tryz.prog G fv [x.sv] (H++X) (fun r H'=>H'=H++X∧r= .bool (p x))):
 af Tryz.prog G 100 [e.sv,fv] H (fun r H'=>H'=H∧r= .bool (e.parts.all p)):=by
 obtain⟨kd,nm,nn,op,names,ae,binds,alts⟩:=e
 have hle:=Ex.cm kd nm nn op names ae binds alts
 rw[Ex.bM] at hy ⊢
 rw[List.all_append,List.all_append,List.all_map,List.all_map]
 have p1:∀ i (h:i<ae.length),ae[i]∈ae++(binds.map Bd.e++alts.map Al.body):=fun i h=>List.mem_append_left _ (List.getElem_mem h)
 have p2:∀ i (h:i<binds.length),binds[i].e∈ae++(binds.map Bd.e++alts.map Al.body):=fun i h=>List.mem_append_right _ (List.mem_append_left _ (List.mem_map.2 ⟨_,List.getElem_mem h,rfl⟩))
 have p3:∀ i (h:i<alts.length),alts[i].body∈ae++(binds.map Bd.e++alts.map Al.body):=fun i h=>List.mem_append_right _ (List.mem_append_right _ (List.mem_map.2 ⟨_,List.getElem_mem h,rfl⟩))
 refine af.aD TB [] aA _ Tryz.func100 rfl (by decide) Tryz.ntmps100 (by simp) rfl (by simp only[ap,Nat.reduceAdd];rfl) fun C R' hR hC hcl hB=>?_;have X:=aF;have hC':=congrArg List.length hC
 have X:=aF
 (refine bL ?_;with_reducible repeat' first|exact trivial|(apply ad.mk<;>intro hb)|apply av.mk)
 refine az (fun i:Nat=>[(1,fv),(2,.ptr H.length 0 0 0),(12,.list 8 (ag ae)),(13,.int .i64 ae.length),(14,.int .i64 i)])
  (fun i=>H++[.cells 0 8 [.agg [.int .i64 kd,.str nm,.int .i64 nn,.int .i64 op,.list 1 (names.map .str),.list 8 (ag ae),.list 9 (ah binds),.list 12 (aw alts)]]]) (fun i=>ae.length - i) (fun i=>i≤ae.length∧∀ x∈ae.take i,p x=true) 0 ⟨Nat.zero_le _,by simp⟩ ?_ ?_
 ·exact aY (n0:=H.length) [(H.length,0)] hG hB hC' hcl
 rintro K i ⟨hi,hno⟩ hK
 rcases Nat.lt_or_ge i ae.length with hlt|hge
 ·(refine bL ?_;with_reducible repeat' first|exact trivial|(apply ad.mk<;>intro hb)|apply av.mk)
  refine eX (hy _ (p1 i (by omega)) _) ?_
  rintro r H' ⟨rfl,rfl⟩
  generalize hpv:p ae[i]=pv
  cases pv
  ·have ef:ae.all p=false:=by rw[List.all_eq_false];exact⟨_,List.getElem_mem hlt,by simp[hpv]⟩
   (refine bL ?_;with_reducible repeat' first|exact trivial|(apply ad.mk<;>intro hb)|apply av.mk)
   exact aS (n0:=H.length) hR hC' hcl (.same _ rfl) ⟨rfl,by simp[ef,bq]⟩
  ·(refine bL ?_;with_reducible repeat' first|exact trivial|(apply ad.mk<;>intro hb)|apply av.mk)
   refine hK _ _ (i+1) (by omega) ⟨by omega,?_⟩ ?_
   ·rw[List.take_succ_eq_append_getElem hlt]
    intro x hx
    rcases List.mem_append.1 hx with hx|hx
    ·exact hno x hx
    ·rw[List.mem_singleton.1 hx];exact hpv
   ·exact aY (n0:=H.length) [(H.length,0)] hG hB hC' hcl
 obtain rfl:i=ae.length:=by omega
 rw[List.take_length] at hno
 have e1:ae.all p=true:=List.all_eq_true.2 hno
 rw[e1,Bool.true_and] at hR
 clear hK hno
 (refine bL ?_;with_reducible repeat' first|exact trivial|(apply ad.mk<;>intro hb)|apply av.mk)
 refine az (fun i:Nat=>[(1,fv),(2,.ptr H.length 0 0 0),(24,.list 9 (ah binds)),(25,.int .i64 binds.length),(26,.int .i64 i)])
  (fun i=>H++[.cells 0 8 [.agg [.int .i64 kd,.str nm,.int .i64 nn,.int .i64 op,.list 1 (names.map .str),.list 8 (ag ae),.list 9 (ah binds),.list 12 (aw alts)]]]) (fun i=>binds.length - i) (fun i=>i≤binds.length∧∀ x∈binds.take i,p x.e=true) 0 ⟨Nat.zero_le _,by simp⟩ ?_ ?_
 ·exact aY (n0:=H.length) [(H.length,0)] hG hB hC' hcl
 rintro K i ⟨hi,hno⟩ hK
 rcases Nat.lt_or_ge i binds.length with hlt|hge
 ·(refine bL ?_;with_reducible repeat' first|exact trivial|(apply ad.mk<;>intro hb)|apply av.mk)
  refine eX (hy _ (p2 i (by omega)) _) ?_
  rintro r H' ⟨rfl,rfl⟩
  generalize hpv:p binds[i].e=pv
  cases pv
  ·have ef:binds.all (p∘Bd.e)=false:=by rw[List.all_eq_false];exact⟨_,List.getElem_mem hlt,by simp[hpv]⟩
   (refine bL ?_;with_reducible repeat' first|exact trivial|(apply ad.mk<;>intro hb)|apply av.mk)
   exact aS (n0:=H.length) hR hC' hcl (.same _ rfl) ⟨rfl,by simp[ef,bq]⟩
  ·(refine bL ?_;with_reducible repeat' first|exact trivial|(apply ad.mk<;>intro hb)|apply av.mk)
   refine hK _ _ (i+1) (by omega) ⟨by omega,?_⟩ ?_
   ·rw[List.take_succ_eq_append_getElem hlt]
    intro x hx
    rcases List.mem_append.1 hx with hx|hx
    ·exact hno x hx
    ·rw[List.mem_singleton.1 hx];exact hpv
   ·exact aY (n0:=H.length) [(H.length,0)] hG hB hC' hcl
 obtain rfl:i=binds.length:=by omega
 rw[List.take_length] at hno
 have e2:binds.all (p∘Bd.e)=true:=List.all_eq_true.2 hno
 rw[e2,Bool.true_and] at hR
 clear hK hno
 (refine bL ?_;with_reducible repeat' first|exact trivial|(apply ad.mk<;>intro hb)|apply av.mk)
 refine az (fun i:Nat=>[(1,fv),(2,.ptr H.length 0 0 0),(37,.list 12 (aw alts)),(38,.int .i64 alts.length),(39,.int .i64 i)])
  (fun i=>H++[.cells 0 8 [.agg [.int .i64 kd,.str nm,.int .i64 nn,.int .i64 op,.list 1 (names.map .str),.list 8 (ag ae),.list 9 (ah binds),.list 12 (aw alts)]]]) (fun i=>alts.length - i) (fun i=>i≤alts.length∧∀ x∈alts.take i,p x.body=true) 0 ⟨Nat.zero_le _,by simp⟩ ?_ ?_
 ·exact aY (n0:=H.length) [(H.length,0)] hG hB hC' hcl
 rintro K i ⟨hi,hno⟩ hK
 rcases Nat.lt_or_ge i alts.length with hlt|hge
 ·(refine bL ?_;with_reducible repeat' first|exact trivial|(apply ad.mk<;>intro hb)|apply av.mk)
  refine eX (hy _ (p3 i (by omega)) _) ?_
  rintro r H' ⟨rfl,rfl⟩
  generalize hpv:p alts[i].body=pv
  cases pv
  ·have ef:alts.all (p∘Al.body)=false:=by rw[List.all_eq_false];exact⟨_,List.getElem_mem hlt,by simp[hpv]⟩
   (refine bL ?_;with_reducible repeat' first|exact trivial|(apply ad.mk<;>intro hb)|apply av.mk)
   exact aS (n0:=H.length) hR hC' hcl (.same _ rfl) ⟨rfl,by simp[ef,bq]⟩
  ·(refine bL ?_;with_reducible repeat' first|exact trivial|(apply ad.mk<;>intro hb)|apply av.mk)
   refine hK _ _ (i+1) (by omega) ⟨by omega,?_⟩ ?_
   ·rw[List.take_succ_eq_append_getElem hlt]
    intro x hx
    rcases List.mem_append.1 hx with hx|hx
    ·exact hno x hx
    ·rw[List.mem_singleton.1 hx];exact hpv
   ·exact aY (n0:=H.length) [(H.length,0)] hG hB hC' hcl
 obtain rfl:i=alts.length:=by omega
 rw[List.take_length] at hno
 have e3:alts.all (p∘Al.body)=true:=List.all_eq_true.2 hno
 rw[e3] at hR
 clear hK hno
 (refine bL ?_;with_reducible repeat' first|exact trivial|(apply ad.mk<;>intro hb)|apply av.mk)
 exact aS (n0:=H.length) hR hC' hcl (.same _ rfl) ⟨rfl,rfl⟩
def sP (G:Gl) (fid:FuncId) (fi ca:List SV) (p:Ex→Bool) (H:List ax) (m:Nat):Prop:=∀ x:Ex,x.wt≤m→∀ X,bz Tryz.prog G (.fn (.func fid) fi ca) [x.sv] (H++X) (fun r H'=>H'=H++X∧r= .bool (p x))
theorem sP.app {G:Gl} {fid:FuncId} {fi ca:List SV} {p:Ex→Bool} {H:List ax} {m:Nat} (h:sP G fid fi ca p H m) (L:List ax):sP G fid fi ca p (H++L) m:=fun x hx X=>by rw[List.append_assoc];exact h x hx _
def Iq (G:Gl) (fid:FuncId) (fi ca:List SV) (p:Ex→Bool) (m:Nat):Prop:=∀ (e:Ex) (H:List ax),e.wt≤m→(SV.fn (.func fid) fi ca).under H.length=true→sP G fid fi ca p H m→
 af Tryz.prog G 48 [e.sv,.fn (.func fid) fi ca] H (fun r H'=>H'=H∧r= .bool (dn p e))
theorem Cs (G:Gl) (hG:au G) (fid:FuncId) (fi ca:List SV) (p:Ex→Bool) (m:Nat) (hrec:Iq G fid fi ca p m) (e:Ex) (H:List ax) (ib:Nat) (he:e.wt≤m) (hib:H[ib]? =some (.cells 0 1 [.fn (.func fid) fi ca])) (hfu:(SV.fn (.func fid) fi ca).under H.length=true) (hy:sP G fid fi ca p H m):
 af Tryz.prog G 103 [e.sv,.ptr ib 0 0 0] H (fun r H'=>H'=H∧r= .bool (dn p e)):=by
 have hlt2:ib<H.length:=(List.getElem?_eq_some_iff.1 hib).1
 refine af.aD TB [] aA _ Tryz.func103 rfl (by decide) Tryz.ntmps103 (by simp) rfl (by simp only[ap,Nat.reduceAdd];rfl) fun C R' hR hC hcl hB=>?_;have X:=aF;have hC':=congrArg List.length hC
 have X:=hib
 (refine run ?_;with_reducible repeat' first|exact trivial|(apply ad.mk<;>intro hb)|apply av.mk)
 refine bt (hrec e _ he ((SV.bW (by simp)).1 _ hfu) (hy.app _)) ?_
 rintro r H' ⟨rfl,rfl⟩
 (refine run ?_;with_reducible repeat' first|exact trivial|(apply ad.mk<;>intro hb)|apply av.mk)
 exact aS (n0:=H.length) hR hC' hcl (.same _ rfl) ⟨rfl,rfl⟩
theorem sP.mono {G:Gl} {fid:FuncId} {fi ca:List SV} {p:Ex→Bool} {H:List ax} {m m':Nat} (h:sP G fid fi ca p H m) (hm:m'≤m):sP G fid fi ca p H m':=fun x hx X=>h x (Nat.le_trans hx hm) X
theorem Aa (G:Gl) (hG:au G) (fid:FuncId) (fi ca:List SV) (p:Ex→Bool):∀ m,m<549755813888→Iq G fid fi ca p m
 |0,_,e,_,h,_,_=>absurd e.b9 (by omega)
 |m+1,hm2,e,H,hm,hfu,hy=>by
  have hrec:=Aa G hG fid fi ca p m (by omega)
  have hae:=mU p e
  rw[hae]
  refine af.aD TB [] aA _ Tryz.func48 rfl (by decide) Tryz.ntmps48 (by simp) rfl (by simp only[ap,Nat.reduceAdd];rfl) fun C R' hR hC hcl hB=>?_;have X:=aF;have hC':=congrArg List.length hC
  (refine run ?_;with_reducible repeat' first|exact trivial|(apply ad.mk<;>intro hb)|apply av.mk)
  refine eX (hy e hm _) ?_
  rintro r H' ⟨rfl,rfl⟩
  generalize hpv:p e=pv
  cases pv
  ·(refine run ?_;with_reducible repeat' first|exact trivial|(apply ad.mk<;>intro hb)|apply av.mk)
   exact aS (n0:=H.length) hR hC' hcl (.same _ rfl) ⟨rfl,by simp[hpv,bq]⟩
  ·(refine run ?_;with_reducible repeat' first|exact trivial|(apply ad.mk<;>intro hb)|apply av.mk)
   refine bt (CX G hG e (by omega) (.fn (.func 103) [] [.ptr (H.length+1) 0 0 0]) (dn p) _ (by simp[SV.under,SV.aB]) (fun x hx X=>by
    have hpw:=Ex.bT hx
    refine bz.of (first:=[]) (args:=[x.sv]) (cap:=[.ptr (H.length+1) 0 0 0]) (Cs G hG fid fi ca p m hrec x _ (H.length+1) (by omega) (by rw[List.append_assoc];simp) ((SV.bW (by simp)).1 _ hfu) ((hy.mono (by omega)).app _|>.app _)))) ?_
   rintro r H' ⟨rfl,rfl⟩
   (refine run ?_;with_reducible repeat' first|exact trivial|(apply ad.mk<;>intro hb)|apply av.mk)
   exact aS (n0:=H.length) hR hC' hcl (.same _ rfl) ⟨rfl,by simp[hpv,bq]⟩
theorem Fg (G:Gl) (op:Int) (H:List ax):af Tryz.prog G 142 [.int .i64 op] H (fun r H'=>H'=H∧r= .bool (mf op)):=by
 refine af.aD TB [] aA _ Tryz.func142 rfl (by decide) Tryz.ntmps142 (by simp) rfl (by simp only[ap,Nat.reduceAdd];rfl) fun C R' hR hC hcl hB=>?_;have X:=aF;have hC':=congrArg List.length hC
 (refine run ?_;with_reducible repeat' first|exact trivial|(apply ad.mk<;>intro hb)|apply av.mk)
 all_goals (refine Fin.out hR ⟨rfl,?_⟩;simp only[bq,mf];try simp only[decide_not])
def aU (e:Ex):Bool:=lE e.wt e
def Ix (G:Gl) (m:Nat):Prop:=∀ (e:Ex) (H:List ax),e.wt≤m→af Tryz.prog G 114 [e.sv] H (fun r H'=>H'=H∧r= .bool (lE m e))
theorem zI (G:Gl) (hG:au G) (m:Nat) (hrec:Ix G m) (e:Ex) (he:e.wt≤m) (H:List ax):af Tryz.prog G 144 [e.sv] H (fun r H'=>H'=H∧r= .bool (!lE m e)):=by
 have c1:=fun L=>hrec e (H++L) he
 refine af.aD TB [] aA _ Tryz.func144 rfl (by decide) Tryz.ntmps144 (by simp) rfl (by simp only[ap,Nat.reduceAdd];rfl) fun C R' hR hC hcl hB=>?_;have X:=aF;have hC':=congrArg List.length hC
 (refine run ?_;with_reducible repeat' first|exact trivial|(apply ad.mk<;>intro hb)|apply av.mk)
 exact aS (n0:=H.length) hR hC' hcl (.same _ rfl) ⟨rfl,rfl⟩
theorem ui (G:Gl) (hG:au G):∀ m,m<4294967296→Ix G m
 |0,_,e,_,h=>absurd e.b9 (by omega)
 |m+1,hm2,.mk kd nm nn op names ae binds alts,H,hm=>by
  have hrec:=ui G hG m (by omega)
  have hle:=Ex.cm kd nm nn op names ae binds alts
  have c1:=fun H=>Fg G op H
  have c2:=Cv G hG (.fn (.func 144) [] []) (fun s=>!lE m s) ae (H++[.cells 0 8 [.agg [.int .i64 kd,.str nm,.int .i64 nn,.int .i64 op,.list 1 (names.map .str),.list 8 (ag ae),.list 9 (ah binds),.list 12 (aw alts)]]]) (by omega) (by simp[SV.under,SV.aB])
   (fun x hx=>bz.of (first:=[]) (args:=[x.sv]) (cap:=[]) (zI G hG m hrec x (by have:=Ex.bT (e:= .mk kd nm nn op names ae binds alts) (p:=x) (by rw[Ex.bM];exact List.mem_append_left _ hx);omega) _))
  have es:lE (m+1) (.mk kd nm nn op names ae binds alts)=if kd=2∨kd=1 then true else if kd=8 then mf op&&!(ae.any fun s=>!lE m s) else false:=rfl
  rw[es]
  generalize (ae.any fun s=>!lE m s)=an at*
  generalize mf op=cb at*
  refine af.aD TB [] aA _ Tryz.func114 rfl (by decide) Tryz.ntmps114 (by simp) rfl (by simp only[ap,Nat.reduceAdd];rfl) fun C R' hR hC hcl hB=>?_;have X:=aF;have hC':=congrArg List.length hC
  (refine run ?_;with_reducible repeat' first|exact trivial|(apply ad.mk<;>intro hb)|apply av.mk)
  all_goals (refine aS (n0:=H.length) hR hC' hcl (.same _ rfl) ⟨rfl,?_⟩;simp_all [bq])
theorem sw (G:Gl) (hG:au G) (e:Ex) (hw:e.wt<4294967296) (H:List ax):af Tryz.prog G 114 [e.sv] H (fun r H'=>H'=H∧r= .bool (aU e)):=ui G hG e.wt hw e H (Nat.le_refl _)
def ky (l:List Od):List (SV×SV):=l.map fun o=>(.str o.name,o.sv)
theorem mC:∀ (l:List Od) (s:aE),bI (ky l) (.str s)=(bH l s).map Od.sv
 |[],s=>rfl
 |c::r,s=>by
  simp only[ky,List.map_cons,bI,SV.dX,bH]
  by_cases h:s=c.name
  ·simp[h]
  ·simp only[beq_eq_false_iff_ne.2 h,h,if_false,Bool.false_eq_true]
   exact mC r s
theorem pT (l:List Od) (s:aE):(bI (ky l) (.str s)).getD (.agg [.str [],.int .i64 0,.list 1 []])= .agg [.str (cN l s).name,.int .i64 (cN l s).arity,.list 1 (cc (cN l s).bN)]:=by
 rw[mC,cN]
 cases bH l s<;>rfl
theorem pL (l:List Od) (s:aE):(bI (ky l) (.str s)).isSome=(bH l s).isSome:=by
 rw[mC];cases bH l s<;>rfl
theorem oS:∀ (l:List Od) (c:Od),bH l c.name=none→cG (ky l) (.str c.name) (.agg [.str c.name,.int .i64 c.arity,.list 1 (cc c.bN)])=ky (l++[c])
 |[],c,_=>rfl
 |d::r,c,h=>by
  simp only[ky,List.map_cons,cG,SV.dX,bH,List.cons_append] at h ⊢
  by_cases h2:c.name=d.name
  ·rw[if_pos h2] at h;cases h
  ·rw[if_neg h2] at h
   simp only[beq_eq_false_iff_ne.2 h2,if_false,Bool.false_eq_true]
   rw[show cG (List.map _ r) (.str c.name) _=_ from oS r c h]
   rfl
theorem iZ (n:Nat):∀ l:List Od,cY n (ky l)=true
 |[]=>rfl
 |p::l=>by simp only[ky,List.map_cons,cY,SV.under,Od.sv,Od.under,Bool.and_self,Bool.true_and];exact iZ n l
theorem ph (l:List Od) (i:Nat):(aK l)[i]? =l[i]?.map fun o=> .agg [.str o.name,.int .i64 o.arity,.list 1 (cc o.bN)]:=by simp[aK,Od.sv,Od.cells];rfl
attribute [go_sem] eH ph rl
theorem rr (l:List Od):∀ (r k:List Od),bc k (r++l)=bc (bc k r) l
 |[],k=>rfl
 |o::r,k=>by
  rw[List.cons_append,bc,bc]
  split
  ·exact rr l r k
  ·exact rr l r _
theorem tK (l:List Od) (o:Od):bc [] (l++[o])=if (bH (bc [] l) o.name).isSome then bc [] l else bc [] l++[o]:=by
 rw[rr,bc,bc,bc]
theorem zu (G:Gl) (hG:au G) (l:List Od) (hl:l.length<1099511627776) (H:List ax):
 af Tryz.prog G 26 [.list 3 (aK l)] H (fun r H'=>H'=H++[.map none (ky (bc [] l))]∧r= .map H.length):=by
 have fE:=iZ
 have bK:=bO
 refine af.aD TB [] aA _ Tryz.func26 rfl (by decide) Tryz.ntmps26 (by simp) rfl (by simp only[ap,Nat.reduceAdd];rfl) fun C R' hR hC hcl hB=>?_;have X:=aF;have hC':=congrArg List.length hC
 (refine run ?_;with_reducible repeat' first|exact trivial|(apply ad.mk<;>intro hb)|apply av.mk)
 refine az (fun i:Nat=>[(3,.map H.length),(9,.list 3 (aK l)),(10,.int .i64 l.length),(11,.int .i64 i)]) (fun i=>H++[.map none (ky (bc [] (l.take i)))]) (fun i=>l.length - i) (fun i=>i≤l.length) 0 (Nat.zero_le _) ?_ ?_
 ·exact aY (n0:=H.length) [(H.length,0)] hG hB hC' hcl
 rintro K i hi hK
 rcases Nat.lt_or_ge i l.length with hlt|hge
 ·have ht:=List.take_succ_eq_append_getElem hlt
  have hk:=tK (l.take i) l[i]
  rw[← ht] at hk
  have hset:=oS (bc [] (l.take i)) l[i]
  have hz:=pT (bc [] (l.take i)) l[i].name
  have hh:=pL (bc [] (l.take i)) l[i].name
  cases hf:bH (bc [] (l.take i)) l[i].name with
  |none=>
   have hs2:=hset hf
   rw[hf] at hk hh
   have hk:bc [] (l.take (i+1))=bc [] (l.take i)++[l[i]]:=hk
   have hh:(bI (ky (bc [] (l.take i))) (.str l[i].name)).isSome=false:=hh
   rw[← hk] at hs2
   have X:=And.intro aF (And.intro hz (And.intro hh hs2))
   (refine run ?_;with_reducible repeat' first|exact trivial|(apply ad.mk<;>intro hb)|apply av.mk)
   exact hK _ _ (i+1) (by omega) (by omega) (aY (n0:=H.length) [(H.length,0)] hG hB hC' hcl)
  |some o=>
   rw[hf] at hk hh
   have hk:bc [] (l.take (i+1))=bc [] (l.take i):=hk
   have hh:(bI (ky (bc [] (l.take i))) (.str l[i].name)).isSome=true:=hh
   have X:=And.intro aF (And.intro hz hh)
   (refine run ?_;with_reducible repeat' first|exact trivial|(apply ad.mk<;>intro hb)|apply av.mk)
   refine hK _ _ (i+1) (by omega) (by omega) ?_
   rw[hk]
   exact aY (n0:=H.length) [(H.length,0)] hG hB hC' hcl
 obtain rfl:i=l.length:=by omega
 clear hK
 simp only[List.take_length]
 have X:=And.intro aF (Int.lt_irrefl (l.length:Int))
 (refine run ?_;with_reducible repeat' first|exact trivial|(apply ad.mk<;>intro hb)|apply av.mk)
 exact dp [(H.length,0)] (.map H.length) [.map none (ky (bc [] l))] hR hC' hcl ⟨rfl,rfl⟩
theorem Fe (G:Gl) (hG:au G) (k:List Od) (kb:Nat) (H:List ax) (hkb:H[kb]? =some (.map none (ky k))) (e:Ex) (hw:e.wt<4294967296):
 af Tryz.prog G 65 [.map kb,e.sv] H (fun r H'=>H'=H∧r= .tuple [.agg (cu k e).1.cells,.bool (cu k e).2]):=by
 have lk:=(List.getElem?_eq_some_iff.1 hkb).1
 obtain⟨kd,nm,nn,op,names,ae,binds,alts⟩:=e
 have hle:=Ex.cm kd nm nn op names ae binds alts
 have hkx:=fun L=>(show(H++L)[kb]? =some (.map none (ky k)) by rw[cA lk];exact hkb)
 cases hs:ae with
 |nil=>
  have hc:cu k (.mk kd nm nn op names [] binds alts)=(oK,false):=rfl
  rw[hc]
  refine af.aD TB [] aA _ Tryz.func65 rfl (by decide) Tryz.ntmps65 (by simp) rfl (by simp only[ap,Nat.reduceAdd];rfl) fun C R' hR hC hcl hB=>?_;have X:=aF;have hC':=congrArg List.length hC
  (refine run ?_;with_reducible repeat' first|exact trivial|(apply ad.mk<;>intro hb)|apply av.mk)
  exact aS (n0:=H.length) hR hC' hcl (.same _ rfl) ⟨rfl,rfl⟩
 |cons s r=>
  obtain⟨k2,n2,nn2,op2,ns2,ss2,bs2,as2⟩:=s
  have hc:cu k (.mk kd nm nn op names (.mk k2 n2 nn2 op2 ns2 ss2 bs2 as2::r) binds alts)=if k2≠1 then (oK,false) else (cN k n2,(bH k n2).isSome&&decide ((cN k n2).arity<((Ex.mk k2 n2 nn2 op2 ns2 ss2 bs2 as2::r).length:Int))):=rfl
  rw[hc]
  rw[hs] at hle
  have hs0:(Ex.mk k2 n2 nn2 op2 ns2 ss2 bs2 as2::r)[0]? =some (.mk k2 n2 nn2 op2 ns2 ss2 bs2 as2):=rfl
  have hlr:(Ex.mk k2 n2 nn2 op2 ns2 ss2 bs2 as2::r).length=r.length+1:=rfl
  generalize hS:Ex.mk k2 n2 nn2 op2 ns2 ss2 bs2 as2::r=S at*
  have hlr0:¬ (S.length:Int)=0:=by omega
  have hz:=pT k n2
  have hh:=pL k n2
  refine af.aD TB [] aA _ Tryz.func65 rfl (by decide) Tryz.ntmps65 (by simp) rfl (by simp only[ap,Nat.reduceAdd];rfl) fun C R' hR hC hcl hB=>?_;have X:=aF;have hC':=congrArg List.length hC
  have X:=And.intro X (And.intro hkx (And.intro hz (And.intro hh (And.intro hs0 hlr0))))
  (refine run ?_;with_reducible repeat' first|exact trivial|(apply ad.mk<;>intro hb)|apply av.mk)
  ·exact aS (n0:=H.length) hR hC' hcl (.same _ rfl) ⟨rfl,by rw[if_pos hb];rfl⟩
  ·exact aS (n0:=H.length) hR hC' hcl (.same _ (by simp only[bq,SV.under,SV.aB,eF,Bool.and_self])) ⟨rfl,by rw[if_neg hb];rfl⟩
theorem wo (G:Gl) (op:Int) (H:List ax):af Tryz.prog G 108 [.int .i64 op] H (fun r H'=>H'=H∧r= .int .i64 (mw op)):=by
 refine af.aD TB [] aA _ Tryz.func108 rfl (by decide) Tryz.ntmps108 (by simp) rfl (by simp only[ap,Nat.reduceAdd];rfl) fun C R' hR hC hcl hB=>?_;have X:=aF;have hC':=congrArg List.length hC
 (refine run ?_;with_reducible repeat' first|exact trivial|(apply ad.mk<;>intro hb)|apply av.mk)
 all_goals (simp only[Bool.and_eq_true,Bool.or_eq_true,Bool.and_eq_false_iff,Bool.or_eq_false_iff,decide_eq_true_eq,decide_eq_false_iff_not] at*)
 all_goals refine Fin.out hR ⟨rfl,congrArg (SV.int .i64) ?_⟩
 all_goals unfold mw
 all_goals first|rw[if_pos (by omega)]|rw[if_neg (by omega),if_pos (by omega)]|rw[if_neg (by omega),if_neg (by omega),if_pos (by omega)]|rw[if_neg (by omega),if_neg (by omega),if_neg (by omega)]
theorem CA (G:Gl) (hG:au G) (a:Al) (H:List ax):af Tryz.prog G 110 [a.sv] H (fun r H'=>H'=H∧r= .bool (eV a)):=by
 obtain⟨kd,nm,nn,names,body⟩:=a
 have hbl:=body.bS
 obtain⟨k2,s2,n2,o2,l2,ss2,bs2,as2⟩:=body
 rw[show(Al.mk kd nm nn names (.mk k2 s2 n2 o2 l2 ss2 bs2 as2)).sv= .agg [.int .i64 kd,.str nm,.int .i64 nn,.list 1 (names.map .str),.int .i64 k2,.str s2,.int .i64 n2,.int .i64 o2,.list 1 (l2.map .str),.list 8 (ag ss2),.list 9 (ah bs2),.list 12 (aw as2)] from rfl]
 refine af.aD TB [] aA _ Tryz.func110 rfl (by decide) Tryz.ntmps110 (by simp) rfl (by simp only[ap,Nat.reduceAdd];rfl) fun C R' hR hC hcl hB=>?_;have X:=aF;have hC':=congrArg List.length hC
 (refine run ?_;with_reducible repeat' first|exact trivial|(apply ad.mk<;>intro hb)|apply av.mk)
 all_goals (refine aS (n0:=H.length) hR hC' hcl (.same _ rfl) ⟨rfl,?_⟩;simp_all [bq,eV,Al.kind,Al.n,Al.name,Al.names]<;>congr)
theorem B3 (G:Gl) (hG:au G) (e:Ex) (hw:e.wt<549755813888) (H:List ax):af Tryz.prog G 54 [e.sv] H (fun r H'=>H'=H∧r= .bool (dN e)):=by
 obtain⟨kd,nm,nn,op,names,ae,binds,alts⟩:=e
 have hle:=Ex.cm kd nm nn op names ae binds alts
 have c1:=fun H=>wo G op H
 have c2:=v7 G hG (.fn (.func 110) [] []) eV alts (H++[.cells 0 8 [.agg [.int .i64 kd,.str nm,.int .i64 nn,.int .i64 op,.list 1 (names.map .str),.list 8 (ag ae),.list 9 (ah binds),.list 12 (aw alts)]]]) (by omega) (by simp[SV.under,SV.aB])
  (fun a ha=>bz.of (first:=[]) (args:=[a.sv]) (cap:=[]) (CA G hG a _))
 refine af.aD TB [] aA _ Tryz.func54 rfl (by decide) Tryz.ntmps54 (by simp) rfl (by simp only[ap,Nat.reduceAdd];rfl) fun C R' hR hC hcl hB=>?_;have X:=aF;have hC':=congrArg List.length hC
 (refine run ?_;with_reducible repeat' first|exact trivial|(apply ad.mk<;>intro hb)|apply av.mk)
 all_goals refine aS (n0:=H.length) hR hC' hcl (.same _ rfl) ⟨rfl,?_⟩
 all_goals refine congrArg SV.bool ?_
 all_goals clear c1 c2 hw hle hR hC' hC hcl hB X
 all_goals simp_all [dN,il,Ex.kind,Ex.alts]
 all_goals (intros;first|omega|(exfalso;omega)|(simp_all;done)|(exfalso;simp_all;omega))
theorem iq (l:List Cn) (s:aE):(bI (pK l) (.str s)).getD (.agg [.str [],.int .i64 0,.int .i64 0,.int .i64 0])= .agg [.str (bQ l s).name,.int .i64 (bQ l s).arity,.int .i64 (bQ l s).tag,.int .i64 (bQ l s).family]:=xf l s
structure iI (H:List ax) (lb mb:Nat) (cs:List Cn):Prop where
 l:H[lb]? =some (.cells 0 1 [.agg [.map mb]])
 m:H[mb]? =some (.map none (pK cs))
theorem iI.app {H:List ax} {lb mb:Nat} {cs:List Cn} (h:iI H lb mb cs) (L:List ax):iI (H++L) lb mb cs:=
 ⟨by rw[cA (List.getElem?_eq_some_iff.1 h.l).1];exact h.l,by rw[cA (List.getElem?_eq_some_iff.1 h.m).1];exact h.m⟩
theorem iI.X {H:List ax} {lb mb:Nat} {cs:List Cn} (h:iI H lb mb cs):(∀ L,(H++L)[lb]? =some (.cells 0 1 [.agg [.map mb]]))∧(∀ L,(H++L)[mb]? =some (.map none (pK cs)))∧H[lb]? =some (.cells 0 1 [.agg [.map mb]])∧H[mb]? =some (.map none (pK cs)):=
 ⟨fun L=>(h.app L).l,fun L=>(h.app L).m,h.l,h.m⟩
theorem Dm (G:Gl) (hG:au G) (H:List ax) (lb mb:Nat) (cs:List Cn) (hl:iI H lb mb cs) (s:aE) (k:Int):af Tryz.prog G 111 [.ptr lb 0 0 0,.str s,.int .i64 k] H (fun r H'=>H'=H∧r= .bool (kA cs s k)):=by
 refine af.aD TB [] aA _ Tryz.func111 rfl (by decide) Tryz.ntmps111 (by simp) rfl (by simp only[ap,Nat.reduceAdd];rfl) fun C R' hR hC hcl hB=>?_;have X:=aF;have hC':=congrArg List.length hC
 have X:=And.intro X (And.intro hl.X (And.intro (iq cs s) (Ak cs s)))
 (refine run ?_;with_reducible repeat' first|exact trivial|(apply ad.mk<;>intro hb)|apply av.mk)
 exact aS (n0:=H.length) hR hC' hcl (.same _ rfl) ⟨rfl,by simp only[bq,kA]⟩
theorem LH {H:List ax} {lb mb:Nat} {es:List (SV×SV)} (h1:H[lb]? =some (.cells 0 1 [.agg [.map mb]])) (h2:H[mb]? =some (.map none es)):
 (∀ l L,(H.set mb (.map none (pK l))++L)[lb]? =some (.cells 0 1 [.agg [.map mb]]))∧(∀ l L,(H.set mb (.map none (pK l))++L)[mb]? =some (.map none (pK l)))∧
 (∀ l l2 L,(H.set mb (.map none (pK l))++L).set mb (.map none (pK l2))=H.set mb (.map none (pK l2))++L):=by
 have hne:lb≠mb:=fun e=>by rw[e,h2] at h1;cases h1
 have l1:=(List.getElem?_eq_some_iff.1 h1).1
 have l2:=(List.getElem?_eq_some_iff.1 h2).1
 refine⟨fun l L=>?_,fun l L=>?_,fun l l2' L=>?_⟩
 ·rw[List.getElem?_append_left (by simpa using l1),List.getElem?_set_ne (fun e=>hne e.symm)];exact h1
 ·rw[List.getElem?_append_left (by simpa using l2),List.getElem?_set_self l2]
 ·rw[eN (by simpa using l2),List.set_set]
theorem LG {H:List ax} {lb mb:Nat} (h1:H[lb]? =some (.cells 0 1 [.agg [.map mb]])) (h2:H[mb]? =some (.map none [])):
 ∃ Q:List Cn→List ax,Q []=H∧(∀ l,Q l=H.set mb (.map none (pK l)))∧(∀ l,(Q l).length=H.length)∧((∀ l L,(Q l++L)[lb]? =some (.cells 0 1 [.agg [.map mb]]))∧(∀ l L,(Q l++L)[mb]? =some (.map none (pK l)))∧
 (∀ l l2 L,(Q l++L).set mb (.map none (pK l2))=Q l2++L))∧(closed H→∀ l,closed (Q l)):=
 ⟨fun l=>H.set mb (.map none (pK l)),eg h2,fun l=>rfl,fun l=>by simp,LH h1 h2,fun hc l=>hc.set (tq _ _)⟩
theorem D4 {l:List Cn} {c:Cn} (h:kG l c=true):bU l c.name=none:=by
 unfold kG at h
 cases hf:bU l c.name with
 |none=>rfl
 |some d=>rw[hf] at h;simp at h
theorem FZ (G:Gl) (hG:au G) (H:List ax) (lb mb:Nat) (cons:List Cn) (h1:H[lb]? =some (.cells 0 1 [.agg [.map mb]])) (h2:H[mb]? =some (.map none [])) (hn:cons.length<1099511627776):
 af Tryz.prog G 55 [.ptr lb 0 0 0,.list 4 (aH cons)] H (fun r H'=>∃ l,(H'=H.set mb (.map none (pK l))∧r= .bool (fY [] cons))∧(fY [] cons=true→l=cons)):=by
 obtain⟨Q,q0,qd,hlen,qx,qc⟩:=LG h1 h2
 have hlm:=eE cons
 have l1:=(List.getElem?_eq_some_iff.1 h1).1
 have l2:=(List.getElem?_eq_some_iff.1 h2).1
 simp only[← qd]
 rw[← q0]
 refine af.aD TB [] aA _ Tryz.func55 rfl (by decide) Tryz.ntmps55 (by simp) rfl (by simp only[ap,Nat.reduceAdd];rfl) fun C R' hR hC hcl hB=>?_;have X:=aF;have hC':=congrArg List.length hC
 have hC':=hC'.trans (hlen [])
 have hcls:∀ l,closed (Q l):=fun l=>qc (q0 ▸ hcl) l
 generalize H.length=n0 at*
 have hx2:=IT Q n0 hlen
 have X:=And.intro X (And.intro qx (And.intro hx2 hlm))
 (refine run ?_;with_reducible repeat' first|exact trivial|(apply ad.mk<;>intro hb)|apply av.mk)
 refine az (fun i:Nat=>[(0,.ptr lb 0 0 0),(9,.list 4 (aH cons)),(10,.int .i64 cons.length),(11,.int .i64 i)]) (fun i=>Q (cons.take i)++[]) (fun i=>cons.length - i)
  (fun i=>i≤cons.length∧fY (cons.take i) (cons.drop i)=fY [] cons) 0 ⟨Nat.zero_le _,rfl⟩ ?_ ?_
 ·simp only[List.take_zero,List.append_nil]
  exact Wk.sub (by simp[bg,look])
 rintro K i ⟨hi,hok⟩ hK
 rcases Nat.lt_or_ge i cons.length with hlt|hge
 ·have e1:(aH cons)[i]? =some (.agg [.str cons[i].name,.int .i64 cons[i].arity,.int .i64 cons[i].tag,.int .i64 cons[i].family]):=fh cons hlt
  rw[List.drop_eq_getElem_cons hlt,fY,← List.take_succ_eq_append_getElem hlt] at hok
  have ht:=List.take_succ_eq_append_getElem hlt
  have hset:=ue (cons.take i) cons[i]
  have hcell:cons[i].cells=[.str cons[i].name,.int .i64 cons[i].arity,.int .i64 cons[i].tag,.int .i64 cons[i].family]:=rfl
  rw[hcell] at hset
  have hoc:kG (cons.take i) cons[i]=kG (cons.take i) cons[i]:=rfl
  conv at hoc=>rhs;unfold kG
  simp only[GG] at hoc
  have hnw:=D4 (l:=cons.take i) (c:=cons[i])
  have hcz:=iq (cons.take i) cons[i].name
  have hch:=Ak (cons.take i) cons[i].name
  generalize hok1:kG (cons.take i) cons[i]=o1 at*
  cases o1
  ·have X:=And.intro X (And.intro e1 (And.intro hcz hch))
   (refine run ?_;with_reducible repeat' first|exact trivial|(apply ad.mk<;>intro hb)|apply av.mk)
   ·rw[Bool.false_and] at hok
    refine aS (n0:=n0) hR hC' (hcls (cons.take i)) (.same _ rfl) ⟨_,⟨rfl,?_⟩,?_⟩
    ·rw[← hok];rfl
    ·rw[← hok];intro h;cases h
   ·rw[hb] at hoc;cases hoc
  ·have X:=And.intro X (And.intro e1 (And.intro hcz (And.intro hch (hset (hnw rfl)))))
   (refine run ?_;with_reducible repeat' first|exact trivial|(apply ad.mk<;>intro hb)|apply av.mk)
   ·rw[hb] at hoc;cases hoc
   ·rw[← ht]
    refine hK _ _ (i+1) (by omega) ⟨by omega,by rw[← hok,Bool.true_and]⟩ ?_
    exact aY (n0:=n0) [] hG hB hC' (hcls _)
 obtain rfl:i=cons.length:=by omega
 rw[List.drop_length,List.take_length] at hok
 rw[List.take_length]
 clear hK
 have X:=And.intro X (Int.lt_irrefl (cons.length:Int))
 (refine run ?_;with_reducible repeat' first|exact trivial|(apply ad.mk<;>intro hb)|apply av.mk)
 exact aS (n0:=n0) hR hC' (hcls cons) (.same _ rfl) ⟨_,⟨rfl,by rw[← hok];rfl⟩,fun _=>rfl⟩
theorem C8 (G:Gl) (hG:au G) (H:List ax) (lb mb pb:Nat) (cs:List Cn) (hl:iI H lb mb cs) (hp:H[pb]? =some (.cells 0 1 [.ptr lb 0 0 0])) (a:Al):
 af Tryz.prog G 112 [a.sv,.ptr pb 0 0 0] H (fun r H'=>H'=H∧r= .bool (decide (a.kind=1)&&!kA cs a.name a.names.length)):=by
 obtain⟨kd,nm,nn,names,body⟩:=a
 obtain⟨k2,s2,n2,o2,l2,ss2,bs2,as2⟩:=body
 rw[show(Al.mk kd nm nn names (.mk k2 s2 n2 o2 l2 ss2 bs2 as2)).sv= .agg [.int .i64 kd,.str nm,.int .i64 nn,.list 1 (names.map .str),.int .i64 k2,.str s2,.int .i64 n2,.int .i64 o2,.list 1 (l2.map .str),.list 8 (ag ss2),.list 9 (ah bs2),.list 12 (aw as2)] from rfl]
 have c1:=fun L=>Dm G hG (H++L) lb mb cs (hl.app L) nm names.length
 have hpx:=fun L=>(show(H++L)[pb]? =some (.cells 0 1 [.ptr lb 0 0 0]) by rw[cA (List.getElem?_eq_some_iff.1 hp).1];exact hp)
 refine af.aD TB [] aA _ Tryz.func112 rfl (by decide) Tryz.ntmps112 (by simp) rfl (by simp only[ap,Nat.reduceAdd];rfl) fun C R' hR hC hcl hB=>?_;have X:=aF;have hC':=congrArg List.length hC
 have X:=And.intro X hpx
 (refine run ?_;with_reducible repeat' first|exact trivial|(apply ad.mk<;>intro hb)|apply av.mk)
 all_goals (refine aS (n0:=H.length) hR hC' hcl (.same _ rfl) ⟨rfl,?_⟩;simp_all [bq,Al.kind,Al.n,Al.name,Al.names])
theorem Fo (G:Gl) (hG:au G) (H:List ax) (lb mb:Nat) (cs:List Cn) (hl:iI H lb mb cs) (e:Ex) (hw:e.wt<549755813888):
 af Tryz.prog G 59 [.ptr lb 0 0 0,e.sv] H (fun r H'=>H'=H∧r= .bool (kW cs e)):=by
 obtain⟨kd,nm,nn,op,names,ae,binds,alts⟩:=e
 have hle:=Ex.cm kd nm nn op names ae binds alts
 have c1:=fun L=>Dm G hG (H++L) lb mb cs (hl.app L) nm ae.length
 have c2:=fun H=>wo G op H
 have c3:=v7 G hG (.fn (.func 112) [] [.ptr H.length 0 0 0]) (fun a=>decide (a.kind=1)&&!kA cs a.name a.names.length) alts (H++[.cells 0 1 [.ptr lb 0 0 0],.cells 0 8 [.agg [.int .i64 kd,.str nm,.int .i64 nn,.int .i64 op,.list 1 (names.map .str),.list 8 (ag ae),.list 9 (ah binds),.list 12 (aw alts)]]]) (by omega) (by simp[SV.under,SV.aB])
  (fun a ha=>bz.of (first:=[]) (args:=[a.sv]) (cap:=[.ptr H.length 0 0 0]) (C8 G hG _ lb mb H.length cs (hl.app _) (by simp) a))
 refine af.aD TB [] aA _ Tryz.func59 rfl (by decide) Tryz.ntmps59 (by simp) rfl (by simp only[ap,Nat.reduceAdd];rfl) fun C R' hR hC hcl hB=>?_;have X:=aF;have hC':=congrArg List.length hC
 (refine run ?_;with_reducible repeat' first|exact trivial|(apply ad.mk<;>intro hb)|apply av.mk)
 all_goals (refine aS (n0:=H.length) hR hC' hcl (.same _ rfl) ⟨rfl,?_⟩;simp_all [bq,kW,Ex.kind,Ex.names,Ex.ae,Ex.binds,Ex.name,Ex.op,Ex.alts]<;>exact decide_eq_decide.2 (by omega))
theorem DO {l:List aE} {s t:aE}:s∈fz l t↔s∈l∨s=t:=by
 unfold fz
 split
 ·rename_i h
  constructor
  ·exact .inl
  ·rintro (h2|rfl)
   ·exact h2
   ·exact h
 ·simp
theorem xG {s:aE}:∀ {l:List aE} {a:List aE},s∈l.foldl fz a↔s∈a∨s∈l
 |[],a=>by simp
 |t::r,a=>by
  rw[List.foldl_cons,xG (l:=r),DO,List.mem_cons]
  constructor
  ·rintro ((h|h)|h)
   ·exact .inl h
   ·exact .inr (.inl h)
   ·exact .inr (.inr h)
  ·rintro (h|h|h)
   ·exact .inl (.inl h)
   ·exact .inl (.inr h)
   ·exact .inr h
theorem mD:∀ (l:List aE) (s:aE),(bI (kF l) (.str s)).getD (.bool false)= .bool (decide (s∈l))
 |[],s=>by simp[kF,bI]
 |x::r,s=>by
  have ih:=mD r s
  have e:bI (kF (x::r)) (.str s)=if SV.dX (.str s) (.str x)=true then some (.bool true) else bI (kF r) (.str s):=rfl
  rw[e]
  by_cases h:s=x
  ·subst h
   simp[SV.dX]
  ·rw[if_neg (by simpa [SV.dX] using h),ih]
   simp[h]
def sn (l:List Al):List aE:=(l.map Al.name).foldl fz []
theorem Be (l:List Al) (s:aE):(bI (kF (sn l)) (.str s)).getD (.bool false)= .bool (decide (s∈l.map Al.name)):=by
 rw[mD]
 congr 1
 rw[decide_eq_decide,sn,xG]
 simp
theorem BY (l:List Al) (a:Al):cG (kF (sn l)) (.str a.name) (.bool true)=kF (sn (l++[a])):=by
 rw[lY,sn,sn,List.map_append,List.foldl_append];rfl
def zD (l:List Int) (n:Int):List Int:=if n∈l then l else l++[n]
def Am (l:List Int):List (SV×SV):=l.map fun n=>(.int .i64 n,.bool true)
theorem uf:∀ (l:List Int) (n:Int),cG (Am l) (.int .i64 n) (.bool true)=Am (zD l n)
 |[],n=>rfl
 |k::r,n=>by
  simp only[Am,List.map_cons,cG,SV.dX,zD]
  by_cases h:n=k
  ·simp[h]
  ·simp only[beq_eq_false_iff_ne.2 h,if_false,Bool.false_eq_true]
   rw[show cG (List.map _ r) (.int .i64 n) (.bool true)=_ from uf r n]
   simp only[Am,zD,List.mem_cons,h,false_or]
   split<;>rfl
theorem DN {l:List Int} {s t:Int}:s∈zD l t↔s∈l∨s=t:=by
 unfold zD
 split
 ·rename_i h
  constructor
  ·exact .inl
  ·rintro (h2|rfl)
   ·exact h2
   ·exact h
 ·simp
theorem tN {s:Int}:∀ {l:List Int} {a:List Int},s∈l.foldl zD a↔s∈a∨s∈l
 |[],a=>by simp
 |t::r,a=>by
  rw[List.foldl_cons,tN (l:=r),DN,List.mem_cons]
  constructor
  ·rintro ((h|h)|h)
   ·exact .inl h
   ·exact .inr (.inl h)
   ·exact .inr (.inr h)
  ·rintro (h|h|h)
   ·exact .inl (.inl h)
   ·exact .inl (.inr h)
   ·exact .inr h
theorem qM:∀ (l:List Int) (n:Int),(bI (Am l) (.int .i64 n)).getD (.bool false)= .bool (decide (n∈l))
 |[],s=>by simp[Am,bI]
 |x::r,s=>by
  have ih:=qM r s
  have e:bI (Am (x::r)) (.int .i64 s)=if SV.dX (.int .i64 s) (.int .i64 x)=true then some (.bool true) else bI (Am r) (.int .i64 s):=rfl
  rw[e]
  by_cases h:s=x
  ·subst h
   simp[SV.dX]
  ·rw[if_neg (by simpa [SV.dX] using h),ih]
   simp[h]
def rI (l:List Al):List Int:=(l.map Al.n).foldl zD []
theorem Bc (l:List Al) (s:Int):(bI (Am (rI l)) (.int .i64 s)).getD (.bool false)= .bool (decide (s∈l.map Al.n)):=by
 rw[qM]
 congr 1
 rw[decide_eq_decide,rI,tN]
 simp
theorem BF (l:List Al) (a:Al):cG (Am (rI l)) (.int .i64 a.n) (.bool true)=Am (rI (l++[a])):=by
 rw[uf,rI,rI,List.map_append,List.foldl_append];rfl
theorem tu (n:Nat):∀ l:List Int,cY n (Am l)=true
 |[]=>rfl
 |p::l=>by simp only[Am,List.map_cons,cY,SV.under,Bool.and_self,Bool.true_and];exact tu n l
theorem uA (l:List Al) (n:Nat):(aw l).take n=aw (l.take n):=by simp[bG,List.map_take]
theorem rJ (cs:List Cn) (k0:Int) (s0:aE) (R:List Al) {i:Nat} (h:i<R.length):gg cs k0 s0 (R.take i) (R.drop i)=(kB cs (R.take i) k0 s0 R[i]||gg cs k0 s0 (R.take (i+1)) (R.drop (i+1))):=by
 rw[List.drop_eq_getElem_cons h,gg,← List.take_succ_eq_append_getElem h]
theorem A4 (G:Gl) (hG:au G) (H:List ax) (lb mb:Nat) (cs:List Cn) (hl:iI H lb mb cs) (e:Ex) (hw:e.wt<549755813888):
 af Tryz.prog G 60 [.ptr lb 0 0 0,e.sv] H (fun r H'=>H'=H∧r= .bool (kL cs e)):=by
 obtain⟨kd,nm,nn,op,names,ae,binds,alts⟩:=e
 have hle:=Ex.cm kd nm nn op names ae binds alts
 by_cases hk:kd=6
 rotate_left
 ·have es:kL cs (.mk kd nm nn op names ae binds alts)=true:=if_pos hk
  refine af.aD TB [] aA _ Tryz.func60 rfl (by decide) Tryz.ntmps60 (by simp) rfl (by simp only[ap,Nat.reduceAdd];rfl) fun C R' hR hC hcl hB=>?_;have X:=aF;have hC':=congrArg List.length hC
  (refine dW ?_;with_reducible repeat' first|exact trivial|(apply ad.mk<;>intro hb)|apply av.mk)
  refine dP rfl hk ?_
  (refine run ?_;with_reducible repeat' first|exact trivial|(apply ad.mk<;>intro hb)|apply av.mk)
  exact aS (n0:=H.length) hR hC' hcl (.same _ rfl) ⟨rfl,by rw[es];rfl⟩
 have es:kL cs (.mk kd nm nn op names ae binds alts)=(!gg cs (Dp (ga alts)) (Dq (ga alts)) [] (ga alts)&&decide (0<alts.length)):=if_neg (fun h=>h hk)
 rw[es]
 have l1:=(List.getElem?_eq_some_iff.1 hl.l).1
 have l2:=(List.getElem?_eq_some_iff.1 hl.m).1
 rcases Nat.eq_zero_or_pos alts.length with h0|hpos
 ·obtain rfl:=List.length_eq_zero_iff.1 h0
  refine af.aD TB [] aA _ Tryz.func60 rfl (by decide) Tryz.ntmps60 (by simp) rfl (by simp only[ap,Nat.reduceAdd];rfl) fun C R' hR hC hcl hB=>?_;have X:=aF;have hC':=congrArg List.length hC
  (refine dW ?_;with_reducible repeat' first|exact trivial|(apply ad.mk<;>intro hb)|apply av.mk)
  refine cP rfl (fun h=>h hk) ?_
  have X:=And.intro aF (Int.lt_irrefl 0)
  (refine run ?_;with_reducible repeat' first|exact trivial|(apply ad.mk<;>intro hb)|apply av.mk)
  refine az (fun _:Unit=>[(3,.ptr H.length 0 0 0),(36,.int .i64 0),(37,.int .i64 0)]) (fun _=>H++[.cells 0 8 [.agg [.int .i64 kd,.str nm,.int .i64 nn,.int .i64 op,.list 1 (names.map .str),.list 8 (ag ae),.list 9 (ah binds),.list 12 (aw [])]]]) (fun _=>0) (fun _=>True) () trivial ?_ ?_
  ·exact aY (n0:=H.length) [(H.length,0)] hG hB hC' hcl
  rintro K _ _ hK
  (refine run ?_;with_reducible repeat' first|exact trivial|(apply ad.mk<;>intro hb)|apply av.mk)
  exact aS (n0:=H.length) hR hC' hcl (.same _ rfl) ⟨rfl,rfl⟩
 have hnn:((alts.length:Int) - 1).toNat=alts.length - 1:=by omega
 have hlt1:alts.length - 1<alts.length:=by omega
 have hr:ga alts=if alts[alts.length - 1].kind=3 then alts.take (alts.length - 1) else alts:=by
  rw[ga,if_neg (by omega)]
  have:alts.getLast?=some alts[alts.length - 1]:=by rw[List.getLast?_eq_getElem?,List.getElem?_eq_getElem hlt1]
  rw[this]
  rfl
 have hal:alts[alts.length - 1]? =some alts[alts.length - 1]:=List.getElem?_eq_getElem hlt1
 have hpos2:(0:Int)<(alts.length:Int):=by omega
 refine af.aD TB [] aA _ Tryz.func60 rfl (by decide) Tryz.ntmps60 (by simp) rfl (by simp only[ap,Nat.reduceAdd];rfl) fun C R' hR hC hcl hB=>?_;have X:=aF;have hC':=congrArg List.length hC
 (refine dW ?_;with_reducible repeat' first|exact trivial|(apply ad.mk<;>intro hb)|apply av.mk)
 refine cP rfl (fun h=>h hk) ?_
 have X:=And.intro aF (And.intro hnn (And.intro hal (And.intro (show alts.length - 1 - 0=alts.length - 1 from rfl) (uA alts (alts.length - 1)))))
 (refine dW ?_;with_reducible repeat' first|exact trivial|(apply ad.mk<;>intro hb)|apply av.mk)
 refine dQ (fun _:Unit=>[(0,.ptr lb 0 0 0),(3,.ptr H.length 0 0 0),(5,.list 12 (aw (ga alts)))]) (fun _=>H++[.cells 0 8 [.agg [.int .i64 kd,.str nm,.int .i64 nn,.int .i64 op,.list 1 (names.map .str),.list 8 (ag ae),.list 9 (ah binds),.list 12 (aw alts)]]]) (fun _=>True) (fun K hK=>?_) (fun _ _=>?_)
 ·(refine run ?_;with_reducible repeat' first|exact trivial|(apply ad.mk<;>intro hb)|apply av.mk)
  ·refine hK _ _ () trivial ?_
   rw[hr,if_pos (by first|exact hb|simp_all)]
   exact aY (n0:=H.length) [(H.length,0)] hG hB hC' hcl
  ·refine hK _ _ () trivial ?_
   rw[hr,if_neg (by first|exact hb|simp_all)]
   exact aY (n0:=H.length) [(H.length,0)] hG hB hC' hcl
 have fE:=tu
 have hrl:(ga alts).length≤alts.length:=by
  unfold ga
  split
  ·exact Nat.le_refl _
  ·split
   ·rw[List.length_take];omega
   ·exact Nat.le_refl _
 generalize hRR:ga alts=R at*
 have X:=And.intro aF hl.X
 (refine run ?_;with_reducible repeat' first|exact trivial|(apply ad.mk<;>intro hb)|apply av.mk)
 refine az (fun i:Nat=>[(0,.ptr lb 0 0 0),(3,.ptr H.length 0 0 0),(5,.list 12 (aw R)),(7,.map (H.length+1)),(8,.map (H.length+2)),(35,.list 12 (aw R)),(36,.int .i64 R.length),(37,.int .i64 i)])
  (fun i=>H++[.cells 0 8 [.agg [.int .i64 kd,.str nm,.int .i64 nn,.int .i64 op,.list 1 (names.map .str),.list 8 (ag ae),.list 9 (ah binds),.list 12 (aw alts)]],.map none (kF (sn (R.take i))),.map (some .i64) (Am (rI (R.take i)))]) (fun i=>R.length - i) (fun i=>i≤R.length∧gg cs (Dp R) (Dq R) (R.take i) (R.drop i)=gg cs (Dp R) (Dq R) [] R) 0 ⟨Nat.zero_le _,rfl⟩ ?_ ?_
 ·exact aY (n0:=H.length) [(H.length,0),(H.length+1,0),(H.length+2,0)] hG hB hC' hcl
 rintro K i ⟨hi,ho⟩ hK
 rcases Nat.lt_or_ge i R.length with hlt|hge
 ·rw[rJ cs _ _ R hlt] at ho
  have hs1:=Be (R.take i) R[i].name
  have hs2:=Bc (R.take i) R[i].n
  have hs3:=BY (R.take i) R[i]
  have hs4:=BF (R.take i) R[i]
  have hz1:=iq cs R[i].name
  have hz2:=iq cs R[0].name
  have hR0:R[0]? =some R[0]:=List.getElem?_eq_getElem (by omega)
  have hRi:R[i]? =some R[i]:=List.getElem?_eq_getElem hlt
  have hk0:Dp R=R[0].kind:=by rw[Dp,List.head?_eq_getElem?,hR0];rfl
  have hn0:Dq R=R[0].name:=by rw[Dq,List.head?_eq_getElem?,hR0];rfl
  have ht:=List.take_succ_eq_append_getElem hlt
  rw[← ht] at hs3 hs4
  have hoc:kB cs (R.take i) (Dp R) (Dq R) R[i]=kB cs (R.take i) (Dp R) (Dq R) R[i]:=rfl
  conv at hoc=>rhs;unfold kB
  rw[hk0,hn0] at hoc ho
  generalize hoo:kB cs (R.take i) R[0].kind R[0].name R[i]=oo at*
  generalize R[0]=a0 at*
  generalize R[i]=ai at*
  have X:=And.intro aF (And.intro hl.X (And.intro hs1 (And.intro hs2 (And.intro hs3 (And.intro hs4 (And.intro hz1 (And.intro hz2 (And.intro hR0 hRi))))))))
  (refine run ?_;with_reducible repeat' first|exact trivial|(apply ad.mk<;>intro hb)|apply av.mk)
  ·simp only[decide_not] at hb
   have e:oo=true:=hoc.trans hb
   subst e
   rw[Bool.true_or,← hk0,← hn0] at ho
   rw[← ho] at hR
   exact aS (n0:=H.length) hR hC' hcl (.same _ rfl) ⟨rfl,rfl⟩
  ·simp only[decide_not] at hb
   have e:oo=false:=hoc.trans hb
   subst e
   rw[Bool.false_or] at ho
   rw[← hk0,← hn0] at ho
   refine hK _ _ (i+1) (by omega) ⟨by omega,ho⟩ ?_
   exact aY (n0:=H.length) [(H.length,0),(H.length+1,0),(H.length+2,0)] hG hB hC' hcl
 obtain rfl:i=R.length:=by omega
 rw[List.drop_length,List.take_length] at ho
 rw[← ho] at hR
 clear hK
 have X:=And.intro aF (Int.lt_irrefl (R.length:Int))
 (refine run ?_;with_reducible repeat' first|exact trivial|(apply ad.mk<;>intro hb)|apply av.mk)
 exact aS (n0:=H.length) hR hC' hcl (.same _ rfl) ⟨rfl,by simp[bq,gg]⟩
theorem dy (l:List Bd):(aP l).length≤aM l:=
 kU (f:=fun b:Bd=>b.name::pC b.e) (w:=Bd.wt) rfl (fun _ _=>rfl) fun b _=>by
  have:=dz b.e.wt b.e
  have:=b.di
  simp only[List.length_cons,pC];omega
theorem kn {l:List Bd} {b:Bd} (h:b∈l):b.e.wt<aM l:=by
 induction l with
 |nil=>cases h
 |cons x r ih=>
  simp only[aM]
  have:=x.di
  rcases List.mem_cons.1 h with rfl|h
  ·omega
  ·have:=ih h;omega
theorem oX (G:Gl) (hG:au G) (cons:List Cn) (binds:List Bd) (H:List ax) (hw:aM binds<4294967296):
 af Tryz.prog G 49 [.agg [.list 4 (aH cons),.list 9 (ah binds)]] H (fun r H'=>H'=H++[.cells 0 1 ((aP binds).map .str)]∧r= .sl H.length 0 0 (aP binds).length):=by
 have hle:=cC binds
 obtain⟨L2,b1,b2,b3,b4⟩:=fT (fun b:Bd=>b.name::pC b.e) [] binds
 have e0:aP binds=L2 binds.length:=by rw[b4,List.nil_append];rfl
 have hln:=dy binds
 rw[e0] at hln ⊢
 rw[← b4] at b3
 have bK:=fun n=>bf n cons
 refine af.aD TB [3] aA _ Tryz.func49 rfl (by decide) Tryz.ntmps49 (by simp) rfl (by simp only[ap,Nat.reduceAdd];rfl) fun C R' hR hC hcl hB=>?_;have X:=aF;have hC':=congrArg List.length hC
 (refine run ?_;with_reducible repeat' first|exact trivial|(apply ad.mk<;>intro hb)|apply av.mk)
 refine az (fun i:Nat=>[(3,.sl (H.length+1) 0 0 (L2 i).length),(7,.list 9 (ah binds)),(8,.int .i64 binds.length),(9,.int .i64 i)])
  (fun i=>H++[.cells 0 2 [.agg [.list 4 (aH cons),.list 9 (ah binds)]],.cells 0 1 ((L2 i).map .str)]) (fun i=>binds.length - i) (fun i=>i≤binds.length) 0 (Nat.zero_le _) ?_ ?_
 ·simp only[b1,List.length_nil,List.map_nil]
  exact aY (n0:=H.length) [(H.length,0),(H.length+1,0)] hG hB hC' hcl
 rintro K i hi hK
 rcases Nat.lt_or_ge i binds.length with hlt|hge
 ·have hpb:=kn (List.getElem_mem hlt)
  have c1:=fun H=>qi G hG binds[i].e.wt binds[i].e H (Nat.le_refl _) (by omega)
  have e1:=b2 i hlt
  have e2:=b3 (i+1)
  have e3:=b3 i
  have e4:=dz binds[i].e.wt binds[i].e
  rw[e1,List.length_append] at e2
  simp only[List.length_cons,pC] at e2 e1
  generalize dL binds[i].e.wt binds[i].e=l at*
  generalize L2 i=l1 at*
  have X:=And.intro aF (show(l1.map SV.str).length=l1.length∧(l.map SV.str).length=l.length from⟨List.length_map ..,List.length_map ..⟩)
  (refine run ?_;with_reducible repeat' first|exact trivial|(apply ad.mk<;>intro hb)|apply av.mk)
  refine hK _ _ (i+1) (by omega) (by omega) ?_
  rw[e1,List.map_append,List.map_cons,show(l1++binds[i].name::l).length=l1.length+(1+l.length) from by simp;omega]
  exact aY (n0:=H.length) [(H.length,0),(H.length+1,0)] hG hB hC' hcl
 obtain rfl:i=binds.length:=by omega
 clear hK
 (refine run ?_;with_reducible repeat' first|exact trivial|(apply ad.mk<;>intro hb)|apply av.mk)
 exact dp [(H.length+1,0)] (.sl H.length 0 0 (L2 binds.length).length) [.cells 0 1 ((L2 binds.length).map .str)] hR hC' hcl ⟨rfl,rfl⟩
section
section
variable {P:Program} {G:Gl} {T:aT} {own:List Nat} {nt B:Nat} {ρ:Option Nat} {C:Cx} {rs:List ResultVar} {R:SV→List ax→Prop} {env env2:Env} {H H':List ax} {k:List It}
variable {all r:List Oper} {ty d j dj:Nat} {op:Op} {pos:String} {after:Array Edge} {v:SV}
theorem ck.length {c:Cx}:∀ {es:List (SV×SV)} {l:List MapEntry},ck c es l→l.length=es.length
 |[],l,h=>by simp only[ck] at h;subst h;rfl
 |(q,x)::es,l,h=>by
  simp only[ck] at h
  obtain⟨e,es',_,_,h3,rfl⟩:=h
  simp[ck.length h3]
structure zY (G:Gl) (id bm:Nat) (kd:Option IntKind):Prop where
 there:∃ C',G.base=some C'∧(∃ es0,C'.H[id]? =some (.map kd es0))∧C'.θ id=some (bm,0)
theorem zY.of {C':Cx} (hc:aO C') {l:List (Nat×SV)} {id:Nat} {kd:Option IntKind} {es:List (SV×SV)} (h:C'.H[id]? =some (.map kd es)):∃ bm,zY ⟨l,some C'⟩ id bm kd:=by
 obtain⟨b,ents,clk,h1,_⟩:=hc.ee id _ h
 exact⟨b,⟨C',rfl,⟨es,h⟩,h1⟩⟩
end
end
section
section
variable {P:Program} {G:Gl} {T:aT} {own:List Nat} {nt B:Nat} {ρ:Option Nat} {C:Cx} {rs:List ResultVar} {R:SV→List ax→Prop} {env env2:Env} {H H2:List ax} {k:List It}
theorem Hy {all l:List Oper} (env2:Env) (H2:List ax) (hw:Wk G nt C ⟨env,H⟩ ⟨env2,H2⟩) (h:(Out P G T own nt ρ C rs R) (.ops all l::k) .normal env2 H2):(Out P G T own nt ρ C rs R) (.ops all l::k) .normal env H:=by
 intro hT i c a hf hc hi hg
 obtain⟨c',e1,e2,e3,e4⟩:=hw c a hc hi hg
 have:=h hT i c' a hf e1 e3 e4
 rw[e2] at this
 exact this
theorem qV {x:Code} (env2:Env) (H2:List ax) (hw:Wk G nt C ⟨env,H⟩ ⟨env2,H2⟩) (h:(Out P G T own nt ρ C rs R) (.code x::k) .normal env2 H2):(Out P G T own nt ρ C rs R) (.code x::k) .normal env H:=by
 intro c a hc hi hg
 obtain⟨c',e1,e2,e3,e4⟩:=hw c a hc hi hg
 have:=h c' a e1 e3 e4
 rw[e2] at this
 exact this
theorem Wk.trans {s s2 s3:St} (h1:Wk G nt C s s2) (h2:Wk G nt C s2 s3):Wk G nt C s s3:=by
 intro c a hc hi hg
 obtain⟨c',e1,e2,e3,e4⟩:=h1 c a hc hi hg
 obtain⟨c'',f1,f2,f3,f4⟩:=h2 c' a e1 e3 e4
 exact⟨c'',f1,f2.trans e2,f3,f4⟩
theorem sK {id g s i j:Nat} {vals fs:List SV} (sz:Nat) (hb:H[id]? =some (.cells g s vals)) (hk:vals[i]? =some (.agg fs)) (hj:fs[j]? =some .nil):
 Wk G nt C ⟨env,H⟩ ⟨env,H.set id (.cells g s (vals.set i (.agg (fs.set j (.sl H.length 0 0 0)))))++[.cells 0 sz []]⟩:=by
 intro c a hc hi hg
 have hc:c.H=H:=hc
 subst hc
 have hid:id<c.H.length:=(List.getElem?_eq_some_iff.1 hb).1
 obtain⟨g1,g2⟩:=Cx.fresh hi.heap (w':=c.w) c.w.heap.size (Nat.le_refl _) 0 none (.inl rfl) (.cells 0 sz []) (fun _ _=>rfl) (Nat.le_refl _) rfl rfl rfl (fun _=> .inl ⟨by simp,rfl⟩)
 generalize hc1:(⟨fun i=>if i=c.H.length then none else c.θ i,c.H++[.cells 0 sz []],c.w⟩:Cx)=c1 at g1 g2
 have hH:c1.H=c.H++[.cells 0 sz []]:=by rw[← hc1]
 have hw:c1.w=c.w:=by rw[← hc1]
 have hb1:c1.H[id]? =some (.cells g s vals):=by rw[hH,List.getElem?_append_left hid];exact hb
 obtain⟨t1,t2⟩:=Cx.pF g2 (w':=c1.w) hb1 rfl (B':= .cells g s (vals.set i (.agg (fs.set j (.sl c.H.length 0 0 0))))) (c1.θ id)
  ⟨g,_,rfl,Nat.le_refl _,fun _=>⟨rfl,by simp⟩,fun b' o' h'=> .inr ⟨o',h'⟩⟩ (fun _ _ _=>rfl) (Nat.le_refl _) rfl rfl rfl (fun b cs T fr h=>⟨cs,fr,h,rfl⟩)
  (fun hg=>by
   rcases g2.ee id _ hb1 with⟨h2,h3⟩|⟨b,o,cs,Ty,fr,vs,h2,h3,h4,h5,h6,h7⟩
   ·rw[h3] at hk;simp at hk
   ·refine .inr ⟨b,o,cs,Ty,fr,vs,by simp[h2],h3,h4,?_,h6,h7⟩
    obtain⟨u,u1,u2⟩:=h5.get hk
    have u0:=u2
    simp only[aG] at u2
    obtain⟨ws,w1,w2,w3⟩:=u2
    obtain⟨z,z1,z2⟩:=w1.get hj
    simp only[aG] at z2
    have h8:=h5.grow hg
    have h9:=w1.grow hg
    refine eg u1 ▸ h8.set i (u:=u) ?_
    simp only[aG]
    refine⟨ws,?_,w2,w3⟩
    refine eg z1 ▸ h9.set j (u:=z) ?_
    simp only[aG]
    have hne:¬ c.H.length=id:=by omega
    refine⟨by rw[z2];rfl,?_⟩
    have hn:(c1.H.set id (.cells g s (vals.set i (.agg (fs.set j (.sl c.H.length 0 0 0))))))[c.H.length]? =some (.cells 0 sz []):=by
     rw[List.getElem?_set_ne (fun e=>hne e.symm),hH];simp
    rw[hn]
    exact .inr ⟨rfl,Nat.le_refl _,none,0,z2,Nat.le_refl _,Nat.zero_le _,.inl ⟨rfl,.inr (Nat.le_refl _)⟩⟩)
 refine⟨{ θ:=fun i=>if i=id then c1.θ id else c1.θ i,H:=c1.H.set id (.cells g s (vals.set i (.agg (fs.set j (.sl c.H.length 0 0 0))))),w:=c1.w},?_,hw,⟨t2,hi.gn.grow (g1.trans t1),hi.size,fun t' x hx=>(hi.env t' x hx).grow (g1.trans t1),hi.gm.grow (g1.trans t1)⟩,(hg.trans g1).trans t1⟩
 show c1.H.set id _=_
 rw[hH,List.set_append_left _ _ hid]
theorem Cb {id g s i:Nat} {vals:List SV} (sz:Nat) (hb:H[id]? =some (.cells g s vals)) (hk:vals[i]? =some .nil):
 Wk G nt C ⟨env,H⟩ ⟨env,H.set id (.cells g s (vals.set i (.sl H.length 0 0 0)))++[.cells 0 sz []]⟩:=by
 intro c a hc hi hg
 have hc:c.H=H:=hc
 subst hc
 have hid:id<c.H.length:=(List.getElem?_eq_some_iff.1 hb).1
 obtain⟨g1,g2⟩:=Cx.fresh hi.heap (w':=c.w) c.w.heap.size (Nat.le_refl _) 0 none (.inl rfl) (.cells 0 sz []) (fun _ _=>rfl) (Nat.le_refl _) rfl rfl rfl (fun _=> .inl ⟨by simp,rfl⟩)
 generalize hc1:(⟨fun i=>if i=c.H.length then none else c.θ i,c.H++[.cells 0 sz []],c.w⟩:Cx)=c1 at g1 g2
 have hH:c1.H=c.H++[.cells 0 sz []]:=by rw[← hc1]
 have hw:c1.w=c.w:=by rw[← hc1]
 have hb1:c1.H[id]? =some (.cells g s vals):=by rw[hH,List.getElem?_append_left hid];exact hb
 obtain⟨t1,t2⟩:=Cx.pF g2 (w':=c1.w) hb1 rfl (B':= .cells g s (vals.set i (.sl c.H.length 0 0 0))) (c1.θ id)
  ⟨g,_,rfl,Nat.le_refl _,fun _=>⟨rfl,by simp⟩,fun b' o' h'=> .inr ⟨o',h'⟩⟩ (fun _ _ _=>rfl) (Nat.le_refl _) rfl rfl rfl (fun b cs T fr h=>⟨cs,fr,h,rfl⟩)
  (fun hg=>by
   rcases g2.ee id _ hb1 with⟨h2,h3⟩|⟨b,o,cs,Ty,fr,vs,h2,h3,h4,h5,h6,h7⟩
   ·rw[h3] at hk;simp at hk
   ·refine .inr ⟨b,o,cs,Ty,fr,vs,by simp[h2],h3,h4,?_,h6,h7⟩
    obtain⟨u,u1,u2⟩:=h5.get hk
    simp only[aG] at u2
    have h8:=h5.grow hg
    refine eg u1 ▸ h8.set i (u:=u) ?_
    simp only[aG]
    have hne:¬ c.H.length=id:=by omega
    refine⟨by rw[u2];rfl,?_⟩
    have hn:(c1.H.set id (.cells g s (vals.set i (.sl c.H.length 0 0 0))))[c.H.length]? =some (.cells 0 sz []):=by
     rw[List.getElem?_set_ne (fun e=>hne e.symm),hH];simp
    rw[hn]
    exact .inr ⟨rfl,Nat.le_refl _,none,0,u2,Nat.le_refl _,Nat.zero_le _,.inl ⟨rfl,.inr (Nat.le_refl _)⟩⟩)
 refine⟨{ θ:=fun i=>if i=id then c1.θ id else c1.θ i,H:=c1.H.set id (.cells g s (vals.set i (.sl c.H.length 0 0 0))),w:=c1.w},?_,hw,⟨t2,hi.gn.grow (g1.trans t1),hi.size,fun t' x hx=>(hi.env t' x hx).grow (g1.trans t1),hi.gm.grow (g1.trans t1)⟩,(hg.trans g1).trans t1⟩
 show c1.H.set id _=_
 rw[hH,List.set_append_left _ _ hid]
end
end
section
mutual
def SV.same:SV→SV→Bool
 | .undef,y=>(match y with| .undef=>true|_=>false)
 | .bool a,y=>(match y with| .bool b=>a==b|_=>false)
 | .int k n,y=>(match y with| .int k' n'=>decide (k=k')&&decide (n=n')|_=>false)
 | .str s,y=>(match y with| .str t=>decide (s=t)|_=>false)
 | .agg xs,y=>(match y with| .agg ys=>SV.mr xs ys|_=>false)
 | .nil,y=>(match y with| .nil=>true|_=>false)
 | .list a xs,y=>(match y with| .list b ys=>Nat.beq a b&&SV.mr xs ys|_=>false)
 | .ptr a b c d,y=>(match y with| .ptr a' b' c' d'=>Nat.beq a a'&&Nat.beq b b'&&Nat.beq c c'&&Nat.beq d d'|_=>false)
 | .sl a b c d,y=>(match y with| .sl a' b' c' d'=>Nat.beq a a'&&Nat.beq b b'&&Nat.beq c c'&&Nat.beq d d'|_=>false)
 | .map a,y=>(match y with| .map b=>Nat.beq a b|_=>false)
 | .bu,y=>(match y with| .bu=>true|_=>false)
 | .aX,y=>(match y with| .aX=>true|_=>false)
 | .aj,y=>(match y with| .aj=>true|_=>false)
 | .jI a,y=>(match y with| .jI b=>a==b|_=>false)
 | .tuple xs,y=>(match y with| .tuple ys=>SV.mr xs ys|_=>false)
 | .kC x,y=>(match y with| .kC z=>SV.same x z|_=>false)
 | .fn f xs ys,y=>(match f,y with| .func a,.fn (.func b) us vs=>Nat.beq a b&&SV.mr xs us&&SV.mr ys vs|_,_=>false)
 |_,_=>false
def SV.mr:List SV→List SV→Bool
 |[],ys=>(match ys with|[]=>true|_=>false)
 |x::xs,ys=>(match ys with|y::ys=>SV.same x y&&SV.mr xs ys|_=>false)
end
theorem SV.dT:(∀ x:SV,∀ y,SV.same x y=true→x=y)∧(∀ xs:List SV,∀ ys,SV.mr xs ys=true→xs=ys):=by
 refine SV.both (fun x h1 h2 h3 h4 h5 h6 y h=>?_) (fun fs ih y h=>?_) (fun n xs ih y h=>?_) (fun x ih y h=>?_) (fun f a b ia ib y h=>?_) (fun xs ih y h=>?_) (fun b clk born kd ks vs i1 i2 y h=>?_) (fun ys h=>?_) (fun x xs ix ixs ys h=>?_)
 ·cases x<;>first|(exact(h1 _ rfl).elim)|(exact(h2 _ _ rfl).elim)|(exact(h3 _ rfl).elim)|(exact(h4 _ _ _ rfl).elim)|(exact(h5 _ rfl).elim)|(exact(h6 _ _ _ _ _ _ rfl).elim)|(cases y<;>simp_all [SV.same])
 ·cases y<;>simp only[SV.same] at h<;>first|(cases h;done)|(rw[ih _ h])
 ·cases y<;>simp only[SV.same,Bool.and_eq_true] at h<;>first|(cases h;done)|(obtain⟨h1,h2⟩:=h;rw[ih _ h2,Nat.eq_of_beq_eq_true h1])
 ·cases y<;>simp only[SV.same] at h<;>first|(cases h;done)|(rw[ih _ h])
 ·simp only[SV.same] at h
  split at h
  ·simp only[Bool.and_eq_true] at h
   obtain⟨⟨h1,h2⟩,h3⟩:=h
   rw[Nat.eq_of_beq_eq_true h1,ia _ h2,ib _ h3]
  ·cases h
 ·cases y<;>simp only[SV.same] at h<;>first|(cases h;done)|(rw[ih _ h])
 ·simp[SV.same] at h
 ·cases ys with
  |nil=>rfl
  |cons=>simp[SV.mr] at h
 ·cases ys with
  |nil=>simp[SV.mr] at h
  |cons y ys=>simp only[SV.mr,Bool.and_eq_true] at h;rw[ix _ h.1,ixs _ h.2]
def pU:Option SV→Option SV→Bool
 |some a,some b=>SV.same a b
 |none,none=>true
 |_,_=>false
theorem rK {a b:Option SV} (h:pU a b=true):a=b:=by
 cases a<;>cases b<;>simp only[pU] at h<;>first|rfl|(cases h;done)|(rw[SV.dT.1 _ _ h])
def ub:List (SV×SV)→List (SV×SV)→Bool
 |[],ys=>(match ys with|[]=>true|_=>false)
 |(a,b)::xs,ys=>(match ys with|(c,d)::ys=>SV.same a c&&SV.same b d&&ub xs ys|_=>false)
theorem yg:∀ {xs ys:List (SV×SV)},ub xs ys=true→xs=ys
 |[],ys,h=>by cases ys with
  |nil=>rfl
  |cons=>simp[ub] at h
 |(a,b)::xs,ys,h=>by cases ys with
  |nil=>simp[ub] at h
  |cons y ys=>
   obtain⟨c,d⟩:=y
   simp only[ub,Bool.and_eq_true] at h
   rw[SV.dT.1 _ _ h.1.1,SV.dT.1 _ _ h.1.2,yg h.2]
def nT:List SV→Nat→List SV→Bool
 |[],_,ys=>(match ys with|[]=>true|_=>false)
 |x::xs,c,ys=>(match ys with
  |[]=>false
  |y::ys=>(match c with
   |0=>bif (bif nT xs 255 ys then true else false) then SV.same x y else false
   |c+1=>bif SV.same x y then nT xs c ys else false))
theorem r9:∀ {xs:List SV} {c:Nat} {ys:List SV},nT xs c ys=true→xs=ys
 |[],c,ys,h=>by
  cases ys with
  |nil=>rfl
  |cons=>simp[nT] at h
 |x::xs,c,ys,h=>by
  cases ys with
  |nil=>simp[nT] at h
  |cons y ys=>
   cases c with
   |zero=>
    simp only[nT] at h
    cases h1:nT xs 255 ys with
    |false=>rw[h1] at h;cases h
    |true=>rw[h1] at h;rw[r9 h1,SV.dT.1 _ _ h]
   |succ c=>
    simp only[nT] at h
    cases h1:SV.same x y with
    |false=>rw[h1] at h;cases h
    |true=>rw[h1,cond_true] at h;rw[r9 h,SV.dT.1 _ _ h1]
def SV.Ap:SV→Bool
 | .bool _=>true
 | .int _ _=>true
 | .str _=>true
 |_=>false
def SV.xh:SV→Bool
 | .agg xs=>xs.all SV.Ap
 |x=>SV.Ap x
theorem SV.pd {n:Nat} {x:SV} (h:x.Ap=true):x.under n=true:=by
 cases x<;>first|rfl|(cases h;done)
theorem SV.ni {n:Nat}:∀ {xs:List SV},xs.all SV.Ap=true→SV.aB n xs=true
 |[],_=>rfl
 |x::xs,h=>by
  simp only[List.all_cons,Bool.and_eq_true] at h
  simp only[SV.aB,SV.pd h.1,SV.ni h.2,Bool.and_self]
theorem SV.pf {n:Nat} {x:SV} (h:x.xh=true):x.under n=true:=by
 cases x<;>first|exact SV.pd h|(simp only[SV.under];exact SV.ni h)
def qQ:List SV→Nat→Bool
 |[],_=>true
 |x::xs,c=>(match c with
  |0=>bif (bif qQ xs 255 then true else false) then x.xh else false
  |c+1=>bif x.xh then qQ xs c else false)
theorem kT {n:Nat}:∀ {xs:List SV} {c:Nat},qQ xs c=true→SV.aB n xs=true
 |[],c,_=>rfl
 |x::xs,c,h=>by
  cases c with
  |zero=>
   simp only[qQ] at h
   cases h1:qQ xs 255 with
   |false=>rw[h1] at h;cases h
   |true=>
    rw[h1] at h
    simp only[SV.aB,SV.pf (show x.xh=true from h),kT h1,Bool.and_self]
  |succ c=>
   simp only[qQ] at h
   cases h1:x.xh with
   |false=>rw[h1] at h;cases h
   |true=>
    rw[h1,cond_true] at h
    simp only[SV.aB,SV.pf h1,kT h,Bool.and_self]
def ax.same:ax→ax→Bool
 | .cells g sz xs,y=>(match y with| .cells g' sz' ys=>Nat.beq g g'&&Nat.beq sz sz'&&nT xs 255 ys|_=>false)
 | .map kd es,y=>(match y with| .map kd' es'=>decide (kd=kd')&&ub es es'|_=>false)
 | .dead,y=>(match y with| .dead=>true|_=>false)
 |_,_=>false
theorem ax.Gj {a b:ax} (h:ax.same a b=true):a=b:=by
 cases a with
 |cells g sz xs=>cases b with
  |cells g' sz' ys=>
   simp only[ax.same,Bool.and_eq_true] at h
   rw[Nat.eq_of_beq_eq_true h.1.1,Nat.eq_of_beq_eq_true h.1.2,r9 h.2]
  |_=>simp[ax.same] at h
 |map kd es=>cases b with
  |map kd' es'=>
   simp only[ax.same,Bool.and_eq_true,decide_eq_true_eq] at h
   rw[h.1,yg h.2]
  |_=>simp[ax.same] at h
 |obj o=>simp[ax.same] at h
 |dead=>cases b with
  |dead=>rfl
  |_=>simp[ax.same] at h
def nU:List ax→List ax→Bool
 |[],ys=>(match ys with|[]=>true|_=>false)
 |x::xs,ys=>(match ys with|y::ys=>ax.same x y&&nU xs ys|_=>false)
theorem se:∀ {xs ys:List ax},nU xs ys=true→xs=ys
 |[],ys,h=>by cases ys with
  |nil=>rfl
  |cons=>simp[nU] at h
 |x::xs,ys,h=>by cases ys with
  |nil=>simp[nU] at h
  |cons y ys=>
   simp only[nU,Bool.and_eq_true] at h
   rw[ax.Gj h.1,se h.2]
abbrev RC:=FuncId→List SV→List ax→Option (SV×List ax)
def uw (P:Program) (G:Gl) (call:RC):Prop:=∀ f xs H x H',call f xs H=some (x,H')→af P G f xs H (fun r H2=>H2=H'∧r=x)
def HQ (G:Gl) (T:aT) (env:Env) (H:List ax):Op→Option SV
 | .binOp .eql t x y _=>ob (ev G env x) fun X=>ob (ev G env y) fun Y=>match Y with
  | .nil=>dI (eZ T t=2) (ob (nX H X) fun n=>bif Nat.beq n 0 then none else some (.bool false))
  |_=>none
 | .binOp .neq t x y _=>ob (ev G env x) fun X=>ob (ev G env y) fun Y=>match Y with
  | .nil=>dI (eZ T t=2) (ob (nX H X) fun n=>bif Nat.beq n 0 then none else some (.bool true))
  |_=>none
 |_=>none
def mi:Env→Nat→Option SV
 |[],_=>none
 |(k,v)::r,t=>bif Nat.beq t k then some v else mi r t
theorem fx:∀ (env:Env) (t:Nat),mi env t=look env t
 |[],_=>rfl
 |(k,v)::r,t=>by
  unfold mi look
  cases h:Nat.beq t k with
  |true=>rw[cond_true,if_pos (Nat.eq_of_beq_eq_true h)]
  |false=>
   rw[cond_false,if_neg (fun e=>by rw[e,Nat.beq_refl] at h;cases h)]
   exact fx r t
def eR (env:Env):List Operand→Env
 |[]=>[]
 | .tmp t::r=>(match mi env t with
  |some v=>(t,v)::eR env r
  |none=>eR env r)
 |_::r=>eR env r
theorem ka {env:Env} {t:Nat} {v:SV}:∀ {l:List Operand},look (eR env l) t=some v→look env t=some v
 |[],h=>by cases h
 |x::r,h=>by
  cases x with
  |tmp s=>
   unfold eR at h
   rw[fx] at h
   cases hs:look env s with
   |none=>rw[hs] at h;exact ka h
   |some u=>
    rw[hs] at h
    have h:(if t=s then some u else look (eR env r) t)=some v:=h
    by_cases e:t=s
    ·rw[if_pos e] at h;rw[e,hs];exact h
    ·rw[if_neg e] at h;exact ka h
  |_=>exact ka (l:=r) h
theorem iH {env:Env} {t:Nat}:∀ {l:List Operand},Operand.tmp t∈l→look (eR env l) t=look env t
 |x::r,h=>by
  cases x with
  |tmp s=>
   unfold eR
   rw[fx]
   cases hs:look env s with
   |some u=>
    show(if t=s then some u else look (eR env r) t)=_
    by_cases e:t=s
    ·rw[if_pos e,e,hs]
    ·rw[if_neg e]
     rcases List.mem_cons.1 h with h|h
     ·cases h;exact(e rfl).elim
     ·exact iH h
   |none=>
    show look (eR env r) t=_
    by_cases e:t=s
    ·rw[e,hs]
     cases hr:look (eR env r) s with
     |none=>rfl
     |some u=>rw[ka hr] at hs;cases hs
    ·rcases List.mem_cons.1 h with h|h
     ·cases h;exact(e rfl).elim
     ·exact iH h
  |_=>
   rcases List.mem_cons.1 h with h|h
   ·cases h
   ·exact iH (l:=r) h
theorem B4 {G:Gl} {env:Env} {l:List Operand} {x:Operand} (h:x∈l):ev G (eR env l) x=ev G env x:=by
 cases x with
 |tmp t=>exact iH h
 |_=>rfl
def AH (l:List SV) (n:Nat):Bool:=match n with
 |0=>true
 |n+1=>match l.drop n with
  |[]=>false
  |_::_=>true
theorem DI {l:List SV} {n:Nat} (h:AH l n=true):n≤l.length:=by
 cases n with
 |zero=>exact Nat.zero_le _
 |succ n=>
  rcases Nat.lt_or_ge n l.length with h2|h2
  ·exact h2
  ·have h3:(match l.drop n with
    |[]=>false
    |_::_=>true)=true:=h
   rw[List.drop_eq_nil_of_le h2] at h3
   cases h3
def Lu (G:Gl) (T:aT) (env:Env) (H:List ax):Op→Option (SV×List ax)
 | .call ⟨.builtin .copy,⟨[d,s]⟩,⟨[t,ts]⟩⟩=>ob (elemOf T t) fun e=>ob (elemOf T ts) fun _=>ob (ev G env d) fun dv=>ob (ev G env s) fun sv=>ob (dJ H sv) fun ys=>bb (kc H e.2.size sv)
  (match dv with
  | .sl id g off len=>ob (cL H id g) fun b=>bb (Nat.beq b.1 e.2.size&&Nat.blt 0 e.2.size&&AH b.2 (off+len))
   (some (.int .i64 (min ys.length len:Nat),H.set id (.cells g e.2.size (b.2.take off++ys.take (min ys.length len)++b.2.drop (off+min ys.length len))))) none
  |_=>none) none
 |_=>none
theorem Hl {G:Gl} {T:aT} {own:List Nat} {env:Env} {H:List ax} {dst:Option Nat} {ty:Nat} {op:Op} {r:SV×List ax} (h:Lu G T env H op=some r):lv G T own env H dst ty op=some r:=by
 unfold Lu at h
 split at h
 ·obtain⟨e,h1,h⟩:=aJ h
  obtain⟨e',h2,h⟩:=aJ h
  obtain⟨dv,h3,h⟩:=aJ h
  obtain⟨sv,h4,h⟩:=aJ h
  obtain⟨ys,h5,h⟩:=aJ h
  rcases tc h with⟨h6,h⟩|⟨_,h⟩
  ·cases dv with
   |sl id g off len=>
    obtain⟨b,h7,h⟩:=aJ h
    rcases tc h with⟨h8,h⟩|⟨_,h⟩
    ·simp only[Bool.and_eq_true] at h8
     obtain⟨⟨a1,a2⟩,a3⟩:=h8
     have a1:=Nat.eq_of_beq_eq_true a1
     have a2:0<e.2.size:=by simpa [Nat.blt_eq] using a2
     have a3:=DI a3
     rw[← h]
     unfold lv
     simp only[ob,h1,h2,h3,h4,h5,h6,dI,copyV,h7,a1,a2,a3,and_self,if_true,Option.bind_some]
    ·cases h
   |_=>cases h
  ·cases h
 ·cases h
def vx (G:Gl) (T:aT) (own:List Nat) (env:Env) (H:List ax) (dst:Option Nat) (ty:Nat) (op:Op):Option (SV×List ax):=
 match qv G T own env H dst ty op with
 |some v=>some (v,H)
 |none=>match Lu G T env H op with
  |some r=>some r
  |none=>match lv G T own env H dst ty op with
   |some r=>some r
   |none=>match LI G T env H op with
    |some r=>some r
    |none=>match HQ G T env H op with
     |some v=>some (v,H)
     |none=>none
def CT (call:RC) (G:Gl) (T:aT) (own:List Nat) (env:Env) (H:List ax) (dst:Option Nat) (ty:Nat):Op→Option (SV×List ax)
 | .call ⟨.value f,args,_⟩=>ob (ev G env f) fun fv=>ob (jb G env args.toList) fun xs=>match fv with
  | .fn (.func g) first cap=>call g (first++xs++cap) H
  |_=>none
 |op=>vx G T own env H dst ty op
section
variable {P:Program} {G:Gl} {T:aT} {own:List Nat} {nt:Nat} {C:Cx} {call:RC}
theorem F0 {env:Env} {H:List ax} {dst:Option Nat} {ty:Nat} {op:Op} {v:SV} {k:SV→List ax→Prop} (h:HQ G T env H op=some v) (hk:k v H):cH P G T own env H dst ty op k:=by
 unfold HQ at h
 split at h
 ·obtain⟨X,h1,h⟩:=aJ h
  obtain⟨Y,h2,h⟩:=aJ h
  split at h
  ·obtain⟨h3,h⟩:=br h
   obtain⟨n,h4,h⟩:=aJ h
   cases hn:Nat.beq n 0 with
   |true=>rw[hn] at h;cases h
   |false=>
    rw[hn] at h
    cases h
    refine lO (eq:=true) h1 h2 h3 h4 (fun e=>?_) hk
    subst e
    cases hn
  ·cases h
 ·obtain⟨X,h1,h⟩:=aJ h
  obtain⟨Y,h2,h⟩:=aJ h
  split at h
  ·obtain⟨h3,h⟩:=br h
   obtain⟨n,h4,h⟩:=aJ h
   cases hn:Nat.beq n 0 with
   |true=>rw[hn] at h;cases h
   |false=>
    rw[hn] at h
    cases h
    refine lO (eq:=false) h1 h2 h3 h4 (fun e=>?_) hk
    subst e
    cases hn
  ·cases h
 ·cases h
theorem zC {env:Env} {H H':List ax} {dst:Option Nat} {ty:Nat} {op:Op} {v:SV} {k:SV→List ax→Prop} (h:vx G T own env H dst ty op=some (v,H')) (hk:k v H'):cH P G T own env H dst ty op k:=by
 unfold vx at h
 split at h
 ·rename_i hq;cases h;exact tT hq hk
 ·split at h
  ·rename_i hq;cases h;exact xE (Hl hq) hk
  split at h
  ·rename_i hq;cases h;exact xE hq hk
  ·split at h
   ·rename_i hq;cases h;exact HP hq hk
   ·split at h
    ·rename_i hq;cases h;exact F0 hq hk
    ·cases h
theorem Fj (hc:uw P G call) {env:Env} {H H':List ax} {dst:Option Nat} {ty:Nat} {op:Op} {v:SV} {k:SV→List ax→Prop} (h:CT call G T own env H dst ty op=some (v,H')) (hk:k v H'):cH P G T own env H dst ty op k:=by
 unfold CT at h
 split at h
 ·obtain⟨fv,h1,h⟩:=aJ h
  obtain⟨xs,h2,h⟩:=aJ h
  split at h
  ·refine⟨_,h1,xs,h2,bz.of ((hc _ _ _ _ _ h).mono ?_)⟩
   rintro r H2 ⟨rfl,rfl⟩
   exact hk
  ·cases h
 ·exact zC h hk
theorem mZ (hc:uw P G call) {env:Env} {H H':List ax} {dst:Option Nat} {ty:Nat} {op:Op} {v:SV} {k:SV→List ax→Prop} (h:CT call G T own (eR env (fJ op)) H dst ty op=some (v,H')) (hk:k v H'):cH P G T own env H dst ty op k:=by
 rw[← pc (env:=eR env (fJ op)) (fun x hx=>B4 hx)]
 exact Fj hc h hk
def HZ (nt:Nat) (d:Option Nat) (x:SV) (env:Env):Option Env:=match d with
 |some d=>bif Nat.blt d nt then some ((d,x)::env) else none
 |none=>some env
theorem vy {d:Option Nat} {x:SV} {env env':Env} {k:Env→Prop} (h:HZ nt d x env=some env') (hk:k env'):j5 nt d x env k:=by
 cases d with
 |none=>cases h;exact hk
 |some d=>
  unfold HZ at h
  cases hb:Nat.blt d nt with
  |true=>simp only[hb,cond_true,Option.some.injEq] at h;subst h;exact⟨by simpa [Nat.blt_eq] using hb,hk⟩
  |false=>simp only[hb,cond_false] at h;cases h
end
section
variable (call:RC) (G:Gl) (T:aT) (own:List Nat) (nt:Nat)
def Hp (all:List Oper) (o:Oper) (env:Env) (H:List ax):Option (SV×List ax):=
 match o.guard with
 |none=>CT call G T own (eR env (fJ o.op)) H o.dst o.type o.op
 |some (j,want)=>ob ((all[j]?).bind (·.dst)) fun dj=>ob (mi env dj) fun v=>ob (uD v) fun b=>bb (b==some want) (CT call G T own (eR env (fJ o.op)) H o.dst o.type o.op) (some (.undef,H))
def Ao (all:List Oper):List Oper→Env→List ax→Option (Env×List ax)
 |[],env,H=>some (env,H)
 |o::r,env,H=>match Hp call G T own all o env H with
  |some (x,H')=>(match HZ nt o.dst x env with
   |some env'=>Ao all r env' H'
   |none=>none)
  |none=>none
def G5 (all:List Oper) (env:Env) (H:List ax):List Nat→Bool
 |[]=>true
 |i::r=>(match all[i]? with
  |some o=>pU (qg G T own all o env H) ((o.dst).bind (look env))
  |none=>false)&&G5 all env H r
def dstsOf (all:List Oper):List Nat:=all.filterMap (·.dst)
def sg (e1 e2:Env):List Nat→Bool
 |[]=>true
 |t::r=>pU (mi e1 t) (mi e2 t)&&sg e1 e2 r
end
section
variable {P:Program} {G:Gl} {T:aT} {own:List Nat} {nt:Nat} {C:Cx} {call:RC} {ρ:Option Nat}
theorem Ft (hc:uw P G call) {all:List Oper} {o:Oper} {env:Env} {H H':List ax} {x:SV} {k:SV→List ax→Prop} (h:Hp call G T own all o env H=some (x,H')) (hk:k x H'):kz P G T own all o env H k:=by
 unfold Hp at h
 unfold kz
 cases hgd:o.guard with
 |none=>
  simp only[hgd] at h
  exact mZ hc h hk
 |some jw=>
  obtain⟨j,want⟩:=jw
  simp only[hgd] at h
  obtain⟨dj,h1,h⟩:=aJ h
  obtain⟨v,h2,h⟩:=aJ h
  rw[fx] at h2
  obtain⟨b,h3,h⟩:=aJ h
  refine⟨dj,h1,v,h2,b,h3,fun e=>?_,fun e=>?_⟩
  ·rw[e] at h;exact mZ hc h hk
  ·rw[e] at h;cases h;exact hk
theorem w8 (hc:uw P G call) {all:List Oper}:∀ (l:List Oper) {env env':Env} {H H':List ax} {k:Env→List ax→Prop},Ao call G T own nt all l env H=some (env',H')→k env' H'→iu P G T own nt all l env H k
 |[],env,env',H,H',k,h,hk=>by cases h;exact hk
 |o::r,env,env',H,H',k,h,hk=>by
  unfold Ao at h
  split at h
  ·rename_i x H1 hg
   split at h
   ·rename_i env1 hp
    have ih:=w8 hc r h hk
    unfold Hp at hg
    unfold iu
    cases hgd:o.guard with
    |none=>
     simp only[hgd] at hg
     exact mZ (k:=fun x H'=>j5 nt o.dst x env fun env'=>iu P G T own nt all r env' H' k) hc hg (vy hp ih)
    |some jw=>
     obtain⟨j,want⟩:=jw
     simp only[hgd] at hg
     obtain⟨dj,h1,hg⟩:=aJ hg
     obtain⟨v,h2,hg⟩:=aJ hg
     rw[fx] at h2
     obtain⟨b,h3,hg⟩:=aJ hg
     refine⟨dj,h1,v,h2,b,h3,fun e=>?_,fun e=>?_⟩
     ·rw[e] at hg;exact mZ (k:=fun x H'=>j5 nt o.dst x env fun env'=>iu P G T own nt all r env' H' k) hc hg (vy hp ih)
     ·rw[e] at hg;cases hg;exact vy hp ih
   ·cases h
  ·cases h
theorem Cm {all:List Oper} {env:Env} {H:List ax}:∀ {l:List Nat},G5 G T own all env H l=true→ed G T own all env H l
 |[],_=>trivial
 |i::r,h=>by
  unfold G5 at h
  rw[Bool.and_eq_true] at h
  obtain⟨h1,h2⟩:=h
  split at h1
  ·rename_i o ho
   exact⟨⟨o,ho,rK h1⟩,Cm h2⟩
  ·cases h1
theorem CV {all:List Oper} {n m:Nat} {ex:List Nat} {env:Env} {H:List ax} {K:Env→List ax→Prop} (hm:Nat.ble all.length m=true) (h:K env H):(eT P G T own all) (n+1) m ex env H K:=fun L hL=>by
 have hall:∀ i o,all[i]? =some o→i∈L:=fun i o ho=>(hL i).2 (jJ.2 (.inl (by
  have h1:=(List.getElem?_eq_some_iff.1 ho).1
  have h2:=Nat.le_of_ble_eq_true hm
  omega)))
 exact .inr ⟨fun i o ho hn=>(hn (hall i o ho)).elim,.inl ⟨hall,h⟩⟩
theorem Dr.up {all:List Oper} {K:Env→List ax→Prop}:∀ (n:Nat) {L:List Nat} {env:Env} {H:List ax},Dr P G T own all n L env H K→Dr P G T own all (n+1) L env H K
 |0,_,_,_,h=>h.elim
 |n+1,L,env,H,h=>by
  rcases h with⟨i,o,v,h1,h2,h3,h4,h5,h6⟩|⟨h1,h2⟩
  ·exact .inl ⟨i,o,v,h1,h2,h3,h4,h5,Dr.up n h6⟩
  ·refine .inr ⟨h1,?_⟩
   rcases h2 with h2|⟨h2,h3⟩
   ·exact .inl h2
   ·exact .inr ⟨h2,fun j o a1 a2 a3=>jc (fun x H' hx=>⟨hx.1,Dr.up n hx.2⟩) (h3 j o a1 a2 a3)⟩
theorem eT.le {all:List Oper} {m:Nat} {ex:List Nat} {env:Env} {H:List ax} {K:Env→List ax→Prop} {n n':Nat} (hn:n≤n') (h:eT P G T own all n m ex env H K):eT P G T own all n' m ex env H K:=by
 induction hn with
 |refl=>exact h
 |step _ ih=>exact fun L hL=>Dr.up _ (ih L hL)
theorem eT.GS {all:List Oper} {m:Nat} {ex:List Nat} {env:Env} {H:List ax} {K K':Env→List ax→Prop} {n:Nat} (hk:∀ e h,K e h→K' e h) (h:eT P G T own all n m ex env H K):eT P G T own all n m ex env H K':=by
 have key:∀ (n:Nat) {L:List Nat} {env:Env} {H:List ax},Dr P G T own all n L env H K→Dr P G T own all n L env H K':=by
  intro n
  induction n with
  |zero=>intro L env H h;exact h.elim
  |succ n ih=>
   intro L env H h
   rcases h with⟨i,o,v,h1,h2,h3,h4,h5,h6⟩|⟨h1,h2⟩
   ·exact .inl ⟨i,o,v,h1,h2,h3,h4,h5,ih h6⟩
   ·refine .inr ⟨h1,?_⟩
    rcases h2 with⟨h2,h3⟩|⟨h2,h3⟩
    ·exact .inl ⟨h2,hk _ _ h3⟩
    ·exact .inr ⟨h2,fun j o a1 a2 a3=>jc (fun x H' hx=>⟨hx.1,ih hx.2⟩) (h3 j o a1 a2 a3)⟩
 exact fun L hL=>key n (h L hL)
theorem DM {all:List Oper} {i:Nat} {o:Oper} (ho:all[i]? =some o) {d:Nat} (hd:o.dst=some d):d∈dstsOf all:=
 List.mem_filterMap.2 ⟨o,List.mem_of_getElem? ho,hd⟩
theorem lX {all:List Oper} {i:Nat} {o:Oper} (ho:all[i]? =some o) {x:SV} {env:Env} {t:Nat} (ht:t∉dstsOf all):look (cF o.dst x env) t=look env t:=by
 cases hd:o.dst with
 |none=>rfl
 |some d=>
  show(if t=d then some x else look env t)=look env t
  rw[if_neg (fun e=>ht (by rw[e];exact DM ho hd))]
theorem pu {e1 e2:Env}:∀ {l:List Nat},sg e1 e2 l=true→∀ t∈l,look e1 t=look e2 t
 |t::r,h,s,hs=>by
  simp only[sg,Bool.and_eq_true] at h
  rcases List.mem_cons.1 hs with rfl|hs
  ·have:=rK h.1
   rwa[fx,fx] at this
  ·exact pu h.2 s hs
theorem common {P:Nat→Nat→Prop} (hP:∀ j n n',n≤n'→P n j→P n' j):∀ (l:List Nat),(∀ j∈l,∃ N,P N j)→∃ N,∀ j∈l,P N j
 |[],_=>⟨0,fun _ h=>by cases h⟩
 |j::r,h=>by
  obtain⟨N1,h1⟩:=h j (List.mem_cons_self ..)
  obtain⟨N2,h2⟩:=common hP r (fun j hj=>h j (List.mem_cons_of_mem _ hj))
  refine⟨max N1 N2,fun j' hj'=>?_⟩
  rcases List.mem_cons.1 hj' with rfl|hj'
  ·exact hP _ _ _ (Nat.le_max_left ..) h1
  ·exact hP _ _ _ (Nat.le_max_right ..) (h2 j' hj')
end
def Nh (G:Gl) (env:Env):Operand→Option SV
 | .tmp t=>mi env t
 |x=>ev G env x
theorem C2 {G:Gl} {env:Env} (x:Operand):Nh G env x=ev G env x:=by
 cases x with
 |tmp t=>exact fx env t
 |_=>rfl
def Ii:List Nat→Env→Env
 |_,[]=>[]
 |seen,(t,x)::r=>bif eQ t seen then Ii seen r else (t,x)::Ii (t::seen) r
theorem qC:∀ (env:Env) (seen:List Nat) (t:Nat) (x:SV),look (Ii seen env) t=some x→t∉seen∧look env t=some x
 |[],seen,t,x,h=>by cases h
 |(s,y)::r,seen,t,x,h=>by
  unfold Ii at h
  cases hm:eQ s seen with
  |true=>
   rw[hm,cond_true] at h
   obtain⟨h1,h2⟩:=qC r seen t x h
   refine⟨h1,?_⟩
   unfold look
   rw[if_neg (fun e=>h1 (by rw[e];exact c8.1 hm))]
   exact h2
  |false=>
   rw[hm,cond_false] at h
   unfold look at h ⊢
   by_cases e:t=s
   ·rw[if_pos e] at h ⊢
    refine⟨fun hi=>?_,h⟩
    rw[e] at hi
    rw[c8.2 hi] at hm
    cases hm
   ·rw[if_neg e] at h ⊢
    obtain⟨h1,h2⟩:=qC r (s::seen) t x h
    exact⟨fun hi=>h1 (List.mem_cons_of_mem _ hi),h2⟩
section
variable (call:RC) (G:Gl) (T:aT) (own:List Nat) (nt:Nat)
end
section
variable {P:Program} {G:Gl} {T:aT} {own:List Nat} {nt:Nat} {C:Cx} {call:RC} {ρ:Option Nat}
end
def gO (f:SV→Option SV):List SV→Option (List SV)
 |[]=>some []
 |x::r=>match f x with
  |some y=>(match gO f r with
   |some ys=>some (y::ys)
   |none=>none)
  |none=>none
def vf (H:List ax) (n:Nat):Nat→SV→Option SV
 |0,_=>none
 |d+1,x=>bif x.under n then some x else match x with
  | .agg fs=>(match gO (vf H n d) fs with
   |some ys=>some (.agg ys)
   |none=>none)
  | .tuple fs=>(match gO (vf H n d) fs with
   |some ys=>some (.tuple ys)
   |none=>none)
  | .list sz fs=>(match gO (vf H n d) fs with
   |some ys=>some (.list sz ys)
   |none=>none)
  | .sl id g off len=>bif Nat.ble n id then (match H[id]? with
   |some (.cells g' sz vals)=>bif Nat.beq g g' then (match gO (vf H n d) ((vals.drop off).take len) with
    |some ys=>some (.list sz ys)
    |none=>none) else none
   |_=>none) else none
  |_=>none
theorem kV {H:List ax} {n:Nat} {f:SV→Option SV} (hf:∀ x y,f x=some y→bE H n [] x y):∀ {xs ys:List SV},gO f xs=some ys→cQ H n [] xs ys
 |[],ys,h=>by cases h;exact .nil
 |x::r,ys,h=>by
  unfold gO at h
  split at h
  ·rename_i y hy
   split at h
   ·rename_i zs hzs
    cases h
    exact .cons _ _ _ _ (hf _ _ hy) (kV hf hzs)
   ·cases h
  ·cases h
theorem lQ {H:List ax} {n:Nat}:∀ (d:Nat) (x y:SV),vf H n d x=some y→bE H n [] x y
 |0,x,y,h=>by cases h
 |d+1,x,y,h=>by
  unfold vf at h
  cases hu:x.under n with
  |true=>rw[hu,cond_true] at h;cases h;exact .same _ hu
  |false=>
   rw[hu,cond_false] at h
   cases x with
   |agg fs=>
    simp only at h
    split at h
    ·rename_i ys hy;cases h;exact .agg _ _ (kV (lQ d) hy)
    ·cases h
   |tuple fs=>
    simp only at h
    split at h
    ·rename_i ys hy;cases h;exact .tuple _ _ (kV (lQ d) hy)
    ·cases h
   |list sz fs=>
    simp only at h
    split at h
    ·rename_i ys hy;cases h;exact .list _ _ _ (kV (lQ d) hy)
    ·cases h
   |sl id g off len=>
    simp only at h
    cases hb:Nat.ble n id with
    |false=>rw[hb] at h;cases h
    |true=>
     rw[hb,cond_true] at h
     split at h
     ·rename_i g' sz vals hH
      cases hg:Nat.beq g g' with
      |false=>rw[hg] at h;cases h
      |true=>
       rw[hg,cond_true] at h
       have hg:=Nat.eq_of_beq_eq_true hg
       subst hg
       split at h
       ·rename_i ys hy;cases h;exact .sl _ _ _ _ _ _ _ hH (Nat.le_of_ble_eq_true hb) (by simp) (kV (lQ d) hy)
       ·cases h
     ·cases h
   |_=>cases h
def ax.oV (n:Nat):ax→Bool
 | .cells _ _ vals=>bif AH vals 1000 then qQ vals 255 else SV.aB n vals
 |b=>b.under n
theorem ax.n6 {n:Nat} {b:ax} (h:b.oV n=true):b.under n=true:=by
 cases b with
 |cells g sz vals=>
  simp only[ax.oV] at h
  cases h1:AH vals 1000 with
  |true=>rw[h1,cond_true] at h;exact kT h
  |false=>rw[h1,cond_false] at h;exact h
 |_=>exact h
def Im (n0:Nat) (x:SV) (H':List ax):SV×List ax:=bif Nat.ble n0 H'.length&&(H'.take n0).all (·.oV n0) then (match vf H' n0 12 x with
 |some y=>(y,H'.take n0)
 |none=>(x,H')) else (x,H')
theorem Fv {C:Cx} {H':List ax} {x:SV} {n0:Nat} (hC:C.H.length=n0):Fin C H' x (fun r H2=>H2=(Im n0 x H').2∧r=(Im n0 x H').1):=by
 unfold Im
 cases hb:(Nat.ble n0 H'.length&&(H'.take n0).all (·.oV n0)) with
 |false=>exact Fin.same ⟨rfl,rfl⟩
 |true=>
  simp only[cond_true]
  simp only[Bool.and_eq_true] at hb
  obtain⟨h1,h3⟩:=hb
  have hlen:(H'.take n0).length=n0:=by rw[List.length_take];exact Nat.min_eq_left (Nat.le_of_ble_eq_true h1)
  have hcl:closed (H'.take n0):=fun B hB=>by rw[hlen];exact ax.n6 (List.all_eq_true.1 h3 B hB)
  cases hy:vf H' n0 12 x with
  |none=>exact Fin.same ⟨rfl,rfl⟩
  |some y=>
   have hfz:bE (H'.take n0++H'.drop n0) n0 [] x y:=by rw[List.take_append_drop];exact lQ _ _ _ hy
   have key:Fin C (H'.take n0++H'.drop n0) x (fun r H2=>H2=H'.take n0∧r=y):=Fin.bY (fun _ _ h=>h) hlen hC hcl hfz ⟨rfl,rfl⟩
   rwa[List.take_append_drop] at key
section
variable (P:Program) (G:Gl) (T:aT) (ow:FuncId→List Nat) (gc:FuncId→Bool) (ov:RC) (fuel:Nat)
end
theorem af.lift {P:Program} {G0 G:Gl} {f:FuncId} {b:Bool} (C0:Cx) (hb:G0.base=some C0) (hb2:G.base=some C0) (h0:C0.H=[]) (hG:au G0) (hs:∀ p∈G0.l,p∈G.l) (h:af P G0 f [] [] (fun r _=>r= .bool b)) (H:List ax):af P G f [] H (fun r H'=>H'=H∧r= .bool b):=by
 refine⟨h.1,fun c vs hH hc hg hv=>?_⟩
 subst hH
 have h00:=Cx.cut (θ:=c.θ) (H:=[]) (X:=c.H) (w:=c.w) hc (fun B hB=>by cases hB)
 have hg0:yz G0 ⟨c.θ,[],c.w⟩:=⟨fun p hp=>(aG.gL (θ:=c.θ) (H:=[]) (X:=c.H) (w:=c.w)).1 _ _ (hg.1 p (hs p hp)) (hG p hp),fun C1 e=>by
  rw[hb] at e
  cases e
  exact h00.2 C0 (by rw[h0];exact Nat.le_refl _) (hg.2 C0 hb2)⟩
 have hv0:aC ⟨c.θ,[],c.w⟩ [] vs:=hv
 refine(h.2 ⟨c.θ,[],c.w⟩ vs rfl h00.1 hg0 hv0).mono ?_
 rintro e w' ⟨v,x,c',e1,e2,e3,e4,e5,e6⟩
 subst e2
 have hold:∀ k,k<c.w.heap.size→c'.w.heap[k]? =c.w.heap[k]? :=fun k hk=>e6.gi k hk (fun⟨id,o,⟨B,hB,_⟩,_⟩=>by cases hB)
 obtain⟨g1,g2⟩:=Cx.world hc (w':=c'.w) hold e6.size e6.os e6.tape e6.output
 exact⟨v,x,{ c with w:=c'.w},e1,rfl,⟨rfl,e3⟩,g2,by rw[e3] at e5 ⊢;exact e5,g1⟩
end
theorem af.D2 {P:Program} {G:Gl} {f:FuncId} (hf:∃ fn,P.funcs[f]? =some fn∧(fn.name== "runtime.NumGoroutine")=false∧fn.body.isNone=false)
 (hc:∀ (b:Nat) (es:Array MapEntry) (clock:Nat) (w:World),w.heap[b]? =some (.map es clock)→Calls P f #[.map (some b)] w fun e w'=>e= .returned (.map (some w.heap.size))∧w'=w.alloc (.map es clock))
 (id:Nat) (H:List ax) (kd:Option IntKind) (es:List (SV×SV)) (hH:H[id]? =some (.map kd es)):af P G f [.map id] H (fun r H'=>H'=H++[.map kd es]∧r= .map H.length):=by
 refine⟨hf,fun c vs e1 hh hG hv=>?_⟩
 subst e1
 obtain⟨v,us,hv1,hv2,rfl⟩:=aC.ba.1 hv
 rw[aC.dk.1 hv2]
 simp only[aG,hH] at hv1
 obtain⟨_,b,hθ,rfl⟩:=hv1
 obtain⟨b',ents,clk,h1,h2,h3,h4,h5⟩:=hh.ee id _ hH
 rw[hθ] at h1;cases h1
 refine(callsIn_wide (n:=0)).2 ?_
 refine(hc b ents clk c.w h2).mono ?_
 rintro e w' ⟨rfl,rfl⟩
 have hnew:(c.w.alloc (.map ents clk)).heap[c.w.heap.size]? =some (.map ents clk):=heap_alloc_new c.w _
 obtain⟨g1,g2⟩:=Cx.fresh hh (w':=c.w.alloc (.map ents clk)) c.w.heap.size (Nat.le_refl _) 0 (some (c.w.heap.size,0)) (.inr rfl) (.map kd es) (fun b hb=>Go.RowKit.Below.heap_alloc _ _ b hb) (by simp) rfl rfl rfl (fun hg=>⟨c.w.heap.size,ents,clk,by simp,hnew,ck.grow hg _ _ h3,h4,h5⟩)
 refine⟨.map (some c.w.heap.size),.map c.H.length,_,rfl,rfl,⟨rfl,rfl⟩,g2,?_,g1⟩
 simp only[aG]
 refine⟨rfl,?_⟩
 simp
theorem af.BK {P:Program} {G:Gl} {f:FuncId} {s:aE} {k:IntKind} {n:Int} (hn:k.min≤n∧n≤k.max) (hf:∃ fn,P.funcs[f]? =some fn∧(fn.name== "runtime.NumGoroutine")=false∧fn.body.isNone=false)
 (hc:∀ c:Cx,yz G c→Calls P f #[.string ⟨⟨s⟩⟩] c.w fun e w'=>∃ v,e= .returned (.tuple #[.int k n,v])∧v.oneCell'=true∧Go.RowKit.Below c.w.heap.size c.w w')
 (H:List ax):af P G f [.str s] H (fun r H'=>H'=H++[.dead]∧r= .tuple [.int k n,.ptr H.length 0 0 0]):=by
 refine⟨hf,fun c vs e1 hh hG hv=>?_⟩
 subst e1
 obtain⟨v,us,hv1,hv2,rfl⟩:=aC.ba.1 hv
 rw[aC.dk.1 hv2]
 simp only[aG] at hv1
 obtain⟨rfl,hs⟩:=hv1
 refine(callsIn_wide (n:=0)).2 ?_
 refine(hc c hG).mono ?_
 rintro e w' ⟨v,rfl,hv,hb⟩
 obtain⟨g1,g2⟩:=Cx.fresh hh (w':=w') w'.heap.size hb.size 0 none (.inl rfl) .dead (fun b h=>hb.block b h) hb.size hb.os hb.tape hb.output (fun _=>trivial)
 refine⟨.tuple #[.int k n,v],.tuple [.int k n,.ptr c.H.length 0 0 0],_,rfl,rfl,⟨rfl,rfl⟩,g2,?_,g1⟩
 simp only[aG]
 refine⟨[.int k n,v],aC.bB ?_ (aC.bB ?_ aC.bX),rfl⟩
 ·simp only[aG];exact⟨trivial,hn⟩
 ·simp only[aG]
  refine⟨hv,?_⟩
  simp
end Go.Proofs.YtehfihnfeakmaaaGreatDoor
section
open Go
namespace Go.Proofs
open Go.Shelf
def Tryz.vk:Go.Shelf.Ren:=⟨fun|172=>81|244=>124|245=>125|247=>148|279=>149|280=>150|281=>151|282=>152|287=>162|316=>163|171=>82|205=>164|321=>170|322=>171|243=>126|246=>153|283=>165|284=>166|285=>167|286=>168|129=>140|317=>172|318=>173|319=>174|320=>175|337=>176|338=>177|n=>n,fun|9=>9|3=>3|75=>116|76=>117|4=>4|5=>5|167=>170|37=>171|0=>0|85=>172|2=>2|168=>174|53=>165|175=>186|46=>135|210=>190|127=>199|145=>202|143=>200|21=>21|171=>192|173=>194|212=>204|51=>163|20=>20|213=>205|232=>206|233=>207|80=>208|n=>n,fun|15=>0|16=>1|17=>2|18=>3|19=>4|n=>n⟩
theorem Tryz.nH:Go.Proofs.LaysC.n172 Tryz.prog Tryz.vk:={
 mixed:=by kernel_rfl
 f129:=Tryz.func140.trans (congrArg some (by kernel_rfl))
 f171:=Tryz.func82.trans (congrArg some (by kernel_rfl))
 f172:=Tryz.func81.trans (congrArg some (by kernel_rfl))
 f205:=Tryz.func164.trans (congrArg some (by kernel_rfl))
 f243:=Tryz.func126.trans (congrArg some (by kernel_rfl))
 f244:=Tryz.func124.trans (congrArg some (by kernel_rfl))
 f245:=Tryz.func125.trans (congrArg some (by kernel_rfl))
 f246:=Tryz.func153.trans (congrArg some (by kernel_rfl))
 f247:=Tryz.func148.trans (congrArg some (by kernel_rfl))
 f279:=Tryz.func149.trans (congrArg some (by kernel_rfl))
 f280:=Tryz.func150.trans (congrArg some (by kernel_rfl))
 f281:=Tryz.func151.trans (congrArg some (by kernel_rfl))
 f282:=Tryz.func152.trans (congrArg some (by kernel_rfl))
 f283:=Tryz.func165.trans (congrArg some (by kernel_rfl))
 f284:=Tryz.func166.trans (congrArg some (by kernel_rfl))
 f285:=Tryz.func167.trans (congrArg some (by kernel_rfl))
 f286:=Tryz.func168.trans (congrArg some (by kernel_rfl))
 f287:=Tryz.func162.trans (congrArg some (by kernel_rfl))
 f316:=Tryz.func163.trans (congrArg some (by kernel_rfl))
 f317:=Tryz.func172.trans (congrArg some (by kernel_rfl))
 f318:=Tryz.func173.trans (congrArg some (by kernel_rfl))
 f319:=Tryz.func174.trans (congrArg some (by kernel_rfl))
 f320:=Tryz.func175.trans (congrArg some (by kernel_rfl))
 f321:=Tryz.func170.trans (congrArg some (by kernel_rfl))
 f322:=Tryz.func171.trans (congrArg some (by kernel_rfl))
 f337:=Tryz.func176.trans (congrArg some (by kernel_rfl))
 f338:=Tryz.func177.trans (congrArg some (by kernel_rfl))
 t0:=Tryz.underlying0
 a0:=Tryz.isAgg0
 z0:=Tryz.sizeOf0
 v0:=Tryz.zeroValue0
 t2:=Tryz.underlying2
 a2:=Tryz.isAgg2
 z2:=Tryz.sizeOf2
 v2:=Tryz.zeroValue2
 t3:=Tryz.underlying3
 a3:=Tryz.isAgg3
 z3:=Tryz.sizeOf3
 v3:=Tryz.zeroValue3
 t4:=Tryz.underlying4
 a4:=Tryz.isAgg4
 z4:=Tryz.sizeOf4
 v4:=Tryz.zeroValue4
 t5:=Tryz.underlying5
 a5:=Tryz.isAgg5
 z5:=Tryz.sizeOf5
 v5:=Tryz.zeroValue5
 t9:=Tryz.underlying9
 a9:=Tryz.isAgg9
 z9:=Tryz.sizeOf9
 v9:=Tryz.zeroValue9
 t20:=Tryz.underlying20
 a20:=Tryz.isAgg20
 z20:=Tryz.sizeOf20
 v20:=Tryz.zeroValue20
 t21:=Tryz.underlying21
 a21:=Tryz.isAgg21
 z21:=Tryz.sizeOf21
 v21:=Tryz.zeroValue21
 t37:=Tryz.underlying171
 a37:=Tryz.isAgg171
 z37:=Tryz.sizeOf171
 v37:=Tryz.zeroValue171
 t46:=Tryz.underlying135
 a46:=Tryz.isAgg135
 z46:=Tryz.sizeOf135
 v46:=Tryz.zeroValue135
 t51:=Tryz.underlying163
 a51:=Tryz.isAgg163
 z51:=Tryz.sizeOf163
 v51:=Tryz.zeroValue163
 t53:=Tryz.underlying165
 a53:=Tryz.isAgg165
 z53:=Tryz.sizeOf165
 v53:=Tryz.zeroValue165
 t75:=Tryz.underlying116
 a75:=Tryz.isAgg116
 z75:=Tryz.sizeOf116
 v75:=Tryz.zeroValue116
 t76:=Tryz.underlying117
 a76:=Tryz.isAgg117
 z76:=Tryz.sizeOf117
 v76:=Tryz.zeroValue117
 t85:=Tryz.underlying172
 a85:=Tryz.isAgg172
 z85:=Tryz.sizeOf172
 v85:=Tryz.zeroValue172
 t127:=Tryz.underlying199
 a127:=Tryz.isAgg199
 z127:=Tryz.sizeOf199
 v127:=Tryz.zeroValue199
 t143:=Tryz.underlying200
 a143:=Tryz.isAgg200
 z143:=Tryz.sizeOf200
 v143:=Tryz.zeroValue200
 t145:=Tryz.underlying202
 a145:=Tryz.isAgg202
 z145:=Tryz.sizeOf202
 v145:=Tryz.zeroValue202
 t167:=Tryz.underlying170
 a167:=Tryz.isAgg170
 z167:=Tryz.sizeOf170
 v167:=Tryz.zeroValue170
 t168:=Tryz.underlying174
 a168:=Tryz.isAgg174
 z168:=Tryz.sizeOf174
 v168:=Tryz.zeroValue174
 t171:=Tryz.underlying192
 a171:=Tryz.isAgg192
 z171:=Tryz.sizeOf192
 v171:=Tryz.zeroValue192
 t173:=Tryz.underlying194
 a173:=Tryz.isAgg194
 z173:=Tryz.sizeOf194
 v173:=Tryz.zeroValue194
 t175:=Tryz.underlying186
 a175:=Tryz.isAgg186
 z175:=Tryz.sizeOf186
 v175:=Tryz.zeroValue186
 t210:=Tryz.underlying190
 a210:=Tryz.isAgg190
 z210:=Tryz.sizeOf190
 v210:=Tryz.zeroValue190
 t212:=Tryz.underlying204
 a212:=Tryz.isAgg204
 z212:=Tryz.sizeOf204
 v212:=Tryz.zeroValue204
 t213:=Tryz.underlying205
 a213:=Tryz.isAgg205
 z213:=Tryz.sizeOf205
 t232:=Tryz.underlying206
 a232:=Tryz.isAgg206
 z232:=Tryz.sizeOf206
 v232:=Tryz.zeroValue206
 t233:=Tryz.underlying207
 a233:=Tryz.isAgg207
 z233:=Tryz.sizeOf207
 v233:=Tryz.zeroValue207
 g15:=by kernel_rfl
 g16:=by kernel_rfl
 g17:=by kernel_rfl
 g18:=by kernel_rfl
 g19:=by kernel_rfl
 t80:=Tryz.underlying208
 a80:=Tryz.isAgg208
 z80:=Tryz.sizeOf208
 v80:=Tryz.zeroValue208
 i0:=by kernel_rfl
 i2:=by kernel_rfl
 i3:=by kernel_rfl
 i4:=by kernel_rfl
 i5:=by kernel_rfl
 i9:=by kernel_rfl
 i20:=by kernel_rfl
 i21:=by kernel_rfl
 i37:=by kernel_rfl
 i46:=by kernel_rfl
 i51:=by kernel_rfl
 i53:=by kernel_rfl
 i75:=by kernel_rfl
 i76:=by kernel_rfl
 i80:=by kernel_rfl
 i85:=by kernel_rfl
 i127:=by kernel_rfl
 i143:=by kernel_rfl
 i145:=by kernel_rfl
 i167:=by kernel_rfl
 i168:=by kernel_rfl
 i171:=by kernel_rfl
 i173:=by kernel_rfl
 i175:=by kernel_rfl
 i210:=by kernel_rfl
 i212:=by kernel_rfl
 i232:=by kernel_rfl
 i233:=by kernel_rfl
 m15:=by kernel_rfl
 m16:=by kernel_rfl
 m17:=by kernel_rfl
 m18:=by kernel_rfl
 m19:=by kernel_rfl
 c0:=by kernel_rfl
 c2:=by kernel_rfl
 c3:=by kernel_rfl
 c4:=by kernel_rfl
 c5:=by kernel_rfl
 c9:=by kernel_rfl
 c20:=by kernel_rfl
 c21:=by kernel_rfl
 c37:=by kernel_rfl
 c46:=by kernel_rfl
 c51:=by kernel_rfl
 c53:=by kernel_rfl
 c75:=by kernel_rfl
 c76:=by kernel_rfl
 c80:=by kernel_rfl
 c85:=by kernel_rfl
 c127:=by kernel_rfl
 c143:=by kernel_rfl
 c145:=by kernel_rfl
 c167:=by kernel_rfl
 c168:=by kernel_rfl
 c171:=by kernel_rfl
 c173:=by kernel_rfl
 c175:=by kernel_rfl
 c210:=by kernel_rfl
 c212:=by kernel_rfl
 c213:=by kernel_rfl
 c232:=by kernel_rfl
 c233:=by kernel_rfl}
open Go.RowKit in
theorem Tryz.strconv_Atoi_err (s:ByteArray) (hl:s.size≤18) (h:Lib.atoi s.data.toList=none) (ev:Value) (w:World) (hv:w.cell? ⟨0,0,none⟩=some ev) (hev:ev= .nilIface∨∃ te pe,ev= .iface te pe):
 Calls Tryz.prog 81 #[.string s] w fun e w'=>∃ N,e= .returned (.tuple #[.int .i64 0,.iface 174 (.pointer (some ⟨N,0,none⟩))])∧w.heap.size≤N∧w'.heap[N]? =some (.cells #[.string ⟨#[65,116,111,105]⟩,.string s,ev] 190 (0,0))∧Below w.heap.size w w':=Any.strconv_Atoi_err Tryz.nH s hl h ev w hv hev
def Tryz.zx:Go.Shelf.Ren:=⟨fun|5=>52|7=>107|n=>n,fun|23=>85|25=>9|n=>n,fun|n=>n⟩
theorem Tryz.HJ:SlLaysW.n5 Tryz.prog Tryz.zx:={
 mixed:=by kernel_rfl
 f5:=⟨ "maps.Clone[map[string]int,string,int]",by decide,by kernel_rfl⟩
 f7:=Tryz.func107
 t4:=Tryz.underlying4
 a4:=Tryz.isAgg4
 z4:=Tryz.sizeOf4
 v4:=Tryz.zeroValue4
 t20:=Tryz.underlying20
 a20:=Tryz.isAgg20
 z20:=Tryz.sizeOf20
 v20:=Tryz.zeroValue20
 t23:=Tryz.underlying85
 a23:=Tryz.isAgg85
 z23:=Tryz.sizeOf85
 v23:=Tryz.zeroValue85}
theorem Tryz.maps_Clone (b:Nat) (es:Array MapEntry) (clock:Nat) (w:World) (hb:w.heap[b]? =some (.map es clock)):
 Calls Tryz.prog 52 #[.map (some b)] w fun e w'=>e= .returned (.map (some w.heap.size))∧w'=w.alloc (.map es clock):=AnyW.maps_Clone Tryz.HJ b es clock w hb
end Go.Proofs
end
namespace Go.Proofs.YtehfihnfeakmaaaGreatDoor
open Go
theorem Bd.Es (b:Bd):b.sv= .agg (.str b.name::b.e.cells):=congrArg SV.agg b.cM
theorem Bb (G:Gl) (hG:au G) (fid:FuncId) (fi ca:List SV) (p:Ex→Bool) (m:Nat) (hm:m<549755813888) (b:Bd) (H:List ax) (ib:Nat) (hb0:b.e.wt≤m) (hib:H[ib]? =some (.cells 0 1 [.fn (.func fid) fi ca])) (hfu:(SV.fn (.func fid) fi ca).under H.length=true) (hy:sP G fid fi ca p H m):
 af Tryz.prog G 47 [b.sv,.ptr ib 0 0 0] H (fun r H'=>H'=H∧r= .bool (!dn p b.e)):=by
 have hlt2:ib<H.length:=(List.getElem?_eq_some_iff.1 hib).1
 have c1:=fun L=>Aa G hG fid fi ca p m hm b.e (H++L) hb0 ((SV.bW (by simp)).1 _ hfu) (hy.app L)
 rw[b.Es]
 refine af.aD TB [] aA _ Tryz.func47 rfl (by decide) Tryz.ntmps47 (by simp) rfl (by simp only[ap,Nat.reduceAdd];rfl) fun C R' hR hC hcl hB=>?_;have X:=aF;have hC':=congrArg List.length hC
 have X:=And.intro X (fun L=>(show(H++L)[ib]? =some (.cells 0 1 [.fn (.func fid) fi ca]) by rw[cA hlt2];exact hib))
 (refine run ?_;with_reducible repeat' first|exact trivial|(apply ad.mk<;>intro hb)|apply av.mk)
 exact aS (n0:=H.length) hR hC' hcl (.same _ rfl) ⟨rfl,rfl⟩
theorem qG (G:Gl) (hG:au G) (fid:FuncId) (fi ca:List SV) (p:Ex→Bool) (cons:List Cn) (binds:List Bd) (hw:aM binds<549755813888) (H:List ax) (pb:Nat) (hpb:H[pb]? =some (.cells 0 2 [.agg [.list 4 (aH cons),.list 9 (ah binds)]])) (hfu:(SV.fn (.func fid) fi ca).under H.length=true) (hy:sP G fid fi ca p H (aM binds)):
 af Tryz.prog G 45 [.fn (.func fid) fi ca,.ptr pb 0 0 0] H (fun r H'=>H'=H∧r= .bool (binds.all fun b=>dn p b.e)):=by
 have hlt2:pb<H.length:=(List.getElem?_eq_some_iff.1 hpb).1
 have hle:=cC binds
 have c1:=v8 G hG (.fn (.func 47) [] [.ptr H.length 0 0 0]) (fun b=>!dn p b.e) binds (H++[.cells 0 1 [.fn (.func fid) fi ca]]) (by omega) (by simp[SV.under,SV.aB])
  (fun b hb=>bz.of (first:=[]) (args:=[b.sv]) (cap:=[.ptr H.length 0 0 0]) (Bb G hG fid fi ca p (aM binds) hw b _ H.length (Nat.le_of_lt (kn hb)) (by simp) ((SV.bW (by simp)).1 _ hfu) (hy.app _)))
 have e1:(!(binds.any fun b=>!dn p b.e))=binds.all fun b=>dn p b.e:=by rw[List.all_eq_not_any_not]
 rw[← e1]
 refine af.aD TB [] aA _ Tryz.func45 rfl (by decide) Tryz.ntmps45 (by simp) rfl (by simp only[ap,Nat.reduceAdd];rfl) fun C R' hR hC hcl hB=>?_;have X:=aF;have hC':=congrArg List.length hC
 have X:=And.intro X (fun L=>(show(H++L)[pb]? =some (.cells 0 2 [.agg [.list 4 (aH cons),.list 9 (ah binds)]]) by rw[cA hlt2];exact hpb))
 (refine run ?_;with_reducible repeat' first|exact trivial|(apply ad.mk<;>intro hb)|apply av.mk)
 exact aS (n0:=H.length) hR hC' hcl (.same _ rfl) ⟨rfl,rfl⟩
theorem CF (G:Gl) (hG:au G) (t:List (aE×Int)) (ht:∀ s,0≤cv t s∧cv t s≤1) (b:Bd) (hw:b.e.wt<549755813888) (H:List ax) (vb tb:Nat) (hvb:H[vb]? =some (.cells 0 1 [.map tb])) (htb:H[tb]? =some (.map none (pD t))):
 af Tryz.prog G 51 [b.sv,.ptr vb 0 0 0] H (fun r H'=>H'=H∧r= .bool (l9 t b)):=by
 have l1:vb<H.length:=(List.getElem?_eq_some_iff.1 hvb).1
 have l2:tb<H.length:=(List.getElem?_eq_some_iff.1 htb).1
 rw[b.Es]
 have c1:af Tryz.prog G 52 [.map tb] (H++[.cells 0 9 [.agg (.str b.name::b.e.cells)],.map none []]) (fun r H'=>H'=H++[.cells 0 9 [.agg (.str b.name::b.e.cells)],.map none [],.map none (pD t)]∧r= .map (H.length+2)):=
  (af.D2 (G:=G) ⟨_,Tryz.func52,by decide,rfl⟩ (fun b es clock w hb=>Tryz.maps_Clone b es clock w hb) tb (H++[.cells 0 9 [.agg (.str b.name::b.e.cells)],.map none []]) none (pD t) (by rw[cA l2];exact htb)).mono (by rintro r H' ⟨rfl,rfl⟩;simp)
 have hcall:=mP G hG b.e.wt b.e (Nat.le_refl _) hw (H++[.cells 0 9 [.agg (.str b.name::b.e.cells)],.map none [],.map none (pD t)]) (H.length+2) (H.length+1) (t,[]) (by simp) (by simp[kF]) (by omega) (fun s=>by have:=ht s;simp only;omega)
 refine af.aD TB [] aA _ Tryz.func51 rfl (by decide) Tryz.ntmps51 (by simp) rfl (by simp only[ap,Nat.reduceAdd];rfl) fun C R' hR hC hcl hB=>?_;have X:=aF;have hC':=congrArg List.length hC
 have X:=And.intro X (fun L=>(show(H++L)[vb]? =some (.cells 0 1 [.map tb]) by rw[cA l1];exact hvb))
 (refine run ?_;with_reducible repeat' first|exact trivial|(apply ad.mk<;>intro hb)|apply av.mk)
 refine du hcall ?_
 rintro r H' rfl
 simp only[UH,cB,List.set_cons_succ,List.set_cons_zero]
 have hul:=l7 b.e.wt b.e (t,[])
 have ebn:l9 t b=decide ((dr b.e.wt b.e (t,[])).2.length=0):=rfl
 generalize hst:dr b.e.wt b.e (t,[])=st at*
 have hul2:st.2.length≤9223372036854775807:=by simp only[List.length_nil] at hul;omega
 have e3:(kF st.2).length=st.2.length:=by simp[kF]
 have X:=And.intro X e3
 (refine run ?_;with_reducible repeat' first|exact trivial|(apply ad.mk<;>intro hb)|apply av.mk)
 refine aS (n0:=H.length) hR hC' hcl (.same _ rfl) ⟨rfl,?_⟩
 rw[ebn]
 exact congrArg SV.bool (decide_eq_decide.2 (by omega))
theorem A1 (G:Gl) (hG:au G) (t:List (aE×Int)) (ht:∀ s,0≤cv t s∧cv t s≤1) (b:Bd) (hw:b.e.wt<549755813888) (H:List ax) (fb vb tb:Nat) (hfb:H[fb]? =some (.cells 0 1 [.fn (.func 51) [] [.ptr vb 0 0 0]])) (hvb:H[vb]? =some (.cells 0 1 [.map tb])) (htb:H[tb]? =some (.map none (pD t))):
 af Tryz.prog G 58 [b.sv,.ptr fb 0 0 0] H (fun r H'=>H'=H∧r= .bool (!l9 t b)):=by
 have l0:fb<H.length:=(List.getElem?_eq_some_iff.1 hfb).1
 have l1:vb<H.length:=(List.getElem?_eq_some_iff.1 hvb).1
 have l2:tb<H.length:=(List.getElem?_eq_some_iff.1 htb).1
 have hb:=CF G hG t ht b hw (H++[.cells 0 9 [.agg (.str b.name::b.e.cells)]]) vb tb (by rw[cA l1];exact hvb) (by rw[cA l2];exact htb)
 rw[b.Es] at*
 have v1:=bz.of (first:=[]) (args:=[.agg (.str b.name::b.e.cells)]) (cap:=[.ptr vb 0 0 0]) hb
 refine af.aD TB [] aA _ Tryz.func58 rfl (by decide) Tryz.ntmps58 (by simp) rfl (by simp only[ap,Nat.reduceAdd];rfl) fun C R' hR hC hcl hB=>?_;have X:=aF;have hC':=congrArg List.length hC
 have X:=And.intro X (fun L=>(show(H++L)[fb]? =some (.cells 0 1 [.fn (.func 51) [] [.ptr vb 0 0 0]]) by rw[cA l0];exact hfb))
 (refine run ?_;with_reducible repeat' first|exact trivial|(apply ad.mk<;>intro hb)|apply av.mk)
 exact aS (n0:=H.length) hR hC' hcl (.same _ rfl) ⟨rfl,rfl⟩
theorem DB (G:Gl) (hG:au G) (H:List ax) (lb mb vb:Nat) (cs:List Cn) (hl:iI H lb mb cs) (hvb:H[vb]? =some (.cells 0 1 [.ptr lb 0 0 0])):
 af Tryz.prog G 53 [.ptr vb 0 0 0] H (fun r H'=>H'=H∧r= .bool (ln cs)):=by
 have l0:vb<H.length:=(List.getElem?_eq_some_iff.1 hvb).1
 have l1:=(List.getElem?_eq_some_iff.1 hl.l).1
 have l2:=(List.getElem?_eq_some_iff.1 hl.m).1
 refine af.aD TB [] aA _ Tryz.func53 rfl (by decide) Tryz.ntmps53 (by simp) rfl (by simp only[ap,Nat.reduceAdd];rfl) fun C R' hR hC hcl hB=>?_;have X:=aF;have hC':=congrArg List.length hC
 have hvx:=fun L=>(show(H++L)[vb]? =some (.cells 0 1 [.ptr lb 0 0 0]) by rw[cA l0];exact hvb)
 (refine run ?_;with_reducible repeat' first|exact trivial|(apply ad.mk<;>intro hb)|apply av.mk)
 refine az (fun i:Nat=>[(0,.ptr vb 0 0 0),(8,.agg [.str [80,114,105,109,46,70,97,108,115,101],.int .i64 0,.int .i64 0,.int .i64 2,.str [80,114,105,109,46,84,114,117,101],.int .i64 0,.int .i64 1,.int .i64 2,.str [80,114,105,109,46,40,41],.int .i64 0,.int .i64 0,.int .i64 1,.str [80,114,105,109,46,66,111,120],.int .i64 1,.int .i64 0,.int .i64 1]),(9,.int .i64 i)]) (fun _=>H++[]) (fun i=>4 - i) (fun i=>i≤4∧(ma.take i).all (fun c=>decide (bQ cs c.name=c))=true) 0 ⟨by omega,rfl⟩ ?_ ?_
 ·simp only[List.append_nil]
  exact Wk.sub (by simp[bg,look])
 rintro K i ⟨hi,ho⟩ hK
 have h5:i=0∨i=1∨i=2∨i=3∨i=4:=by omega
 rcases h5 with rfl|rfl|rfl|rfl|rfl
 ·have hz:=iq cs [80,114,105,109,46,70,97,108,115,101]
  by_cases hq:bQ cs [80,114,105,109,46,70,97,108,115,101]=(⟨[80,114,105,109,46,70,97,108,115,101],0,0,2⟩:Cn)
  ·rw[hq] at hz
   have X:=And.intro X (And.intro hl.X (And.intro hvx hz))
   (refine run ?_;with_reducible repeat' first|exact trivial|(apply ad.mk<;>intro hb)|apply av.mk)
   refine hK _ _ 1 (by omega) ⟨by omega,?_⟩ ?_
   ·simp only[ma,List.take_succ_cons,List.take_zero,List.all_cons,List.all_nil,Bool.and_true,Bool.and_eq_true,decide_eq_true_eq] at ho ⊢
    simp_all
   ·exact aY (n0:=H.length) [] hG hB hC' hcl
  ·have hf:ln cs=false:=by rw[ln,List.all_eq_false];exact⟨(⟨[80,114,105,109,46,70,97,108,115,101],0,0,2⟩:Cn),by simp[ma],by simpa using hq⟩
   rw[hf] at hR
   generalize bQ cs [80,114,105,109,46,70,97,108,115,101]=q at*
   obtain⟨n1,n2,n3,n4⟩:=q
   have X:=And.intro X (And.intro hl.X (And.intro hvx hz))
   (refine run ?_;with_reducible repeat' first|exact trivial|(apply ad.mk<;>intro hb)|apply av.mk)
   ·exact aS (n0:=H.length) hR hC' hcl (.same _ rfl) ⟨rfl,rfl⟩
   ·exfalso;apply hq;simp_all
 ·have hz:=iq cs [80,114,105,109,46,84,114,117,101]
  by_cases hq:bQ cs [80,114,105,109,46,84,114,117,101]=(⟨[80,114,105,109,46,84,114,117,101],0,1,2⟩:Cn)
  ·rw[hq] at hz
   have X:=And.intro X (And.intro hl.X (And.intro hvx hz))
   (refine run ?_;with_reducible repeat' first|exact trivial|(apply ad.mk<;>intro hb)|apply av.mk)
   refine hK _ _ 2 (by omega) ⟨by omega,?_⟩ ?_
   ·simp only[ma,List.take_succ_cons,List.take_zero,List.all_cons,List.all_nil,Bool.and_true,Bool.and_eq_true,decide_eq_true_eq] at ho ⊢
    simp_all
   ·exact aY (n0:=H.length) [] hG hB hC' hcl
  ·have hf:ln cs=false:=by rw[ln,List.all_eq_false];exact⟨(⟨[80,114,105,109,46,84,114,117,101],0,1,2⟩:Cn),by simp[ma],by simpa using hq⟩
   rw[hf] at hR
   generalize bQ cs [80,114,105,109,46,84,114,117,101]=q at*
   obtain⟨n1,n2,n3,n4⟩:=q
   have X:=And.intro X (And.intro hl.X (And.intro hvx hz))
   (refine run ?_;with_reducible repeat' first|exact trivial|(apply ad.mk<;>intro hb)|apply av.mk)
   ·exact aS (n0:=H.length) hR hC' hcl (.same _ rfl) ⟨rfl,rfl⟩
   ·exfalso;apply hq;simp_all
 ·have hz:=iq cs [80,114,105,109,46,40,41]
  by_cases hq:bQ cs [80,114,105,109,46,40,41]=(⟨[80,114,105,109,46,40,41],0,0,1⟩:Cn)
  ·rw[hq] at hz
   have X:=And.intro X (And.intro hl.X (And.intro hvx hz))
   (refine run ?_;with_reducible repeat' first|exact trivial|(apply ad.mk<;>intro hb)|apply av.mk)
   refine hK _ _ 3 (by omega) ⟨by omega,?_⟩ ?_
   ·simp only[ma,List.take_succ_cons,List.take_zero,List.all_cons,List.all_nil,Bool.and_true,Bool.and_eq_true,decide_eq_true_eq] at ho ⊢
    simp_all
   ·exact aY (n0:=H.length) [] hG hB hC' hcl
  ·have hf:ln cs=false:=by rw[ln,List.all_eq_false];exact⟨(⟨[80,114,105,109,46,40,41],0,0,1⟩:Cn),by simp[ma],by simpa using hq⟩
   rw[hf] at hR
   generalize bQ cs [80,114,105,109,46,40,41]=q at*
   obtain⟨n1,n2,n3,n4⟩:=q
   have X:=And.intro X (And.intro hl.X (And.intro hvx hz))
   (refine run ?_;with_reducible repeat' first|exact trivial|(apply ad.mk<;>intro hb)|apply av.mk)
   ·exact aS (n0:=H.length) hR hC' hcl (.same _ rfl) ⟨rfl,rfl⟩
   ·exfalso;apply hq;simp_all
 ·have hz:=iq cs [80,114,105,109,46,66,111,120]
  by_cases hq:bQ cs [80,114,105,109,46,66,111,120]=(⟨[80,114,105,109,46,66,111,120],1,0,1⟩:Cn)
  ·rw[hq] at hz
   have X:=And.intro X (And.intro hl.X (And.intro hvx hz))
   (refine run ?_;with_reducible repeat' first|exact trivial|(apply ad.mk<;>intro hb)|apply av.mk)
   refine hK _ _ 4 (by omega) ⟨by omega,?_⟩ ?_
   ·simp only[ma,List.take_succ_cons,List.take_zero,List.all_cons,List.all_nil,Bool.and_true,Bool.and_eq_true,decide_eq_true_eq] at ho ⊢
    simp_all
   ·exact aY (n0:=H.length) [] hG hB hC' hcl
  ·have hf:ln cs=false:=by rw[ln,List.all_eq_false];exact⟨(⟨[80,114,105,109,46,66,111,120],1,0,1⟩:Cn),by simp[ma],by simpa using hq⟩
   rw[hf] at hR
   generalize bQ cs [80,114,105,109,46,66,111,120]=q at*
   obtain⟨n1,n2,n3,n4⟩:=q
   have X:=And.intro X (And.intro hl.X (And.intro hvx hz))
   (refine run ?_;with_reducible repeat' first|exact trivial|(apply ad.mk<;>intro hb)|apply av.mk)
   ·exact aS (n0:=H.length) hR hC' hcl (.same _ rfl) ⟨rfl,rfl⟩
   ·exfalso;apply hq;simp_all
 ·have ho:ln cs=true:=ho
  rw[ho] at hR
  (refine run ?_;with_reducible repeat' first|exact trivial|(apply ad.mk<;>intro hb)|apply av.mk)
  exact aS (n0:=H.length) hR hC' hcl (.same _ rfl) ⟨rfl,rfl⟩
theorem wV (l:List aE):∀ m,(dc l m).length≤m
 |0=>Nat.le_refl _
 |m+1=>by
  rw[dc]
  have:=wV l m
  split
  ·omega
  ·rw[List.length_append,List.length_singleton];omega
theorem CJ {H:List ax} {id g sz:Nat} {vs0:List SV} (h:H[id]? =some (.cells g sz vs0)):
 ∃ Q:List SV→List ax,Q vs0=H∧(∀ vs,Q vs=H.set id (.cells g sz vs))∧(∀ vs,(Q vs).length=H.length)∧
  ((∀ vs,(Q vs)[id]? =some (.cells g sz vs))∧(∀ vs L,(Q vs++L)[id]? =some (.cells g sz vs))∧(∀ vs ws,(Q vs).set id (.cells g sz ws)=Q ws)∧(∀ vs ws L,(Q vs++L).set id (.cells g sz ws)=Q ws++L))∧(closed H→∀ vs,SV.aB H.length vs=true→closed (Q vs)):=by
 have hl:=(List.getElem?_eq_some_iff.1 h).1
 refine⟨fun vs=>H.set id (.cells g sz vs),eg h,fun vs=>rfl,fun vs=>by simp,⟨fun vs=>List.getElem?_set_self hl,fun vs L=>?_,fun vs ws=>List.set_set ..,fun vs ws L=>?_⟩,fun hc vs hv=>hc.set hv⟩
 ·rw[List.getElem?_append_left (by simpa using hl)];exact List.getElem?_set_self hl
 ·rw[eN (by simpa using hl),List.set_set]
theorem yU (G:Gl) (hG:au G) (l:List aE) (H:List ax) (id g:Nat) (hid:H[id]? =some (.cells g 1 (l.map .str))) (hl:l.length<1099511627776):
 af Tryz.prog G 56 [.sl id g 0 l.length] H (fun r H'=>∃ vs,(H'=H.set id (.cells g 1 vs)∧r= .sl id g 0 (oq l).length)∧vs.length=l.length∧SV.aB H.length vs=true):=by
 obtain⟨Q,q0,qd,hlen,qx,qc⟩:=CJ hid
 have li:=(List.getElem?_eq_some_iff.1 hid).1
 have hlm:(l.map SV.str).length=l.length:=List.length_map ..
 simp only[← qd]
 have hu:∀ xs:List aE,SV.aB H.length (xs.map SV.str)=true:=fun xs=>SV.bC fun _ _=>rfl
 rw[← q0]
 refine af.aD TB [] aA _ Tryz.func56 rfl (by decide) Tryz.ntmps56 (by simp) rfl (by simp only[ap,Nat.reduceAdd];rfl) fun C R' hR hC hcl hB=>?_;have X:=aF;have hC':=congrArg List.length hC
 have hC':=hC'.trans (hlen _)
 rw[hlen] at hR
 have hcls:∀ vs,SV.aB H.length vs=true→closed (Q vs):=fun vs=>qc (q0 ▸ hcl) vs
 generalize H.length=n0 at*
 have X:=And.intro X (And.intro qx hlm)
 (refine run ?_;with_reducible repeat' first|exact trivial|(apply ad.mk<;>intro hb)|apply av.mk)
 ·rename_i hb
  have e:(oq l).length=l.length:=by
   match l,hb with
   |[],_=>rfl
   |[x],_=>rfl
   |x::y::r,h=>simp only[List.length_cons] at h;omega
  exact Fin.out hR ⟨_,⟨rfl,by rw[e];rfl⟩,hlm,hu l⟩
 have hn2:2≤l.length:=by omega
 refine az (fun m:Nat=>[(0,.sl id g 0 l.length),(2,.nil),(3,.int .i64 ((m+1:Nat):Int))]) (fun _=>Q (l.map .str)++[]) (fun m=>l.length - m) (fun m=>m+1≤l.length∧dc l (m+1)=l.take (m+1)) 0 ⟨by omega,?_⟩ ?_ ?_
 ·match l,hn2 with
  |x::r,_=>simp[dc]
 ·rw[List.append_nil]
  exact Wk.sub (by simp[bg,look])
 rintro K m ⟨hm,hd⟩ hK
 rcases Nat.lt_or_ge (m+1) l.length with hlt|hge
 ·have hm0:m<l.length:=by omega
  have e1:(l.map SV.str)[m+1]? =some (.str l[m+1]):=by simp[hlt]
  have e2:(l.map SV.str)[m]? =some (.str l[m]):=by simp[hm0]
  have hmi:((m+1:Nat):Int) - 1=(m:Int):=by omega
  have g1:l.getD (m+1) []=l[m+1]:=by rw[List.getD_eq_getElem?_getD,List.getElem?_eq_getElem hlt];rfl
  have g0:l.getD m []=l[m]:=by rw[List.getD_eq_getElem?_getD,List.getElem?_eq_getElem hm0];rfl
  have hds:dc l (m+2)=if l[m+1]=l[m] then dc l (m+1) else dc l (m+1)++[l[m+1]]:=by
   rw[dc,Nat.add_sub_cancel,g1,g0]
   by_cases h:l[m+1]=l[m]
   ·rw[if_pos ⟨by omega,h⟩,if_pos h]
   ·rw[if_neg (fun q=>h q.2),if_neg h]
  have ht:=List.take_succ_eq_append_getElem hlt
  generalize l[m+1]=x1 at*
  generalize l[m]=x0 at*
  have X:=And.intro X (And.intro e1 (And.intro e2 hmi))
  (refine run ?_;with_reducible repeat' first|exact trivial|(apply ad.mk<;>intro hb)|apply av.mk)
  ·rw[if_pos hb] at hds
   have hJ0:(dc l (m+2)).length=m+1:=by rw[hds,hd,List.length_take];omega
   refine az (fun a:Nat×List aE=>[(0,.sl id g 0 l.length),(3,.int .i64 ((dc l (m+1+(a.1+1))).length:Int)),(4,.sl id g (m+1) (l.length - (m+1))),(5,.int .i64 ((a.1+1:Nat):Int))]) (fun a=>Q (a.2.map .str)++[]) (fun a=>l.length - a.1)
    (fun a=>(m+1+(a.1+1)≤l.length∧a.2.length=l.length)∧(∀ i,m+1+a.1≤i→a.2[i]? =l[i]?)∧(dc l (m+1+(a.1+1))).length≤m+1+a.1) (0,l) ⟨⟨by omega,rfl⟩,fun i _=>rfl,by simp only[Nat.zero_add];rw[show dc l (m+1+1)=dc l (m+2) from rfl,hJ0];omega⟩ ?_ ?_
   ·simp only[Nat.zero_add]
    rw[show dc l (m+1+1)=dc l (m+2) from rfl,hJ0]
    exact aY (n0:=n0) [] hG hB hC' (hcls _ (hu l))
   clear hK X
   rintro K2 ⟨a,xs⟩ ⟨⟨ha1,ha2⟩,ha4,ha5⟩ hK2
   simp only at ha1 ha2 ha4 ha5
   dsimp only
   have ha2':(xs.map SV.str).length=l.length:=by rw[List.length_map,ha2]
   have hJn:=hds
   rcases Nat.lt_or_ge (m+1+(a+1)) l.length with hl2|hl2
   ·have f1:=ha4 (m+1+(a+1)) (by omega)
    have f2:=ha4 (m+1+a) (by omega)
    have hl3:m+1+a<l.length:=by omega
    rw[List.getElem?_eq_getElem hl2] at f1
    rw[List.getElem?_eq_getElem hl3] at f2
    have g1:l.getD (m+1+(a+1)) []=l[m+1+(a+1)]:=by rw[List.getD_eq_getElem?_getD,List.getElem?_eq_getElem hl2];rfl
    have g0:l.getD (m+1+a) []=l[m+1+a]:=by rw[List.getD_eq_getElem?_getD,List.getElem?_eq_getElem hl3];rfl
    have hds:dc l (m+1+(a+1+1))=if l[m+1+(a+1)]=l[m+1+a] then dc l (m+1+(a+1)) else dc l (m+1+(a+1))++[l[m+1+(a+1)]]:=by
     rw[show m+1+(a+1+1)=(m+1+(a+1))+1 from rfl,dc,show m+1+(a+1) - 1=m+1+a by omega,g1,g0]
     by_cases h:l[m+1+(a+1)]=l[m+1+a]
     ·rw[if_pos ⟨by omega,h⟩,if_pos h]
     ·rw[if_neg (fun q=>h q.2),if_neg h]
    clear hJn
    generalize l[m+1+(a+1)]=x1 at*
    generalize l[m+1+a]=x0 at*
    generalize hJ:(dc l (m+1+(a+1))).length=J at*
    have q1:((l.length - (m+1):Nat):Int)=(l.length:Int) - (m+1):=by omega
    have q2:((a+1:Nat):Int) - 1=(a:Int):=by omega
    have hJl:J<xs.length:=by omega
    obtain⟨y,hy⟩:∃ y,xs[J]? =some y:=⟨_,List.getElem?_eq_getElem hJl⟩
    have f1':(xs.map SV.str)[m+(1+(a+1))]? =some (.str x1):=by rw[← Nat.add_assoc,List.getElem?_map,f1];rfl
    have f2':(xs.map SV.str)[m+(1+a)]? =some (.str x0):=by rw[← Nat.add_assoc,List.getElem?_map,f2];rfl
    have hy':(xs.map SV.str)[J]? =some (.str y):=by rw[List.getElem?_map,hy];rfl
    have hset:(xs.map SV.str).set J (.str x1)=(xs.set J x1).map SV.str:=by rw[List.map_set]
    have X:=And.intro aF (And.intro qx (And.intro f1' (And.intro f2' (And.intro q2 (And.intro ha2' (And.intro hy' hset))))))
    (refine run ?_;with_reducible repeat' first|exact trivial|(apply ad.mk<;>intro hb)|apply av.mk)
    ·rw[if_neg hb] at hds
     have hJ2:(dc l (m+1+(a+1+1))).length=J+1:=by rw[hds,List.length_append,hJ];rfl
     refine hK2 _ _ (a+1,xs.set J x1) (by simp only;omega) ⟨⟨by simp only;omega,by simpa using ha2⟩,fun i hi=>?_,by simp only[hJ2];omega⟩ ?_
     ·simp only at hi
      rw[List.getElem?_set_ne (by omega)]
      exact ha4 i (by omega)
     ·simp only[hJ2]
      exact aY (n0:=n0) [] hG hB hC' (hcls _ (hu _))
    ·rw[if_pos (by simpa using hb)] at hds
     have hJ2:(dc l (m+1+(a+1+1))).length=J:=by rw[hds,hJ]
     refine hK2 _ _ (a+1,xs) (by simp only;omega) ⟨⟨by simp only;omega,ha2⟩,fun i hi=>ha4 i (by simp only at hi;omega),by simp only[hJ2];omega⟩ ?_
     simp only[hJ2]
     exact aY (n0:=n0) [] hG hB hC' (hcls _ (hu _))
   ·have hml:m+1+(a+1)=l.length:=by omega
    have he:oq l=dc l (m+1+(a+1)):=by rw[oq,hml]
    have hq:((l.length - (m+1):Nat):Int)=((a+1:Nat):Int):=by omega
    have hJ3:(dc l (m+1+(a+1))).length≤l.length:=by omega
    rw[he] at hR
    generalize (dc l (m+1+(a+1))).length=J at*
    clear hK2
    have X:=And.intro aF (And.intro qx (And.intro ha2' (And.intro hq (Int.lt_irrefl ((a+1:Nat):Int)))))
    (refine run ?_;with_reducible repeat' first|exact trivial|(apply ad.mk<;>intro hb)|apply av.mk)
    have hul:SV.aB n0 (List.take J (xs.map SV.str)++(List.replicate (l.length - J) (SV.str [])++List.drop (J+(l.length - J)) (xs.map SV.str)))=true:=by
     rw[SV.ew,SV.ew,SV.jG rfl,← List.map_take,← List.map_drop,hu,hu];rfl
    exact aS (n0:=n0) hR hC' (hcls _ hul) (.same _ (by simpa [SV.under,bq] using li)) ⟨_,⟨rfl,rfl⟩,by simp only[List.length_append,List.length_take,List.length_replicate,List.length_drop,List.length_map];omega,hul⟩
  ·rw[if_neg hb,hd,← ht] at hds
   exact hK _ _ (m+1) (by omega) ⟨by omega,hds⟩ (aY (n0:=n0) [] hG hB hC' (hcls _ (hu l)))
 ·have hml:m+1=l.length:=by omega
  clear hK
  (refine run ?_;with_reducible repeat' first|exact trivial|(apply ad.mk<;>intro hb)|apply av.mk)
  have e:oq l=l:=by rw[oq,← hml,hd,hml,List.take_length]
  exact aS (n0:=n0) hR hC' (hcls _ (hu l)) (.same _ (by simpa [SV.under,bq] using li)) ⟨_,⟨rfl,by rw[e];rfl⟩,hlm,hu l⟩
end Go.Proofs.YtehfihnfeakmaaaGreatDoor
