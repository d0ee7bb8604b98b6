/- What demand.Run and demand.Orders answer is what the reference answers (DemandRuns, for inputs up to the bulk). Names and spaces are cut short by program. -/
import Derived.Test.YtehfihnfeakmaaaGreatDoorMo
set_option linter.unusedSimpArgs false
set_option linter.unusedVariables false
set_option maxRecDepth 10000
set_option maxHeartbeats 4000000
namespace Go.Proofs.YtehfihnfeakmaaaGreatDoor
open Go
theorem pj (G:Gl) (hG:au G) (p:Pg) (H:List ax) (hw:aM p.binds<4294967295) (hcn:p.cons.length<1099511627776) (hne:¬ bA p=0):
 af Tryz.prog G 9 [p.sv] H (fun r H'=>H'=H∧r= .tuple [.list 3 [],.int .i64 (bA p)]):=by
 have c1:=fun H=>rW G hG p H hw hcn
 generalize bA p=S at*
 obtain⟨cons,binds⟩:=p
 rw[show(Pg.mk cons binds).sv= .agg [.list 4 (aH cons),.list 9 (ah binds)] from rfl] at*
 refine af.aD TB [5,6,10] aA _ Tryz.func9 rfl (by decide) Tryz.ntmps9 (by simp) rfl (by simp only[ap,Nat.reduceAdd];rfl) fun C R' hR hC hcl hB=>?_;have X:=aF;have hC':=congrArg List.length hC
 have X:=And.intro aF hne
 (refine run ?_;with_reducible repeat' first|exact trivial|(apply ad.mk<;>intro hb)|apply av.mk)
 exact Fin.bY (n0:=H.length) hR rfl hC' hcl (.tuple _ _ (.cons _ _ _ _ (.nil _) (.cons _ _ _ _ (.same _ rfl) .nil))) ⟨rfl,rfl⟩
theorem Bw {l:List Bd} (h:(aP l).Nodup) {b:Bd} (hb:b∈l) (hk:b.e.kind=3):b.e.names.Nodup:=by
 have h1:(pC b.e).Sublist (aP l):=by
  clear h
  induction l with
  |nil=>cases hb
  |cons x r ih=>
   show(pC b.e).Sublist ((x.name::pC x.e)++aP r)
   rcases List.mem_cons.1 hb with rfl|hb
   ·exact((List.sublist_cons_self _ _)).trans (List.sublist_append_left _ _)
   ·exact(ih hb).trans (List.sublist_append_right _ _)
 have h2:b.e.names.Sublist (pC b.e):=by
  obtain⟨s,e⟩:=b
  obtain⟨kd,nm,nn,op,names,ae,binds,alts⟩:=e
  obtain rfl:kd=3:=hk
  have hp:=(Ex.mk 3 nm nn op names ae binds alts).b9
  obtain⟨m,hm⟩:∃ m,(Ex.mk 3 nm nn op names ae binds alts).wt=m+1:=⟨(Ex.mk 3 nm nn op names ae binds alts).wt - 1,by omega⟩
  show names.Sublist (dL (Ex.mk 3 nm nn op names ae binds alts).wt _)
  rw[hm]
  show names.Sublist ((if (3:Int)=3 then names else [])++_++_++_++_)
  rw[if_pos rfl]
  simp only[List.append_assoc]
  exact List.sublist_append_left _ _
 exact(h2.trans h1).nodup h
theorem sV (l:List Bd) (x:Ex) (s:aE):ag (l.map Bd.e)++[.agg x.cells]=ag ((l++[Bd.mk s x]).map Bd.e):=by
 rw[List.map_append,bh,bh,List.map_append];rfl
def Lc:TI:=⟨.struct [(0,9),(1,3),(2,48)] false,3,48,.agg [.str [],.int .i64 0,.nil]⟩
theorem KU:aL Tryz.prog 50 Lc:=ao (.agg [.str [],.int .i64 0,.nil]) (ay.refl _) ⟨⟨_,Tryz.underlying50,rfl⟩,fun h=>by cases h⟩ (by kernel_rfl)
def s5:aT:=(50,Lc)::TB
theorem Lp:aT.get s5 2=some ⟨.int .i64,1,8,.int .i64 0⟩∧
 aT.get s5 3=some ⟨.int .i64,1,8,.int .i64 0⟩∧
 aT.get s5 4=some ⟨.bool,1,1,.bool false⟩∧
 aT.get s5 9=some ⟨.str,1,16,.str []⟩∧
 aT.get s5 22=some ⟨.slice 76,1,24,.nil⟩∧
 aT.get s5 23=some ⟨.slice 54,1,24,.nil⟩∧
 aT.get s5 25=some ⟨.struct [(0,22),(1,23)] false,2,48,.agg [.nil,.nil]⟩∧
 aT.get s5 28=some ⟨.slice 50,1,24,.nil⟩∧
 aT.get s5 29=some ⟨.int .i64,1,8,.int .i64 0⟩∧
 aT.get s5 36=some ⟨.slice 9,1,24,.nil⟩∧
 aT.get s5 37=some ⟨.slice 40,1,24,.nil⟩∧
 aT.get s5 38=some ⟨.slice 60,1,24,.nil⟩∧
 aT.get s5 40=some ⟨.struct [(0,3),(1,9),(2,3),(3,3),(4,36),(5,37),(6,23),(7,38)] false,8,136,.agg [.int .i64 0,.str [],.int .i64 0,.int .i64 0,.list 1 [],.list 8 [],.list 9 [],.list 12 []]⟩∧
 aT.get s5 48=some ⟨.slice 3,1,24,.nil⟩∧
 aT.get s5 50=some ⟨.struct [(0,9),(1,3),(2,48)] false,3,48,.agg [.str [],.int .i64 0,.nil]⟩∧
 aT.get s5 54=some ⟨.struct [(0,9),(1,40)] false,9,152,.agg [.str [],.int .i64 0,.str [],.int .i64 0,.int .i64 0,.list 1 [],.list 8 [],.list 9 [],.list 12 []]⟩∧
 aT.get s5 60=some ⟨.struct [(0,3),(1,9),(2,3),(3,36),(4,40)] false,12,192,.agg [.int .i64 0,.str [],.int .i64 0,.list 1 [],.int .i64 0,.str [],.int .i64 0,.int .i64 0,.list 1 [],.list 8 [],.list 9 [],.list 12 []]⟩∧
 aT.get s5 76=some ⟨.struct [(0,9),(1,3),(2,3),(3,3)] true,4,40,.agg [.str [],.int .i64 0,.int .i64 0,.int .i64 0]⟩:=
 ⟨rfl,rfl,rfl,rfl,rfl,rfl,rfl,rfl,rfl,rfl,rfl,rfl,rfl,rfl,rfl,rfl,rfl,rfl⟩
attribute [go_sem] Lp
theorem Ev:aq Tryz.prog s5:=aq.cons KU aA
theorem Ho {H:List ax} {n:Nat} {ks:dD} (l:List Od) (nm:aE) (a:Int):cQ H n ks (aK l++[.agg [.str nm,.int .i64 a,.nil]]) (aK (l++[⟨nm,a,[]⟩])):=by
 rw[← j4]
 exact cQ.app (cQ.same (bO _ _)) (.cons _ _ _ _ (.agg _ _ (.cons _ _ _ _ (.same _ rfl) (.cons _ _ _ _ (.same _ rfl) (.cons _ _ _ _ (.nil _) .nil)))) .nil)
@[simp] theorem HT (lams:List Bd) (n:Nat):List.take lams.length (aK (dh lams n))=aK (dh lams n):=List.take_of_length_le (by rw[eH,ly];exact Nat.le_refl _)
@[simp] theorem Ij (lams:List Bd):List.take lams.length (ag (lams.map Bd.e))=ag (lams.map Bd.e):=List.take_of_length_le (by rw[cR,List.length_map];exact Nat.le_refl _)
@[simp] theorem HH (l:List Int):List.take l.length (cc l)=cc l:=List.take_of_length_le (by rw[rl];exact Nat.le_refl _)
theorem qW:∀ (l:List aE) (v:aE) (i j:Nat),l[j]? =some v→v∉l.take j→idxFrom i l v=((i+j:Nat):Int)
 |[],_,_,_,h,_=>by simp at h
 |x::r,v,i,0,h,_=>by
  have e:x=v:=by simpa using h
  rw[idxFrom,if_pos e.symm];rfl
 |x::r,v,i,j+1,h,hn=>by
  rw[idxFrom,if_neg (fun e=>hn (by simp[e])),qW r v (i+1) j (by simpa using h) (fun hm=>hn (by simp[hm]))]
  congr 1;omega
theorem zy {l:List aE} (h:l.Nodup) {j:Nat} {v:aE} (hj:l[j]? =some v):v∉l.take j:=by
 intro hm
 obtain⟨hlt,he⟩:=List.getElem?_eq_some_iff.1 hj
 have h1:(l.take (j+1)).Nodup:=(List.take_sublist (j+1) l).nodup h
 rw[List.take_succ_eq_append_getElem hlt,List.nodup_append] at h1
 exact h1.2.2 _ hm _ (List.mem_singleton.2 rfl) he.symm
def Bt (names:List aE) (s:aE) (j:Nat):List Int:=if s∈names.take j then [idxFrom 0 names s] else []
theorem FO {names:List aE} (h:names.Nodup) {s:aE} {j:Nat} (hj:names[j]? =some s):Bt names s j=[]∧Bt names s (j+1)=[(j:Int)]:=by
 have h1:=zy h hj
 obtain⟨hlt,he⟩:=List.getElem?_eq_some_iff.1 hj
 refine⟨if_neg h1,?_⟩
 rw[Bt,if_pos (by rw[List.take_succ_eq_append_getElem hlt,he];simp),qW names s 0 j hj h1,Nat.zero_add]
theorem Dy {names:List aE} {s x:aE} {j:Nat} (hj:names[j]? =some x) (hne:¬ x=s):Bt names s (j+1)=Bt names s j:=by
 obtain⟨hlt,he⟩:=List.getElem?_eq_some_iff.1 hj
 unfold Bt
 rw[List.take_succ_eq_append_getElem hlt,he]
 have:s∈names.take j++[x]↔s∈names.take j:=by
  rw[List.mem_append,List.mem_singleton]
  exact⟨fun h=>h.elim id (fun e=>absurd e.symm hne),.inl⟩
 simp only[this]
theorem FN {names:List aE} {s:aE} (h:s∈names):Bt names s names.length=[idxFrom 0 names s]:=by rw[Bt,List.take_length,if_pos h]
theorem FP (names:List aE) (s:aE) (j:Nat):(Bt names s j).length≤1:=by unfold Bt;split<;>simp
theorem rQ (G:Gl) (hG:au G) (p:Pg) (H:List ax) (hw:aM p.binds<67108864) (hcn:p.cons.length<1099511627776) (h0:bA p=0):
 af Tryz.prog G 9 [p.sv] H (fun r H'=>H'=H∧r= .tuple [.list 3 (aK (fo p)),.int .i64 0]):=by
 have c1:=fun H=>rW G hG p H (by omega) hcn
 rw[h0] at c1
 have hbnd:=(ry h0).names
 have hlam:=fun(b:Bd) (hb:b∈p.binds) hk=>xD h0 (b:=b) hb hk
 obtain⟨cons,binds⟩:=p
 have hos:fo ⟨cons,binds⟩=dh (cx binds) 20:=rfl
 rw[hos]
 clear h0 hos
 simp only at hw hcn hbnd hlam
 have hle:=cC binds
 rw[show(Pg.mk cons binds).sv= .agg [.list 4 (aH cons),.list 9 (ah binds)] from rfl] at*
 have bK:=bO
 have gb:=fun n=>bf n cons
 have aA:=Ev
 refine af.aD s5 [5,6,10] Ev _ Tryz.func9 rfl (by decide) Tryz.ntmps9 (by simp) rfl (by simp only[ap,Nat.reduceAdd];rfl) fun C R' hR hC hcl hB=>?_;have X:=aF;have hC':=congrArg List.length hC
 (refine run ?_;with_reducible repeat' first|exact trivial|(apply ad.mk<;>intro hb)|apply av.mk)
 refine az (fun i:Nat=>[(1,.ptr H.length 0 0 0),(5,.sl (H.length+1) 0 0 (cx (binds.take i)).length),(6,.sl (H.length+2) 0 0 (cx (binds.take i)).length),(7,.int .i64 i)]) (fun i=>H++[.cells 0 2 [.agg [.list 4 (aH cons),.list 9 (ah binds)]],.cells 0 3 (aK ((cx (binds.take i)).map fun b=>kH b [])),.cells 0 8 (ag ((cx (binds.take i)).map Bd.e))]) (fun i=>binds.length - i) (fun i=>i≤binds.length) 0 (Nat.zero_le _) ?_ ?_
 ·simp only[List.take_zero,show cx []=[] from rfl,List.map_nil,List.length_nil,show aK []=[] from rfl,show ag []=[] from rfl]
  exact aY (n0:=H.length) [(H.length,0),(H.length+1,0),(H.length+2,0)] hG hB hC' hcl
 rintro K i hi hK
 rcases Nat.lt_or_ge i binds.length with hlt|hge
 ·have ht:=List.take_succ_eq_append_getElem hlt
  have hsn:=ru (binds.take i) binds[i]
  rw[← ht] at hsn
  have hg:(ah binds)[i]? =some (.agg (.str binds[i].name::binds[i].e.cells)):=by rw[aV,List.getElem?_map,List.getElem?_eq_getElem hlt,Option.map_some,Bd.sv,Bd.cM]
  have hodl:(aK ((cx (binds.take i)).map fun b=>kH b [])).length=(cx (binds.take i)).length:=by simp[aK]
  have hexl:(ag ((cx (binds.take i)).map Bd.e)).length=(cx (binds.take i)).length:=by simp[cR]
  have hll:(cx (binds.take i)).length≤binds.length:=Nat.le_trans (List.length_filter_le ..) (by rw[List.length_take];omega)
  have hsne:=fun x s=>sV (cx (binds.take i)) x s
  generalize binds[i]=b at*
  obtain⟨nm,e⟩:=b
  have hsne:=hsne e nm
  obtain⟨kd,n2,nn,op,names,ae,bs,als⟩:=e
  have q3:(Bd.mk nm (.mk kd n2 nn op names ae bs als)).e.kind=kd:=rfl
  rw[q3] at hsn
  have hg:(ah binds)[i]? =some (.agg [.str nm,.int .i64 kd,.str n2,.int .i64 nn,.int .i64 op,.list 1 (names.map .str),.list 8 (ag ae),.list 9 (ah bs),.list 12 (aw als)]):=hg
  have hsne:ag ((cx (binds.take i)).map Bd.e)++[.agg [.int .i64 kd,.str n2,.int .i64 nn,.int .i64 op,.list 1 (names.map .str),.list 8 (ag ae),.list 9 (ah bs),.list 12 (aw als)]]=_:=hsne
  have X:=And.intro aF (And.intro hg (And.intro hodl (And.intro hexl hsne)))
  (refine run ?_;with_reducible repeat' first|exact trivial|(apply ad.mk<;>intro hb)|apply av.mk)
  ·rw[if_pos hb] at hsn
   refine hK _ _ (i+1) (by omega) (by omega) ?_
   rw[hsn]
   simp only[List.map_append,List.length_append,List.length_singleton]
   exact aY (n0:=H.length) [(H.length,0),(H.length+1,0),(H.length+2,0)] hG hB hC' hcl (hk:=by
    apply dx.c
    ·exact dq
    ·omega
    ·first|omega|(simp<;>omega)
    ·apply cQ.same;exact jF
    ·apply dx.c
     ·exact dq
     ·omega
     ·first|omega|(simp<;>omega)
     ·rw[List.drop_zero];exact Ho _ nm names.length
     ·exact zl)
  ·rw[if_neg hb] at hsn
   refine hK _ _ (i+1) (by omega) (by omega) ?_
   rw[hsn]
   exact aY (n0:=H.length) [(H.length,0),(H.length+1,0),(H.length+2,0)] hG hB hC' hcl
 obtain rfl:i=binds.length:=by omega
 clear hK
 rw[List.take_length]
 have hlb:∀ b∈cx binds,b∈binds∧b.e.kind=3:=fun b hb=>by
  have:=List.mem_filter.1 hb
  exact⟨this.1,by simpa using this.2⟩
 have hll:(cx binds).length≤binds.length:=List.length_filter_le ..
 have hbw:∀ b∈cx binds,b.e.wt<4294967295:=fun b hb=>by have:=kn (hlb b hb).1;omega
 have hls:∀ b∈cx binds,b.e.ae.length=1:=fun b hb=>hlam b (hlb b hb).1 (hlb b hb).2
 have hnd:∀ b∈cx binds,b.e.names.Nodup:=fun b hb=>Bw hbnd (hlb b hb).1 (hlb b hb).2
 clear hlam hlb hbnd
 generalize hLL:cx binds=lams at*
 rw[show(lams.map fun b=>kH b [])=dh lams 0 from rfl]
 have X:=And.intro aF (Int.lt_irrefl (binds.length:Int))
 (refine run ?_;with_reducible repeat' first|exact trivial|(apply ad.mk<;>intro hb)|apply av.mk)
 refine az (fun r:Nat=>[(5,.list 3 (aK (dh lams r))),(6,.list 8 (ag (lams.map Bd.e))),(9,.int .i64 r)]) (fun r=>H++[]) (fun r=>20 - r) (fun r=>r≤20) 0 (Nat.zero_le _) ?_ ?_
 ·exact aY (n0:=H.length) [] hG hB hC' hcl
 rintro K r hr hK
 rcases Nat.lt_or_ge r 20 with hlt|hge
 rotate_left
 ·obtain rfl:r=20:=by omega
  clear hK
  have X:=aF
  (refine run ?_;with_reducible repeat' first|exact trivial|(apply ad.mk<;>intro hb)|apply av.mk)
  exact aS (n0:=H.length) hR hC' hcl (.same _ (by simp only[bq,SV.under,SV.aB,bO,Bool.and_self])) ⟨rfl,rfl⟩
 have hol:=ly lams r
 have hon:=oN (fun b hb=>⟨hls b hb,hbw b hb⟩) r
 have hfst:=fun(x:Ex) H (h1:x.wt<4294967296)=>oP G hG (dh lams r) (by omega) (fun o ho=>hon o ho) x.wt x H (Nat.le_refl _) h1
 have hnew:dh lams (r+1)=sZ lams (bc [] (dh lams r)):=rfl
 generalize hk0:bc [] (dh lams r)=kk at*
 have hnl:=rM lams kk
 rw[← hnew] at hnl
 have hng:∀ i (h:i<lams.length),(dh lams (r+1))[i]? =some (kH lams[i] (e9 lams[i].e.names (jX kk (kJ lams[i].e)))):=fun i h=>by rw[hnew];simp[sZ,h]
 have hog:=fun i (h:i<lams.length)=>xW lams r h
 have hfix:=fun h=>rL (lams:=lams) (n:=r) h 20 hr
 generalize hNW:dh lams (r+1)=new at*
 generalize hOD:dh lams r=gi at*
 have X:=aF
 (refine run ?_;with_reducible repeat' first|exact trivial|(apply ad.mk<;>intro hb)|apply av.mk)
 refine az (fun a:Nat×Bool=>[(5,.list 3 (aK gi)),(6,.list 8 (ag (lams.map Bd.e))),(9,.int .i64 (r:Int)),(10,.sl H.length 0 0 a.1),(11,.bool a.2),(12,.int .i64 (a.1:Int))]) (fun a=>H++[.cells 0 3 (aK (new.take a.1))]) (fun a=>lams.length - a.1) (fun a=>a.1≤lams.length∧(a.2=false→new.take a.1=gi.take a.1)) (0,false) ⟨Nat.zero_le _,fun _=>rfl⟩ ?_ ?_
 ·simp only[List.take_zero,show aK []=[] from rfl]
  exact aY (n0:=H.length) [(H.length,0)] hG hB hC' hcl
 rintro K3 ⟨i,c⟩ ⟨hi,hc⟩ hK3
 simp only at hi hc
 dsimp only
 have hntl:(aK (new.take i)).length=i:=by rw[eH,List.length_take];omega
 rcases Nat.lt_or_ge i lams.length with hlti|hgei
 ·obtain⟨nums0,ho⟩:=hog i hlti
  have hn:=hng i hlti
  have hbi:=hls lams[i] (List.getElem_mem hlti)
  have hbwi:=hbw lams[i] (List.getElem_mem hlti)
  have hndi:=hnd lams[i] (List.getElem_mem hlti)
  have hec:(ag (lams.map Bd.e))[i]? =some (.agg lams[i].e.cells):=by rw[bh,List.map_map,List.getElem?_map,List.getElem?_eq_getElem hlti];rfl
  generalize lams[i]=b at*
  obtain⟨nm,e⟩:=b
  obtain⟨x,hx1,hx2,hx3⟩:=uJ hbi
  obtain⟨kd,n2,nn,op,names,ae,bs,als⟩:=e
  have hx1:ae=[x]:=hx1
  subst hx1
  have hndi:names.Nodup:=hndi
  have ho:gi[i]? =some ⟨nm,names.length,nums0⟩:=ho
  have hn:new[i]? =some ⟨nm,names.length,e9 names (jX kk x)⟩:=by rw[hn,hx2];rfl
  have hec:(ag (lams.map Bd.e))[i]? =some (.agg [.int .i64 kd,.str n2,.int .i64 nn,.int .i64 op,.list 1 (names.map .str),.list 8 (ag [x]),.list 9 (ah bs),.list 12 (aw als)]):=hec
  have hwx:x.wt<4294967296:=by have:(Bd.mk nm (Ex.mk kd n2 nn op names [x] bs als)).e.wt<4294967295:=hbwi;omega
  have hnl2:names.length<4294967296:=by have:=Ex.cm kd n2 nn op names [x] bs als;have:(Ex.mk kd n2 nn op names [x] bs als).wt<4294967295:=hbwi;omega
  have hoc:(aK gi)[i]? =some (.agg [.str nm,.int .i64 names.length,.list 1 (cc nums0)]):=by rw[ph,ho];rfl
  have hc2:=fun H=>hfst x H hwx
  have hfl:=fq aU kk x.wt x
  have hfS:aZ aU kk x.wt x=jX kk x:=rfl
  have hx0:(ag [x])[0]? =some (.agg x.cells):=rfl
  rw[hfS] at hfl hc2
  generalize jX kk x=F at*
  have hlI:(i:Int)<(lams.length:Int):=by omega
  have X:=And.intro aF (And.intro hol (And.intro ho (And.intro hec (And.intro hx0 hlI))))
  (refine run ?_;with_reducible repeat' first|exact trivial|(apply ad.mk<;>intro hb)|apply av.mk)
  refine bt (hc2 _) ?_
  rintro r' H' ⟨rfl,rfl⟩
  (refine yd ?_;with_reducible repeat' first|exact trivial|(apply ad.mk<;>intro hb)|apply av.mk)
  have hgo:=rH names F
  have hnl3:=jz names F
  generalize hNN:e9 names F=NN at*
  refine dQ (fun _:Unit=>[(5,.list 3 (aK gi)),(6,.list 8 (ag (lams.map Bd.e))),(9,.int .i64 (r:Int)),(10,.sl H.length 0 0 i),(11,.bool c),(12,.int .i64 (i:Int)),(13,.ptr (H.length+1) 0 0 0)]) (fun _=>H++[.cells 0 3 (aK (new.take i)),.cells 0 3 [.agg [.str nm,.int .i64 names.length,.list 1 (cc NN)]]]) (fun _=>True) (fun K4 hK4=>?_) (fun _ _=>?_)
  ·have X:=aF
   (refine run ?_;with_reducible repeat' first|exact trivial|(apply ad.mk<;>intro hb)|apply av.mk)
   refine az (fun q:Nat=>[(5,.list 3 (aK gi)),(6,.list 8 (ag (lams.map Bd.e))),(9,.int .i64 (r:Int)),(10,.sl H.length 0 0 i),(11,.bool c),(12,.int .i64 (i:Int)),(13,.ptr (H.length+1) 0 0 0),(14,.list 1 (F.map .str)),(15,.int .i64 q)])
    (fun q=>H++[.cells 0 3 (aK (new.take i)),.cells 0 3 [.agg [.str nm,.int .i64 names.length,.sl (H.length+2) 0 0 q]],.cells 0 1 (cc ((F.take q).map (idxFrom 0 names)))]) (fun q=>F.length - q) (fun q=>q≤F.length∧∀ s∈F.take q,s∈names) 0 ⟨Nat.zero_le _,by simp⟩ ?_ ?_
   ·refine Wk.trans (sK (id:=H.length+1) (i:=0) (j:=2) 1 ((bZ ..).trans rfl) rfl rfl) ?_
    simp only[cB,List.set_cons_succ,List.set_cons_zero,List.append_assoc,List.cons_append,List.nil_append,List.length_append,List.length_cons,List.length_nil,Nat.reduceAdd,List.take_zero,List.map_nil,cc]
    exact aY (n0:=H.length) [(H.length,0),(H.length+1,0),(H.length+2,0)] hG hB hC' hcl
   rintro K5 q ⟨hq,hqn⟩ hK5
   have hgq:=hgo q hqn hq
   have hDl:((F.take q).map (idxFrom 0 names)).length=q:=by simp only[List.length_map,List.length_take];omega
   by_cases hltq:q<F.length
   ·have gq:(F.map SV.str)[q]? =some (.str F[q]):=by simp[hltq]
    have c3:=fun H=>ji G names F[q] H (by omega)
    have htq:=List.take_succ_eq_append_getElem hltq
    rw[List.drop_eq_getElem_cons hltq,e9] at hgq
    have hqI:(q:Int)<(F.length:Int):=by omega
    generalize F[q]=s at*
    by_cases hsn:s∈names
    ·rw[decide_eq_true hsn] at c3
     have hal:=FN hsn
     have hDD:(F.take q).map (idxFrom 0 names)++[idxFrom 0 names s]=(F.take (q+1)).map (idxFrom 0 names):=by rw[htq,List.map_append];rfl
     generalize (F.take q).map (idxFrom 0 names)=D at*
     have X:=And.intro aF (And.intro hec (And.intro gq hqI))
     (refine run ?_;with_reducible repeat' first|exact trivial|(apply ad.mk<;>intro hb)|apply av.mk)
     refine az (fun j:Nat=>[(5,.list 3 (aK gi)),(6,.list 8 (ag (lams.map Bd.e))),(9,.int .i64 (r:Int)),(10,.sl H.length 0 0 i),(11,.bool c),(12,.int .i64 (i:Int)),(13,.ptr (H.length+1) 0 0 0),(14,.list 1 (F.map .str)),(15,.int .i64 q),(16,.int .i64 j)])
      (fun j=>H++[.cells 0 3 (aK (new.take i)),.cells 0 3 [.agg [.str nm,.int .i64 names.length,.sl (H.length+2) 0 0 (q+(Bt names s j).length)]],.cells 0 1 (cc (D++Bt names s j))]) (fun j=>names.length - j) (fun j=>j≤names.length) 0 (Nat.zero_le _) ?_ ?_
     ·rw[show Bt names s 0=[] from rfl,List.append_nil,List.length_nil,Nat.add_zero]
      exact aY (n0:=H.length) [(H.length,0),(H.length+1,0),(H.length+2,0)] hG hB hC' hcl
     rintro K6 j hj hK6
     rcases Nat.lt_or_ge j names.length with hltj|hgej
     ·have gj:(names.map SV.str)[j]? =some (.str names[j]):=by simp[hltj]
      have gj2:names[j]? =some names[j]:=List.getElem?_eq_getElem hltj
      have hjI:(j:Int)<(names.length:Int):=by omega
      generalize names[j]=y at*
      by_cases hys:y=s
      ·subst hys
       obtain⟨hi1,hi2⟩:=FO hndi gj2
       have hsnc:=tH D (j:Int)
       have hDl2:(cc D).length=q:=by rw[rl,hDl]
       rw[hi1,List.append_nil,List.length_nil,Nat.add_zero]
       have X:=And.intro aF (And.intro hec (And.intro gj (And.intro hjI (And.intro gq (And.intro hsnc hDl2)))))
       (refine run ?_;with_reducible repeat' first|exact trivial|(apply ad.mk<;>intro hb)|apply av.mk)
       refine hK6 _ _ (j+1) (by omega) (by omega) ?_
       rw[hi2,List.length_singleton]
       exact aY (n0:=H.length) [(H.length,0),(H.length+1,0),(H.length+2,0)] hG hB hC' hcl
      ·have hi1:=Dy gj2 hys
       have X:=And.intro aF (And.intro hec (And.intro gj (And.intro hjI (And.intro gq hys))))
       have hil:=FP names s j
       (refine run ?_;with_reducible repeat' first|exact trivial|(apply ad.mk<;>intro hb)|apply av.mk)
       refine hK6 _ _ (j+1) (by omega) (by omega) ?_
       rw[hi1]
       exact aY (n0:=H.length) [(H.length,0),(H.length+1,0),(H.length+2,0)] hG hB hC' hcl
     obtain rfl:j=names.length:=by omega
     clear hK6
     rw[hal,hDD,List.length_singleton]
     have X:=And.intro aF (And.intro hec (Int.lt_irrefl (names.length:Int)))
     (refine run ?_;with_reducible repeat' first|exact trivial|(apply ad.mk<;>intro hb)|apply av.mk)
     refine hK5 _ _ (q+1) (by omega) ⟨by omega,fun z hz=>?_⟩ ?_
     ·rw[htq] at hz
      rcases List.mem_append.1 hz with hz|hz
      ·exact hqn z hz
      ·rw[List.mem_singleton.1 hz];exact hsn
     ·exact aY (n0:=H.length) [(H.length,0),(H.length+1,0),(H.length+2,0)] hG hB hC' hcl
    ·rw[decide_eq_false hsn] at c3
     rw[if_neg hsn,List.append_nil] at hgq
     have hNq:NN.length=q:=by rw[hgq,hDl]
     rw[← hgq,← hNq]
     rw[← hNq] at gq hqI
     have X:=And.intro aF (And.intro hec (And.intro gq hqI))
     clear hK5
     (refine run ?_;with_reducible repeat' first|exact trivial|(apply ad.mk<;>intro hb)|apply av.mk)
     refine hK4 _ _ () trivial ?_
     exact aY (n0:=H.length) [(H.length,0),(H.length+1,0)] hG hB hC' hcl
   ·rw[show F.drop q=[] from List.drop_eq_nil_of_le (by omega),show e9 names []=[] from rfl,List.append_nil] at hgq
    have hni:¬ (q:Int)<(F.length:Int):=by omega
    have hNq:NN.length=q:=by rw[hgq,hDl]
    rw[← hgq,← hNq]
    rw[← hNq] at hni
    have X:=And.intro aF hni
    clear hK5
    (refine run ?_;with_reducible repeat' first|exact trivial|(apply ad.mk<;>intro hb)|apply av.mk)
    refine hK4 _ _ () trivial ?_
    exact aY (n0:=H.length) [(H.length,0),(H.length+1,0)] hG hB hC' hcl
  have hn0l:nums0.length<4294967296:=hon _ (List.mem_of_getElem? ho)
  have hti:=List.take_succ_eq_append_getElem (l:=new) (i:=i) (by omega)
  have hnE:new[i]'(by omega)=⟨nm,names.length,NN⟩:=(List.getElem?_eq_some_iff.1 hn).2
  have hoE:gi[i]'(by omega)=⟨nm,names.length,nums0⟩:=(List.getElem?_eq_some_iff.1 ho).2
  have htoi:=List.take_succ_eq_append_getElem (l:=gi) (i:=i) (by omega)
  rw[hnE] at hti
  rw[hoE] at htoi
  have X:=aF
  (refine Gh ?_;with_reducible repeat' first|exact trivial|(apply ad.mk<;>intro hb)|apply av.mk)
  refine dQ (fun d:Bool=>[(5,.list 3 (aK gi)),(6,.list 8 (ag (lams.map Bd.e))),(9,.int .i64 (r:Int)),(10,.sl H.length 0 0 i),(11,.bool d),(12,.int .i64 (i:Int)),(13,.ptr (H.length+1) 0 0 0)]) (fun _=>H++[.cells 0 3 (aK (new.take i)),.cells 0 3 [.agg [.str nm,.int .i64 names.length,.list 1 (cc NN)]]]) (fun d=>d=false→c=false∧NN.length=nums0.length) (fun K4 hK4=>?_) (fun d hd=>?_)
  ·have X:=And.intro aF hoc
   cases c
   ·by_cases hle2:NN.length=nums0.length
    ·have hlI2:(NN.length:Int)=(nums0.length:Int):=by omega
     have X:=And.intro X hlI2
     (refine run ?_;with_reducible repeat' first|exact trivial|(apply ad.mk<;>intro hb)|apply av.mk)
     refine hK4 _ _ false (fun _=>⟨rfl,hle2⟩) ?_
     exact aY (n0:=H.length) [(H.length,0),(H.length+1,0)] hG hB hC' hcl
    ·have hlI2:¬ (NN.length:Int)=(nums0.length:Int):=by omega
     have X:=And.intro X hlI2
     (refine run ?_;with_reducible repeat' first|exact trivial|(apply ad.mk<;>intro hb)|apply av.mk)
     refine hK4 _ _ true (fun h=>by cases h) ?_
     exact aY (n0:=H.length) [(H.length,0),(H.length+1,0)] hG hB hC' hcl
   ·(refine run ?_;with_reducible repeat' first|exact trivial|(apply ad.mk<;>intro hb)|apply av.mk)
    refine hK4 _ _ true (fun h=>by cases h) ?_
    exact aY (n0:=H.length) [(H.length,0),(H.length+1,0)] hG hB hC' hcl
  have X:=aF
  (refine run ?_;with_reducible repeat' first|exact trivial|(apply ad.mk<;>intro hb)|apply av.mk)
  refine az (fun a:Nat×Bool=>[(5,.list 3 (aK gi)),(6,.list 8 (ag (lams.map Bd.e))),(9,.int .i64 (r:Int)),(10,.sl H.length 0 0 i),(11,.bool a.2),(12,.int .i64 (i:Int)),(13,.ptr (H.length+1) 0 0 0),(17,.int .i64 (a.1:Int))]) (fun _=>H++[.cells 0 3 (aK (new.take i)),.cells 0 3 [.agg [.str nm,.int .i64 names.length,.list 1 (cc NN)]]]) (fun a=>NN.length - a.1) (fun a=>a.1≤NN.length∧(a.2=false→c=false∧NN.length=nums0.length∧NN.take a.1=nums0.take a.1)) (0,d) ⟨Nat.zero_le _,fun h=>⟨(hd h).1,(hd h).2,rfl⟩⟩ ?_ ?_
  ·exact aY (n0:=H.length) [(H.length,0),(H.length+1,0)] hG hB hC' hcl
  rintro K7 ⟨n,d⟩ ⟨hn1,hd2⟩ hK7
  simp only at hn1 hd2
  dsimp only
  by_cases hlt2:n<NN.length∧n<nums0.length
  ·obtain⟨q1,q2⟩:=hlt2
   have i1:(n:Int)<(NN.length:Int):=by omega
   have i2:(n:Int)<(nums0.length:Int):=by omega
   have g1:(cc NN)[n]? =some (.int .i64 NN[n]):=by simp[cc,q1]
   have g2:(cc nums0)[n]? =some (.int .i64 nums0[n]):=by simp[cc,q2]
   have t1:=List.take_succ_eq_append_getElem q1
   have t2:=List.take_succ_eq_append_getElem q2
   have X:=And.intro aF (And.intro hoc (And.intro i1 (And.intro i2 (And.intro g1 g2))))
   cases d
   ·by_cases hxe:NN[n]=nums0[n]
    ·have X:=And.intro X hxe
     (refine run ?_;with_reducible repeat' first|exact trivial|(apply ad.mk<;>intro hb)|apply av.mk)
     refine hK7 _ _ (n+1,false) (by simp only;omega) ⟨by simp only;omega,fun h=>⟨(hd2 rfl).1,(hd2 rfl).2.1,by simp only;rw[t1,t2,(hd2 rfl).2.2,hxe]⟩⟩ ?_
     exact aY (n0:=H.length) [(H.length,0),(H.length+1,0)] hG hB hC' hcl
    ·have X:=And.intro X hxe
     (refine run ?_;with_reducible repeat' first|exact trivial|(apply ad.mk<;>intro hb)|apply av.mk)
     refine hK7 _ _ (n+1,true) (by simp only;omega) ⟨by simp only;omega,fun h=>by cases h⟩ ?_
     exact aY (n0:=H.length) [(H.length,0),(H.length+1,0)] hG hB hC' hcl
   ·(refine run ?_;with_reducible repeat' first|exact trivial|(apply ad.mk<;>intro hb)|apply av.mk)
    refine hK7 _ _ (n+1,true) (by simp only;omega) ⟨by simp only;omega,fun h=>by cases h⟩ ?_
    exact aY (n0:=H.length) [(H.length,0),(H.length+1,0)] hG hB hC' hcl
  ·have hqf:(decide ((n:Int)<(NN.length:Int))&&decide ((n:Int)<(nums0.length:Int)))=false:=by
    rw[Bool.eq_false_iff]
    intro h
    simp only[Bool.and_eq_true,decide_eq_true_eq] at h
    exact hlt2 ⟨by omega,by omega⟩
   have hsn:=j4 (new.take i) ⟨nm,names.length,NN⟩
   rw[← hti] at hsn
   have hsn:aK (new.take i)++[.agg [.str nm,.int .i64 names.length,.list 1 (cc NN)]]=aK (new.take (i+1)):=hsn
   have X:=And.intro aF (And.intro hoc (And.intro hqf (And.intro hntl hsn)))
   clear hK7
   (refine run ?_;with_reducible repeat' first|exact trivial|(apply ad.mk<;>intro hb)|apply av.mk)
   refine hK3 _ _ (i+1,d) (by simp only;omega) ⟨by simp only;omega,fun hdf=>?_⟩ ?_
   ·simp only at hdf ⊢
    obtain⟨z1,z2,z3⟩:=hd2 hdf
    have hNe:NN=nums0:=by
     have h1:NN.length≤n:=by omega
     rw[List.take_of_length_le h1,List.take_of_length_le (by omega)] at z3
     exact z3
    rw[hti,htoi,hc z1,hNe]
   ·exact aY (n0:=H.length) [(H.length,0)] hG hB hC' hcl
 have hin:i=lams.length:=by omega
 have hnt:new.take i=new:=List.take_of_length_le (by omega)
 have hot:gi.take i=gi:=List.take_of_length_le (by omega)
 rw[hnt]
 have hni:¬ (i:Int)<(lams.length:Int):=by omega
 clear hK3
 cases c
 ·have hno:new=gi:=by have:=hc rfl;rwa[hnt,hot] at this
  have X:=And.intro aF (And.intro hni hol)
  (refine run ?_;with_reducible repeat' first|exact trivial|(apply ad.mk<;>intro hb)|apply av.mk)
  rw[hfix (by rw[hno]),← hno] at hR
  refine Fin.bY (n0:=H.length) hR rfl hC' hcl (.tuple _ _ (.cons _ _ _ _ ?_ (.cons _ _ _ _ (.same _ rfl) .nil))) ⟨rfl,rfl⟩
  exact bE.sf (g:=0) (sz:=3) (vals:=aK new) (by rw[cS];rfl) (Nat.le_refl _) (by simp) (by rw[List.drop_zero,List.take_of_length_le (by rw[eH,hnl,hin];exact Nat.le_refl _)]) (bO _ _)
 ·have X:=And.intro aF (And.intro hni hol)
  (refine run ?_;with_reducible repeat' first|exact trivial|(apply ad.mk<;>intro hb)|apply av.mk)
  refine hK _ _ (r+1) (by omega) (by omega) ?_
  subst hin
  subst hNW
  exact aY (n0:=H.length) [] hG hB hC' hcl
theorem BC {s:aE} {i n:Nat} (h:¬ (s.length<3∨11<s.length∨s.take 2≠[116,35]∨s[2]? =some 48)) (he:Lib.decFrom 0 (s.drop 2)=Lib.decFrom n (s.drop i)) {b:UInt8} (hb:s[i]? =some b) (hd:Lib.digitVal b=none):dM s=0:=by
 obtain⟨hlt,hbe⟩:=List.getElem?_eq_some_iff.1 hb
 unfold dM
 rw[if_neg h,he,List.drop_eq_getElem_cons hlt,hbe,Lib.decFrom,hd];rfl
theorem BD {s:aE} {i n d:Nat} (he:Lib.decFrom 0 (s.drop 2)=Lib.decFrom n (s.drop i)) {b:UInt8} (hb:s[i]? =some b) (hd:Lib.digitVal b=some d):Lib.decFrom 0 (s.drop 2)=Lib.decFrom (n*10+d) (s.drop (i+1)):=by
 obtain⟨hlt,hbe⟩:=List.getElem?_eq_some_iff.1 hb
 rw[he,List.drop_eq_getElem_cons hlt,hbe,Lib.decFrom,hd]
theorem zF (G:Gl) (hG:au G) (s:aE) (hs:s.length<4294967296) (H:List ax):af Tryz.prog G 62 [.str s] H (fun r H'=>H'=H∧r= .int .i64 (dM s:Nat)):=by
 by_cases hc:s.length<3∨11<s.length∨s.take 2≠[116,35]∨s[2]? =some 48
 ·rw[show dM s=0 by unfold dM;rw[if_pos hc]]
  by_cases h1:s.length<3
  ·have i1:(s.length:Int)<3:=by omega
   refine af.aD TB [] aA _ Tryz.func62 rfl (by decide) Tryz.ntmps62 (by simp) rfl (by simp only[ap,Nat.reduceAdd];rfl) fun C R' hR hC hcl hB=>?_;have X:=aF;have hC':=congrArg List.length hC
   have X:=And.intro aF i1
   (refine run ?_;with_reducible repeat' first|exact trivial|(apply ad.mk<;>intro hb)|apply av.mk)
   exact Fin.out hR ⟨rfl,rfl⟩
  have i1:¬ (s.length:Int)<3:=by omega
  by_cases h2:11<s.length
  ·have i2:(11:Int)<(s.length:Int):=by omega
   refine af.aD TB [] aA _ Tryz.func62 rfl (by decide) Tryz.ntmps62 (by simp) rfl (by simp only[ap,Nat.reduceAdd];rfl) fun C R' hR hC hcl hB=>?_;have X:=aF;have hC':=congrArg List.length hC
   have X:=And.intro aF (And.intro i1 i2)
   (refine run ?_;with_reducible repeat' first|exact trivial|(apply ad.mk<;>intro hb)|apply av.mk)
   exact Fin.out hR ⟨rfl,rfl⟩
  have i2:¬ (11:Int)<(s.length:Int):=by omega
  by_cases h3:s.take 2=[116,35]
  ·have h4:s[2]? =some 48:=by
    rcases hc with h|h|h|h
    ·exact absurd h h1
    ·exact absurd h h2
    ·exact absurd h3 h
    ·exact h
   refine af.aD TB [] aA _ Tryz.func62 rfl (by decide) Tryz.ntmps62 (by simp) rfl (by simp only[ap,Nat.reduceAdd];rfl) fun C R' hR hC hcl hB=>?_;have X:=aF;have hC':=congrArg List.length hC
   have X:=And.intro aF (And.intro i1 (And.intro i2 (And.intro h3 h4)))
   (refine run ?_;with_reducible repeat' first|exact trivial|(apply ad.mk<;>intro hb)|apply av.mk)
   exact Fin.out hR ⟨rfl,rfl⟩
  ·refine af.aD TB [] aA _ Tryz.func62 rfl (by decide) Tryz.ntmps62 (by simp) rfl (by simp only[ap,Nat.reduceAdd];rfl) fun C R' hR hC hcl hB=>?_;have X:=aF;have hC':=congrArg List.length hC
   have X:=And.intro aF (And.intro i1 (And.intro i2 h3))
   (refine run ?_;with_reducible repeat' first|exact trivial|(apply ad.mk<;>intro hb)|apply av.mk)
   exact Fin.out hR ⟨rfl,rfl⟩
 have i1:¬ (s.length:Int)<3:=fun h=>hc (.inl (by omega))
 have i2:¬ (11:Int)<(s.length:Int):=fun h=>hc (.inr (.inl (by omega)))
 have h3:s.take 2=[116,35]:=Decidable.byContradiction fun h=>hc (.inr (.inr (.inl h)))
 have h2l:2<s.length:=by omega
 have h2:s[2]? =some s[2]:=List.getElem?_eq_getElem h2l
 have h4:¬ (s[2].toNat:Int)=48:=fun h=>hc (.inr (.inr (.inr (by rw[h2];congr 1;exact UInt8.toNat_inj.1 (by rw[show(48:UInt8).toNat=48 from rfl];omega)))))
 refine af.aD TB [] aA _ Tryz.func62 rfl (by decide) Tryz.ntmps62 (by simp) rfl (by simp only[ap,Nat.reduceAdd];rfl) fun C R' hR hC hcl hB=>?_;have X:=aF;have hC':=congrArg List.length hC
 have X:=And.intro aF (And.intro i1 (And.intro i2 (And.intro h3 (And.intro h2 h4))))
 (refine run ?_;with_reducible repeat' first|exact trivial|(apply ad.mk<;>intro hb)|apply av.mk)
 have hpw:∀ i,2≤i→10 ^ (i+1 - 2)=10*10 ^ (i - 2):=fun i hi=>by rw[show i+1 - 2=(i - 2)+1 by omega,Nat.pow_succ];omega
 have hpm:∀ i,i≤11→10 ^ (i - 2)≤1000000000:=fun i hi=>Nat.le_trans (Nat.pow_le_pow_right (by omega) (show i - 2≤9 by omega)) (by omega)
 refine az (fun a:Nat×Nat=>[(0,.str s),(3,.int .i64 (a.2:Int)),(4,.int .i64 (a.1:Int))]) (fun _=>H) (fun a=>s.length - a.1) (fun a=>((2≤a.1∧a.1≤s.length)∧a.2<10 ^ (a.1 - 2))∧Lib.decFrom 0 (s.drop 2)=Lib.decFrom a.2 (s.drop a.1)) (2,0) ⟨⟨⟨Nat.le_refl _,by simp only;omega⟩,by simp⟩,rfl⟩ (Wk.sub (by simp[bg,look])) ?_
 rintro K ⟨i,n⟩ ⟨⟨⟨hi1,hi2⟩,hn⟩,hdf⟩ hK
 simp only at hi1 hi2 hn hdf
 dsimp only
 have hp1:=hpw i hi1
 have hp2:=hpm i (by omega)
 generalize hPP:10 ^ (i - 2)=pp at*
 rcases Nat.lt_or_ge i s.length with hlt|hge
 ·have hg:s[i]? =some s[i]:=List.getElem?_eq_getElem hlt
  have hb8:s[i].toNat<256:=s[i].toNat_lt
  have hdn:s[i].toNat<48∨57<s[i].toNat→Lib.digitVal s[i]=none:=fun h=>by unfold Lib.digitVal;rw[if_neg (by omega)]
  have hds:¬ (s[i].toNat<48∨57<s[i].toNat)→Lib.digitVal s[i]=some (s[i].toNat - 48):=fun h=>by unfold Lib.digitVal;rw[if_pos (by omega)]
  have hne:=fun h=>BC hc hdf hg (hdn h)
  have hst:=fun h=>BD hdf hg (hds h)
  clear hdn hds
  generalize s[i]=b at*
  generalize hbn:b.toNat=bn at*
  have X:=And.intro aF (And.intro hg hbn)
  (refine run ?_;with_reducible repeat' first|exact trivial|(apply ad.mk<;>intro hb)|apply av.mk)
  ·rw[hne (by simp only[Bool.or_eq_true,decide_eq_true_eq] at hb;omega)] at hR
   exact Fin.out hR ⟨rfl,rfl⟩
  ·simp only[Bool.or_eq_false_iff,decide_eq_false_iff_not] at hb
   have hst:=hst (by omega)
   have hw8:IntKind.u8.wrap ((bn:Int) - 48)=((bn - 48:Nat):Int):=by rw[show(bn:Int) - 48=((bn - 48:Nat):Int) by omega];exact wrap_u8 (by omega)
   rw[hw8,wrap_i64 ((bn - 48:Nat):Int) (by omega),wrap_i64 _ (by omega),show 10*(n:Int)+((bn - 48:Nat):Int)=((n*10+(bn - 48):Nat):Int) by omega]
   exact hK _ _ (i+1,n*10+(bn - 48)) (by simp only;omega) ⟨⟨⟨by simp only;omega,by simp only;omega⟩,by simp only[hp1];omega⟩,hst⟩ (Wk.sub (by simp[bg,look]))
 ·have hni:¬ (i:Int)<(List.length s:Int):=by omega
  clear hK
  rw[List.drop_eq_nil_of_le hge,Lib.decFrom] at hdf
  have hns:dM s=n:=by unfold dM;rw[if_neg hc,hdf];rfl
  rw[hns] at hR
  have X:=And.intro aF hni
  (refine run ?_;with_reducible repeat' first|exact trivial|(apply ad.mk<;>intro hb)|apply av.mk)
  exact Fin.out hR ⟨rfl,rfl⟩
theorem D9 (G:Gl) (hG:au G) (cons:List Cn) (binds:List Bd) (H:List ax) (hw:aM binds<4294967295) (hns:∀ s∈aP binds,s.length<4294967296):
 af Tryz.prog G 21 [.agg [.list 4 (aH cons),.list 9 (ah binds)]] H (fun r H'=>H'=H∧r= .int .i64 (lx binds:Nat)):=by
 have hln:=dy binds
 have hnx:((lx binds:Nat):Int)=(((aP binds).foldl (fun n s=>max n (dM s)) 0:Nat):Int)+1:=by unfold lx;omega
 rw[hnx]
 clear hnx
 refine af.aD TB [] aA _ Tryz.func21 rfl (by decide) Tryz.ntmps21 (by simp) rfl (by simp only[ap,Nat.reduceAdd];rfl) fun C R' hR hC hcl hB=>?_;have X:=aF;have hC':=congrArg List.length hC
 (refine run ?_;with_reducible repeat' first|exact trivial|(apply ad.mk<;>intro hb)|apply av.mk)
 refine bt (uv G hG cons binds _ (by omega)) ?_
 rintro r H' ⟨rfl,rfl⟩
 have hfl:=fun i=>pN ((aP binds).take i) 0 (by decide)
 generalize aP binds=l at*
 (refine run ?_;with_reducible repeat' first|exact trivial|(apply ad.mk<;>intro hb)|apply av.mk)
 refine az (fun i:Nat=>[(3,.int .i64 (((l.take i).foldl (fun n s=>max n (dM s)) 0:Nat):Int)),(4,.list 1 (l.map .str)),(5,.int .i64 (i:Int))]) (fun _=>H++[]) (fun i=>l.length - i) (fun i=>i≤l.length) 0 (Nat.zero_le _) ?_ ?_
 ·exact aY (n0:=H.length) [] hG hB hC' hcl
 rintro K i hi hK
 have hfi:=hfl i
 rcases Nat.lt_or_ge i l.length with hlt|hge
 ·have g1:(l.map SV.str)[i]? =some (.str l[i]):=by simp[hlt]
  have hst:(l.take (i+1)).foldl (fun n s=>max n (dM s)) 0=max ((l.take i).foldl (fun n s=>max n (dM s)) 0) (dM l[i]):=by rw[List.take_succ_eq_append_getElem hlt,List.foldl_append];rfl
  have hnum:=fun H=>zF G hG l[i] (hns _ (List.getElem_mem hlt)) H
  have hn2:=vt l[i]
  generalize l[i]=s at*
  generalize (l.take i).foldl (fun n s=>max n (dM s)) 0=n at*
  generalize dM s=n2 at*
  have X:=And.intro aF g1
  (refine run ?_;with_reducible repeat' first|exact trivial|(apply ad.mk<;>intro hb)|apply av.mk)
  refine bt (hnum _) ?_
  rintro r H' ⟨rfl,rfl⟩
  have hmm:=lT n n2
  have X:=And.intro aF (And.intro hmm (show IntKind.i64.min≤(n2:Int)∧(n2:Int)≤IntKind.i64.max from⟨by show(-9223372036854775808:Int)≤_;omega,by show _≤(9223372036854775807:Int);omega⟩))
  (refine run ?_;with_reducible repeat' first|exact trivial|(apply ad.mk<;>intro hb)|apply av.mk)
  refine hK _ _ (i+1) (by omega) (by omega) ?_
  rw[hst]
  exact aY (n0:=H.length) [] hG hB hC' hcl
 ·have hni:¬ (i:Int)<(l.length:Int):=by omega
  clear hK
  rw[List.take_of_length_le hge] at hfi ⊢
  have X:=And.intro aF hni
  (refine run ?_;with_reducible repeat' first|exact trivial|(apply ad.mk<;>intro hb)|apply av.mk)
  exact aS (n0:=H.length) hR hC' hcl (.same _ rfl) ⟨rfl,rfl⟩
theorem Ea (G:Gl) (hG:au G) (p:Pg) (H:List ax) (hw:aM p.binds<67108864) (hcn:p.cons.length<1099511627776) (hne:¬ bA p=0):
 af Tryz.prog G 11 [p.sv] H (fun r H'=>H'=H∧r= .tuple [.agg [.list 4 [],.list 9 []],.int .i64 (bA p)]):=by
 have c1:=fun H=>pj G hG p H (by omega) hcn hne
 generalize bA p=S at*
 obtain⟨cons,binds⟩:=p
 rw[show(Pg.mk cons binds).sv= .agg [.list 4 (aH cons),.list 9 (ah binds)] from rfl] at*
 refine af.aD TB [] aA _ Tryz.func11 rfl (by decide) Tryz.ntmps11 (by simp) rfl (by simp only[ap,Nat.reduceAdd];rfl) fun C R' hR hC hcl hB=>?_;have X:=aF;have hC':=congrArg List.length hC
 have X:=And.intro aF hne
 (refine run ?_;with_reducible repeat' first|exact trivial|(apply ad.mk<;>intro hb)|apply av.mk)
 exact Fin.bY (n0:=H.length) hR rfl hC' hcl (.tuple _ _ (.cons _ _ _ _ (.agg _ _ (.cons _ _ _ _ (.nil _) (.cons _ _ _ _ (.nil _) .nil))) (.cons _ _ _ _ (.same _ rfl) .nil))) ⟨rfl,rfl⟩
theorem Ga (G:Gl) (hG:au G) (hB0:eS G 0) (p:Pg) (H:List ax) (hw:aM p.binds<67108864) (hcn:p.cons.length<1073741824) (hns:∀ s∈aP p.binds,s.length<4294967296) (h0:bA p=0):
 af Tryz.prog G 11 [p.sv] H (fun r H'=>H'=H∧r= .tuple [(rZ p).sv,.int .i64 0]):=by
 have c1:=fun H=>rQ G hG p H hw (by omega) h0
 have hlint:=rW G hG (kI p) [] (by have:=vE p hw h0;omega) (by unfold kI;simp only;omega)
 have hks:=zt p
 obtain⟨hol1,hol2⟩:=nM p
 have hblw:=cC p.binds
 have hth:=x8 G hG p.cons (fo p) (by omega) (fun o ho=>by have:=hol2 o ho;omega) hks (aM p.binds)
 have hthw:=l6 cf (fun n h=>fW _ (by omega) (by omega)) (AB p) hks (aM p.binds)
 have hshp:=(ry h0).ER
 have hful:=(ry h0).full
 have hrs:(rZ p).sv=if bA (kI p)=0 then (kI p).sv else p.sv:=by unfold rZ;split<;>rfl
 have hrq:kI p=⟨p.cons,(bJ (kl (bF cf (AB p) (aM p.binds))) p.binds (lx p.binds)).1⟩:=rfl
 have hnl:=vv p.binds
 rw[hrs]
 clear hrs
 unfold G2 at hth
 rw[show bc [] (fo p)=AB p from rfl] at hth
 generalize hkk:AB p=kk at*
 generalize fo p=O at*
 generalize hLQ:bA (kI p)=LQ at*
 clear h0 hLQ hkk hks hol2
 obtain⟨cons,binds⟩:=p
 simp only at*
 have hle:=cC binds
 have c2:=fun H=>D9 G hG cons binds H (by omega) hns
 rw[show(Pg.mk cons binds).sv= .agg [.list 4 (aH cons),.list 9 (ah binds)] from rfl] at*
 have bK:=fun n=>bf n cons
 have gb:=bO
 generalize kI ⟨cons,binds⟩=RQ at*
 subst hrq
 rw[show(Pg.mk cons (bJ (kl (bF cf kk (aM binds))) binds (lx binds)).1).sv= .agg [.list 4 (aH cons),.list 9 (ah (bJ (kl (bF cf kk (aM binds))) binds (lx binds)).1)] from rfl] at*
 generalize hf:kl (bF cf kk (aM binds))=f at*
 have hfx:∀ b n,f b n=(.mk b.name (bF cf kk (aM binds) b.e n).1,(bF cf kk (aM binds) b.e n).2):=fun b n=>by rw[← hf];rfl
 clear hf
 generalize lx binds=nx0 at*
 refine af.aD TB [] aA _ Tryz.func11 rfl (by decide) Tryz.ntmps11 (by simp) rfl (by simp only[ap,Nat.reduceAdd];rfl) fun C R' hR hC hcl hB=>?_;have X:=aF;have hC':=congrArg List.length hC
 (refine run ?_;with_reducible repeat' first|exact trivial|(apply ad.mk<;>intro hb)|apply av.mk)
 refine az (fun a:Nat×List Bd×Nat=>[(1,.ptr H.length 0 0 0),(2,.ptr (H.length+1) 0 0 0),(6,.ptr (H.length+2) 0 0 0),(7,.ptr (H.length+3) 0 0 0),(8,.int .i64 (a.1:Int))])
  (fun a=>H++[.cells 0 2 [.agg [.list 4 (aH cons),.list 9 (ah binds)]],.cells 0 2 [.agg [.nil,.nil]],.cells 0 2 [.agg [.int .i64 (a.2.2:Int),.list 3 (aK O)]],.cells 0 2 [.agg [.list 4 (aH cons),.sl (H.length+4) 0 0 a.1]],.cells 0 9 (ah a.2.1)]) (fun a=>binds.length - a.1)
  (fun a=>(a.1≤binds.length∧a.2.1.length=a.1∧a.2.2+aM (binds.drop a.1)≤nx0+aM binds)∧bJ f binds nx0=(a.2.1++(bJ f (binds.drop a.1) a.2.2).1,(bJ f (binds.drop a.1) a.2.2).2)) (0,[],nx0) ⟨⟨Nat.zero_le _,rfl,Nat.le_refl _⟩,rfl⟩ ?_ ?_
 ·refine Wk.trans (sK (id:=H.length+3) (i:=0) (j:=1) 9 ((bZ ..).trans rfl) rfl rfl) ?_
  simp only[cB,List.set_cons_succ,List.set_cons_zero,List.append_assoc,List.cons_append,List.nil_append,List.length_append,List.length_cons,List.length_nil,Nat.reduceAdd,show ah []=[] from rfl]
  exact aY (n0:=H.length) [(H.length,0),(H.length+1,0),(H.length+2,0),(H.length+3,0),(H.length+4,0)] hG hB hC' hcl
 rintro K ⟨i,D,nx⟩ ⟨⟨hi1,hD,hnw⟩,hmp⟩ hK
 simp only at hi1 hD hnw hmp
 dsimp only
 rcases Nat.lt_or_ge i binds.length with hlt|hge
 ·have hmem:=List.getElem_mem hlt
  have hxw:=df hmem
  have hxg:=binds[i].di
  have hdr:=jL hlt
  have hxs:=hshp _ hmem
  have hxf:=hful _ hmem
  have hcall:=fun L=>hth binds[i].e (H++(.cells 0 2 [.agg [.list 4 (aH cons),.list 9 (ah binds)]]:: .cells 0 2 [.agg [.nil,.nil]]:: .cells 0 2 [.agg [.int .i64 (nx:Int),.list 3 (aK O)]]::L)) (H.length+2) 0 nx (by omega) (by omega) hxs hxf (by omega) (by rw[bZ];rfl)
  obtain⟨hw1,hw2⟩:=hthw binds[i].e nx (by omega) hxs (by omega)
  have hmp2:=fX hlt hmp
  have hgb:(ah binds)[i]? =some (.agg (.str binds[i].name::binds[i].e.cells)):=by rw[aV,List.getElem?_map,List.getElem?_eq_getElem hlt,Option.map_some,Bd.sv,Bd.cM]
  simp only[hfx] at hmp2
  generalize binds[i].wt=wb at*
  generalize binds[i].e=x at*
  generalize binds[i].name=xn at*
  generalize bF cf kk (aM binds) x nx=yy at*
  obtain⟨y,nx2⟩:=yy
  simp only at hw1 hw2 hmp2 hcall
  have hsn:ah D++[.agg (.str xn::(y.cells++[]))]=ah (D++[.mk xn y]):=by rw[List.append_nil];simp only[aV,List.map_append,List.map_cons,List.map_nil];rfl
  have hDl:(ah D).length=i:=by rw[aV,List.length_map,hD]
  have X:=And.intro aF hgb
  (refine run ?_;with_reducible repeat' first|exact trivial|(apply ad.mk<;>intro hb)|apply av.mk)
  refine du (hcall _) ?_
  rintro v H' ⟨rfl,rfl⟩
  rw[cB]
  simp only[List.set_cons_succ,List.set_cons_zero]
  have X:=And.intro aF (And.intro hgb (And.intro hsn hDl))
  (refine run ?_;with_reducible repeat' first|exact trivial|(apply ad.mk<;>intro hb)|apply av.mk)
  refine hK _ _ (i+1,D++[.mk xn y],nx2) (by simp only;omega) ⟨⟨by simp only;omega,by simp only[List.length_append,List.length_cons,List.length_nil];omega,by simp only;omega⟩,hmp2⟩ ?_
  dsimp only
  exact aY (n0:=H.length) [(H.length,0),(H.length+1,0),(H.length+2,0),(H.length+3,0),(H.length+4,0)] hG hB hC' hcl
 clear hK
 have hni:¬ (i:Int)<(binds.length:Int):=by omega
 rw[List.drop_eq_nil_of_le hge] at hmp
 simp only[bJ,List.append_nil] at hmp
 rw[hmp] at hlint hR
 simp only at hlint hR
 have hDl:(ah D).length=i:=by rw[aV,List.length_map,hD]
 have X:=And.intro aF hni
 (refine run ?_;with_reducible repeat' first|exact trivial|(apply ad.mk<;>intro hb)|apply av.mk)
 refine bt (af.FX hG hB0 (args2:=[.agg [.list 4 (aH cons),.list 9 (ah D)]]) (y:= .int .i64 LQ) ?_ (fun c c' v h=>by simpa only[aG] using h) (hlint.mono fun r H' h=>h.2)) ?_
 ·refine .cons _ _ _ _ (.agg _ _ (.cons _ _ _ _ (.same _ (by exact jF)) (.cons _ _ _ _ ?_ .nil))) .nil
  exact bE.sf (g:=0) (sz:=9) (vals:=ah D) (by rw[bZ];rfl) (Nat.zero_le _) (by simp) (by rw[List.drop_zero,List.take_of_length_le (by rw[hDl];exact Nat.le_refl _)]) (cI _ _)
 rintro r H' ⟨rfl,rfl⟩
 by_cases hL:LQ=0
 ·rw[if_pos hL] at hR
  have X:=And.intro aF hL
  (refine run ?_;with_reducible repeat' first|exact trivial|(apply ad.mk<;>intro hb)|apply av.mk)
  refine Fin.bY (n0:=H.length) hR rfl hC' hcl (.tuple _ _ (.cons _ _ _ _ (.agg _ _ (.cons _ _ _ _ (.same _ (by exact jF)) (.cons _ _ _ _ ?_ .nil))) (.cons _ _ _ _ (.same _ rfl) .nil))) ⟨rfl,rfl⟩
  exact bE.sf (g:=0) (sz:=9) (vals:=ah D) (by rw[bZ];rfl) (by omega) (by simp) (by rw[List.drop_zero,List.take_of_length_le (by rw[hDl];exact Nat.le_refl _)]) (cI _ _)
 ·rw[if_neg hL] at hR
  have X:=And.intro aF hL
  (refine run ?_;with_reducible repeat' first|exact trivial|(apply ad.mk<;>intro hb)|apply av.mk)
  exact Fin.bY (n0:=H.length) hR rfl hC' hcl (.same _ (by simp only[bq,SV.under,SV.aB,bf,cI,Bool.and_self])) ⟨rfl,rfl⟩
@[simp] theorem EO (l:List Cn):List.take l.length (aH l)=aH l:=List.take_of_length_le (by rw[eE];exact Nat.le_refl _)
theorem Ej (G:Gl) (hG:au G) (p:Pg) (H:List ax) (hw:aM p.binds<549755813888) (hcn:p.cons.length<1099511627776):af Tryz.prog G 13 [p.sv,p.sv] H (fun r H'=>H'=H∧r= .bool true):=by
 obtain⟨cons,binds⟩:=p
 simp only at hw hcn
 have hle:=cC binds
 rw[show(Pg.mk cons binds).sv= .agg [.list 4 (aH cons),.list 9 (ah binds)] from rfl] at*
 have bK:=fun n=>bf n cons
 refine af.aD TB [] aA _ Tryz.func13 rfl (by decide) Tryz.ntmps13 (by simp) rfl (by simp only[ap,Nat.reduceAdd];rfl) fun C R' hR hC hcl hB=>?_;have X:=aF;have hC':=congrArg List.length hC
 (refine run ?_;with_reducible repeat' first|exact trivial|(apply ad.mk<;>intro hb)|apply av.mk)
 refine az (fun i:Nat=>[(2,.ptr H.length 0 0 0),(3,.ptr (H.length+1) 0 0 0),(5,.int .i64 i)]) (fun i=>H++[.cells 0 2 [.agg [.list 4 (aH cons),.list 9 (ah binds)]],.cells 0 2 [.agg [.list 4 (aH cons),.list 9 (ah binds)]]]) (fun i=>cons.length - i) (fun i=>i≤cons.length) 0 (Nat.zero_le _) ?_ ?_
 ·exact aY (n0:=H.length) [(H.length,0),(H.length+1,0)] hG hB hC' hcl
 rintro K i hi hK
 rcases Nat.lt_or_ge i cons.length with hlt|hge
 ·have hg:(aH cons)[i]? =some (.agg [.str cons[i].name,.int .i64 cons[i].arity,.int .i64 cons[i].tag,.int .i64 cons[i].family]):=fh cons hlt
  generalize cons[i]=c at*
  have X:=And.intro aF hg
  (refine run ?_;with_reducible repeat' first|exact trivial|(apply ad.mk<;>intro hb)|apply av.mk)
  refine hK _ _ (i+1) (by omega) (by omega) ?_
  exact aY (n0:=H.length) [(H.length,0),(H.length+1,0)] hG hB hC' hcl
 clear hK
 obtain rfl:i=cons.length:=by omega
 have X:=And.intro aF (Int.lt_irrefl (cons.length:Int))
 (refine run ?_;with_reducible repeat' first|exact trivial|(apply ad.mk<;>intro hb)|apply av.mk)
 refine az (fun i:Nat=>[(2,.ptr H.length 0 0 0),(3,.ptr (H.length+1) 0 0 0),(6,.int .i64 i)]) (fun i=>H++[.cells 0 2 [.agg [.list 4 (aH cons),.list 9 (ah binds)]],.cells 0 2 [.agg [.list 4 (aH cons),.list 9 (ah binds)]]]) (fun i=>binds.length - i) (fun i=>i≤binds.length) 0 (Nat.zero_le _) ?_ ?_
 ·exact aY (n0:=H.length) [(H.length,0),(H.length+1,0)] hG hB hC' hcl
 rintro K i hi hK
 rcases Nat.lt_or_ge i binds.length with hlt|hge
 ·have hx:=df (List.getElem_mem hlt)
  have hxg:=binds[i].di
  have c1:=fun H=>yc G hG binds[i].e.wt binds[i].e binds[i].e H (Nat.le_refl _) (by omega) (by omega)
  rw[yi _ _ (Nat.le_refl _)] at c1
  have hg:(ah binds)[i]? =some (.agg (.str binds[i].name::binds[i].e.cells)):=by rw[aV,List.getElem?_map,List.getElem?_eq_getElem hlt,Option.map_some,Bd.sv,Bd.cM]
  generalize binds[i].e=x at*
  generalize binds[i].name=s at*
  have X:=And.intro aF hg
  (refine run ?_;with_reducible repeat' first|exact trivial|(apply ad.mk<;>intro hb)|apply av.mk)
  refine hK _ _ (i+1) (by omega) (by omega) ?_
  exact aY (n0:=H.length) [(H.length,0),(H.length+1,0)] hG hB hC' hcl
 clear hK
 obtain rfl:i=binds.length:=by omega
 have X:=And.intro aF (Int.lt_irrefl (binds.length:Int))
 (refine run ?_;with_reducible repeat' first|exact trivial|(apply ad.mk<;>intro hb)|apply av.mk)
 exact aS (n0:=H.length) hR hC' hcl (.same _ rfl) ⟨rfl,rfl⟩
theorem BL (G:Gl) (hG:au G) (l:List Od) (H:List ax) (hl:l.length<1099511627776) (hn:∀ o∈l,o.bN.length<1099511627776):af Tryz.prog G 12 [.list 3 (aK l),.list 3 (aK l)] H (fun r H'=>H'=H∧r= .bool true):=by
 have bK:=bO
 refine af.aD TB [] aA _ Tryz.func12 rfl (by decide) Tryz.ntmps12 (by simp) rfl (by simp only[ap,Nat.reduceAdd];rfl) fun C R' hR hC hcl hB=>?_;have X:=aF;have hC':=congrArg List.length hC
 (refine run ?_;with_reducible repeat' first|exact trivial|(apply ad.mk<;>intro hb)|apply av.mk)
 refine az (fun i:Nat=>[(0,.list 3 (aK l)),(1,.list 3 (aK l)),(5,.int .i64 i)]) (fun i=>H) (fun i=>l.length - i) (fun i=>i≤l.length) 0 (Nat.zero_le _) ?_ ?_
 ·exact Wk.sub (by simp[bg,look])
 rintro K i hi hK
 rcases Nat.lt_or_ge i l.length with hlt|hge
 ·have hoi:l[i]? =some l[i]:=List.getElem?_eq_getElem hlt
  have hol:=hn l[i] (List.getElem_mem hlt)
  generalize l[i]=o at*
  obtain⟨nm,ar,ns⟩:=o
  simp only at hol
  have X:=And.intro aF hoi
  (refine run ?_;with_reducible repeat' first|exact trivial|(apply ad.mk<;>intro hb)|apply av.mk)
  refine az (fun k:Nat=>[(0,.list 3 (aK l)),(1,.list 3 (aK l)),(5,.int .i64 i),(6,.int .i64 k)]) (fun i=>H) (fun k=>ns.length - k) (fun k=>k≤ns.length) 0 (Nat.zero_le _) ?_ ?_
  ·exact Wk.sub (by simp[bg,look])
  rintro K2 k hk hK2
  rcases Nat.lt_or_ge k ns.length with hltk|hgek
  ·have gk:(cc ns)[k]? =some (.int .i64 ns[k]):=by simp[cc,hltk]
   generalize ns[k]=v at*
   have X:=And.intro aF (And.intro hoi gk)
   (refine run ?_;with_reducible repeat' first|exact trivial|(apply ad.mk<;>intro hb)|apply av.mk)
   refine hK2 _ _ (k+1) (by omega) (by omega) ?_
   exact Wk.sub (by simp[bg,look])
  ·have hnk:¬ (k:Int)<(ns.length:Int):=by omega
   clear hK2
   have X:=And.intro aF (And.intro hoi hnk)
   (refine run ?_;with_reducible repeat' first|exact trivial|(apply ad.mk<;>intro hb)|apply av.mk)
   refine hK _ _ (i+1) (by omega) (by omega) ?_
   exact Wk.sub (by simp[bg,look])
 clear hK
 have hni:¬ (i:Int)<(l.length:Int):=by omega
 have X:=And.intro aF hni
 (refine run ?_;with_reducible repeat' first|exact trivial|(apply ad.mk<;>intro hb)|apply av.mk)
 exact Fin.out hR ⟨rfl,rfl⟩
@[simp] theorem EQ (l:List Od):List.take l.length (aK l)=aK l:=List.take_of_length_le (by rw[eH];exact Nat.le_refl _)
@[simp] theorem EL (l:List Bd):List.take l.length (ah l.reverse)=ah l.reverse:=List.take_of_length_le (by rw[aV,List.length_map,List.length_reverse];exact Nat.le_refl _)
theorem Gi (p:Pg) (hw:aM p.binds<67108864) (h0:bA p=0):aM (rZ p).binds≤51*aM p.binds:=by
 unfold rZ
 split
 ·exact vE p hw h0
 ·omega
theorem BW (p:Pg):(rZ p).cons=p.cons:=by unfold rZ;split<;>rfl
theorem sT (G:Gl) (hG:au G) (hB0:eS G 0) (C0:Cx) (hb0:G.base=some C0) (hl0:p6 C0) (haw:∀ H,af Tryz.prog G 7 [] H (fun r H'=>H'=H∧r= .bool true)) (p:Pg) (H:List ax)
 (hpw:aM p.binds<67108864) (hcn:p.cons.length<1073741824) (hns:∀ s∈aP p.binds,s.length<4294967296):
 af Tryz.prog G 3 [p.sv] H (fun r H'=>H'=H∧r= .bool true):=by
 obtain⟨hol1,hol2⟩:=nM p
 have hblw:=cC p.binds
 have hrw:=Gi p hpw
 have hrc:=BW p
 obtain⟨OO,hO⟩:∃ OO,OO=if bA p=0 then fo p else []:=⟨_,rfl⟩
 obtain⟨R,hRR⟩:∃ R,R=if bA p=0 then rZ p else (⟨[],[]⟩:Pg):=⟨_,rfl⟩
 have c2:∀ H,af Tryz.prog G 8 [p.sv] H (fun r H'=>H'=H∧r= .tuple [.list 3 (aK OO),.int .i64 (bA p)]):=fun H=>by
  by_cases h0:bA p=0
  ·rw[hO,if_pos h0,h0];exact oe G hG p H (by omega) (by omega) h0
  ·rw[hO,if_neg h0];exact p7 G hG p H (by omega) (by omega) h0
 have c3:∀ H,af Tryz.prog G 9 [p.sv] H (fun r H'=>H'=H∧r= .tuple [.list 3 (aK OO),.int .i64 (bA p)]):=fun H=>by
  by_cases h0:bA p=0
  ·rw[hO,if_pos h0,h0];exact rQ G hG p H hpw (by omega) h0
  ·rw[hO,if_neg h0];exact pj G hG p H (by omega) (by omega) h0
 have c4:∀ H,af Tryz.prog G 10 [p.sv] H (fun r H'=>H'=H∧r= .tuple [R.sv,.int .i64 (bA p)]):=fun H=>by
  by_cases h0:bA p=0
  ·rw[hRR,if_pos h0,h0];exact G3 G hG hB0 C0 hb0 hl0 p H hpw hcn hns h0
  ·rw[hRR,if_neg h0];exact E0 G hG p H hpw (by omega) h0
 have c5:∀ H,af Tryz.prog G 11 [p.sv] H (fun r H'=>H'=H∧r= .tuple [R.sv,.int .i64 (bA p)]):=fun H=>by
  by_cases h0:bA p=0
  ·rw[hRR,if_pos h0,h0];exact Ga G hG hB0 p H hpw hcn hns h0
  ·rw[hRR,if_neg h0];exact Ea G hG p H hpw (by omega) h0
 have hOl:OO.length<1099511627776∧∀ o∈OO,o.bN.length<1099511627776:=by
  rw[hO]
  split
  ·exact⟨by omega,fun o ho=>by have:=hol2 o ho;omega⟩
  ·exact⟨by simp,fun o ho=>by cases ho⟩
 have hRl:aM R.binds<549755813888∧R.cons.length<1099511627776:=by
  rw[hRR]
  split
  ·rename_i h0
   have:=hrw h0
   exact⟨by omega,by rw[hrc];omega⟩
  ·exact⟨by simp[aM],by simp⟩
 have c6:=fun H=>BL G hG OO H hOl.1 hOl.2
 have c7:=fun H=>Ej G hG R H hRl.1 hRl.2
 have c1:=haw
 clear hO hRR hOl hRl hrw hrc
 generalize bA p=S at*
 obtain⟨cons,binds⟩:=p
 obtain⟨rc,rb⟩:=R
 simp only at*
 rw[show(Pg.mk cons binds).sv= .agg [.list 4 (aH cons),.list 9 (ah binds)] from rfl] at*
 rw[show(Pg.mk rc rb).sv= .agg [.list 4 (aH rc),.list 9 (ah rb)] from rfl] at*
 have bK:=bf
 have gb:=bO
 refine af.aD TB [] aA _ Tryz.func3 rfl (by decide) Tryz.ntmps3 (by simp) rfl (by simp only[ap,Nat.reduceAdd];rfl) fun C R' hR hC hcl hB=>?_;have X:=aF;have hC':=congrArg List.length hC
 (refine run ?_;with_reducible repeat' first|exact trivial|(apply ad.mk<;>intro hb)|apply av.mk)
 refine bt (Ck G hG cons binds _ (by omega) (by omega) hns) ?_
 rintro r H' ⟨rfl,b,rfl⟩
 cases b
 ·(refine run ?_;with_reducible repeat' first|exact trivial|(apply ad.mk<;>intro hb)|apply av.mk)
  exact aS (n0:=H.length) hR hC' hcl (.same _ rfl) ⟨rfl,rfl⟩
 (refine run ?_;with_reducible repeat' first|exact trivial|(apply ad.mk<;>intro hb)|apply av.mk)
 refine bt (c7 _) ?_
 rintro r H' ⟨rfl,rfl⟩
 (refine run ?_;with_reducible repeat' first|exact trivial|(apply ad.mk<;>intro hb)|apply av.mk)
 exact aS (n0:=H.length) hR hC' hcl (.same _ rfl) ⟨rfl,rfl⟩
section
set_option maxRecDepth 100000
theorem AZ (l:Option Cx):Nu (uW Tryz.prog ⟨[],l⟩ TB GV GL KW 5000 40 7 [] [])=true:=by kernel_rfl
def HI (s:aE):Option (SV×List ax)→Bool
 |some (.str t,_)=>SV.same (.str s) (.str t)
 |_=>false
theorem Bq (l:Option Cx):HI (rn 1) (uW Tryz.prog ⟨[],l⟩ TB GV GL (fun _ _ _=>none) 5000 40 82 [.int .i64 1] [])=true:=by kernel_rfl
theorem Bs (l:Option Cx):HI (rn 2) (uW Tryz.prog ⟨[],l⟩ TB GV GL (fun _ _ _=>none) 5000 40 82 [.int .i64 2] [])=true:=by kernel_rfl
end
section
set_option maxRecDepth 100000
theorem yj {l s:List aE} (h1:s.Perm l) (h2:s.Pairwise (fun x y=>decide (x≤y)=true)):dU l=s:=by
 rw[← yk h1,dU]
 exact List.mergeSort_of_pairwise h2
def NB:List aE:=[[77,97,105,110,46,109,97,105,110],[97],[98],[102],[115],[120]]
def NC:List aE:=[[77,97,105,110,46,109,97,105,110],[97],[98],[102],[115],[116,35,49],[116,35,50],[120]]
theorem Lr:cK P0.binds=false:=by
 have h:dU (aP P0.binds)=NB:=yj (by decide+kernel) (by decide+kernel)
 unfold cK
 rw[h]
 decide+kernel
theorem Ls:cK Q0.binds=false:=by
 have h:dU (aP Q0.binds)=NC:=yj (by decide+kernel) (by decide+kernel)
 unfold cK
 rw[h]
 decide+kernel
theorem HN:bA P0=0:=by
 unfold bA
 rw[Lr]
 decide+kernel
theorem HO:bA Q0=0:=by
 unfold bA
 rw[Ls]
 decide+kernel
theorem KV:fo P0=O0:=by kernel_rfl
theorem xI:∀ (f:FuncId) (fn:Func),Tryz.prog.funcs[f]? =some fn→(fn.name== "runtime.NumGoroutine")=false:=by
 intro f fn h
 have hall:(Tryz.prog.funcs.toList.all fun fn=>!(fn.name== "runtime.NumGoroutine"))=true:=by decide+kernel
 have hm:fn∈Tryz.prog.funcs.toList:=by
  rw[← Array.getElem?_toList] at h
  exact List.mem_of_getElem? h
 have:=List.all_eq_true.1 hall fn hm
 simpa using this
theorem FL (G:Gl) (hG:au G) (hB:eS G 0) (hl:G.l=[]) (n:Nat) (hn:n=1∨n=2) (H:List ax):af Tryz.prog G 82 [.int .i64 (n:Int)] H (fun r H'=>H'=H∧r= .str (rn n)):=by
 obtain⟨l,b⟩:=G
 simp only at hl
 subst hl
 have hev:=pM (P:=Tryz.prog) (G:=⟨[],b⟩) (T:=TB) (ow:=GV) (gc:=GL) (ov:=fun _ _ _=>none) (fuel:=5000) hG (fun f xs H x H' h=>by cases h) aA tO xI 40
 have key:∀ m:Int,HI (rn n) (uW Tryz.prog ⟨[],b⟩ TB GV GL (fun _ _ _=>none) 5000 40 82 [.int .i64 m] [])=true→af Tryz.prog ⟨[],b⟩ 82 [.int .i64 m] H (fun r H'=>H'=H∧r= .str (rn n)):=fun m hr=>by
  generalize hE:uW Tryz.prog ⟨[],b⟩ TB GV GL (fun _ _ _=>none) 5000 40 82 [.int .i64 m] []=E at hr
  cases E with
  |none=>cases hr
  |some r=>
   obtain⟨v,H1⟩:=r
   cases v with
   |str t=>
    have he:=SV.dT.1 _ _ (show SV.same (.str (rn n)) (.str t)=true from hr)
    rw[he]
    exact af.FX hG hB (cQ.same rfl) (fun c c' v h=>by simpa only[aG] using h) ((hev _ _ _ _ _ hE).mono fun r H2 h=>h.2)
   |_=>cases hr
 rcases hn with rfl|rfl
 ·exact key 1 (Bq b)
 ·exact key 2 (Bs b)
theorem HU (G:Gl) (hG:au G) (hl:G.l=[]) (C0:Cx) (hb:G.base=some C0) (he:vS C0):uw Tryz.prog G KW:=by
 have hB:eS G 0:=fun C1 h1=>by rw[hb] at h1;cases h1;rw[he.1];exact Nat.le_refl _
 intro f xs H x H' h
 unfold KW at h
 split at h
 ·rename_i s
  cases hf:(Nat.beq f 81&&decide (s.length≤18)&&(Lib.atoi s).isNone) with
  |false=>rw[hf] at h;cases h
  |true=>
   rw[hf,cond_true] at h
   simp only[Bool.and_eq_true,decide_eq_true_eq,Option.isNone_iff_eq_none] at hf
   obtain⟨⟨hf,hl⟩,ha⟩:=hf
   have hf:=Nat.eq_of_beq_eq_true hf
   subst hf
   cases h
   refine af.BK (by decide) ⟨_,Tryz.func81,by decide,rfl⟩ (fun c hg=>?_) H
   obtain⟨ev,h1,h2⟩:=he.ND (hg.2 C0 hb)
   refine(Tryz.strconv_Atoi_err ⟨⟨s⟩⟩ (show s.length≤18 from hl) ha ev c.w h1 h2).mono ?_
   rintro e w' ⟨N,rfl,_,_,hbw⟩
   exact⟨_,rfl,rfl,hbw⟩
 ·rename_i sz xs
  unfold Nl at h
  generalize hc:((Nat.beq f 57&&Nat.beq sz 1)||(Nat.beq f 83&&Nat.beq sz 8)||(Nat.beq f 84&&Nat.beq sz 9)||(Nat.beq f 85&&Nat.beq sz 12)||(Nat.beq f 33&&Nat.beq sz 4))=cl at h
  cases hc2:(cl&&SV.aB 0 xs&&Nat.blt xs.length 1000) with
  |false=>rw[hc2] at h;cases h
  |true=>
   rw[hc2,cond_true] at h
   cases h
   simp only[Bool.and_eq_true] at hc2
   obtain⟨⟨h1,h2⟩,h3⟩:=hc2
   subst h1
   have h3:xs.length<1000:=by simpa [Nat.blt_eq] using h3
   have hu:∀ n,SV.aB n xs=true:=fun n=>(SV.bW (Nat.zero_le n)).2 _ h2
   simp only[Bool.or_eq_true,Bool.and_eq_true] at hc
   rcases hc with (((hc|hc)|hc)|hc)|hc<;>(obtain⟨a1,a2⟩:=hc;have a1:=Nat.eq_of_beq_eq_true a1;have a2:=Nat.eq_of_beq_eq_true a2;subst a1;subst a2)
   ·exact wy G hG xs hu H (by omega)
   ·exact wx G hG xs hu H (by omega)
   ·exact ww G hG xs hu H (by omega)
   ·exact wv G hG xs hu H (by omega)
   ·exact oZ G hG xs hu H (by omega)
 ·rename_i n
  cases hf:Nat.beq f 23 with
  |false=>rw[hf] at h;cases h
  |true=>
   rw[hf,cond_true] at h
   have hf:=Nat.eq_of_beq_eq_true hf
   subst hf
   cases h
   exact D8 G hG n H
 ·rename_i y _ _
  cases hf:Nat.beq f 8 with
  |true=>
   rw[hf,cond_true] at h
   have hf:=Nat.eq_of_beq_eq_true hf
   subst hf
   cases hn:vq 30 y P0.sv with
   |false=>rw[hn] at h;cases h
   |true=>
    rw[hn,cond_true] at h
    cases h
    have:=oe G hG P0 H (by decide+kernel) (by decide+kernel) HN
    rw[KV] at this
    exact this.I0 hn
  |false=>
   rw[hf,cond_false] at h
   cases hf2:Nat.beq f 19 with
   |false=>rw[hf2] at h;cases h
   |true=>
    rw[hf2,cond_true] at h
    have hf2:=Nat.eq_of_beq_eq_true hf2
    subst hf2
    split at h
    ·rename_i z hz
     cases hn:vq 30 z Q0.sv with
     |false=>rw[hn] at h;cases h
     |true=>
      rw[hn,cond_true] at h
      cases h
      have:=pQ G hG Q0 [] (by decide+kernel) (by decide+kernel)
      rw[HO] at this
      exact af.FX hG hB (.cons _ _ _ _ (lQ _ _ _ hz) .nil) (fun c c' v h=>by simpa only[aG] using h) ((this.I0 hn).mono fun r H2 h=>h.2)
    ·cases h
 ·rename_i sb g0 k nm n op names id g xb xa y
  cases hf:(Nat.beq f 88&&SV.same (.agg [k,nm,n,op,names]) (.agg [.int .i64 4,.str [],.int .i64 0,.int .i64 0,.list 1 []])&&SV.same y (.list 1 (cc [0,1]))) with
  |false=>rw[hf] at h;cases h
  |true=>
   rw[hf,cond_true] at h
   simp only[Bool.and_eq_true] at hf
   obtain⟨⟨hf,h1⟩,h2⟩:=hf
   have hf:=Nat.eq_of_beq_eq_true hf
   subst hf
   have h1:=SV.dT.1 _ _ h1
   have h2:=SV.dT.1 _ _ h2
   cases h1
   subst h2
   split at h
   ·rename_i g' xs g0' kb hH1 hH2
    cases hc:(Nat.beq g g'&&Nat.beq g0 g0'&&SV.same (.list 8 xs) (.list 8 (ag Ih))&&kb.under H.length&&xb.under H.length&&xa.under H.length&&xb.leaf&&xa.leaf) with
    |false=>rw[hc] at h;cases h
    |true=>
     rw[hc,cond_true] at h
     cases h
     simp only[Bool.and_eq_true] at hc
     obtain⟨⟨⟨⟨⟨⟨⟨q1,q2⟩,q3⟩,q4⟩,q5⟩,q6⟩,q7⟩,q8⟩:=hc
     have q1:=Nat.eq_of_beq_eq_true q1
     have q2:=Nat.eq_of_beq_eq_true q2
     have q3:=SV.dT.1 _ _ q3
     cases q3
     subst q1;subst q2
     exact Aq G hG rn [0,1] Ih 1 4 0 0 [] [] xb xa kb H id g sb g0 hH1 hH2 q4 q5 q6 q7 q8 (by decide) (by decide) (by decide) (by decide) (fun n h1 h2=>⟨by simp[rn],fun H=>FL G hG hB hl n (by simp only[List.length_cons,List.length_nil] at h2;omega) H⟩)
   ·cases h
 ·cases h
theorem Cz (G:Gl) (hG:au G) (C0:Cx) (hb:G.base=some C0) (he:vS C0) (H:List ax):af Tryz.prog G 7 [] H (fun r H'=>H'=H∧r= .bool true):=by
 have hr:=AZ (some C0)
 have hG0:au ⟨[],some C0⟩:=fun p hp=>by cases hp
 have hov:=HU ⟨[],some C0⟩ hG0 rfl C0 rfl he
 have hev:=pM (P:=Tryz.prog) (G:=⟨[],some C0⟩) (T:=TB) (ow:=GV) (gc:=GL) (ov:=KW) (fuel:=5000) hG0 hov aA tO xI 40
 generalize hE:uW Tryz.prog ⟨[],some C0⟩ TB GV GL KW 5000 40 7 [] []=E at hr
 cases E with
 |none=>cases hr
 |some r=>
  obtain⟨v,H1⟩:=r
  cases v with
  |bool b=>cases b with
   |false=>cases hr
   |true=>exact af.lift (G0:=⟨[],some C0⟩) C0 rfl hb he.1 hG0 (fun p hp=>by cases hp) ((hev _ _ _ _ _ hE).mono fun r H2 h=>h.2) H
  |_=>cases hr
end
end Go.Proofs.YtehfihnfeakmaaaGreatDoor
section
open Go
namespace Go.Proofs.YtehfihnfeakmaaaGreatDoor.demandRuns
open Go Go.ChangeShapes Go.WideShapes Go.RowKit
set_option maxRecDepth 100000 in
theorem CP (H:Type) (enc:TypeId×Value→H) (W:World) (base:Nat) (args:Array Value) (ds gs:List (DataW H)) (before:List MemPlace)
 (hval:∀ (j:Nat) t v,Tryz.f3.params[j]? =some t→args[j]? =some v→Value.okWide Tryz.prog W .any base t v)
 (hW:DataW.Whole enc Tryz.prog Tryz.f3.params.toList Rows.demandRunsSpec.vars false W args.toList ds gs before) (hL:laidMetH Tryz.prog Rows.demandRunsUptoRow.laid W) (hk:Rows.uptoSmall H (ds++gs)=true):
 Calls Tryz.prog 3 args W fun e W'=>∃ v,e= .returned v∧Rows.demandRunsSpec.post enc Tryz.prog Tryz.f3 false true false false W args v W':=by
 have hW':=hW
 obtain⟨p,q,hA0,hV,rfl,hfz,hnd⟩:=hW
 have hA:DataW.TrodAll enc Tryz.prog W 0 (fun _=>true) true Tryz.f3.params.toList args.toList ds p:=hA0
 rw[Tryz.params3] at hA hval
 obtain⟨v0,vs0,d0,ds0,p0,q0,hargs,rfl,rfl,h0,r0⟩:=trodAll_cons hA
 obtain⟨rfl,rfl,rfl⟩:=trodAll_nil r0
 obtain rfl:args= #[v0]:=by cases args;simp_all
 obtain⟨rfl,rfl⟩:=trodVars_none hV
 obtain⟨cs0,rfl,_⟩:=okWide_struct Tryz.underlying25 (hval 0 25 v0 (by simp) (by simp))
 obtain⟨fuel0,hf0⟩:=h0
 obtain⟨e0,hg0,_,hw0⟩:=Ge fuel0 _ _ hf0
 have hbulk:e0.wt≤1048576:=by
  simp only[Rows.uptoSmall,decide_eq_true_eq,List.append_nil,Rows.uptoBulkAll] at hk
  simp only at hw0
  omega
 refine(zw (args:=[e0.sv]) (vs:=[.agg cs0]) (sT (GB W) (xj W) (Hh W) (x5 W) rfl (IX hL) (Cz (GB W) (xj W) (x5 W) rfl (GH hL)) e0 [] (by unfold Pg.wt at hbulk;omega) (by have:=AT (f:=Cn.wt) (fun x=>by unfold Cn.wt;omega) e0.cons;unfold Pg.wt at hbulk;omega) (fun s hs=>by have:=wj hs;unfold Pg.wt at hbulk;omega)) (LC W) ?_ (fun W'=>DD laid rfl hW' ?_ rfl (by kernel_rfl) rfl rfl rfl)).mono ?_
 ·refine aC.bB ?_ (aC.bX)
  ·simp only[Pg.sv,aG];exact⟨cs0.toList,hg0.1,hg0.2,rfl⟩
 ·intro t ht
  rw[Tryz.params3] at ht
  simp only[List.mem_cons,List.not_mem_nil,or_false] at ht
  rcases ht with rfl<;>exact⟨by kernel_rfl,of_decide_eq_true (by kernel_rfl)⟩
 ·rintro _ W' ⟨v,rfl,rfl,hp⟩
  exact⟨_,rfl,hp⟩
theorem DC (os:Os):laidMet Tryz.prog Rows.demandRunsUptoRow.laid ((oH os).forCall (fun _ _=>0) ⟨#[],#[Value.agg #[.slice none 0 0,.slice none 0 0]],[]⟩).memory:=
 laidMet_of_run' 8 (by kernel_rfl) (by kernel_rfl)
theorem reads (os:Os) {H:Type} (enc:TypeId×Value→H):∃ places,DataW.whole enc Tryz.prog ((oH os).forCall (fun _ _=>0) ⟨#[],#[Value.agg #[.slice none 0 0,.slice none 0 0]],[]⟩).memory Tryz.f3.params.toList Rows.demandRunsSpec.vars false (#[Value.agg #[.slice none 0 0,.slice none 0 0]]:Array Value).toList 8=some ([.agg [.nil,.nil]],[],places):=
 ⟨[],by kernel_rfl⟩
set_option maxRecDepth 100000 in
theorem lifted (os:Os) (started:os.Started) (H:Type) (enc:TypeId×Value→H) (F:Stop.Interp):
 ReturnsInHanded {} Tryz.checked os 3 .any ((Rows.OpenSpec.upto Rows.demandRunsSpec).preRow enc Tryz.prog Tryz.f3 Rows.demandRunsUptoRow.domain false Rows.demandRunsUptoRow.laid) (((Rows.OpenSpec.upto Rows.demandRunsSpec).at F).post enc Tryz.prog Tryz.f3 false true false false):=by
 obtain⟨places,hx⟩:=reads os enc
 refine returnsInHanded_of_row (C:=Tryz.checked) (s:=Rows.OpenSpec.upto Rows.demandRunsSpec) own started (by kernel_rfl) Tryz.func3
  (witness_row_at (enc:=enc) (C:=Tryz.checked) false (oH os) #[Value.agg #[.slice none 0 0,.slice none 0 0]] rfl (by kernel_rfl) (by kernel_rfl) (by kernel_rfl)
   (OpenSpec.preRow_of_cond 8 hx (by kernel_rfl) (fun k hk=>by cases hk;kernel_rfl) (by kernel_rfl) (DC os))) ?_
 intro W base args ds gs before hval hW _ hcond _ hL _ _
 exact CP H enc W base args ds gs before hval hW hL (hcond _ rfl)
theorem said:Rows.DemandRunsUptoSaid:=
 OpenClaim.holds_of_cond 3 Tryz.f3 rfl rfl rfl rfl rfl rfl rfl ⟨rfl,rfl,rfl,rfl,rfl⟩ rfl rfl rfl rfl rfl (by kernel_rfl) Tryz.func3 (by kernel_rfl)
  (of_decide_eq_true (by kernel_rfl)) (by unfold Func.isWrapper;first|(rw[if_pos (by decide+kernel)];kernel_rfl)|(rw[if_neg (by decide+kernel)];exact⟨rfl,rfl⟩))
  (fun os started H enc _ F=>by rw[OpenClaim.pre_eq_preRow];exact lifted os started H enc F)
theorem plain (f:FuncId) (fn:Func) (hf:Tryz.pinned.checked.prog.funcNamed "teasel/teasellaw15.DemandRuns" =some f) (hfn:Tryz.pinned.checked.prog.funcs[f]? =some fn):
 true=Tryz.pinned.checked.prog.looks []∧∀ (j:Nat) t,fn.params[j]? =some t→Tryz.pinned.checked.prog.wantsStandIn t=false:=by
 obtain rfl:f=3:=Option.some.inj ((show Tryz.prog.funcNamed "teasel/teasellaw15.DemandRuns" =some 3 by kernel_rfl).symm.trans hf)|>.symm
 obtain rfl:fn=Tryz.f3:=(Option.some.inj (Tryz.func3.symm.trans hfn)).symm
 refine⟨by kernel_rfl,fun j t ht=>?_⟩
 rw[Tryz.params3] at ht
 have hm:=Array.mem_of_getElem? ht
 have hm2:t=25:=by
  have h3:t=25:=by simpa using hm
  rcases h3 with rfl<;>simp
 subst hm2
 ·exact(show Tryz.prog.wantsStandIn 25=false by kernel_rfl)
theorem proved:Rows.DemandRunsUptoCardSaid:=
 Claim7.holds_tied_plain_at .later [] _ _ _ _ said (fun _ h=>by cases h) (by kernel_rfl) (fun _ h=>by cases h) demandRunsUpto_row_tie rfl ⟨rfl,rfl⟩ (by kernel_rfl) rfl plain (by kernel_rfl)
end Go.Proofs.YtehfihnfeakmaaaGreatDoor.demandRuns
end
namespace Go.Proofs.YtehfihnfeakmaaaGreatDoor
open Go
end Go.Proofs.YtehfihnfeakmaaaGreatDoor
