/- A part of the proof: P13. Names and spaces are cut short by program. -/
import Derived.Test.YtehfihnfeakmaaaGreatDoorMm
set_option linter.unusedSimpArgs false
set_option linter.unusedVariables false
set_option maxRecDepth 10000
set_option maxHeartbeats 4000000
namespace Go.Proofs.YtehfihnfeakmaaaGreatDoor
open Go
theorem M8 {H:List ax} {sb g0:Nat} {l:List Od} {nx0:Nat} (h2:H[sb]? =some (.cells g0 2 [.agg [.int .i64 (nx0:Int),.list 3 (aK l)]])):
 ∃ Q:Nat→List ax,Q nx0=H∧(∀ nx:Nat,H.set sb (.cells g0 2 [.agg [.int .i64 (nx:Int),.list 3 (aK l)]])=Q nx)∧(∀ nx,(Q nx).length=H.length)∧
  ((∀ (nx:Nat) L,(Q nx++L)[sb]? =some (.cells g0 2 [.agg [.int .i64 (nx:Int),.list 3 (aK l)]]))∧(∀ (nx nx':Nat) L,(Q nx++L).set sb (.cells g0 2 [.agg [.int .i64 (nx':Int),.list 3 (aK l)]])=Q nx'++L))∧(closed H→∀ nx,closed (Q nx)):=by
 have l2:=(List.getElem?_eq_some_iff.1 h2).1
 refine⟨fun nx=>H.set sb (.cells g0 2 [.agg [.int .i64 (nx:Int),.list 3 (aK l)]]),eg h2,fun _=>rfl,fun nx=>by simp,⟨fun nx L=>?_,fun nx nx' L=>?_⟩,fun hc nx=>hc.set ?_⟩
 ·rw[List.getElem?_append_left (by simpa using l2),List.getElem?_set_self (by simpa using l2)]
 ·rw[eN (by simpa using l2),List.set_set]
 ·simp only[ax.under,SV.aB,SV.under,bO,Bool.and_self]
theorem IZ (n:Nat) (l:List Nat) (h:l.Nodup):(l.map fun q=>(n+q,0)).map Prod.fst|>.Nodup:=by
 rw[List.map_map]
 exact List.Pairwise.map _ (fun a b hab e=>hab (by simp only[Function.comp_apply] at e;omega)) h
@[simp] theorem GJ (P:List (aE×Ex)):List.take P.length (ag (P.map Prod.snd))=ag (P.map Prod.snd):=List.take_of_length_le (by rw[cR,List.length_map];exact Nat.le_refl _)
@[simp] theorem Gn (P:List (aE×Ex)):List.take P.length ((P.map Prod.fst).map SV.str)=(P.map Prod.fst).map SV.str:=List.take_of_length_le (by rw[List.length_map,List.length_map];exact Nat.le_refl _)
def G2 (G:Gl) (cs:List Cn) (l:List Od) (m:Nat):Prop:=∀ (e:Ex) (H:List ax) (sb g0 nx:Nat),e.wt≤m→e.wt<67108864→dn dN e=true→dn (kW cs) e=true→nx+e.wt≤4294967295→H[sb]? =some (.cells g0 2 [.agg [.int .i64 (nx:Int),.list 3 (aK l)]])→
 af Tryz.prog G 35 [.ptr sb g0 0 0,e.sv] H (fun r H'=>H'=H.set sb (.cells g0 2 [.agg [.int .i64 ((bF cf (bc [] l) m e nx).2:Int),.list 3 (aK l)]])∧r=(bF cf (bc [] l) m e nx).1.sv)
theorem x8 (G:Gl) (hG:au G) (cs:List Cn) (l:List Od) (hll:l.length<1099511627776) (hln:∀ o∈l,o.bN.length<4294967296) (hk:∀ s,vT (cN (bc [] l) s)):∀ m,G2 G cs l m
 |0,e,_,_,_,_,h,_,_,_,_,_=>absurd e.b9 (by omega)
 |m+1,e,H,sb,g0,nx0,hm,hw,hs,hf,hnx,h2=>by
  have hrec:=x8 G hG cs l hll hln hk m
  unfold G2 at hrec
  have hi:∀ n,n<4294967296→(cf n).length≤20:=fun n h=>fW _ (by omega) (by omega)
  have bK:=bO
  obtain⟨kd,nm,nn,op,names,ae,binds,alts⟩:=e
  have hlen:=Ex.cm kd nm nn op names ae binds alts
  rw[mU,Bool.and_eq_true,List.all_eq_true,Ex.bM] at hs hf
  obtain⟨hs1,hs2⟩:=hs
  obtain⟨hf1,hf2⟩:=hf
  have hww:(Ex.mk kd nm nn op names ae binds alts).wt=1+nm.length+db names+cw ae+aM binds+cU alts:=by simp only[Ex.wt]
  have hthr:bF cf (bc [] l) (m+1) (.mk kd nm nn op names ae binds alts) nx0=mc cf (bc [] l) kd nm nn op names (bJ (bF cf (bc [] l) m) ae nx0).1 (bJ (kl (bF cf (bc [] l) m)) binds (bJ (bF cf (bc [] l) m) ae nx0).2).1
   (bJ (vO (bF cf (bc [] l) m)) alts (bJ (kl (bF cf (bc [] l) m)) binds (bJ (bF cf (bc [] l) m) ae nx0).2).2).1 (bJ (vO (bF cf (bc [] l) m)) alts (bJ (kl (bF cf (bc [] l) m)) binds (bJ (bF cf (bc [] l) m) ae nx0).2).2).2:=rfl
  rw[hthr]
  clear hthr
  have hfw:=l6 cf hi (bc [] l) hk m
  have hfst:=fun(x:Ex) H (h1:x.wt<4294967296)=>oP G hG l hll hln x.wt x H (Nat.le_refl _) h1
  have hcr:=fun(s:Ex) r (nm:aE) (nn op:Int) (names:List aE) B A=>wm l s r 4 nm nn op names B A
  have hlet:∀ b s,By (bc [] l) b s=((decide (b.e.kind=4)||decide (b.e.kind=5)||decide (b.e.kind=6)||decide (b.e.kind=8))&&decide ((aZ aU (bc [] l) s.wt s).head?=some b.name)&&!decide (b.name∈cX b.e)):=fun b s=>rfl
  obtain⟨Q,q0,qd,hlenQ,qx,qc⟩:=M8 h2
  simp only[qd]
  rw[← q0]
  refine af.aD TB [5,7,9,18,19] aA _ Tryz.func35 rfl (by decide) Tryz.ntmps35 (by simp) rfl (by simp only[ap,Nat.reduceAdd];rfl) fun C R' hR hC hcl hB=>?_;have X:=aF;have hC':=congrArg List.length hC
  have hC':=hC'.trans (hlenQ _)
  have hcls:∀ nx,closed (Q nx):=fun nx=>qc (q0 ▸ hcl) nx
  have l2:=(List.getElem?_eq_some_iff.1 h2).1
  clear q0 h2
  generalize hn0:H.length=n0 at*
  have hx21:=hlenQ
  have hx22:∀ nx L,(Q nx++L)[n0]? =L[0]? :=fun nx L=>by rw[← hlenQ nx];exact cS _ _
  have hx23:∀ nx L k,(Q nx++L)[n0+k]? =L[k]? :=fun nx L k=>by rw[← hlenQ nx];exact bZ _ _ _
  have hx24:∀ nx L x,(Q nx++L).set n0 x=Q nx++L.set 0 x:=fun nx L x=>by rw[← hlenQ nx];exact fB _ _ _
  have hx25:∀ nx L k x,(Q nx++L).set (n0+k) x=Q nx++L.set k x:=fun nx L k x=>by rw[← hlenQ nx];exact cB _ _ _ _
  have d3:=IZ n0 [0,1,2] (by decide)
  have d4:=IZ n0 [0,1,2,3] (by decide)
  have d5:=IZ n0 [0,1,2,3,4] (by decide)
  have d6:=IZ n0 [0,1,2,3,4,5] (by decide)
  have d8:=IZ n0 [0,1,2,3,4,5,6,7] (by decide)
  generalize hkk:bc [] l=k at*
  have X:=And.intro aF (And.intro qx (And.intro hx21 (And.intro hx22 (And.intro hx23 (And.intro hx24 hx25)))))
  (refine run ?_;with_reducible repeat' first|exact trivial|(apply ad.mk<;>intro hb)|apply av.mk)
  refine az (fun a:Nat×List Ex×Nat=>[(0,.ptr sb g0 0 0),(3,.ptr n0 0 0 0),(4,.ptr (n0+1) 0 0 0),(5,.sl (n0+2) 0 0 a.1),(6,.int .i64 (a.1:Int))])
   (fun a=>Q a.2.2++[.cells 0 8 [.agg [.int .i64 kd,.str nm,.int .i64 nn,.int .i64 op,.list 1 (names.map .str),.list 8 (ag ae),.list 9 (ah binds),.list 12 (aw alts)]],.cells 0 8 [.agg [.int .i64 0,.str [],.int .i64 0,.int .i64 0,.list 1 [],.list 8 [],.list 9 [],.list 12 []]],.cells 0 8 (ag a.2.1)]) (fun a=>ae.length - a.1)
   (fun a=>(a.1≤ae.length∧a.2.1.length=a.1∧a.2.2+cw (ae.drop a.1)≤nx0+cw ae)∧bJ (bF cf k m) ae nx0=(a.2.1++(bJ (bF cf k m) (ae.drop a.1) a.2.2).1,(bJ (bF cf k m) (ae.drop a.1) a.2.2).2)) (0,[],nx0) ⟨⟨Nat.zero_le _,rfl,Nat.le_refl _⟩,rfl⟩ ?_ ?_
  ·simp only[show ag []=[] from rfl]
   exact aY (n0:=n0) [(n0,0),(n0+1,0),(n0+2,0)] hG hB hC' (hcls _) (hn:=hlenQ _) (hd:=d3)
  rintro K ⟨i,S,nx⟩ ⟨⟨hi1,hD,hnw⟩,hmp⟩ hK
  simp only at hi1 hD hnw hmp
  dsimp only
  rcases Nat.lt_or_ge i ae.length with hlt|hge
  ·have hmem:=List.getElem_mem hlt
   have hxw:=eo hmem
   have hdr:=qJ hlt
   have hxs:=hs2 _ (List.mem_append_left _ hmem)
   have hxf:=hf2 _ (List.mem_append_left _ hmem)
   have hcall:=fun L=>hrec ae[i] (Q nx++L) sb g0 nx (by omega) (by omega) hxs hxf (by omega) (qx.1 _ _)
   obtain⟨hw1,hw2⟩:=hfw ae[i] nx (by omega) hxs (by omega)
   have hmp2:=fX hlt hmp
   have hcg:(ag ae)[i]? =some (.agg ae[i].cells):=by rw[bh,List.getElem?_map,List.getElem?_eq_getElem hlt];rfl
   have hsn:=fun y=>fP S y
   have hSl:(ag S).length=i:=by rw[cR,hD]
   generalize ae[i]=x at*
   generalize bF cf k m x nx=yy at*
   obtain⟨y,nx2⟩:=yy
   simp only at hw1 hw2 hmp2 hcall
   have X:=And.intro (And.intro aF (And.intro qx (And.intro hx21 (And.intro hx22 (And.intro hx23 (And.intro hx24 hx25)))))) hcg
   (refine run ?_;with_reducible repeat' first|exact trivial|(apply ad.mk<;>intro hb)|apply av.mk)
   refine bt (hcall _) ?_
   rintro v H' ⟨rfl,rfl⟩
   rw[qx.2]
   have X:=And.intro (And.intro aF (And.intro qx (And.intro hx21 (And.intro hx22 (And.intro hx23 (And.intro hx24 hx25)))))) (And.intro (hsn y) hSl)
   (refine run ?_;with_reducible repeat' first|exact trivial|(apply ad.mk<;>intro hb)|apply av.mk)
   refine hK _ _ (i+1,S++[y],nx2) (by simp only;omega) ⟨⟨by simp only;omega,by simp only[List.length_append,List.length_cons,List.length_nil];omega,by simp only;omega⟩,hmp2⟩ ?_
   simp only[List.append_assoc,List.cons_append,List.nil_append]
   exact aY (n0:=n0) [(n0,0),(n0+1,0),(n0+2,0)] hG hB hC' (hcls _) (hn:=hlenQ _) (hd:=d3)
  clear hK
  have hni:¬ (i:Int)<(ae.length:Int):=by omega
  rw[List.drop_eq_nil_of_le hge] at hmp hnw
  simp only[bJ,List.append_nil] at hmp
  rw[hmp] at hR
  simp only at hR
  have hSl:S.length=ae.length:=by omega
  have a1:=(gw (bF cf k m) Ex.wt ae nx0 (fun x hx n' hn'=>by
   have h1:=eo hx
   rw[cE] at h1
   rw[cE] at hww
   exact hfw x n' (by omega) (hs2 x (List.mem_append_left _ hx)) (by have:=x.b9;omega)))
  rw[hmp] at a1
  simp only at a1
  obtain⟨a1,hnw1⟩:=a1
  clear hmp
  rw[← cE] at hnw1
  clear hnw
  generalize hnx1:nx=nx1 at*
  clear hnx1
  subst hD
  have X:=And.intro (And.intro aF (And.intro qx (And.intro hx21 (And.intro hx22 (And.intro hx23 (And.intro hx24 hx25)))))) hni
  (refine run ?_;with_reducible repeat' first|exact trivial|(apply ad.mk<;>intro hb)|apply av.mk)
  refine az (fun a:Nat×List Bd×Nat=>[(0,.ptr sb g0 0 0),(3,.ptr n0 0 0 0),(4,.ptr (n0+1) 0 0 0),(7,.sl (n0+3) 0 0 a.1),(8,.int .i64 (a.1:Int))])
   (fun a=>Q a.2.2++[.cells 0 8 [.agg [.int .i64 kd,.str nm,.int .i64 nn,.int .i64 op,.list 1 (names.map .str),.sl (n0+2) 0 0 S.length,.list 9 (ah binds),.list 12 (aw alts)]],.cells 0 8 [.agg [.int .i64 0,.str [],.int .i64 0,.int .i64 0,.list 1 [],.list 8 [],.list 9 [],.list 12 []]],.cells 0 8 (ag S),.cells 0 9 (ah a.2.1)]) (fun a=>binds.length - a.1)
   (fun a=>(a.1≤binds.length∧a.2.1.length=a.1∧a.2.2+aM (binds.drop a.1)≤nx1+aM binds)∧bJ (kl (bF cf k m)) binds nx1=(a.2.1++(bJ (kl (bF cf k m)) (binds.drop a.1) a.2.2).1,(bJ (kl (bF cf k m)) (binds.drop a.1) a.2.2).2)) (0,[],nx1) ⟨⟨Nat.zero_le _,rfl,Nat.le_refl _⟩,rfl⟩ ?_ ?_
  ·simp only[show ah []=[] from rfl]
   exact aY (n0:=n0) [(n0,0),(n0+1,0),(n0+2,0),(n0+3,0)] hG hB hC' (hcls _) (hn:=hlenQ _) (hd:=d4)
  rintro K ⟨i,B,nx⟩ ⟨⟨hi1,hD,hnw⟩,hmp⟩ hK
  simp only at hi1 hD hnw hmp
  dsimp only
  rcases Nat.lt_or_ge i binds.length with hlt|hge
  ·have hmem:=List.getElem_mem hlt
   have hxw:=df hmem
   have hxg:=binds[i].di
   have hdr:=jL hlt
   have hxs:=hs2 _ (List.mem_append_right _ (List.mem_append_left _ (List.mem_map_of_mem hmem)))
   have hxf:=hf2 _ (List.mem_append_right _ (List.mem_append_left _ (List.mem_map_of_mem hmem)))
   have hcall:=fun L=>hrec binds[i].e (Q nx++L) sb g0 nx (by omega) (by omega) hxs hxf (by omega) (qx.1 _ _)
   obtain⟨hw1,hw2⟩:=hfw binds[i].e nx (by omega) hxs (by omega)
   have hmp2:=fX hlt hmp
   have hcg:(ah binds)[i]? =some (.agg (.str binds[i].name::binds[i].e.cells)):=by rw[aV,List.getElem?_map,List.getElem?_eq_getElem hlt,Option.map_some,Bd.sv,Bd.cM]
   simp only[kl] at hmp2
   generalize binds[i].wt=wb at*
   generalize binds[i].e=x at*
   generalize binds[i].name=xn at*
   generalize bF cf k m x nx=yy at*
   obtain⟨y,nx2⟩:=yy
   simp only at hw1 hw2 hmp2 hcall
   have hsn:ah B++[.agg (.str xn::(y.cells++[]))]=ah (B++[.mk xn y]):=by rw[List.append_nil];simp only[aV,List.map_append,List.map_cons,List.map_nil];rfl
   have hBl:(ah B).length=i:=by rw[aV,List.length_map,hD]
   have X:=And.intro (And.intro aF (And.intro qx (And.intro hx21 (And.intro hx22 (And.intro hx23 (And.intro hx24 hx25)))))) hcg
   (refine run ?_;with_reducible repeat' first|exact trivial|(apply ad.mk<;>intro hb)|apply av.mk)
   refine du (hcall _) ?_
   rintro v H' ⟨rfl,rfl⟩
   rw[qx.2]
   have X:=And.intro (And.intro aF (And.intro qx (And.intro hx21 (And.intro hx22 (And.intro hx23 (And.intro hx24 hx25)))))) (And.intro hcg (And.intro hsn hBl))
   (refine run ?_;with_reducible repeat' first|exact trivial|(apply ad.mk<;>intro hb)|apply av.mk)
   refine hK _ _ (i+1,B++[.mk xn y],nx2) (by simp only;omega) ⟨⟨by simp only;omega,by simp only[List.length_append,List.length_cons,List.length_nil];omega,by simp only;omega⟩,hmp2⟩ ?_
   simp only[List.append_assoc,List.cons_append,List.nil_append]
   exact aY (n0:=n0) [(n0,0),(n0+1,0),(n0+2,0),(n0+3,0)] hG hB hC' (hcls _) (hn:=hlenQ _) (hd:=d4)
  clear hK
  have hni:¬ (i:Int)<(binds.length:Int):=by omega
  rw[List.drop_eq_nil_of_le hge] at hmp hnw
  simp only[bJ,List.append_nil] at hmp
  rw[hmp] at hR
  simp only at hR
  have hBl:B.length=binds.length:=by omega
  have b1:=(gw (kl (bF cf k m)) Bd.wt binds nx1 (fun x hx n' hn'=>by
   have h1:=df hx
   rw[cg] at h1
   rw[cg] at hww
   have h2:=x.di
   have:=hfw x.e n' (by omega) (hs2 _ (List.mem_append_right _ (List.mem_append_left _ (List.mem_map_of_mem hx)))) (by omega)
   obtain⟨s,e⟩:=x
   simp only[kl,Bd.wt,Bd.e,Bd.name] at this h2 ⊢
   omega)).1
  rw[hmp] at b1
  simp only at b1
  clear hmp
  have hnw2:nx≤nx1+aM binds:=by omega
  clear hnw
  generalize hnx2:nx=nx2 at*
  clear hnx2
  subst hD
  have X:=And.intro (And.intro aF (And.intro qx (And.intro hx21 (And.intro hx22 (And.intro hx23 (And.intro hx24 hx25)))))) hni
  (refine run ?_;with_reducible repeat' first|exact trivial|(apply ad.mk<;>intro hb)|apply av.mk)
  refine az (fun a:Nat×List Al×Nat=>[(0,.ptr sb g0 0 0),(3,.ptr n0 0 0 0),(4,.ptr (n0+1) 0 0 0),(9,.sl (n0+4) 0 0 a.1),(10,.int .i64 (a.1:Int))])
   (fun a=>Q a.2.2++[.cells 0 8 [.agg [.int .i64 kd,.str nm,.int .i64 nn,.int .i64 op,.list 1 (names.map .str),.sl (n0+2) 0 0 S.length,.sl (n0+3) 0 0 B.length,.list 12 (aw alts)]],.cells 0 8 [.agg [.int .i64 0,.str [],.int .i64 0,.int .i64 0,.list 1 [],.list 8 [],.list 9 [],.list 12 []]],.cells 0 8 (ag S),.cells 0 9 (ah B),.cells 0 12 (aw a.2.1)]) (fun a=>alts.length - a.1)
   (fun a=>(a.1≤alts.length∧a.2.1.length=a.1∧a.2.2+cU (alts.drop a.1)≤nx2+cU alts)∧bJ (vO (bF cf k m)) alts nx2=(a.2.1++(bJ (vO (bF cf k m)) (alts.drop a.1) a.2.2).1,(bJ (vO (bF cf k m)) (alts.drop a.1) a.2.2).2)) (0,[],nx2) ⟨⟨Nat.zero_le _,rfl,Nat.le_refl _⟩,rfl⟩ ?_ ?_
  ·simp only[show aw []=[] from rfl]
   exact aY (n0:=n0) [(n0,0),(n0+1,0),(n0+2,0),(n0+3,0),(n0+4,0)] hG hB hC' (hcls _) (hn:=hlenQ _) (hd:=d5)
  rintro K ⟨i,A,nx⟩ ⟨⟨hi1,hD,hnw⟩,hmp⟩ hK
  simp only at hi1 hD hnw hmp
  dsimp only
  rcases Nat.lt_or_ge i alts.length with hlt|hge
  ·have hmem:=List.getElem_mem hlt
   have hxw:=ek hmem
   have hxg:=alts[i].di
   have hdr:=qf hlt
   have hxs:=hs2 _ (List.mem_append_right _ (List.mem_append_right _ (List.mem_map_of_mem hmem)))
   have hxf:=hf2 _ (List.mem_append_right _ (List.mem_append_right _ (List.mem_map_of_mem hmem)))
   have hcall:=fun L=>hrec alts[i].body (Q nx++L) sb g0 nx (by omega) (by omega) hxs hxf (by omega) (qx.1 _ _)
   obtain⟨hw1,hw2⟩:=hfw alts[i].body nx (by omega) hxs (by omega)
   have hmp2:=fX hlt hmp
   have hcg:(aw alts)[i]? =some (.agg (.int .i64 alts[i].kind:: .str alts[i].name:: .int .i64 alts[i].n:: .list 1 (alts[i].names.map .str)::alts[i].body.cells)):=by rw[bG,List.getElem?_map,List.getElem?_eq_getElem hlt,Option.map_some,Al.sv,Al.cM]
   simp only[vO] at hmp2
   generalize alts[i]=aa at*
   obtain⟨ak,an,ann,ans,x⟩:=aa
   simp only[Al.kind,Al.name,Al.n,Al.names,Al.body] at hmp2 hcg hcall hw1 hw2 hxg
   have hx8:=x.bS
   have hxd:=x.eD
   generalize bF cf k m x nx=yy at*
   obtain⟨y,nx3⟩:=yy
   simp only at hw1 hw2 hmp2 hcall
   have hy8:=y.bS
   have hyd:=y.eD
   have hsn:aw A++[.agg (.int .i64 ak:: .str an:: .int .i64 ann:: .list 1 (ans.map .str)::(y.cells++[]))]=aw (A++[.mk ak an ann ans y]):=by rw[List.append_nil];simp only[bG,List.map_append,List.map_cons,List.map_nil];rfl
   have hAl:(aw A).length=i:=by rw[bG,List.length_map,hD]
   have X:=And.intro (And.intro aF (And.intro qx (And.intro hx21 (And.intro hx22 (And.intro hx23 (And.intro hx24 hx25)))))) (And.intro hcg (And.intro hx8 hxd))
   (refine run ?_;with_reducible repeat' first|exact trivial|(apply ad.mk<;>intro hb)|apply av.mk)
   refine bt (hcall _) ?_
   rintro v H' ⟨rfl,rfl⟩
   rw[qx.2]
   have X:=And.intro (And.intro aF (And.intro qx (And.intro hx21 (And.intro hx22 (And.intro hx23 (And.intro hx24 hx25)))))) (And.intro hcg (And.intro hsn (And.intro hAl (And.intro hx8 (And.intro hxd (And.intro hy8 hyd))))))
   (refine run ?_;with_reducible repeat' first|exact trivial|(apply ad.mk<;>intro hb)|apply av.mk)
   refine hK _ _ (i+1,A++[.mk ak an ann ans y],nx3) (by simp only;omega) ⟨⟨by simp only;omega,by simp only[List.length_append,List.length_cons,List.length_nil];omega,by simp only;omega⟩,hmp2⟩ ?_
   simp only[List.append_assoc,List.cons_append,List.nil_append]
   exact aY (n0:=n0) [(n0,0),(n0+1,0),(n0+2,0),(n0+3,0),(n0+4,0)] hG hB hC' (hcls _) (hn:=hlenQ _) (hd:=d5)
  clear hK
  have hni:¬ (i:Int)<(alts.length:Int):=by omega
  rw[List.drop_eq_nil_of_le hge] at hmp hnw
  simp only[bJ,List.append_nil] at hmp
  rw[hmp] at hR
  simp only at hR
  have hAl:A.length=alts.length:=by omega
  clear hmp
  have hnw3:nx≤nx2+cU alts:=by omega
  clear hnw
  generalize hnx3:nx=nx3 at*
  clear hnx3
  subst hD
  clear hfw hrec
  have hsW:cw S≤51*cw ae:=by rw[cE,cE];omega
  have hbW:aM B≤51*aM binds:=by rw[cg,cg];omega
  clear a1 b1
  have hnode:(kd=5∧binds.length=1)∨(kd=4)∨(¬ (kd=5∧binds.length=1)∧¬ kd=4):=by
   by_cases h5:kd=5∧binds.length=1
   ·exact .inl h5
   ·by_cases h4:kd=4
    ·exact .inr (.inl h4)
    ·exact .inr (.inr ⟨h5,h4⟩)
  rcases hnode with⟨h5,hb1⟩|h4|⟨h5,h4⟩
  rotate_left
  ·subst h4
   have hS2:1<ae.length:=of_decide_eq_true (show decide (1<ae.length)=true from hf1)
   obtain⟨x0,xr,hS0⟩:∃ x0 xr,S=x0::xr:=by
    cases S with
    |nil=>simp at hSl;omega
    |cons a b=>exact⟨a,b,rfl⟩
   have hn4:mc cf k 4 nm nn op names S B A nx3=if (cu k (.mk 4 nm nn op names S B A)).2=true then (kD (cZ cf (cu k (.mk 4 nm nn op names S B A)).1.bN S nx3).1 (.mk 4 nm nn op names (cZ cf (cu k (.mk 4 nm nn op names S B A)).1.bN S nx3).2.1 B A),(cZ cf (cu k (.mk 4 nm nn op names S B A)).1.bN S nx3).2.2) else (.mk 4 nm nn op names S B A,nx3):=by
    unfold mc
    rw[if_neg (fun h=>by have:=h.1;omega)]
    by_cases h:(cu k (.mk 4 nm nn op names S B A)).2=true
    ·rw[if_pos ⟨rfl,h⟩,if_pos h]
    ·rw[if_neg (fun h2=>h h2.2),if_neg h]
   rw[hn4] at hR
   clear hn4
   have hcO:=hcr x0 xr nm nn op names B A
   rw[← hS0] at hcO
   have hxc:(ag S)[0]? =some (.agg x0.cells):=by rw[hS0];rfl
   clear hS0
   obtain⟨k0,nm0,nn0,op0,ns0,ss0,bs0,as0⟩:=x0
   have c5:=fun H=>tY G hG l nm0 H hll
   have hol:=mE (Pr:=fun o=>o.bN.length<4294967296) (l:=l) (fun o ho=>hln o ho) (by decide) nm0
   have hxc:(ag S)[0]? =some (.agg [.int .i64 k0,.str nm0,.int .i64 nn0,.int .i64 op0,.list 1 (ns0.map .str),.list 8 (ag ss0),.list 9 (ah bs0),.list 12 (aw as0)]):=hxc
   have hcO:cu k (.mk 4 nm nn op names S B A)=if k0≠1 then (oK,false) else (cN l nm0,(bH l nm0).isSome&&decide ((cN l nm0).arity<(S.length:Int))):=hcO
   have hrg:=qn (k:=k) hk (kd:=4) (nm:=nm) (nn:=nn) (op:=op) (names:=names) (S:=S) (B:=B) (A:=A)
   generalize cN l nm0=oo at*
   obtain⟨on,oa,ns⟩:=oo
   have hcl8:(Od.mk on oa ns).cells=[.str on,.int .i64 oa,.list 1 (cc ns)]:=rfl
   rw[hcl8] at c5
   have hsim:∀ c:Od×Bool,cu k (.mk 4 nm nn op names S B A)=c→c.2=false→mv (∀ y H',H'=Q nx3∧y=(Ex.mk 4 nm nn op names S B A).sv→R' y H'):=fun c hc h2=>by
    rw[hc] at hR
    rw[if_neg (by rw[h2];exact Bool.false_ne_true)] at hR
    exact hR
   by_cases hk0:k0=1
   rotate_left
   ·have hR:=hsim _ hcO (by rw[if_pos hk0])
    have X:=And.intro (And.intro aF (And.intro qx (And.intro hx21 (And.intro hx22 (And.intro hx23 (And.intro hx24 hx25)))))) (And.intro hni (And.intro hxc hk0))
    (refine run ?_;with_reducible repeat' first|exact trivial|(apply ad.mk<;>intro hb)|apply av.mk)
    all_goals exact Fin.bY (n0:=n0) hR (hlenQ _) hC' (hcls _) (bE.agg _ _ (cV (hlenQ _) 4 nm nn op names)) ⟨rfl,rfl⟩
   rw[if_neg (fun h=>h hk0)] at hcO
   cases hfs:(bH l nm0).isSome
   ·rw[hfs] at c5 hcO
    have hR:=hsim _ hcO rfl
    have X:=And.intro (And.intro aF (And.intro qx (And.intro hx21 (And.intro hx22 (And.intro hx23 (And.intro hx24 hx25)))))) (And.intro hni (And.intro hxc hk0))
    (refine run ?_;with_reducible repeat' first|exact trivial|(apply ad.mk<;>intro hb)|apply av.mk)
    all_goals exact Fin.bY (n0:=n0) hR (hlenQ _) hC' (hcls _) (bE.agg _ _ (cV (hlenQ _) 4 nm nn op names)) ⟨rfl,rfl⟩
   rw[hfs] at c5 hcO
   rw[Bool.true_and] at hcO
   by_cases har:(S.length:Int) - 1<oa
   ·have hR:=hsim _ hcO (decide_eq_false (by simp only;omega))
    have X:=And.intro (And.intro aF (And.intro qx (And.intro hx21 (And.intro hx22 (And.intro hx23 (And.intro hx24 hx25)))))) (And.intro hni (And.intro hxc (And.intro hk0 har)))
    (refine run ?_;with_reducible repeat' first|exact trivial|(apply ad.mk<;>intro hb)|apply av.mk)
    all_goals exact Fin.bY (n0:=n0) hR (hlenQ _) hC' (hcls _) (bE.agg _ _ (cV (hlenQ _) 4 nm nn op names)) ⟨rfl,rfl⟩
   clear hsim
   have hcT:decide ((Od.mk on oa ns).arity<(S.length:Int))=true:=decide_eq_true (by simp only;omega)
   rw[hcT] at hcO
   obtain⟨hr,hl⟩:=hrg (by rw[hcO])
   rw[hcO] at hr hl hR
   clear hrg hcO hcT
   simp only at hr hl hR hol
   rw[if_pos trivial] at hR
   have hSw:S.length<4294967296:=by rw[hSl];omega
   have hfT:=(nj cf hi ns S nx3 (fun x hx=>by have:=hr x hx;omega) (by omega)).2.2
   have X:=And.intro (And.intro aF (And.intro qx (And.intro hx21 (And.intro hx22 (And.intro hx23 (And.intro hx24 hx25)))))) (And.intro hni (And.intro hxc (And.intro hk0 har)))
   (refine Gh ?_;with_reducible repeat' first|exact trivial|(apply ad.mk<;>intro hb)|apply av.mk)
   refine dQ (fun _:Unit=>[(0,.ptr sb g0 0 0),(3,.ptr n0 0 0 0),(4,.ptr (n0+1) 0 0 0),(16,.ptr (n0+5) 0 0 0),(17,.bool true)]) (fun _=>Q nx3++[.cells 0 8 [.agg [.int .i64 4,.str nm,.int .i64 nn,.int .i64 op,.list 1 (names.map .str),.sl (n0+2) 0 0 S.length,.sl (n0+3) 0 0 B.length,.sl (n0+4) 0 0 A.length]],.cells 0 8 [.agg [.int .i64 0,.str [],.int .i64 0,.int .i64 0,.list 1 [],.list 8 [],.list 9 [],.list 12 []]],.cells 0 8 (ag S),.cells 0 9 (ah B),.cells 0 12 (aw A),.cells 0 3 [.agg [.str on,.int .i64 oa,.list 1 (cc ns)]]]) (fun _=>True) (fun K9 hK9=>?_) (fun _ _=>?_)
   ·(refine run ?_;with_reducible repeat' first|exact trivial|(apply ad.mk<;>intro hb)|apply av.mk)
    all_goals
     refine hK9 _ _ () trivial ?_
     exact aY (n0:=n0) [(n0,0),(n0+1,0),(n0+2,0),(n0+3,0),(n0+4,0),(n0+5,0)] hG hB hC' (hcls _) (hn:=hlenQ _) (hd:=d6)
   have X:=And.intro (And.intro aF (And.intro qx (And.intro hx21 (And.intro hx22 (And.intro hx23 (And.intro hx24 hx25)))))) (And.intro hxc (And.intro hk0 har))
   (refine yd ?_;with_reducible repeat' first|exact trivial|(apply ad.mk<;>intro hb)|apply av.mk)
   refine dQ (fun _:Unit=>[(0,.ptr sb g0 0 0),(3,.ptr n0 0 0 0),(4,.ptr (n0+1) 0 0 0),(18,.list 1 (((cZ cf ns S nx3).1.map Prod.fst).map .str)),(19,.list 8 (ag ((cZ cf ns S nx3).1.map Prod.snd)))])
    (fun _=>Q (cZ cf ns S nx3).2.2++[.cells 0 8 [.agg [.int .i64 4,.str nm,.int .i64 nn,.int .i64 op,.list 1 (names.map .str),.list 8 (ag (cZ cf ns S nx3).2.1),.list 9 (ah B),.list 12 (aw A)]],.cells 0 8 [.agg [.int .i64 0,.str [],.int .i64 0,.int .i64 0,.list 1 [],.list 8 [],.list 9 [],.list 12 []]]]) (fun _=>True) (fun K0 hK0=>?_) (fun _ _=>?_)
   ·have X:=And.intro aF (And.intro qx (And.intro hx21 (And.intro hx22 (And.intro hx23 (And.intro hx24 hx25)))))
    (refine run ?_;with_reducible repeat' first|exact trivial|(apply ad.mk<;>intro hb)|apply av.mk)
    refine az (fun a:Nat×List Ex×List (aE×Ex)×Nat=>[(0,.ptr sb g0 0 0),(3,.ptr n0 0 0 0),(4,.ptr (n0+1) 0 0 0),(16,.ptr (n0+5) 0 0 0),(18,.sl (n0+6) 0 0 a.2.2.1.length),(19,.sl (n0+7) 0 0 a.2.2.1.length),(20,.int .i64 (a.1:Int))])
     (fun a=>Q a.2.2.2++[.cells 0 8 [.agg [.int .i64 4,.str nm,.int .i64 nn,.int .i64 op,.list 1 (names.map .str),.sl (n0+2) 0 0 S.length,.sl (n0+3) 0 0 B.length,.sl (n0+4) 0 0 A.length]],.cells 0 8 [.agg [.int .i64 0,.str [],.int .i64 0,.int .i64 0,.list 1 [],.list 8 [],.list 9 [],.list 12 []]],.cells 0 8 (ag a.2.1),.cells 0 9 (ah B),.cells 0 12 (aw A),.cells 0 3 [.agg [.str on,.int .i64 oa,.list 1 (cc ns)]],.cells 0 1 ((a.2.2.1.map Prod.fst).map .str),.cells 0 8 (ag (a.2.2.1.map Prod.snd))]) (fun a=>ns.length - a.1)
     (fun a=>(a.1≤ns.length∧a.2.1.length=S.length∧a.2.2.1.length≤a.1∧nx3≤a.2.2.2∧a.2.2.2≤nx3+a.1)∧cZ cf ns S nx3=(a.2.2.1++(cZ cf (ns.drop a.1) a.2.1 a.2.2.2).1,(cZ cf (ns.drop a.1) a.2.1 a.2.2.2).2)) (0,S,[],nx3) ⟨⟨Nat.zero_le _,rfl,Nat.le_refl _,Nat.le_refl _,Nat.le_refl _⟩,rfl⟩ ?_ ?_
    ·simp only[List.length_nil,List.map_nil,show ag []=[] from rfl]
     exact aY (n0:=n0) [(n0,0),(n0+1,0),(n0+2,0),(n0+3,0),(n0+4,0),(n0+5,0),(n0+6,0),(n0+7,0)] hG hB hC' (hcls _) (hn:=hlenQ _) (hd:=d8)
    rintro K ⟨i,T,P,nx⟩ ⟨⟨hi2,hTl,hPl,hnl,hnu⟩,hgv⟩ hK
    simp only at hi2 hTl hPl hnl hnu hgv
    dsimp only
    rcases Nat.lt_or_ge i ns.length with hlt|hge
    rotate_left
    ·have hnj:¬ (i:Int)<(ns.length:Int):=by omega
     rw[List.drop_eq_nil_of_le hge] at hgv
     simp only[cZ,List.append_nil] at hgv
     clear hK
     have X:=And.intro (And.intro aF (And.intro qx (And.intro hx21 (And.intro hx22 (And.intro hx23 (And.intro hx24 hx25)))))) hnj
     (refine run ?_;with_reducible repeat' first|exact trivial|(apply ad.mk<;>intro hb)|apply av.mk)
     refine hK0 _ _ () trivial ?_
     simp only[hgv]
     rw[← hTl]
     have X:=And.intro aF (And.intro qx (And.intro hx21 (And.intro hx22 (And.intro hx23 (And.intro hx24 hx25)))))
     exact aY (n0:=n0) [(n0,0),(n0+1,0)] hG hB hC' (hcls _) (hn:=hlenQ _)
    have hg1:(cc ns)[i]? =some (.int .i64 ns[i]):=by simp[cc,hlt]
    obtain⟨hr1,hr2⟩:=hr ns[i] (List.getElem_mem hlt)
    rw[List.drop_eq_getElem_cons hlt,cZ] at hgv
    generalize ns[i]=n at*
    have hidx:(n+1).toNat=n.toNat+1:=by omega
    have hlt2:n.toNat+1<T.length:=by omega
    have hSx:(ag T)[n.toNat+1]? =some (.agg T[n.toNat+1].cells):=by rw[bh,List.getElem?_map,List.getElem?_eq_getElem hlt2];rfl
    have hgd:T.getD (n.toNat+1) iO=T[n.toNat+1]:=by rw[List.getD_eq_getElem?_getD,List.getElem?_eq_getElem hlt2];rfl
    rw[hgd] at hgv
    have hsn1:∀ t,(P.map Prod.fst).map SV.str++[SV.str t]=((P++[(t,T[n.toNat+1])]).map Prod.fst).map SV.str:=fun t=>by simp
    have hsn2:∀ t,ag (P.map Prod.snd)++[.agg T[n.toNat+1].cells]=ag ((P++[(t,T[n.toNat+1])]).map Prod.snd):=fun t=>by rw[fP,List.map_append];rfl
    have hst:∀ t,(ag T).set (n.toNat+1) (.agg [.int .i64 1,.str t,.int .i64 0,.int .i64 0,.list 1 [],.list 8 [],.list 9 [],.list 12 []])=ag (T.set (n.toNat+1) (iS t)):=fun t=>pa T _ (iS t)
    generalize T[n.toNat+1]=x at*
    obtain⟨k2,n2,nn2,op2,ns2,ss2,bs2,as2⟩:=x
    have hkk2:(Ex.mk k2 n2 nn2 op2 ns2 ss2 bs2 as2).kind=k2:=rfl
    rw[hkk2] at hgv
    have hb1:0≤n+1:=by omega
    have hb2:n+1<(S.length:Int):=by omega
    have hcx:(Ex.mk k2 n2 nn2 op2 ns2 ss2 bs2 as2).cells=[.int .i64 k2,.str n2,.int .i64 nn2,.int .i64 op2,.list 1 (ns2.map .str),.list 8 (ag ss2),.list 9 (ah bs2),.list 12 (aw as2)]:=rfl
    rw[hcx] at hSx
    by_cases h1:k2=1
    ·rw[if_pos h1] at hgv
     simp only[List.append_nil] at hgv
     clear hK
     have X:=And.intro (And.intro aF (And.intro qx (And.intro hx21 (And.intro hx22 (And.intro hx23 (And.intro hx24 hx25)))))) (And.intro hg1 (And.intro hidx (And.intro hSx (And.intro hTl h1))))
     (refine run ?_;with_reducible repeat' first|exact trivial|(apply ad.mk<;>intro hb)|apply av.mk)
     refine hK0 _ _ () trivial ?_
     simp only[hgv]
     rw[← hTl]
     have X:=And.intro aF (And.intro qx (And.intro hx21 (And.intro hx22 (And.intro hx23 (And.intro hx24 hx25)))))
     exact aY (n0:=n0) [(n0,0),(n0+1,0)] hG hB hC' (hcls _) (hn:=hlenQ _)
    rw[if_neg h1] at hgv
    cases h2:(decide (k2=2)||decide (k2=3)||decide (k2=7))
    rotate_left
    ·have h2':k2=2∨k2=3∨k2=7:=by simpa [or_assoc] using h2
     rw[if_pos h2'] at hgv
     have X:=And.intro (And.intro aF (And.intro qx (And.intro hx21 (And.intro hx22 (And.intro hx23 (And.intro hx24 hx25)))))) (And.intro hg1 (And.intro hidx (And.intro hSx (And.intro hTl (And.intro h1 h2)))))
     (refine run ?_;with_reducible repeat' first|exact trivial|(apply ad.mk<;>intro hb)|apply av.mk)
     all_goals
      refine hK _ _ (i+1,T,P,nx) (by simp only;omega) ⟨⟨by simp only;omega,hTl,by simp only;omega,hnl,by simp only;omega⟩,hgv⟩ ?_
      simp only[List.append_assoc,List.cons_append,List.nil_append]
      exact aY (n0:=n0) [(n0,0),(n0+1,0),(n0+2,0),(n0+3,0),(n0+4,0),(n0+5,0),(n0+6,0),(n0+7,0)] hG hB hC' (hcls _) (hn:=hlenQ _) (hd:=d8)
    have h2':¬ (k2=2∨k2=3∨k2=7):=fun h=>by
     have:(decide (k2=2)||decide (k2=3)||decide (k2=7))=true:=by simpa [or_assoc] using h
     rw[h2] at this;cases this
    rw[if_neg h2'] at hgv
    have c6:=fun H=>Ci G hG nx (by omega) H
    have hnxe:(nx:Int)+1=((nx+1:Nat):Int):=by omega
    generalize Bp cf nx=tt at*
    have e1:=hsn1 tt
    have e2:=hsn2 tt
    have e3:=hst tt
    clear hsn1 hsn2 hst
    have hl1:((P.map Prod.fst).map SV.str).length=P.length:=by simp
    have hl2:(ag (P.map Prod.snd)).length=P.length:=by rw[cR];simp
    rw[hcx] at e2
    have X:=And.intro (And.intro aF (And.intro qx (And.intro hx21 (And.intro hx22 (And.intro hx23 (And.intro hx24 hx25)))))) (And.intro hg1 (And.intro hidx (And.intro hSx (And.intro hTl (And.intro h1 (And.intro h2 (And.intro hnxe (And.intro e1 (And.intro e2 (And.intro e3 (And.intro hl1 hl2)))))))))))
    (refine run ?_;with_reducible repeat' first|exact trivial|(apply ad.mk<;>intro hb)|apply av.mk)
    refine hK _ _ (i+1,T.set (n.toNat+1) (iS tt),P++[(tt,.mk k2 n2 nn2 op2 ns2 ss2 bs2 as2)],nx+1) (by simp only;omega) ⟨⟨by simp only;omega,by simp only[List.length_set];omega,by simp only[List.length_append,List.length_cons,List.length_nil];omega,by simp only;omega,by simp only;omega⟩,by simp only[hgv,List.append_assoc,List.cons_append,List.nil_append]⟩ ?_
    dsimp only
    rw[List.length_append,List.length_cons,List.length_nil]
    exact aY (n0:=n0) [(n0,0),(n0+1,0),(n0+2,0),(n0+3,0),(n0+4,0),(n0+5,0),(n0+6,0),(n0+7,0)] hG hB hC' (hcls _) (hn:=hlenQ _) (hd:=d8)
   ·have hfl:=kX cf ns S nx3
    generalize cZ cf ns S nx3=FF at hR hfl ⊢
    obtain⟨PF,SF,nxF⟩:=FF
    simp only at hR hfl ⊢
    have hEu:SV.aB 0 (List.drop 0 [SV.agg [.int .i64 4,.str nm,.int .i64 nn,.int .i64 op,.list 1 (names.map .str),.list 8 (ag SF),.list 9 (ah B),.list 12 (aw A)]])=true:=by
     have h:=Ex.bD 0 (.mk 4 nm nn op names SF B A)
     rw[show(Ex.mk 4 nm nn op names SF B A).cells=[.int .i64 4,.str nm,.int .i64 nn,.int .i64 op,.list 1 (names.map .str),.list 8 (ag SF),.list 9 (ah B),.list 12 (aw A)] from rfl] at h
     rw[List.drop_zero,SV.aB,SV.under,h];rfl
    obtain⟨W,hW1,hW2,hW3,hW4,hW5⟩:=GZ PF hEu rfl
    have hyv:(kD PF (.mk 4 nm nn op names SF B A)).sv= .agg (W 0):=by
     rw[← hW2]
     show SV.agg (kD PF (.mk 4 nm nn op names SF B A)).cells=_
     rw[pA];rfl
    rw[hyv] at hR
    rw[hW1]
    have hPl:PF.length<1099511627776:=by omega
    have hall:∀ j (h:j<PF.length),(ag (PF.map Prod.snd))[j]? =some (.agg PF[j].2.cells):=fun j h=>by rw[qI (by simpa using h)];simp
    have hnmj:∀ j (h:j<PF.length),((PF.map Prod.fst).map SV.str)[j]? =some (.str PF[j].1):=fun j h=>by simp[h]
    have hnl:((PF.map Prod.fst).map SV.str).length=PF.length:=by simp
    have X:=And.intro (And.intro aF (And.intro qx (And.intro hx21 (And.intro hx22 (And.intro hx23 (And.intro hx24 hx25)))))) hnl
    (refine run ?_;with_reducible repeat' first|exact trivial|(apply ad.mk<;>intro hb)|apply av.mk)
    refine az (fun j:Nat=>[(0,.ptr sb g0 0 0),(3,.ptr n0 0 0 0),(4,.ptr (n0+1) 0 0 0),(18,.list 1 ((PF.map Prod.fst).map .str)),(19,.list 8 (ag (PF.map Prod.snd))),(24,.int .i64 ((j:Int) - 1))])
     (fun j=>Q nxF++[.cells 0 8 [.agg (W j)],.cells 0 8 [.agg [.int .i64 0,.str [],.int .i64 0,.int .i64 0,.list 1 [],.list 8 [],.list 9 [],.list 12 []]]]) (fun j=>j) (fun j=>j≤PF.length) PF.length (Nat.le_refl _) ?_ ?_
    ·have hWu:=hW5 n0 (Nat.zero_le _) PF.length
     exact aY (n0:=n0) [(n0,0),(n0+1,0)] hG hB hC' (hcls _) (hn:=hlenQ _)
    rintro K j hj hK
    rcases Nat.eq_zero_or_pos j with h0|hpos
    ·subst h0
     have hng:¬ (0:Int)≤((0:Nat):Int) - 1:=by omega
     have hw8:=hW4 0
     have hWu:=hW5 n0 (Nat.zero_le _) 0
     have X:=And.intro (And.intro aF (And.intro qx (And.intro hx21 (And.intro hx22 (And.intro hx23 (And.intro hx24 hx25)))))) (And.intro hng hw8)
     clear hK
     (refine run ?_;with_reducible repeat' first|exact trivial|(apply ad.mk<;>intro hb)|apply av.mk)
     exact Fin.bY (n0:=n0) hR (hlenQ _) hC' (hcls _) (.same _ (by simp only[bq,SV.under];exact hWu)) ⟨rfl,rfl⟩
    obtain⟨j,rfl⟩:∃ b,j=b+1:=⟨j - 1,by omega⟩
    have hjl:j<PF.length:=by omega
    have ej:(((j+1:Nat):Int) - 1)=(j:Int):=by omega
    have hgj:(0:Int)≤(j:Int):=by omega
    have ha:=hall j hjl
    have hb:=hnmj j hjl
    have hwj:=hW3 j hjl
    generalize PF[j]=pp at*
    obtain⟨pt,px⟩:=pp
    simp only at ha hb hwj
    have h8:=hW4 (j+1)
    have h8j:=hW4 j
    have hfe:=fun L (hL:SV.aB (Q nxF++L).length (W (j+1))=true)=>rV G hG px pt (W (j+1)) h8 (Q nxF++L) hL
    rw[hwj] at hfe
    have hpx8:=px.bS
    have hpxd:=px.eD
    rw[ej]
    have X:=And.intro (And.intro aF (And.intro qx (And.intro hx21 (And.intro hx22 (And.intro hx23 (And.intro hx24 hx25)))))) (And.intro ha (And.intro hb (And.intro h8 (And.intro h8j (And.intro hgj (And.intro hpx8 hpxd))))))
    (refine run ?_;with_reducible repeat' first|exact trivial|(apply ad.mk<;>intro hb)|apply av.mk)
    refine du (hfe _ (hW5 _ (Nat.zero_le _) _)) ?_
    rintro v H' ⟨rfl,rfl⟩
    (refine run ?_;with_reducible repeat' first|exact trivial|(apply ad.mk<;>intro hb)|apply av.mk)
    refine hK _ _ j (by omega) (by omega) ?_
    have hWu:=hW5 n0 (Nat.zero_le _) j
    exact aY (n0:=n0) [(n0,0),(n0+1,0)] hG hB hC' (hcls _) (hn:=hlenQ _)
  ·have hn0':mc cf k kd nm nn op names S B A nx3=(.mk kd nm nn op names S B A,nx3):=by
    unfold mc
    rw[if_neg (fun h=>h5 ⟨h.1,by omega⟩),if_neg (fun h=>h4 h.1)]
   rw[hn0'] at hR
   by_cases hk5:kd=5
   ·have hb1:¬ (B.length:Int)=1:=fun h=>h5 ⟨hk5,by omega⟩
    subst hk5
    have X:=And.intro (And.intro aF (And.intro qx (And.intro hx21 (And.intro hx22 (And.intro hx23 (And.intro hx24 hx25)))))) (And.intro hni hb1)
    (refine run ?_;with_reducible repeat' first|exact trivial|(apply ad.mk<;>intro hb)|apply av.mk)
    all_goals exact Fin.bY (n0:=n0) hR (hlenQ _) hC' (hcls _) (bE.agg _ _ (cV (hlenQ _) 5 nm nn op names)) ⟨rfl,rfl⟩
   ·have X:=And.intro (And.intro aF (And.intro qx (And.intro hx21 (And.intro hx22 (And.intro hx23 (And.intro hx24 hx25)))))) (And.intro hni (And.intro hk5 h4))
    (refine run ?_;with_reducible repeat' first|exact trivial|(apply ad.mk<;>intro hb)|apply av.mk)
    all_goals exact Fin.bY (n0:=n0) hR (hlenQ _) hC' (hcls _) (bE.agg _ _ (cV (hlenQ _) kd nm nn op names)) ⟨rfl,rfl⟩
  ·subst h5
   have hsl:ae.length=1:=by
    simp only[dN,Ex.kind,il,Bool.and_eq_true] at hs1
    simp at hs1
    omega
   have hB1:(B.length:Int)=1:=by omega
   obtain⟨s0,hs0⟩:=List.length_eq_one_iff.1 (hSl.trans hsl)
   obtain⟨bb,hbb⟩:=List.length_eq_one_iff.1 (hBl.trans hb1)
   obtain⟨bn,be⟩:=bb
   have hSc:(ag S)[0]? =some (.agg s0.cells):=by rw[hs0];rfl
   have hBc:(ah B)[0]? =some (.agg (.str bn::be.cells)):=by rw[hbb];rfl
   have hs0w:s0.wt<4294967296:=by rw[hs0] at hsW;simp only[cw] at hsW;omega
   have hbew:be.wt<4294967296:=by rw[hbb] at hbW;simp only[aM,Bd.wt] at hbW;omega
   have hn5:mc cf k 5 nm nn op names S B A nx3=(if By k (.mk bn be) s0 then kr bn be s0 else .mk 5 nm nn op names S B A,nx3):=by
    unfold mc
    rw[if_pos ⟨rfl,by omega⟩,hs0,hbb];rfl
   rw[hn5] at hR
   obtain⟨k2,n2,nn2,op2,ns2,ss2,bs2,as2⟩:=be
   have hlb:=hlet (.mk bn (.mk k2 n2 nn2 op2 ns2 ss2 bs2 as2)) s0
   have hlb:By k (.mk bn (.mk k2 n2 nn2 op2 ns2 ss2 bs2 as2)) s0=((decide (k2=4)||decide (k2=5)||decide (k2=6)||decide (k2=8))&&decide ((aZ aU k s0.wt s0).head?=some bn)&&!decide (bn∈cX (.mk k2 n2 nn2 op2 ns2 ss2 bs2 as2))):=hlb
   rw[hlb] at hR
   have c3:=fun H=>hfst s0 H hs0w
   have c1:=fun H=>tU G hG (.mk k2 n2 nn2 op2 ns2 ss2 bs2 as2) (by omega) H
   have hfl:(cX (.mk k2 n2 nn2 op2 ns2 ss2 bs2 as2)).length≤(Ex.mk k2 n2 nn2 op2 ns2 ss2 bs2 as2).wt:=by
    have:=l7 (Ex.mk k2 n2 nn2 op2 ns2 ss2 bs2 as2).wt (.mk k2 n2 nn2 op2 ns2 ss2 bs2 as2) ([],[])
    rw[cX,fL]
    simpa using this
   have c2:=fun H=>ji G (cX (.mk k2 n2 nn2 op2 ns2 ss2 bs2 as2)) bn H (by omega)
   have hah:=fun L hL=>rV G hG (.mk k2 n2 nn2 op2 ns2 ss2 bs2 as2) bn s0.cells s0.bS (Q nx3++L) hL
   have hsu:=fun n=>Ex.bD n s0
   generalize cX (.mk k2 n2 nn2 op2 ns2 ss2 bs2 as2)=FR at*
   generalize aZ aU k s0.wt s0=F at*
   have hs8:=s0.bS
   have hsd:=s0.eD
   have hbe:(kr bn (.mk k2 n2 nn2 op2 ns2 ss2 bs2 as2) s0).sv= .agg (Cr (.mk k2 n2 nn2 op2 ns2 ss2 bs2 as2) bn s0.cells):=rfl
   have hbeu:=fun n=>Ex.bD n (.mk k2 n2 nn2 op2 ns2 ss2 bs2 as2)
   have hcx:(Ex.mk k2 n2 nn2 op2 ns2 ss2 bs2 as2).cells=[.int .i64 k2,.str n2,.int .i64 nn2,.int .i64 op2,.list 1 (ns2.map .str),.list 8 (ag ss2),.list 9 (ah bs2),.list 12 (aw as2)]:=rfl
   rw[hcx] at hBc
   cases hwb:(decide (k2=4)||decide (k2=5)||decide (k2=6)||decide (k2=8))
   ·rw[hwb,Bool.false_and,Bool.false_and,if_neg Bool.false_ne_true] at hR
    have X:=And.intro (And.intro aF (And.intro qx (And.intro hx21 (And.intro hx22 (And.intro hx23 (And.intro hx24 hx25)))))) (And.intro hni (And.intro hB1 (And.intro hBc (And.intro hSc hwb))))
    (refine run ?_;with_reducible repeat' first|exact trivial|(apply ad.mk<;>intro hb)|apply av.mk)
    all_goals exact Fin.bY (n0:=n0) hR (hlenQ _) hC' (hcls _) (bE.agg _ _ (cV (hlenQ _) 5 nm nn op names)) ⟨rfl,rfl⟩
   rw[hwb,Bool.true_and] at hR
   cases F with
   |nil=>
    rw[show(decide (([]:List aE).head?=some bn))=false from rfl,Bool.false_and,if_neg Bool.false_ne_true] at hR
    have X:=And.intro (And.intro aF (And.intro qx (And.intro hx21 (And.intro hx22 (And.intro hx23 (And.intro hx24 hx25)))))) (And.intro hni (And.intro hB1 (And.intro hBc (And.intro hSc hwb))))
    (refine run ?_;with_reducible repeat' first|exact trivial|(apply ad.mk<;>intro hb)|apply av.mk)
    all_goals exact Fin.bY (n0:=n0) hR (hlenQ _) hC' (hcls _) (bE.agg _ _ (cV (hlenQ _) 5 nm nn op names)) ⟨rfl,rfl⟩
   |cons f0 fr=>
    have hF0:((f0::fr).map SV.str)[0]? =some (.str f0):=rfl
    have hFl:(0:Int)<((f0::fr).length:Int):=by simp only[List.length_cons];omega
    have hfd:decide ((f0::fr).head?=some bn)=decide (f0=bn):=by simp only[List.head?_cons,Option.some.injEq]
    rw[hfd] at hR
    generalize f0::fr=F at*
    by_cases hfb:f0=bn
    rotate_left
    ·rw[decide_eq_false hfb,Bool.false_and,if_neg Bool.false_ne_true] at hR
     have X:=And.intro (And.intro aF (And.intro qx (And.intro hx21 (And.intro hx22 (And.intro hx23 (And.intro hx24 hx25)))))) (And.intro hni (And.intro hB1 (And.intro hBc (And.intro hSc (And.intro hwb (And.intro hF0 (And.intro hFl hfb)))))))
     (refine run ?_;with_reducible repeat' first|exact trivial|(apply ad.mk<;>intro hb)|apply av.mk)
     all_goals exact Fin.bY (n0:=n0) hR (hlenQ _) hC' (hcls _) (bE.agg _ _ (cV (hlenQ _) 5 nm nn op names)) ⟨rfl,rfl⟩
    rw[decide_eq_true hfb,Bool.true_and] at hR
    have X:=And.intro (And.intro aF (And.intro qx (And.intro hx21 (And.intro hx22 (And.intro hx23 (And.intro hx24 hx25)))))) (And.intro hni (And.intro hB1 (And.intro hBc (And.intro hSc (And.intro hwb (And.intro hF0 (And.intro hFl (And.intro hfb (And.intro hs8 hsd)))))))))
    by_cases hbf:bn∈FR
    ·rw[decide_eq_true hbf,Bool.not_true,if_neg Bool.false_ne_true] at hR
     rw[decide_eq_true hbf] at c2
     (refine run ?_;with_reducible repeat' first|exact trivial|(apply ad.mk<;>intro hb)|apply av.mk)
     all_goals exact Fin.bY (n0:=n0) hR (hlenQ _) hC' (hcls _) (bE.agg _ _ (cV (hlenQ _) 5 nm nn op names)) ⟨rfl,rfl⟩
    ·rw[decide_eq_false hbf,Bool.not_false,if_pos rfl] at hR
     rw[decide_eq_false hbf] at c2
     (refine run ?_;with_reducible repeat' first|exact trivial|(apply ad.mk<;>intro hb)|apply av.mk)
     refine du (hah _ (hsu _)) ?_
     rintro v H' ⟨rfl,rfl⟩
     (refine run ?_;with_reducible repeat' first|exact trivial|(apply ad.mk<;>intro hb)|apply av.mk)
     exact Fin.bY (n0:=n0) hR (hlenQ _) hC' (hcls _) (.same _ (by simp only[bq,SV.under];exact iW _ _ _ (hsu _))) ⟨rfl,hbe.symm⟩
end Go.Proofs.YtehfihnfeakmaaaGreatDoor
