/- A part of the proof: D3, I1, I2, I3, I4, I5, I6, I7, I8, I9, I10, D2, I11, F0, I12, J9, X4, E0, S1, M0, U3. Names and spaces are cut short by program. -/
import Derived.Test.YtedejleokilohaaGreatDoorMg
import Derived.Lib.AtoiTie
import Derived.Lib.ItoaMem
set_option linter.unusedSimpArgs false
set_option linter.unusedVariables false
set_option maxRecDepth 10000
set_option maxHeartbeats 4000000
namespace Go.Proofs.YtedejleokilohaaGreatDoor
open Go
theorem flat_seq {α:Type} (f:α→List Str) (pre:List Str) (l:List α):∃ L:Nat→List Str,L 0=pre∧(∀ (i:Nat) (h:i<l.length),L (i+1)=L i++f l[i])∧(∀ i,(L i).length≤(pre++l.flatMap f).length)∧L l.length=pre++l.flatMap f:=by
 refine⟨fun i=>pre++(l.take i).flatMap f,by simp,fun i h=>?_,fun i=>?_,by simp⟩
 ·simp only[List.take_succ_eq_append_getElem h,List.flatMap_append,List.flatMap_cons,List.flatMap_nil,List.append_nil,List.append_assoc]
 ·have h:l.flatMap f=(l.take i).flatMap f++(l.drop i).flatMap f:=by rw[← List.flatMap_append,List.take_append_drop]
  simp only[h,List.length_append];omega
def BndC (G:Gl) (m:Nat):Prop:=∀ (e:Ex) (H:List Blk),e.wt≤m→e.wt<4294967296→ACall Tryz.prog G 81 [e.sv] H (fun r H'=>H'=H++[.cells 0 1 ((bndF m e).map .str)]∧r= .sl H.length 0 0 (bndF m e).length)
theorem binders_ok (G:Gl) (hG:GClosed G):∀ m,BndC G m
 |0,e,H,h,_=>absurd e.wt_pos (by omega)
 |m+1,e,H,hm,hw0=>by
  have hrec:=binders_ok G hG m
  obtain⟨kd,nm,nn,op,names,subs,binds,alts⟩:=e
  have hle:=Ex.wt_lens kd nm nn op names subs binds alts
  have hln:=bndF_len (m+1) (.mk kd nm nn op names subs binds alts)
  have hpw:∀ p∈(Ex.mk kd nm nn op names subs binds alts).parts,p.wt≤m∧p.wt<4294967296:=fun p hp=>by have:=Ex.wt_parts hp;exact⟨by omega,by omega⟩
  rw[Ex.parts_mk] at hpw
  have eb:bndF (m+1) (.mk kd nm nn op names subs binds alts)=(if kd=3 then names else [])++subs.flatMap (bndF m)++binds.flatMap (fun b=>b.name::bndF m b.e)++(if kd=6 then [nm] else [])++alts.flatMap (fun a=>a.names++bndF m a.body):=rfl
  rw[eb] at hln ⊢
  clear eb
  have h3n:(if kd=3 then names else []).length≤names.length:=by split<;>simp
  generalize hl0:(if kd=3 then names else [])=l0 at*
  generalize hl5:(if kd=6 then [nm] else [])=l5 at*
  obtain⟨L1,a1,a2,a3,a4⟩:=flat_seq (bndF m) l0 subs
  rw[← a4] at hln ⊢
  obtain⟨L2,b1,b2,b3,b4⟩:=flat_seq (fun b:Bd=>b.name::bndF m b.e) (L1 subs.length) binds
  rw[← b4] at hln ⊢
  obtain⟨L4,d1,d2,d3,d4⟩:=flat_seq (fun a:Al=>a.names++bndF m a.body) (L2 binds.length++l5) alts
  rw[← d4] at hln ⊢
  rw[← a4] at a3
  rw[← b4] at b3
  rw[← d4] at d3
  have q4:(L2 binds.length).length+l5.length≤(L4 alts.length).length:=by have:=d3 0;rw[d1,List.length_append] at this;exact this
  have q2:(L1 subs.length).length≤(L2 binds.length).length:=by have:=b3 0;rw[b1] at this;exact this
  generalize hW:(Ex.mk kd nm nn op names subs binds alts).wt=W at*
  refine ACall.of_go TB [3] tabOK _ Tryz.func81 rfl (by decide) Tryz.ntmps81 (by simp) rfl (by simp only[initEnv,Nat.reduceAdd];rfl) fun C R' hR hC hcl hB=>?_;have X:=noX;have hC':=congrArg List.length hC
  (refine runC ?_;with_reducible repeat' first|exact trivial|(apply Fork.mk<;>intro hb)|apply Two.mk)
  refine go_cut (fun _:Unit=>[(1,.ptr H.length 0 0 0),(3,.sl (H.length+1) 0 0 l0.length)]) (fun _=>H++[.cells 0 8 [.agg [.int .i64 kd,.str nm,.int .i64 nn,.int .i64 op,.list 1 (names.map .str),.list 8 (exCells subs),.list 9 (bdCells binds),.list 12 (alCells alts)]],.cells 0 1 (l0.map .str)]) (fun _=>True) (fun K hK=>?_) (fun _ _=>?_)
  ·(refine runO ?_;with_reducible repeat' first|exact trivial|(apply Fork.mk<;>intro hb)|apply Two.mk)
   ·refine hK _ _ () trivial ?_
    rw[if_pos hb] at hl0
    subst hl0
    exact wkS (n0:=H.length) [(H.length,0),(H.length+1,0)] hG hB hC' hcl
   ·refine hK _ _ () trivial ?_
    rw[if_neg hb] at hl0
    subst hl0
    simp only[List.length_nil,List.map_nil]
    exact wkS (n0:=H.length) [(H.length,0),(H.length+1,0)] hG hB hC' hcl
  (refine runO ?_;with_reducible repeat' first|exact trivial|(apply Fork.mk<;>intro hb)|apply Two.mk)
  refine go_loop (fun i:Nat=>[(1,.ptr H.length 0 0 0),(3,.sl (H.length+1) 0 0 (L1 i).length),(18,.list 8 (exCells subs)),(19,.int .i64 subs.length),(20,.int .i64 i)])
   (fun i=>H++[.cells 0 8 [.agg [.int .i64 kd,.str nm,.int .i64 nn,.int .i64 op,.list 1 (names.map .str),.list 8 (exCells subs),.list 9 (bdCells binds),.list 12 (alCells alts)]],.cells 0 1 ((L1 i).map .str)]) (fun i=>subs.length - i) (fun i=>i≤subs.length) 0 (Nat.zero_le _) ?_ ?_
  ·rw[a1]
   exact Wk.sub (by simp[subEnv,look])
  rintro K i hi hK
  rcases Nat.lt_or_ge i subs.length with hlt|hge
  ·have c1:=fun H=>hrec subs[i] H (hpw _ (by simp)).1 (hpw _ (by simp)).2
   have e1:=a2 i hlt
   have e2:=a3 (i+1)
   have e3:=a3 i
   have e4:=bndF_len m subs[i]
   have e5:=(hpw subs[i] (by simp)).2
   rw[e1,List.length_append] at e2
   generalize bndF m subs[i]=l at*
   generalize L1 i=l1 at*
   have X:=And.intro noX (show(l1.map SV.str).length=l1.length∧(l.map SV.str).length=l.length from⟨List.length_map ..,List.length_map ..⟩)
   (refine run ?_;with_reducible repeat' first|exact trivial|(apply Fork.mk<;>intro hb)|apply Two.mk)
   refine hK _ _ (i+1) (by omega) (by omega) ?_
   rw[e1,List.map_append,show(l1++l).length=l1.length+l.length from List.length_append ..]
   exact wkS (n0:=H.length) [(H.length,0),(H.length+1,0)] hG hB hC' hcl
  obtain rfl:i=subs.length:=by omega
  clear hK
  (refine runO ?_;with_reducible repeat' first|exact trivial|(apply Fork.mk<;>intro hb)|apply Two.mk)
  refine go_loop (fun i:Nat=>[(1,.ptr H.length 0 0 0),(3,.sl (H.length+1) 0 0 (L2 i).length),(30,.list 9 (bdCells binds)),(31,.int .i64 binds.length),(32,.int .i64 i)])
   (fun i=>H++[.cells 0 8 [.agg [.int .i64 kd,.str nm,.int .i64 nn,.int .i64 op,.list 1 (names.map .str),.list 8 (exCells subs),.list 9 (bdCells binds),.list 12 (alCells alts)]],.cells 0 1 ((L2 i).map .str)]) (fun i=>binds.length - i) (fun i=>i≤binds.length) 0 (Nat.zero_le _) ?_ ?_
  ·rw[b1]
   exact Wk.sub (by simp[subEnv,look])
  rintro K i hi hK
  rcases Nat.lt_or_ge i binds.length with hlt|hge
  ·have hpb:=hpw binds[i].e (by simp;exact .inr (.inl ⟨_,List.getElem_mem hlt,rfl⟩))
   have c1:=fun H=>hrec binds[i].e H hpb.1 hpb.2
   have e1:=b2 i hlt
   have e2:=b3 (i+1)
   have e3:=b3 i
   have e4:=bndF_len m binds[i].e
   rw[e1,List.length_append] at e2
   simp only[List.length_cons] at e2
   generalize bndF m binds[i].e=l at*
   generalize L2 i=l1 at*
   have X:=And.intro noX (show(l1.map SV.str).length=l1.length∧(l.map SV.str).length=l.length from⟨List.length_map ..,List.length_map ..⟩)
   (refine run ?_;with_reducible repeat' first|exact trivial|(apply Fork.mk<;>intro hb)|apply Two.mk)
   refine hK _ _ (i+1) (by omega) (by omega) ?_
   rw[e1,List.map_append,List.map_cons,show(l1++binds[i].name::l).length=l1.length+(1+l.length) from by simp;omega]
   exact wkS (n0:=H.length) [(H.length,0),(H.length+1,0)] hG hB hC' hcl
  obtain rfl:i=binds.length:=by omega
  clear hK
  (refine runC ?_;with_reducible repeat' first|exact trivial|(apply Fork.mk<;>intro hb)|apply Two.mk)
  refine go_condDF rfl (by omega) ?_
  (refine runC ?_;with_reducible repeat' first|exact trivial|(apply Fork.mk<;>intro hb)|apply Two.mk)
  refine go_cut (fun _:Unit=>[(1,.ptr H.length 0 0 0),(3,.sl (H.length+1) 0 0 (L2 binds.length++l5).length)]) (fun _=>H++[.cells 0 8 [.agg [.int .i64 kd,.str nm,.int .i64 nn,.int .i64 op,.list 1 (names.map .str),.list 8 (exCells subs),.list 9 (bdCells binds),.list 12 (alCells alts)]],.cells 0 1 ((L2 binds.length++l5).map .str)]) (fun _=>True) (fun K hK=>?_) (fun _ _=>?_)
  ·have X:=And.intro noX (show((L2 binds.length).map SV.str).length=(L2 binds.length).length from List.length_map ..)
   (refine runO ?_;with_reducible repeat' first|exact trivial|(apply Fork.mk<;>intro hb)|apply Two.mk)
   ·refine hK _ _ () trivial ?_
    rw[if_pos hb] at hl5
    subst hl5
    rw[List.map_append,List.length_append,List.length_singleton]
    exact wkS (n0:=H.length) [(H.length,0),(H.length+1,0)] hG hB hC' hcl
   ·refine hK _ _ () trivial ?_
    rw[if_neg hb] at hl5
    subst hl5
    rw[List.append_nil]
    exact wkS (n0:=H.length) [(H.length,0),(H.length+1,0)] hG hB hC' hcl
  (refine runO ?_;with_reducible repeat' first|exact trivial|(apply Fork.mk<;>intro hb)|apply Two.mk)
  refine go_loop (fun i:Nat=>[(1,.ptr H.length 0 0 0),(3,.sl (H.length+1) 0 0 (L4 i).length),(55,.list 12 (alCells alts)),(56,.int .i64 alts.length),(57,.int .i64 i)])
   (fun i=>H++[.cells 0 8 [.agg [.int .i64 kd,.str nm,.int .i64 nn,.int .i64 op,.list 1 (names.map .str),.list 8 (exCells subs),.list 9 (bdCells binds),.list 12 (alCells alts)]],.cells 0 1 ((L4 i).map .str)]) (fun i=>alts.length - i) (fun i=>i≤alts.length) 0 (Nat.zero_le _) ?_ ?_
  ·rw[d1]
   exact Wk.sub (by simp[subEnv,look])
  rintro K i hi hK
  rcases Nat.lt_or_ge i alts.length with hlt|hge
  ·have hpb:=hpw alts[i].body (by simp;exact .inr (.inr ⟨_,List.getElem_mem hlt,rfl⟩))
   have c1:=fun H=>hrec alts[i].body H hpb.1 hpb.2
   have e1:=d2 i hlt
   have e2:=d3 (i+1)
   have e3:=d3 i
   have e4:=bndF_len m alts[i].body
   rw[e1,List.length_append] at e2
   simp only[List.length_append] at e2
   generalize bndF m alts[i].body=l at*
   generalize L4 i=l1 at*
   have X:=And.intro noX (show(l1.map SV.str).length=l1.length∧(l.map SV.str).length=l.length from⟨List.length_map ..,List.length_map ..⟩)
   (refine run ?_;with_reducible repeat' first|exact trivial|(apply Fork.mk<;>intro hb)|apply Two.mk)
   refine hK _ _ (i+1) (by omega) (by omega) ?_
   rw[e1,List.map_append,List.map_append,show(l1++(alts[i].names++l)).length=l1.length+(alts[i].names.length+l.length) from by simp]
   exact wkS (n0:=H.length) [(H.length,0),(H.length+1,0)] hG hB hC' hcl
  obtain rfl:i=alts.length:=by omega
  clear hK
  (refine runO ?_;with_reducible repeat' first|exact trivial|(apply Fork.mk<;>intro hb)|apply Two.mk)
  exact finK [(H.length+1,0)] (.sl H.length 0 0 (L4 alts.length).length) [.cells 0 1 ((L4 alts.length).map .str)] hR hC' hcl ⟨rfl,rfl⟩
structure Cn where
 name:Str
 arity:Int
 tag:Int
 family:Int
deriving DecidableEq,Inhabited
def Cn.cells (c:Cn):List SV:=[.str c.name,.int .i64 c.arity,.int .i64 c.tag,.int .i64 c.family]
def Cn.sv (c:Cn):SV:= .agg c.cells
def cnCells (l:List Cn):List SV:=l.map Cn.sv
structure Pg where
 cons:List Cn
 binds:List Bd
def Pg.cells (p:Pg):List SV:=[.list 4 (cnCells p.cons),.list 9 (bdCells p.binds)]
def Pg.sv (p:Pg):SV:= .agg p.cells
theorem cnCells_len (l:List Cn):(cnCells l).length=l.length:=by simp[cnCells]
theorem cnCells_get (l:List Cn) {i:Nat} (h:i<l.length):(cnCells l)[i]? =some (.agg l[i].cells):=by simp[cnCells,h,Cn.sv]
theorem cnCells_get2 (l:List Cn) (i:Nat):(cnCells l)[i]? =l[i]?.map fun c=> .agg [.str c.name,.int .i64 c.arity,.int .i64 c.tag,.int .i64 c.family]:=by simp[cnCells,Cn.sv,Cn.cells];rfl
attribute [go_sem] cnCells_len cnCells_get2
theorem cnCells_under (n:Nat) (l:List Cn):SV.underL n (cnCells l)=true:=SV.underL_map fun _ _=>by simp[Cn.sv,Cn.cells,SV.under,SV.underL]
theorem Cn.cells_len (c:Cn):c.cells.length=4:=rfl
def allF:Nat→(Ex→Bool)→Ex→Bool
 |0,_,_=>true
 |m+1,p,e=>p e&&e.parts.all (allF m p)
theorem allF_fuel (p:Ex→Bool):∀ (m m':Nat) (e:Ex),e.wt≤m→e.wt≤m'→allF m p e=allF m' p e
 |0,_,e,h,_=>absurd e.wt_pos (by omega)
 |m+1,0,e,_,h=>absurd e.wt_pos (by omega)
 |m+1,m'+1,e,h,h'=>by
  have h1:e.parts.all (allF m p)=e.parts.all (allF m' p):=by
   rw[Bool.eq_iff_iff,List.all_eq_true,List.all_eq_true]
   refine forall_congr' fun x=>forall_congr' fun hx=>?_
   have:=Ex.wt_parts hx
   rw[allF_fuel p m m' x (by omega) (by omega)]
  rw[allF,allF,h1]
def allS (p:Ex→Bool) (e:Ex):Bool:=allF e.wt p e
theorem allS_eq (p:Ex→Bool) (e:Ex):allS p e=(p e&&e.parts.all (allS p)):=by
 have hp:=e.wt_pos
 obtain⟨m,hm⟩:∃ m,e.wt=m+1:=⟨e.wt - 1,by omega⟩
 have h1:e.parts.all (allF m p)=e.parts.all (allS p):=by
  rw[Bool.eq_iff_iff,List.all_eq_true,List.all_eq_true]
  refine forall_congr' fun x=>forall_congr' fun hx=>?_
  have:=Ex.wt_parts hx
  rw[allS,allF_fuel p m x.wt x (by omega) (Nat.le_refl _)]
 rw[allS,hm,allF,h1]
def argS (op:Int):Int:=if 1≤op∧op≤8 then 2 else if op=10 then 1 else if op=9∨op=11 then 0 else -1
def badAl (a:Al):Bool:=if a.kind=1 then !decide (a.n=0) else if a.kind=2 then (!decide (a.name=[])||decide (0<a.names.length)) else if a.kind=3 then (!decide (a.name=[])||decide (0<a.names.length)||!decide (a.n=0)) else true
def oddS (name names binds alts op n:Bool) (subs:Int):Ex→Bool
 | .mk kd nm nn o ns ss bs als=>(!name&&!decide (nm=[]))||(!names&&decide (0<ns.length))||(!binds&&decide (0<bs.length))||(!alts&&decide (0<als.length))||(!op&&!decide (o=0))||(op&&decide (argS o<0))||(!n&&!decide (nn=0))||(decide (0≤subs)&&!decide ((ss.length:Int)=subs))
def shpC (e:Ex):Bool:=
 if e.kind=1 then !oddS true false false false false false 0 e&&!(e.alts.any badAl)
 else if e.kind=2 then !oddS false false false false false true 0 e&&!(e.alts.any badAl)
 else if e.kind=3 then !oddS false true false false false false 1 e&&!(e.alts.any badAl)
 else if e.kind=4 then !oddS false false false false false false (-1) e&&!(e.alts.any badAl)
 else if e.kind=5 then !oddS false false true false false false 1 e&&!(e.alts.any badAl)
 else if e.kind=6 then !oddS true false false true false false 1 e&&!(e.alts.any badAl)
 else if e.kind=7 then !oddS true false false false false false (-1) e&&!(e.alts.any badAl)
 else if e.kind=8 then !oddS false false false false true false (-1) e&&!(e.alts.any badAl)
 else false
def esC (l:List Cn):List (SV×SV):=l.map fun c=>(.str c.name,c.sv)
def findCn:List Cn→Str→Option Cn
 |[],_=>none
 |c::r,s=>if s=c.name then some c else findCn r s
def noCn:Cn:=⟨[],0,0,0⟩
def getCn (l:List Cn) (s:Str):Cn:=(findCn l s).getD noCn
theorem findSV_esC:∀ (l:List Cn) (s:Str),findSV (esC l) (.str s)=(findCn l s).map Cn.sv
 |[],s=>rfl
 |c::r,s=>by
  simp only[esC,List.map_cons,findSV,SV.keyEq,findCn]
  by_cases h:s=c.name
  ·simp[h]
  ·simp only[beq_eq_false_iff_ne.2 h,h,if_false,Bool.false_eq_true]
   exact findSV_esC r s
theorem findSV_esC0 (l:List Cn) (s:Str):(findSV (esC l) (.str s)).getD (.agg [.str [],.int .i64 0,.int .i64 0,.int .i64 0])= .agg (getCn l s).cells:=by
 rw[findSV_esC,getCn]
 cases findCn l s<;>rfl
theorem esC_has (l:List Cn) (s:Str):(findSV (esC l) (.str s)).isSome=(findCn l s).isSome:=by
 rw[findSV_esC];cases findCn l s<;>rfl
theorem setSV_esC:∀ (l:List Cn) (c:Cn),findCn l c.name=none→setSV (esC l) (.str c.name) (.agg c.cells)=esC (l++[c])
 |[],c,_=>rfl
 |d::r,c,h=>by
  simp only[esC,List.map_cons,setSV,SV.keyEq,findCn,List.cons_append] at h ⊢
  by_cases h2:c.name=d.name
  ·rw[if_pos h2] at h;cases h
  ·rw[if_neg h2] at h
   simp only[beq_eq_false_iff_ne.2 h2,if_false,Bool.false_eq_true]
   rw[show setSV (List.map _ r) (.str c.name) (.agg c.cells)=_ from setSV_esC r c h]
   rfl
theorem esC_under (n:Nat):∀ l:List Cn,belowE n (esC l)=true
 |[]=>rfl
 |p::l=>by simp only[esC,List.map_cons,belowE,SV.under,SV.underL,Cn.sv,Cn.cells,Bool.and_self,Bool.true_and];exact esC_under n l
def eqS (a b:Str):Bool:=decide (a=b)
def okCn (l:List Cn) (c:Cn):Bool:=!((findCn l c.name).isSome||eqS c.name []||decide (c.arity<0)||decide (100<c.arity)||decide (c.family<1)||decide (1000<c.family)||decide (c.tag<0)||decide (c.family≤c.tag))
def okCns:List Cn→List Cn→Bool
 |_,[]=>true
 |l,c::r=>okCn l c&&okCns (l++[c]) r
def hasCn (l:List Cn) (s:Str) (k:Int):Bool:=(findCn l s).isSome&&decide ((getCn l s).arity=k)
def fulS (l:List Cn) (e:Ex):Bool:=
 if e.kind=3 then decide (0<e.names.length) else if e.kind=4 then decide (1<e.subs.length) else if e.kind=5 then decide (0<e.binds.length)
 else if e.kind=7 then hasCn l e.name e.subs.length else if e.kind=8 then decide ((e.subs.length:Int)=argS e.op)
 else !(e.alts.any fun a=>decide (a.kind=1)&&!hasCn l a.name a.names.length)
def restS (l:List Al):List Al:=if l.length=0 then l else if ((l.getLast?.map Al.kind).getD 0)=3 then l.take (l.length - 1) else l
def oddAl (cs:List Cn) (l:List Al) (k0:Int) (s0:Str) (a:Al):Bool:=
 decide (a.kind=3)||!decide (a.kind=k0)||(decide (a.name∈l.map Al.name)&&decide (a.kind=1))||(decide (a.n∈l.map Al.n)&&decide (a.kind=2))||(decide (a.kind=1)&&!decide ((getCn cs a.name).family=(getCn cs s0).family))
def oddAls (cs:List Cn) (k0:Int) (s0:Str):List Al→List Al→Bool
 |_,[]=>false
 |l,a::r=>oddAl cs l k0 s0 a||oddAls cs k0 s0 (l++[a]) r
def hdK (l:List Al):Int:=(l.head?.map Al.kind).getD 0
def hdN (l:List Al):Str:=(l.head?.map Al.name).getD []
def chsS (cs:List Cn) (e:Ex):Bool:=if e.kind≠6 then true else !oddAls cs (hdK (restS e.alts)) (hdN (restS e.alts)) [] (restS e.alts)&&decide (0<e.alts.length)
def kno4:List Cn:=[⟨[80,114,105,109,46,70,97,108,115,101],0,0,2⟩,⟨[80,114,105,109,46,84,114,117,101],0,1,2⟩,⟨[80,114,105,109,46,40,41],0,0,1⟩,⟨[80,114,105,109,46,66,111,120],1,0,1⟩]
def knoS (l:List Cn):Bool:=kno4.all fun c=>decide (getCn l c.name=c)
def bindersP (l:List Bd):List Str:=l.flatMap fun b=>b.name::bnds b.e
def dedNs (l:List Str):Nat→List Str
 |0=>[]
 |m+1=>if 0<m∧l.getD m []=l.getD (m - 1) [] then dedNs l m else dedNs l m++[l.getD m []]
def dedS (l:List Str):List Str:=dedNs l l.length
def badNames (l:List Bd):Bool:=(decide (0<(bindersP l).length)&&eqS ((sortS (bindersP l)).getD 0 []) [])||decide ((dedS (sortS (bindersP l))).length≠(bindersP l).length)
def topB (l:List Bd):List (Str×Int):=l.foldl (fun t b=>setB t b.name 1) []
def bndS (t:List (Str×Int)) (b:Bd):Bool:=decide ((unbF b.e.wt b.e (t,[])).2.length=0)
def mainN:Str:=[77,97,105,110,46,109,97,105,110]
def sizeP (l:List Bd):Nat:=(l.map fun b=>b.e.size).sum
def depP (l:List Bd):Nat:=maxL (l.map fun b=>dep b.e)
def lintS (p:Pg):Int:=
 if 100000<sizeP p.binds then 3 else if 1000<depP p.binds then 4
 else if !(p.binds.all fun b=>allS shpC b.e) then 120
 else if !okCns [] p.cons then 121
 else if badNames p.binds then 122
 else if !(p.binds.all (bndS (topB p.binds))) then 123
 else if !(knoS p.cons&&p.binds.all fun b=>allS (fulS p.cons) b.e) then 124
 else if !(p.binds.all fun b=>allS (chsS p.cons) b.e) then 125
 else if cntB (topB p.binds) mainN=0 then 126 else 0
theorem idxP_any {α:Type} (p:α→Bool) (l:List α):(match l.findIdx? p with|some i=>decide (0≤(i:Int))|none=>false)=l.any p:=by
 cases h:l.findIdx? p with
 |none=>rw[List.findIdx?_eq_none_iff] at h;simp only;symm;rw[List.any_eq_false];intro x hx;simp[h x hx]
 |some i=>
  obtain⟨hi,hp,_⟩:=List.findIdx?_eq_some_iff_getElem.1 h
  have:(0:Int)≤i:=by omega
  simp only[this,decide_true]
  symm;rw[List.any_eq_true]
  exact⟨_,List.getElem_mem hi,hp⟩
theorem anyBd_ok (G:Gl) (hG:GClosed G) (f:SV) (p:Bd→Bool) (V:List Bd) (H:List Blk) (hl:V.length<1125899906842624) (hfu:f.under H.length=true)
 (hf:∀ x∈V,ACallV Tryz.prog G f [x.sv] H (fun r H'=>H'=H∧r= .bool (p x))):
 ACall Tryz.prog G 30 [.list 9 (bdCells V),f] H (fun r H'=>H'=H∧r= .bool (V.any p)):=by
 have hidx:ACall Tryz.prog G 79 [.list 9 (bdCells V),f] H (fun r H'=>H'=H∧r= .int .i64 (match V.findIdx? p with|some i=>(i:Int)|none=> -1)):=by
  have hlm:(bdCells V).length=V.length:=by rw[bdCells_map,List.length_map]
  refine ACall.of_go TB [] tabOK _ Tryz.func79 rfl (by decide) Tryz.ntmps79 (by simp) rfl (by simp only[initEnv,Nat.reduceAdd];rfl) fun C R' hR hC hcl hB=>?_;have X:=noX;have hC':=congrArg List.length hC
  have X:=And.intro X hlm
  have hcl1:=hcl
  (refine run ?_;with_reducible repeat' first|exact trivial|(apply Fork.mk<;>intro hb)|apply Two.mk)
  refine go_loop (fun k:Nat=>[(0,.list 9 (bdCells V)),(1,f),(7,.int .i64 V.length),(8,.int .i64 k)]) (fun _=>H) (fun k=>V.length - k) (fun k=>k≤V.length∧∀ x∈V.take k,p x=false) 0 ⟨Nat.zero_le _,by simp⟩ (Wk.sub (by simp[subEnv,look])) ?_
  rintro K k ⟨hk,hno⟩ hK
  rcases Nat.lt_or_ge k V.length with hlt|hge
  ·have e1:(bdCells V)[k]? =some (.agg V[k].cells):=by simp[bdCells_map,hlt,Bd.sv]
   have hfk:=hf V[k] (List.getElem_mem hlt)
   have hsv:V[k].sv= .agg V[k].cells:=rfl
   rw[hsv] at hfk
   have X:=And.intro X e1
   (refine run ?_;with_reducible repeat' first|exact trivial|(apply Fork.mk<;>intro hb)|apply Two.mk)
   refine callV hfk ?_
   rintro r H' ⟨rfl,rfl⟩
   (refine run ?_;with_reducible repeat' first|exact trivial|(apply Fork.mk<;>intro hb)|apply Two.mk)
   ·have hfi:V.findIdx? p=some k:=by
     rw[List.findIdx?_eq_some_iff_getElem]
     refine⟨hlt,by simpa using hb,fun j hj=>?_⟩
     have:=hno (V[j]'(by omega)) (by rw[List.mem_take_iff_getElem];exact⟨j,by omega,rfl⟩)
     simp[this]
    refine Fin.out hR ⟨rfl,?_⟩
    simp only[resSV,hfi]
   ·refine hK _ _ (k+1) (by omega) ⟨by omega,?_⟩ (Wk.sub (by simp[subEnv,look]))
    rw[List.take_succ_eq_append_getElem hlt]
    intro x hx
    rcases List.mem_append.1 hx with hx|hx
    ·exact hno x hx
    ·rw[List.mem_singleton.1 hx];exact hb
  ·have:k=V.length:=by omega
   subst this
   clear hK
   have X:=And.intro X (Int.lt_irrefl (V.length:Int))
   (refine run ?_;with_reducible repeat' first|exact trivial|(apply Fork.mk<;>intro hb)|apply Two.mk)
   have hfi:V.findIdx? p=none:=by rw[List.findIdx?_eq_none_iff];rw[List.take_length] at hno;exact hno
   refine Fin.out hR ⟨rfl,?_⟩
   simp only[resSV,hfi]
 have h2:=idxP_any p V
 generalize hI:(match V.findIdx? p with|some i=>(i:Int)|none=> -1)=I at hidx
 refine ACall.of_go TB [] tabOK _ Tryz.func30 rfl (by decide) Tryz.ntmps30 (by simp) rfl (by simp only[initEnv,Nat.reduceAdd];rfl) fun C R' hR hC hcl hB=>?_;have X:=noX;have hC':=congrArg List.length hC
 (refine run ?_;with_reducible repeat' first|exact trivial|(apply Fork.mk<;>intro hb)|apply Two.mk)
 refine callS hidx ?_
 rintro r H' ⟨rfl,rfl⟩
 (refine run ?_;with_reducible repeat' first|exact trivial|(apply Fork.mk<;>intro hb)|apply Two.mk)
 refine Fin.out hR ⟨rfl,?_⟩
 rw[← h2,← hI]
 simp only[resSV]
 cases V.findIdx? p with
 |none=>rfl
 |some i=>rfl
theorem anyAl_ok (G:Gl) (hG:GClosed G) (f:SV) (p:Al→Bool) (V:List Al) (H:List Blk) (hl:V.length<1125899906842624) (hfu:f.under H.length=true)
 (hf:∀ x∈V,ACallV Tryz.prog G f [x.sv] H (fun r H'=>H'=H∧r= .bool (p x))):
 ACall Tryz.prog G 88 [.list 12 (alCells V),f] H (fun r H'=>H'=H∧r= .bool (V.any p)):=by
 have hidx:ACall Tryz.prog G 134 [.list 12 (alCells V),f] H (fun r H'=>H'=H∧r= .int .i64 (match V.findIdx? p with|some i=>(i:Int)|none=> -1)):=by
  have hlm:(alCells V).length=V.length:=by rw[alCells_map,List.length_map]
  refine ACall.of_go TB [] tabOK _ Tryz.func134 rfl (by decide) Tryz.ntmps134 (by simp) rfl (by simp only[initEnv,Nat.reduceAdd];rfl) fun C R' hR hC hcl hB=>?_;have X:=noX;have hC':=congrArg List.length hC
  have X:=And.intro X hlm
  have hcl1:=hcl
  (refine run ?_;with_reducible repeat' first|exact trivial|(apply Fork.mk<;>intro hb)|apply Two.mk)
  refine go_loop (fun k:Nat=>[(0,.list 12 (alCells V)),(1,f),(7,.int .i64 V.length),(8,.int .i64 k)]) (fun _=>H) (fun k=>V.length - k) (fun k=>k≤V.length∧∀ x∈V.take k,p x=false) 0 ⟨Nat.zero_le _,by simp⟩ (Wk.sub (by simp[subEnv,look])) ?_
  rintro K k ⟨hk,hno⟩ hK
  rcases Nat.lt_or_ge k V.length with hlt|hge
  ·have e1:(alCells V)[k]? =some (.agg V[k].cells):=by simp[alCells_map,hlt,Al.sv]
   have hfk:=hf V[k] (List.getElem_mem hlt)
   have hsv:V[k].sv= .agg V[k].cells:=rfl
   rw[hsv] at hfk
   have X:=And.intro X e1
   (refine run ?_;with_reducible repeat' first|exact trivial|(apply Fork.mk<;>intro hb)|apply Two.mk)
   refine callV hfk ?_
   rintro r H' ⟨rfl,rfl⟩
   (refine run ?_;with_reducible repeat' first|exact trivial|(apply Fork.mk<;>intro hb)|apply Two.mk)
   ·have hfi:V.findIdx? p=some k:=by
     rw[List.findIdx?_eq_some_iff_getElem]
     refine⟨hlt,by simpa using hb,fun j hj=>?_⟩
     have:=hno (V[j]'(by omega)) (by rw[List.mem_take_iff_getElem];exact⟨j,by omega,rfl⟩)
     simp[this]
    refine Fin.out hR ⟨rfl,?_⟩
    simp only[resSV,hfi]
   ·refine hK _ _ (k+1) (by omega) ⟨by omega,?_⟩ (Wk.sub (by simp[subEnv,look]))
    rw[List.take_succ_eq_append_getElem hlt]
    intro x hx
    rcases List.mem_append.1 hx with hx|hx
    ·exact hno x hx
    ·rw[List.mem_singleton.1 hx];exact hb
  ·have:k=V.length:=by omega
   subst this
   clear hK
   have X:=And.intro X (Int.lt_irrefl (V.length:Int))
   (refine run ?_;with_reducible repeat' first|exact trivial|(apply Fork.mk<;>intro hb)|apply Two.mk)
   have hfi:V.findIdx? p=none:=by rw[List.findIdx?_eq_none_iff];rw[List.take_length] at hno;exact hno
   refine Fin.out hR ⟨rfl,?_⟩
   simp only[resSV,hfi]
 have h2:=idxP_any p V
 generalize hI:(match V.findIdx? p with|some i=>(i:Int)|none=> -1)=I at hidx
 refine ACall.of_go TB [] tabOK _ Tryz.func88 rfl (by decide) Tryz.ntmps88 (by simp) rfl (by simp only[initEnv,Nat.reduceAdd];rfl) fun C R' hR hC hcl hB=>?_;have X:=noX;have hC':=congrArg List.length hC
 (refine run ?_;with_reducible repeat' first|exact trivial|(apply Fork.mk<;>intro hb)|apply Two.mk)
 refine callS hidx ?_
 rintro r H' ⟨rfl,rfl⟩
 (refine run ?_;with_reducible repeat' first|exact trivial|(apply Fork.mk<;>intro hb)|apply Two.mk)
 refine Fin.out hR ⟨rfl,?_⟩
 rw[← h2,← hI]
 simp only[resSV]
 cases V.findIdx? p with
 |none=>rfl
 |some i=>rfl
theorem anyEx_ok (G:Gl) (hG:GClosed G) (f:SV) (p:Ex→Bool) (V:List Ex) (H:List Blk) (hl:V.length<1125899906842624) (hfu:f.under H.length=true)
 (hf:∀ x∈V,ACallV Tryz.prog G f [x.sv] H (fun r H'=>H'=H∧r= .bool (p x))):
 ACall Tryz.prog G 97 [.list 8 (exCells V),f] H (fun r H'=>H'=H∧r= .bool (V.any p)):=by
 have hidx:ACall Tryz.prog G 136 [.list 8 (exCells V),f] H (fun r H'=>H'=H∧r= .int .i64 (match V.findIdx? p with|some i=>(i:Int)|none=> -1)):=by
  have hlm:(exCells V).length=V.length:=by rw[exCells_map,List.length_map]
  refine ACall.of_go TB [] tabOK _ Tryz.func136 rfl (by decide) Tryz.ntmps136 (by simp) rfl (by simp only[initEnv,Nat.reduceAdd];rfl) fun C R' hR hC hcl hB=>?_;have X:=noX;have hC':=congrArg List.length hC
  have X:=And.intro X hlm
  have hcl1:=hcl
  (refine run ?_;with_reducible repeat' first|exact trivial|(apply Fork.mk<;>intro hb)|apply Two.mk)
  refine go_loop (fun k:Nat=>[(0,.list 8 (exCells V)),(1,f),(7,.int .i64 V.length),(8,.int .i64 k)]) (fun _=>H) (fun k=>V.length - k) (fun k=>k≤V.length∧∀ x∈V.take k,p x=false) 0 ⟨Nat.zero_le _,by simp⟩ (Wk.sub (by simp[subEnv,look])) ?_
  rintro K k ⟨hk,hno⟩ hK
  rcases Nat.lt_or_ge k V.length with hlt|hge
  ·have e1:(exCells V)[k]? =some (.agg V[k].cells):=by simp[exCells_map,hlt,Ex.sv]
   have hfk:=hf V[k] (List.getElem_mem hlt)
   have hsv:V[k].sv= .agg V[k].cells:=rfl
   rw[hsv] at hfk
   have X:=And.intro X e1
   (refine run ?_;with_reducible repeat' first|exact trivial|(apply Fork.mk<;>intro hb)|apply Two.mk)
   refine callV hfk ?_
   rintro r H' ⟨rfl,rfl⟩
   (refine run ?_;with_reducible repeat' first|exact trivial|(apply Fork.mk<;>intro hb)|apply Two.mk)
   ·have hfi:V.findIdx? p=some k:=by
     rw[List.findIdx?_eq_some_iff_getElem]
     refine⟨hlt,by simpa using hb,fun j hj=>?_⟩
     have:=hno (V[j]'(by omega)) (by rw[List.mem_take_iff_getElem];exact⟨j,by omega,rfl⟩)
     simp[this]
    refine Fin.out hR ⟨rfl,?_⟩
    simp only[resSV,hfi]
   ·refine hK _ _ (k+1) (by omega) ⟨by omega,?_⟩ (Wk.sub (by simp[subEnv,look]))
    rw[List.take_succ_eq_append_getElem hlt]
    intro x hx
    rcases List.mem_append.1 hx with hx|hx
    ·exact hno x hx
    ·rw[List.mem_singleton.1 hx];exact hb
  ·have:k=V.length:=by omega
   subst this
   clear hK
   have X:=And.intro X (Int.lt_irrefl (V.length:Int))
   (refine run ?_;with_reducible repeat' first|exact trivial|(apply Fork.mk<;>intro hb)|apply Two.mk)
   have hfi:V.findIdx? p=none:=by rw[List.findIdx?_eq_none_iff];rw[List.take_length] at hno;exact hno
   refine Fin.out hR ⟨rfl,?_⟩
   simp only[resSV,hfi]
 have h2:=idxP_any p V
 generalize hI:(match V.findIdx? p with|some i=>(i:Int)|none=> -1)=I at hidx
 refine ACall.of_go TB [] tabOK _ Tryz.func97 rfl (by decide) Tryz.ntmps97 (by simp) rfl (by simp only[initEnv,Nat.reduceAdd];rfl) fun C R' hR hC hcl hB=>?_;have X:=noX;have hC':=congrArg List.length hC
 (refine run ?_;with_reducible repeat' first|exact trivial|(apply Fork.mk<;>intro hb)|apply Two.mk)
 refine callS hidx ?_
 rintro r H' ⟨rfl,rfl⟩
 (refine run ?_;with_reducible repeat' first|exact trivial|(apply Fork.mk<;>intro hb)|apply Two.mk)
 refine Fin.out hR ⟨rfl,?_⟩
 rw[← h2,← hI]
 simp only[resSV]
 cases V.findIdx? p with
 |none=>rfl
 |some i=>rfl
theorem eachP_ok (G:Gl) (hG:GClosed G) (e:Ex) (hw:e.wt<549755813888) (fv:SV) (p:Ex→Bool) (H:List Blk) (hfu:fv.under H.length=true)
 (hy:∀ x∈e.parts,∀ X,ACallV Tryz.prog G fv [x.sv] (H++X) (fun r H'=>H'=H++X∧r= .bool (p x))):
 ACall Tryz.prog G 77 [e.sv,fv] H (fun r H'=>H'=H∧r= .bool (e.parts.all p)):=by
 obtain⟨kd,nm,nn,op,names,subs,binds,alts⟩:=e
 have hle:=Ex.wt_lens kd nm nn op names subs binds alts
 rw[Ex.parts_mk] at hy ⊢
 rw[List.all_append,List.all_append,List.all_map,List.all_map]
 have p1:∀ i (h:i<subs.length),subs[i]∈subs++(binds.map Bd.e++alts.map Al.body):=fun i h=>List.mem_append_left _ (List.getElem_mem h)
 have p2:∀ i (h:i<binds.length),binds[i].e∈subs++(binds.map Bd.e++alts.map Al.body):=fun i h=>List.mem_append_right _ (List.mem_append_left _ (List.mem_map.2 ⟨_,List.getElem_mem h,rfl⟩))
 have p3:∀ i (h:i<alts.length),alts[i].body∈subs++(binds.map Bd.e++alts.map Al.body):=fun i h=>List.mem_append_right _ (List.mem_append_right _ (List.mem_map.2 ⟨_,List.getElem_mem h,rfl⟩))
 refine ACall.of_go TB [] tabOK _ Tryz.func77 rfl (by decide) Tryz.ntmps77 (by simp) rfl (by simp only[initEnv,Nat.reduceAdd];rfl) fun C R' hR hC hcl hB=>?_;have X:=noX;have hC':=congrArg List.length hC
 have X:=noX
 (refine runO ?_;with_reducible repeat' first|exact trivial|(apply Fork.mk<;>intro hb)|apply Two.mk)
 refine go_loop (fun i:Nat=>[(1,fv),(2,.ptr H.length 0 0 0),(12,.list 8 (exCells subs)),(13,.int .i64 subs.length),(14,.int .i64 i)])
  (fun i=>H++[.cells 0 8 [.agg [.int .i64 kd,.str nm,.int .i64 nn,.int .i64 op,.list 1 (names.map .str),.list 8 (exCells subs),.list 9 (bdCells binds),.list 12 (alCells alts)]]]) (fun i=>subs.length - i) (fun i=>i≤subs.length∧∀ x∈subs.take i,p x=true) 0 ⟨Nat.zero_le _,by simp⟩ ?_ ?_
 ·exact wkS (n0:=H.length) [(H.length,0)] hG hB hC' hcl
 rintro K i ⟨hi,hno⟩ hK
 rcases Nat.lt_or_ge i subs.length with hlt|hge
 ·(refine runO ?_;with_reducible repeat' first|exact trivial|(apply Fork.mk<;>intro hb)|apply Two.mk)
  refine callV (hy _ (p1 i (by omega)) _) ?_
  rintro r H' ⟨rfl,rfl⟩
  generalize hpv:p subs[i]=pv
  cases pv
  ·have ef:subs.all p=false:=by rw[List.all_eq_false];exact⟨_,List.getElem_mem hlt,by simp[hpv]⟩
   (refine runO ?_;with_reducible repeat' first|exact trivial|(apply Fork.mk<;>intro hb)|apply Two.mk)
   exact finS (n0:=H.length) hR hC' hcl (.same _ rfl) ⟨rfl,by simp[ef,resSV]⟩
  ·(refine runO ?_;with_reducible repeat' first|exact trivial|(apply Fork.mk<;>intro hb)|apply Two.mk)
   refine hK _ _ (i+1) (by omega) ⟨by omega,?_⟩ ?_
   ·rw[List.take_succ_eq_append_getElem hlt]
    intro x hx
    rcases List.mem_append.1 hx with hx|hx
    ·exact hno x hx
    ·rw[List.mem_singleton.1 hx];exact hpv
   ·exact wkS (n0:=H.length) [(H.length,0)] hG hB hC' hcl
 obtain rfl:i=subs.length:=by omega
 rw[List.take_length] at hno
 have e1:subs.all p=true:=List.all_eq_true.2 hno
 rw[e1,Bool.true_and] at hR
 clear hK hno
 (refine runO ?_;with_reducible repeat' first|exact trivial|(apply Fork.mk<;>intro hb)|apply Two.mk)
 refine go_loop (fun i:Nat=>[(1,fv),(2,.ptr H.length 0 0 0),(24,.list 9 (bdCells binds)),(25,.int .i64 binds.length),(26,.int .i64 i)])
  (fun i=>H++[.cells 0 8 [.agg [.int .i64 kd,.str nm,.int .i64 nn,.int .i64 op,.list 1 (names.map .str),.list 8 (exCells subs),.list 9 (bdCells binds),.list 12 (alCells alts)]]]) (fun i=>binds.length - i) (fun i=>i≤binds.length∧∀ x∈binds.take i,p x.e=true) 0 ⟨Nat.zero_le _,by simp⟩ ?_ ?_
 ·exact wkS (n0:=H.length) [(H.length,0)] hG hB hC' hcl
 rintro K i ⟨hi,hno⟩ hK
 rcases Nat.lt_or_ge i binds.length with hlt|hge
 ·(refine runO ?_;with_reducible repeat' first|exact trivial|(apply Fork.mk<;>intro hb)|apply Two.mk)
  refine callV (hy _ (p2 i (by omega)) _) ?_
  rintro r H' ⟨rfl,rfl⟩
  generalize hpv:p binds[i].e=pv
  cases pv
  ·have ef:binds.all (p∘Bd.e)=false:=by rw[List.all_eq_false];exact⟨_,List.getElem_mem hlt,by simp[hpv]⟩
   (refine runO ?_;with_reducible repeat' first|exact trivial|(apply Fork.mk<;>intro hb)|apply Two.mk)
   exact finS (n0:=H.length) hR hC' hcl (.same _ rfl) ⟨rfl,by simp[ef,resSV]⟩
  ·(refine runO ?_;with_reducible repeat' first|exact trivial|(apply Fork.mk<;>intro hb)|apply Two.mk)
   refine hK _ _ (i+1) (by omega) ⟨by omega,?_⟩ ?_
   ·rw[List.take_succ_eq_append_getElem hlt]
    intro x hx
    rcases List.mem_append.1 hx with hx|hx
    ·exact hno x hx
    ·rw[List.mem_singleton.1 hx];exact hpv
   ·exact wkS (n0:=H.length) [(H.length,0)] hG hB hC' hcl
 obtain rfl:i=binds.length:=by omega
 rw[List.take_length] at hno
 have e2:binds.all (p∘Bd.e)=true:=List.all_eq_true.2 hno
 rw[e2,Bool.true_and] at hR
 clear hK hno
 (refine runO ?_;with_reducible repeat' first|exact trivial|(apply Fork.mk<;>intro hb)|apply Two.mk)
 refine go_loop (fun i:Nat=>[(1,fv),(2,.ptr H.length 0 0 0),(37,.list 12 (alCells alts)),(38,.int .i64 alts.length),(39,.int .i64 i)])
  (fun i=>H++[.cells 0 8 [.agg [.int .i64 kd,.str nm,.int .i64 nn,.int .i64 op,.list 1 (names.map .str),.list 8 (exCells subs),.list 9 (bdCells binds),.list 12 (alCells alts)]]]) (fun i=>alts.length - i) (fun i=>i≤alts.length∧∀ x∈alts.take i,p x.body=true) 0 ⟨Nat.zero_le _,by simp⟩ ?_ ?_
 ·exact wkS (n0:=H.length) [(H.length,0)] hG hB hC' hcl
 rintro K i ⟨hi,hno⟩ hK
 rcases Nat.lt_or_ge i alts.length with hlt|hge
 ·(refine runO ?_;with_reducible repeat' first|exact trivial|(apply Fork.mk<;>intro hb)|apply Two.mk)
  refine callV (hy _ (p3 i (by omega)) _) ?_
  rintro r H' ⟨rfl,rfl⟩
  generalize hpv:p alts[i].body=pv
  cases pv
  ·have ef:alts.all (p∘Al.body)=false:=by rw[List.all_eq_false];exact⟨_,List.getElem_mem hlt,by simp[hpv]⟩
   (refine runO ?_;with_reducible repeat' first|exact trivial|(apply Fork.mk<;>intro hb)|apply Two.mk)
   exact finS (n0:=H.length) hR hC' hcl (.same _ rfl) ⟨rfl,by simp[ef,resSV]⟩
  ·(refine runO ?_;with_reducible repeat' first|exact trivial|(apply Fork.mk<;>intro hb)|apply Two.mk)
   refine hK _ _ (i+1) (by omega) ⟨by omega,?_⟩ ?_
   ·rw[List.take_succ_eq_append_getElem hlt]
    intro x hx
    rcases List.mem_append.1 hx with hx|hx
    ·exact hno x hx
    ·rw[List.mem_singleton.1 hx];exact hpv
   ·exact wkS (n0:=H.length) [(H.length,0)] hG hB hC' hcl
 obtain rfl:i=alts.length:=by omega
 rw[List.take_length] at hno
 have e3:alts.all (p∘Al.body)=true:=List.all_eq_true.2 hno
 rw[e3] at hR
 clear hK hno
 (refine runO ?_;with_reducible repeat' first|exact trivial|(apply Fork.mk<;>intro hb)|apply Two.mk)
 exact finS (n0:=H.length) hR hC' hcl (.same _ rfl) ⟨rfl,rfl⟩
def AnsV (G:Gl) (fid:FuncId) (fi ca:List SV) (p:Ex→Bool) (H:List Blk) (m:Nat):Prop:=∀ x:Ex,x.wt≤m→∀ X,ACallV Tryz.prog G (.fn (.func fid) fi ca) [x.sv] (H++X) (fun r H'=>H'=H++X∧r= .bool (p x))
theorem AnsV.app {G:Gl} {fid:FuncId} {fi ca:List SV} {p:Ex→Bool} {H:List Blk} {m:Nat} (h:AnsV G fid fi ca p H m) (L:List Blk):AnsV G fid fi ca p (H++L) m:=fun x hx X=>by rw[List.append_assoc];exact h x hx _
def AllP (G:Gl) (fid:FuncId) (fi ca:List SV) (p:Ex→Bool) (m:Nat):Prop:=∀ (e:Ex) (H:List Blk),e.wt≤m→(SV.fn (.func fid) fi ca).under H.length=true→AnsV G fid fi ca p H m→
 ACall Tryz.prog G 32 [e.sv,.fn (.func fid) fi ca] H (fun r H'=>H'=H∧r= .bool (allS p e))
theorem allP1_ok (G:Gl) (hG:GClosed G) (fid:FuncId) (fi ca:List SV) (p:Ex→Bool) (m:Nat) (hrec:AllP G fid fi ca p m) (e:Ex) (H:List Blk) (ib:Nat) (he:e.wt≤m) (hib:H[ib]? =some (.cells 0 1 [.fn (.func fid) fi ca])) (hfu:(SV.fn (.func fid) fi ca).under H.length=true) (hy:AnsV G fid fi ca p H m):
 ACall Tryz.prog G 80 [e.sv,.ptr ib 0 0 0] H (fun r H'=>H'=H∧r= .bool (allS p e)):=by
 have hlt2:ib<H.length:=(List.getElem?_eq_some_iff.1 hib).1
 refine ACall.of_go TB [] tabOK _ Tryz.func80 rfl (by decide) Tryz.ntmps80 (by simp) rfl (by simp only[initEnv,Nat.reduceAdd];rfl) fun C R' hR hC hcl hB=>?_;have X:=noX;have hC':=congrArg List.length hC
 have X:=hib
 (refine run ?_;with_reducible repeat' first|exact trivial|(apply Fork.mk<;>intro hb)|apply Two.mk)
 refine callS (hrec e _ he ((SV.below_mono_both (by simp)).1 _ hfu) (hy.app _)) ?_
 rintro r H' ⟨rfl,rfl⟩
 (refine run ?_;with_reducible repeat' first|exact trivial|(apply Fork.mk<;>intro hb)|apply Two.mk)
 exact finS (n0:=H.length) hR hC' hcl (.same _ rfl) ⟨rfl,rfl⟩
theorem AnsV.mono {G:Gl} {fid:FuncId} {fi ca:List SV} {p:Ex→Bool} {H:List Blk} {m m':Nat} (h:AnsV G fid fi ca p H m) (hm:m'≤m):AnsV G fid fi ca p H m':=fun x hx X=>h x (Nat.le_trans hx hm) X
theorem allP_ok (G:Gl) (hG:GClosed G) (fid:FuncId) (fi ca:List SV) (p:Ex→Bool):∀ m,m<549755813888→AllP G fid fi ca p m
 |0,_,e,_,h,_,_=>absurd e.wt_pos (by omega)
 |m+1,hm2,e,H,hm,hfu,hy=>by
  have hrec:=allP_ok G hG fid fi ca p m (by omega)
  have hae:=allS_eq p e
  rw[hae]
  refine ACall.of_go TB [] tabOK _ Tryz.func32 rfl (by decide) Tryz.ntmps32 (by simp) rfl (by simp only[initEnv,Nat.reduceAdd];rfl) fun C R' hR hC hcl hB=>?_;have X:=noX;have hC':=congrArg List.length hC
  (refine run ?_;with_reducible repeat' first|exact trivial|(apply Fork.mk<;>intro hb)|apply Two.mk)
  refine callV (hy e hm _) ?_
  rintro r H' ⟨rfl,rfl⟩
  generalize hpv:p e=pv
  cases pv
  ·(refine run ?_;with_reducible repeat' first|exact trivial|(apply Fork.mk<;>intro hb)|apply Two.mk)
   exact finS (n0:=H.length) hR hC' hcl (.same _ rfl) ⟨rfl,by simp[hpv,resSV]⟩
  ·(refine run ?_;with_reducible repeat' first|exact trivial|(apply Fork.mk<;>intro hb)|apply Two.mk)
   refine callS (eachP_ok G hG e (by omega) (.fn (.func 80) [] [.ptr (H.length+1) 0 0 0]) (allS p) _ (by simp[SV.under,SV.underL]) (fun x hx X=>by
    have hpw:=Ex.wt_parts hx
    refine ACallV.of (first:=[]) (args:=[x.sv]) (cap:=[.ptr (H.length+1) 0 0 0]) (allP1_ok G hG fid fi ca p m hrec x _ (H.length+1) (by omega) (by rw[List.append_assoc];simp) ((SV.below_mono_both (by simp)).1 _ hfu) ((hy.mono (by omega)).app _|>.app _)))) ?_
   rintro r H' ⟨rfl,rfl⟩
   (refine run ?_;with_reducible repeat' first|exact trivial|(apply Fork.mk<;>intro hb)|apply Two.mk)
   exact finS (n0:=H.length) hR hC' hcl (.same _ rfl) ⟨rfl,by simp[hpv,resSV]⟩
theorem cargs_ok (G:Gl) (op:Int) (H:List Blk):ACall Tryz.prog G 87 [.int .i64 op] H (fun r H'=>H'=H∧r= .int .i64 (argS op)):=by
 refine ACall.of_go TB [] tabOK _ Tryz.func87 rfl (by decide) Tryz.ntmps87 (by simp) rfl (by simp only[initEnv,Nat.reduceAdd];rfl) fun C R' hR hC hcl hB=>?_;have X:=noX;have hC':=congrArg List.length hC
 (refine run ?_;with_reducible repeat' first|exact trivial|(apply Fork.mk<;>intro hb)|apply Two.mk)
 all_goals (simp only[Bool.and_eq_true,Bool.or_eq_true,Bool.and_eq_false_iff,Bool.or_eq_false_iff,decide_eq_true_eq,decide_eq_false_iff_not] at*)
 all_goals refine Fin.out hR ⟨rfl,congrArg (SV.int .i64) ?_⟩
 all_goals unfold argS
 all_goals first|rw[if_pos (by omega)]|rw[if_neg (by omega),if_pos (by omega)]|rw[if_neg (by omega),if_neg (by omega),if_pos (by omega)]|rw[if_neg (by omega),if_neg (by omega),if_neg (by omega)]
theorem badAl_ok (G:Gl) (hG:GClosed G) (a:Al) (H:List Blk):ACall Tryz.prog G 89 [a.sv] H (fun r H'=>H'=H∧r= .bool (badAl a)):=by
 obtain⟨kd,nm,nn,names,body⟩:=a
 have hbl:=body.cells_len
 obtain⟨k2,s2,n2,o2,l2,ss2,bs2,as2⟩:=body
 rw[show(Al.mk kd nm nn names (.mk k2 s2 n2 o2 l2 ss2 bs2 as2)).sv= .agg [.int .i64 kd,.str nm,.int .i64 nn,.list 1 (names.map .str),.int .i64 k2,.str s2,.int .i64 n2,.int .i64 o2,.list 1 (l2.map .str),.list 8 (exCells ss2),.list 9 (bdCells bs2),.list 12 (alCells as2)] from rfl]
 refine ACall.of_go TB [] tabOK _ Tryz.func89 rfl (by decide) Tryz.ntmps89 (by simp) rfl (by simp only[initEnv,Nat.reduceAdd];rfl) fun C R' hR hC hcl hB=>?_;have X:=noX;have hC':=congrArg List.length hC
 (refine run ?_;with_reducible repeat' first|exact trivial|(apply Fork.mk<;>intro hb)|apply Two.mk)
 all_goals (refine finS (n0:=H.length) hR hC' hcl (.same _ rfl) ⟨rfl,?_⟩;simp_all [resSV,badAl,Al.kind,Al.n,Al.name,Al.names]<;>congr)
theorem shaped_ok (G:Gl) (hG:GClosed G) (e:Ex) (hw:e.wt<549755813888) (H:List Blk):ACall Tryz.prog G 39 [e.sv] H (fun r H'=>H'=H∧r= .bool (shpC e)):=by
 obtain⟨kd,nm,nn,op,names,subs,binds,alts⟩:=e
 have hle:=Ex.wt_lens kd nm nn op names subs binds alts
 have c1:=fun H=>cargs_ok G op H
 have c2:=anyAl_ok G hG (.fn (.func 89) [] []) badAl alts (H++[.cells 0 8 [.agg [.int .i64 kd,.str nm,.int .i64 nn,.int .i64 op,.list 1 (names.map .str),.list 8 (exCells subs),.list 9 (bdCells binds),.list 12 (alCells alts)]]]) (by omega) (by simp[SV.under,SV.underL])
  (fun a ha=>ACallV.of (first:=[]) (args:=[a.sv]) (cap:=[]) (badAl_ok G hG a _))
 refine ACall.of_go TB [] tabOK _ Tryz.func39 rfl (by decide) Tryz.ntmps39 (by simp) rfl (by simp only[initEnv,Nat.reduceAdd];rfl) fun C R' hR hC hcl hB=>?_;have X:=noX;have hC':=congrArg List.length hC
 (refine run ?_;with_reducible repeat' first|exact trivial|(apply Fork.mk<;>intro hb)|apply Two.mk)
 all_goals refine finS (n0:=H.length) hR hC' hcl (.same _ rfl) ⟨rfl,?_⟩
 all_goals refine congrArg SV.bool ?_
 all_goals clear c1 c2 hw hle hR hC' hC hcl hB X
 all_goals simp_all [shpC,oddS,Ex.kind,Ex.alts]
 all_goals (intros;first|omega|(exfalso;omega)|(simp_all;done)|(exfalso;simp_all;omega))
theorem cn_zero (l:List Cn) (s:Str):(findSV (esC l) (.str s)).getD (.agg [.str [],.int .i64 0,.int .i64 0,.int .i64 0])= .agg [.str (getCn l s).name,.int .i64 (getCn l s).arity,.int .i64 (getCn l s).tag,.int .i64 (getCn l s).family]:=findSV_esC0 l s
structure LintAt (H:List Blk) (lb mb:Nat) (cs:List Cn):Prop where
 l:H[lb]? =some (.cells 0 1 [.agg [.map mb]])
 m:H[mb]? =some (.map none (esC cs))
theorem LintAt.app {H:List Blk} {lb mb:Nat} {cs:List Cn} (h:LintAt H lb mb cs) (L:List Blk):LintAt (H++L) lb mb cs:=
 ⟨by rw[get_old (List.getElem?_eq_some_iff.1 h.l).1];exact h.l,by rw[get_old (List.getElem?_eq_some_iff.1 h.m).1];exact h.m⟩
theorem LintAt.X {H:List Blk} {lb mb:Nat} {cs:List Cn} (h:LintAt H lb mb cs):(∀ L,(H++L)[lb]? =some (.cells 0 1 [.agg [.map mb]]))∧(∀ L,(H++L)[mb]? =some (.map none (esC cs)))∧H[lb]? =some (.cells 0 1 [.agg [.map mb]])∧H[mb]? =some (.map none (esC cs)):=
 ⟨fun L=>(h.app L).l,fun L=>(h.app L).m,h.l,h.m⟩
theorem has_ok (G:Gl) (hG:GClosed G) (H:List Blk) (lb mb:Nat) (cs:List Cn) (hl:LintAt H lb mb cs) (s:Str) (k:Int):ACall Tryz.prog G 90 [.ptr lb 0 0 0,.str s,.int .i64 k] H (fun r H'=>H'=H∧r= .bool (hasCn cs s k)):=by
 refine ACall.of_go TB [] tabOK _ Tryz.func90 rfl (by decide) Tryz.ntmps90 (by simp) rfl (by simp only[initEnv,Nat.reduceAdd];rfl) fun C R' hR hC hcl hB=>?_;have X:=noX;have hC':=congrArg List.length hC
 have X:=And.intro X (And.intro hl.X (And.intro (cn_zero cs s) (esC_has cs s)))
 (refine run ?_;with_reducible repeat' first|exact trivial|(apply Fork.mk<;>intro hb)|apply Two.mk)
 exact finS (n0:=H.length) hR hC' hcl (.same _ rfl) ⟨rfl,by simp only[resSV,hasCn]⟩
theorem linX {H:List Blk} {lb mb:Nat} {es:List (SV×SV)} (h1:H[lb]? =some (.cells 0 1 [.agg [.map mb]])) (h2:H[mb]? =some (.map none es)):
 (∀ l L,(H.set mb (.map none (esC l))++L)[lb]? =some (.cells 0 1 [.agg [.map mb]]))∧(∀ l L,(H.set mb (.map none (esC l))++L)[mb]? =some (.map none (esC l)))∧
 (∀ l l2 L,(H.set mb (.map none (esC l))++L).set mb (.map none (esC l2))=H.set mb (.map none (esC l2))++L):=by
 have hne:lb≠mb:=fun e=>by rw[e,h2] at h1;cases h1
 have l1:=(List.getElem?_eq_some_iff.1 h1).1
 have l2:=(List.getElem?_eq_some_iff.1 h2).1
 refine⟨fun l L=>?_,fun l L=>?_,fun l l2' L=>?_⟩
 ·rw[List.getElem?_append_left (by simpa using l1),List.getElem?_set_ne (fun e=>hne e.symm)];exact h1
 ·rw[List.getElem?_append_left (by simpa using l2),List.getElem?_set_self l2]
 ·rw[set_old (by simpa using l2),List.set_set]
theorem linQ {H:List Blk} {lb mb:Nat} (h1:H[lb]? =some (.cells 0 1 [.agg [.map mb]])) (h2:H[mb]? =some (.map none [])):
 ∃ Q:List Cn→List Blk,Q []=H∧(∀ l,Q l=H.set mb (.map none (esC l)))∧(∀ l,(Q l).length=H.length)∧((∀ l L,(Q l++L)[lb]? =some (.cells 0 1 [.agg [.map mb]]))∧(∀ l L,(Q l++L)[mb]? =some (.map none (esC l)))∧
 (∀ l l2 L,(Q l++L).set mb (.map none (esC l2))=Q l2++L))∧(closed H→∀ l,closed (Q l)):=
 ⟨fun l=>H.set mb (.map none (esC l)),set_same h2,fun l=>rfl,fun l=>by simp,linX h1 h2,fun hc l=>hc.set (esC_under _ _)⟩
theorem okCn_new {l:List Cn} {c:Cn} (h:okCn l c=true):findCn l c.name=none:=by
 unfold okCn at h
 cases hf:findCn l c.name with
 |none=>rfl
 |some d=>rw[hf] at h;simp at h
theorem made_ok (G:Gl) (hG:GClosed G) (H:List Blk) (lb mb:Nat) (cons:List Cn) (h1:H[lb]? =some (.cells 0 1 [.agg [.map mb]])) (h2:H[mb]? =some (.map none [])) (hn:cons.length<1099511627776):
 ACall Tryz.prog G 40 [.ptr lb 0 0 0,.list 4 (cnCells cons)] H (fun r H'=>∃ l,(H'=H.set mb (.map none (esC l))∧r= .bool (okCns [] cons))∧(okCns [] cons=true→l=cons)):=by
 obtain⟨Q,q0,qd,hlen,qx,qc⟩:=linQ h1 h2
 have hlm:=cnCells_len cons
 have l1:=(List.getElem?_eq_some_iff.1 h1).1
 have l2:=(List.getElem?_eq_some_iff.1 h2).1
 simp only[← qd]
 rw[← q0]
 refine ACall.of_go TB [] tabOK _ Tryz.func40 rfl (by decide) Tryz.ntmps40 (by simp) rfl (by simp only[initEnv,Nat.reduceAdd];rfl) fun C R' hR hC hcl hB=>?_;have X:=noX;have hC':=congrArg List.length hC
 have hC':=hC'.trans (hlen [])
 have hcls:∀ l,closed (Q l):=fun l=>qc (q0 ▸ hcl) l
 generalize H.length=n0 at*
 have hx2:=hsX Q n0 hlen
 have X:=And.intro X (And.intro qx (And.intro hx2 hlm))
 (refine run ?_;with_reducible repeat' first|exact trivial|(apply Fork.mk<;>intro hb)|apply Two.mk)
 refine go_loop (fun i:Nat=>[(0,.ptr lb 0 0 0),(9,.list 4 (cnCells cons)),(10,.int .i64 cons.length),(11,.int .i64 i)]) (fun i=>Q (cons.take i)++[]) (fun i=>cons.length - i)
  (fun i=>i≤cons.length∧okCns (cons.take i) (cons.drop i)=okCns [] cons) 0 ⟨Nat.zero_le _,rfl⟩ ?_ ?_
 ·simp only[List.take_zero,List.append_nil]
  exact Wk.sub (by simp[subEnv,look])
 rintro K i ⟨hi,hok⟩ hK
 rcases Nat.lt_or_ge i cons.length with hlt|hge
 ·have e1:(cnCells cons)[i]? =some (.agg [.str cons[i].name,.int .i64 cons[i].arity,.int .i64 cons[i].tag,.int .i64 cons[i].family]):=cnCells_get cons hlt
  rw[List.drop_eq_getElem_cons hlt,okCns,← List.take_succ_eq_append_getElem hlt] at hok
  have ht:=List.take_succ_eq_append_getElem hlt
  have hset:=setSV_esC (cons.take i) cons[i]
  have hcell:cons[i].cells=[.str cons[i].name,.int .i64 cons[i].arity,.int .i64 cons[i].tag,.int .i64 cons[i].family]:=rfl
  rw[hcell] at hset
  have hoc:okCn (cons.take i) cons[i]=okCn (cons.take i) cons[i]:=rfl
  conv at hoc=>rhs;unfold okCn
  simp only[eqS] at hoc
  have hnw:=okCn_new (l:=cons.take i) (c:=cons[i])
  have hcz:=cn_zero (cons.take i) cons[i].name
  have hch:=esC_has (cons.take i) cons[i].name
  generalize hok1:okCn (cons.take i) cons[i]=o1 at*
  cases o1
  ·have X:=And.intro X (And.intro e1 (And.intro hcz hch))
   (refine run ?_;with_reducible repeat' first|exact trivial|(apply Fork.mk<;>intro hb)|apply Two.mk)
   ·rw[Bool.false_and] at hok
    refine finS (n0:=n0) hR hC' (hcls (cons.take i)) (.same _ rfl) ⟨_,⟨rfl,?_⟩,?_⟩
    ·rw[← hok];rfl
    ·rw[← hok];intro h;cases h
   ·rw[hb] at hoc;cases hoc
  ·have X:=And.intro X (And.intro e1 (And.intro hcz (And.intro hch (hset (hnw rfl)))))
   (refine run ?_;with_reducible repeat' first|exact trivial|(apply Fork.mk<;>intro hb)|apply Two.mk)
   ·rw[hb] at hoc;cases hoc
   ·rw[← ht]
    refine hK _ _ (i+1) (by omega) ⟨by omega,by rw[← hok,Bool.true_and]⟩ ?_
    exact wkS (n0:=n0) [] hG hB hC' (hcls _)
 obtain rfl:i=cons.length:=by omega
 rw[List.drop_length,List.take_length] at hok
 rw[List.take_length]
 clear hK
 have X:=And.intro X (Int.lt_irrefl (cons.length:Int))
 (refine run ?_;with_reducible repeat' first|exact trivial|(apply Fork.mk<;>intro hb)|apply Two.mk)
 exact finS (n0:=n0) hR hC' (hcls cons) (.same _ rfl) ⟨_,⟨rfl,by rw[← hok];rfl⟩,fun _=>rfl⟩
theorem full1_ok (G:Gl) (hG:GClosed G) (H:List Blk) (lb mb pb:Nat) (cs:List Cn) (hl:LintAt H lb mb cs) (hp:H[pb]? =some (.cells 0 1 [.ptr lb 0 0 0])) (a:Al):
 ACall Tryz.prog G 91 [a.sv,.ptr pb 0 0 0] H (fun r H'=>H'=H∧r= .bool (decide (a.kind=1)&&!hasCn cs a.name a.names.length)):=by
 obtain⟨kd,nm,nn,names,body⟩:=a
 obtain⟨k2,s2,n2,o2,l2,ss2,bs2,as2⟩:=body
 rw[show(Al.mk kd nm nn names (.mk k2 s2 n2 o2 l2 ss2 bs2 as2)).sv= .agg [.int .i64 kd,.str nm,.int .i64 nn,.list 1 (names.map .str),.int .i64 k2,.str s2,.int .i64 n2,.int .i64 o2,.list 1 (l2.map .str),.list 8 (exCells ss2),.list 9 (bdCells bs2),.list 12 (alCells as2)] from rfl]
 have c1:=fun L=>has_ok G hG (H++L) lb mb cs (hl.app L) nm names.length
 have hpx:=fun L=>(show(H++L)[pb]? =some (.cells 0 1 [.ptr lb 0 0 0]) by rw[get_old (List.getElem?_eq_some_iff.1 hp).1];exact hp)
 refine ACall.of_go TB [] tabOK _ Tryz.func91 rfl (by decide) Tryz.ntmps91 (by simp) rfl (by simp only[initEnv,Nat.reduceAdd];rfl) fun C R' hR hC hcl hB=>?_;have X:=noX;have hC':=congrArg List.length hC
 have X:=And.intro X hpx
 (refine run ?_;with_reducible repeat' first|exact trivial|(apply Fork.mk<;>intro hb)|apply Two.mk)
 all_goals (refine finS (n0:=H.length) hR hC' hcl (.same _ rfl) ⟨rfl,?_⟩;simp_all [resSV,Al.kind,Al.n,Al.name,Al.names])
theorem full_ok (G:Gl) (hG:GClosed G) (H:List Blk) (lb mb:Nat) (cs:List Cn) (hl:LintAt H lb mb cs) (e:Ex) (hw:e.wt<549755813888):
 ACall Tryz.prog G 44 [.ptr lb 0 0 0,e.sv] H (fun r H'=>H'=H∧r= .bool (fulS cs e)):=by
 obtain⟨kd,nm,nn,op,names,subs,binds,alts⟩:=e
 have hle:=Ex.wt_lens kd nm nn op names subs binds alts
 have c1:=fun L=>has_ok G hG (H++L) lb mb cs (hl.app L) nm subs.length
 have c2:=fun H=>cargs_ok G op H
 have c3:=anyAl_ok G hG (.fn (.func 91) [] [.ptr H.length 0 0 0]) (fun a=>decide (a.kind=1)&&!hasCn cs a.name a.names.length) alts (H++[.cells 0 1 [.ptr lb 0 0 0],.cells 0 8 [.agg [.int .i64 kd,.str nm,.int .i64 nn,.int .i64 op,.list 1 (names.map .str),.list 8 (exCells subs),.list 9 (bdCells binds),.list 12 (alCells alts)]]]) (by omega) (by simp[SV.under,SV.underL])
  (fun a ha=>ACallV.of (first:=[]) (args:=[a.sv]) (cap:=[.ptr H.length 0 0 0]) (full1_ok G hG _ lb mb H.length cs (hl.app _) (by simp) a))
 refine ACall.of_go TB [] tabOK _ Tryz.func44 rfl (by decide) Tryz.ntmps44 (by simp) rfl (by simp only[initEnv,Nat.reduceAdd];rfl) fun C R' hR hC hcl hB=>?_;have X:=noX;have hC':=congrArg List.length hC
 (refine run ?_;with_reducible repeat' first|exact trivial|(apply Fork.mk<;>intro hb)|apply Two.mk)
 all_goals (refine finS (n0:=H.length) hR hC' hcl (.same _ rfl) ⟨rfl,?_⟩;simp_all [resSV,fulS,Ex.kind,Ex.names,Ex.subs,Ex.binds,Ex.name,Ex.op,Ex.alts]<;>exact decide_eq_decide.2 (by omega))
theorem mem_putO {l:List Str} {s t:Str}:s∈putO l t↔s∈l∨s=t:=by
 unfold putO
 split
 ·rename_i h
  constructor
  ·exact .inl
  ·rintro (h2|rfl)
   ·exact h2
   ·exact h
 ·simp
theorem mem_puts {s:Str}:∀ {l:List Str} {a:List Str},s∈l.foldl putO a↔s∈a∨s∈l
 |[],a=>by simp
 |t::r,a=>by
  rw[List.foldl_cons,mem_puts (l:=r),mem_putO,List.mem_cons]
  constructor
  ·rintro ((h|h)|h)
   ·exact .inl h
   ·exact .inr (.inl h)
   ·exact .inr (.inr h)
  ·rintro (h|h|h)
   ·exact .inl (.inl h)
   ·exact .inl (.inr h)
   ·exact .inr h
theorem findSV_esO:∀ (l:List Str) (s:Str),(findSV (esO l) (.str s)).getD (.bool false)= .bool (decide (s∈l))
 |[],s=>by simp[esO,findSV]
 |x::r,s=>by
  have ih:=findSV_esO r s
  have e:findSV (esO (x::r)) (.str s)=if SV.keyEq (.str s) (.str x)=true then some (.bool true) else findSV (esO r) (.str s):=rfl
  rw[e]
  by_cases h:s=x
  ·subst h
   simp[SV.keyEq]
  ·rw[if_neg (by simpa [SV.keyEq] using h),ih]
   simp[h]
def seenL (l:List Al):List Str:=(l.map Al.name).foldl putO []
theorem find_seen (l:List Al) (s:Str):(findSV (esO (seenL l)) (.str s)).getD (.bool false)= .bool (decide (s∈l.map Al.name)):=by
 rw[findSV_esO]
 congr 1
 rw[decide_eq_decide,seenL,mem_puts]
 simp
theorem seen_snoc (l:List Al) (a:Al):setSV (esO (seenL l)) (.str a.name) (.bool true)=esO (seenL (l++[a])):=by
 rw[setSV_esO,seenL,seenL,List.map_append,List.foldl_append];rfl
def putN (l:List Int) (n:Int):List Int:=if n∈l then l else l++[n]
def esN (l:List Int):List (SV×SV):=l.map fun n=>(.int .i64 n,.bool true)
theorem setSV_esN:∀ (l:List Int) (n:Int),setSV (esN l) (.int .i64 n) (.bool true)=esN (putN l n)
 |[],n=>rfl
 |k::r,n=>by
  simp only[esN,List.map_cons,setSV,SV.keyEq,putN]
  by_cases h:n=k
  ·simp[h]
  ·simp only[beq_eq_false_iff_ne.2 h,if_false,Bool.false_eq_true]
   rw[show setSV (List.map _ r) (.int .i64 n) (.bool true)=_ from setSV_esN r n]
   simp only[esN,putN,List.mem_cons,h,false_or]
   split<;>rfl
theorem mem_putN {l:List Int} {s t:Int}:s∈putN l t↔s∈l∨s=t:=by
 unfold putN
 split
 ·rename_i h
  constructor
  ·exact .inl
  ·rintro (h2|rfl)
   ·exact h2
   ·exact h
 ·simp
theorem mem_putsN {s:Int}:∀ {l:List Int} {a:List Int},s∈l.foldl putN a↔s∈a∨s∈l
 |[],a=>by simp
 |t::r,a=>by
  rw[List.foldl_cons,mem_putsN (l:=r),mem_putN,List.mem_cons]
  constructor
  ·rintro ((h|h)|h)
   ·exact .inl h
   ·exact .inr (.inl h)
   ·exact .inr (.inr h)
  ·rintro (h|h|h)
   ·exact .inl (.inl h)
   ·exact .inl (.inr h)
   ·exact .inr h
theorem findSV_esN:∀ (l:List Int) (n:Int),(findSV (esN l) (.int .i64 n)).getD (.bool false)= .bool (decide (n∈l))
 |[],s=>by simp[esN,findSV]
 |x::r,s=>by
  have ih:=findSV_esN r s
  have e:findSV (esN (x::r)) (.int .i64 s)=if SV.keyEq (.int .i64 s) (.int .i64 x)=true then some (.bool true) else findSV (esN r) (.int .i64 s):=rfl
  rw[e]
  by_cases h:s=x
  ·subst h
   simp[SV.keyEq]
  ·rw[if_neg (by simpa [SV.keyEq] using h),ih]
   simp[h]
def numsL (l:List Al):List Int:=(l.map Al.n).foldl putN []
theorem find_nums (l:List Al) (s:Int):(findSV (esN (numsL l)) (.int .i64 s)).getD (.bool false)= .bool (decide (s∈l.map Al.n)):=by
 rw[findSV_esN]
 congr 1
 rw[decide_eq_decide,numsL,mem_putsN]
 simp
theorem nums_snoc (l:List Al) (a:Al):setSV (esN (numsL l)) (.int .i64 a.n) (.bool true)=esN (numsL (l++[a])):=by
 rw[setSV_esN,numsL,numsL,List.map_append,List.foldl_append];rfl
theorem esN_under (n:Nat):∀ l:List Int,belowE n (esN l)=true
 |[]=>rfl
 |p::l=>by simp only[esN,List.map_cons,belowE,SV.under,Bool.and_self,Bool.true_and];exact esN_under n l
theorem alCells_take (l:List Al) (n:Nat):(alCells l).take n=alCells (l.take n):=by simp[alCells_map,List.map_take]
theorem oddAls_cut (cs:List Cn) (k0:Int) (s0:Str) (R:List Al) {i:Nat} (h:i<R.length):oddAls cs k0 s0 (R.take i) (R.drop i)=(oddAl cs (R.take i) k0 s0 R[i]||oddAls cs k0 s0 (R.take (i+1)) (R.drop (i+1))):=by
 rw[List.drop_eq_getElem_cons h,oddAls,← List.take_succ_eq_append_getElem h]
theorem chosen_ok (G:Gl) (hG:GClosed G) (H:List Blk) (lb mb:Nat) (cs:List Cn) (hl:LintAt H lb mb cs) (e:Ex) (hw:e.wt<549755813888):
 ACall Tryz.prog G 45 [.ptr lb 0 0 0,e.sv] H (fun r H'=>H'=H∧r= .bool (chsS cs e)):=by
 obtain⟨kd,nm,nn,op,names,subs,binds,alts⟩:=e
 have hle:=Ex.wt_lens kd nm nn op names subs binds alts
 by_cases hk:kd=6
 rotate_left
 ·have es:chsS cs (.mk kd nm nn op names subs binds alts)=true:=if_pos hk
  refine ACall.of_go TB [] tabOK _ Tryz.func45 rfl (by decide) Tryz.ntmps45 (by simp) rfl (by simp only[initEnv,Nat.reduceAdd];rfl) fun C R' hR hC hcl hB=>?_;have X:=noX;have hC':=congrArg List.length hC
  (refine runC ?_;with_reducible repeat' first|exact trivial|(apply Fork.mk<;>intro hb)|apply Two.mk)
  refine go_condDT rfl hk ?_
  (refine run ?_;with_reducible repeat' first|exact trivial|(apply Fork.mk<;>intro hb)|apply Two.mk)
  exact finS (n0:=H.length) hR hC' hcl (.same _ rfl) ⟨rfl,by rw[es];rfl⟩
 have es:chsS cs (.mk kd nm nn op names subs binds alts)=(!oddAls cs (hdK (restS alts)) (hdN (restS alts)) [] (restS alts)&&decide (0<alts.length)):=if_neg (fun h=>h hk)
 rw[es]
 have l1:=(List.getElem?_eq_some_iff.1 hl.l).1
 have l2:=(List.getElem?_eq_some_iff.1 hl.m).1
 rcases Nat.eq_zero_or_pos alts.length with h0|hpos
 ·obtain rfl:=List.length_eq_zero_iff.1 h0
  refine ACall.of_go TB [] tabOK _ Tryz.func45 rfl (by decide) Tryz.ntmps45 (by simp) rfl (by simp only[initEnv,Nat.reduceAdd];rfl) fun C R' hR hC hcl hB=>?_;have X:=noX;have hC':=congrArg List.length hC
  (refine runC ?_;with_reducible repeat' first|exact trivial|(apply Fork.mk<;>intro hb)|apply Two.mk)
  refine go_condDF rfl (fun h=>h hk) ?_
  have X:=And.intro noX (Int.lt_irrefl 0)
  (refine run ?_;with_reducible repeat' first|exact trivial|(apply Fork.mk<;>intro hb)|apply Two.mk)
  refine go_loop (fun _:Unit=>[(3,.ptr H.length 0 0 0),(36,.int .i64 0),(37,.int .i64 0)]) (fun _=>H++[.cells 0 8 [.agg [.int .i64 kd,.str nm,.int .i64 nn,.int .i64 op,.list 1 (names.map .str),.list 8 (exCells subs),.list 9 (bdCells binds),.list 12 (alCells [])]]]) (fun _=>0) (fun _=>True) () trivial ?_ ?_
  ·exact wkS (n0:=H.length) [(H.length,0)] hG hB hC' hcl
  rintro K _ _ hK
  (refine run ?_;with_reducible repeat' first|exact trivial|(apply Fork.mk<;>intro hb)|apply Two.mk)
  exact finS (n0:=H.length) hR hC' hcl (.same _ rfl) ⟨rfl,rfl⟩
 have hnn:((alts.length:Int) - 1).toNat=alts.length - 1:=by omega
 have hlt1:alts.length - 1<alts.length:=by omega
 have hr:restS alts=if alts[alts.length - 1].kind=3 then alts.take (alts.length - 1) else alts:=by
  rw[restS,if_neg (by omega)]
  have:alts.getLast?=some alts[alts.length - 1]:=by rw[List.getLast?_eq_getElem?,List.getElem?_eq_getElem hlt1]
  rw[this]
  rfl
 have hal:alts[alts.length - 1]? =some alts[alts.length - 1]:=List.getElem?_eq_getElem hlt1
 have hpos2:(0:Int)<(alts.length:Int):=by omega
 refine ACall.of_go TB [] tabOK _ Tryz.func45 rfl (by decide) Tryz.ntmps45 (by simp) rfl (by simp only[initEnv,Nat.reduceAdd];rfl) fun C R' hR hC hcl hB=>?_;have X:=noX;have hC':=congrArg List.length hC
 (refine runC ?_;with_reducible repeat' first|exact trivial|(apply Fork.mk<;>intro hb)|apply Two.mk)
 refine go_condDF rfl (fun h=>h hk) ?_
 have X:=And.intro noX (And.intro hnn (And.intro hal (And.intro (show alts.length - 1 - 0=alts.length - 1 from rfl) (alCells_take alts (alts.length - 1)))))
 (refine runC ?_;with_reducible repeat' first|exact trivial|(apply Fork.mk<;>intro hb)|apply Two.mk)
 refine go_cut (fun _:Unit=>[(0,.ptr lb 0 0 0),(3,.ptr H.length 0 0 0),(5,.list 12 (alCells (restS alts)))]) (fun _=>H++[.cells 0 8 [.agg [.int .i64 kd,.str nm,.int .i64 nn,.int .i64 op,.list 1 (names.map .str),.list 8 (exCells subs),.list 9 (bdCells binds),.list 12 (alCells alts)]]]) (fun _=>True) (fun K hK=>?_) (fun _ _=>?_)
 ·(refine run ?_;with_reducible repeat' first|exact trivial|(apply Fork.mk<;>intro hb)|apply Two.mk)
  ·refine hK _ _ () trivial ?_
   rw[hr,if_pos (by first|exact hb|simp_all)]
   exact wkS (n0:=H.length) [(H.length,0)] hG hB hC' hcl
  ·refine hK _ _ () trivial ?_
   rw[hr,if_neg (by first|exact hb|simp_all)]
   exact wkS (n0:=H.length) [(H.length,0)] hG hB hC' hcl
 have esB_under:=esN_under
 have hrl:(restS alts).length≤alts.length:=by
  unfold restS
  split
  ·exact Nat.le_refl _
  ·split
   ·rw[List.length_take];omega
   ·exact Nat.le_refl _
 generalize hRR:restS alts=R at*
 have X:=And.intro noX hl.X
 (refine run ?_;with_reducible repeat' first|exact trivial|(apply Fork.mk<;>intro hb)|apply Two.mk)
 refine go_loop (fun i:Nat=>[(0,.ptr lb 0 0 0),(3,.ptr H.length 0 0 0),(5,.list 12 (alCells R)),(7,.map (H.length+1)),(8,.map (H.length+2)),(35,.list 12 (alCells R)),(36,.int .i64 R.length),(37,.int .i64 i)])
  (fun i=>H++[.cells 0 8 [.agg [.int .i64 kd,.str nm,.int .i64 nn,.int .i64 op,.list 1 (names.map .str),.list 8 (exCells subs),.list 9 (bdCells binds),.list 12 (alCells alts)]],.map none (esO (seenL (R.take i))),.map (some .i64) (esN (numsL (R.take i)))]) (fun i=>R.length - i) (fun i=>i≤R.length∧oddAls cs (hdK R) (hdN R) (R.take i) (R.drop i)=oddAls cs (hdK R) (hdN R) [] R) 0 ⟨Nat.zero_le _,rfl⟩ ?_ ?_
 ·exact wkS (n0:=H.length) [(H.length,0),(H.length+1,0),(H.length+2,0)] hG hB hC' hcl
 rintro K i ⟨hi,ho⟩ hK
 rcases Nat.lt_or_ge i R.length with hlt|hge
 ·rw[oddAls_cut cs _ _ R hlt] at ho
  have hs1:=find_seen (R.take i) R[i].name
  have hs2:=find_nums (R.take i) R[i].n
  have hs3:=seen_snoc (R.take i) R[i]
  have hs4:=nums_snoc (R.take i) R[i]
  have hz1:=cn_zero cs R[i].name
  have hz2:=cn_zero cs R[0].name
  have hR0:R[0]? =some R[0]:=List.getElem?_eq_getElem (by omega)
  have hRi:R[i]? =some R[i]:=List.getElem?_eq_getElem hlt
  have hk0:hdK R=R[0].kind:=by rw[hdK,List.head?_eq_getElem?,hR0];rfl
  have hn0:hdN R=R[0].name:=by rw[hdN,List.head?_eq_getElem?,hR0];rfl
  have ht:=List.take_succ_eq_append_getElem hlt
  rw[← ht] at hs3 hs4
  have hoc:oddAl cs (R.take i) (hdK R) (hdN R) R[i]=oddAl cs (R.take i) (hdK R) (hdN R) R[i]:=rfl
  conv at hoc=>rhs;unfold oddAl
  rw[hk0,hn0] at hoc ho
  generalize hoo:oddAl cs (R.take i) R[0].kind R[0].name R[i]=oo at*
  generalize R[0]=a0 at*
  generalize R[i]=ai at*
  have X:=And.intro noX (And.intro hl.X (And.intro hs1 (And.intro hs2 (And.intro hs3 (And.intro hs4 (And.intro hz1 (And.intro hz2 (And.intro hR0 hRi))))))))
  (refine run ?_;with_reducible repeat' first|exact trivial|(apply Fork.mk<;>intro hb)|apply Two.mk)
  ·simp only[decide_not] at hb
   have e:oo=true:=hoc.trans hb
   subst e
   rw[Bool.true_or,← hk0,← hn0] at ho
   rw[← ho] at hR
   exact finS (n0:=H.length) hR hC' hcl (.same _ rfl) ⟨rfl,rfl⟩
  ·simp only[decide_not] at hb
   have e:oo=false:=hoc.trans hb
   subst e
   rw[Bool.false_or] at ho
   rw[← hk0,← hn0] at ho
   refine hK _ _ (i+1) (by omega) ⟨by omega,ho⟩ ?_
   exact wkS (n0:=H.length) [(H.length,0),(H.length+1,0),(H.length+2,0)] hG hB hC' hcl
 obtain rfl:i=R.length:=by omega
 rw[List.drop_length,List.take_length] at ho
 rw[← ho] at hR
 clear hK
 have X:=And.intro noX (Int.lt_irrefl (R.length:Int))
 (refine run ?_;with_reducible repeat' first|exact trivial|(apply Fork.mk<;>intro hb)|apply Two.mk)
 exact finS (n0:=H.length) hR hC' hcl (.same _ rfl) ⟨rfl,by simp[resSV,oddAls]⟩
theorem bindersP_len (l:List Bd):(bindersP l).length≤bdsWt l:=
 flat_len (f:=fun b:Bd=>b.name::bnds b.e) (w:=Bd.wt) rfl (fun _ _=>rfl) fun b _=>by
  have:=bndF_len b.e.wt b.e
  have:=b.wt_gt
  simp only[List.length_cons,bnds];omega
theorem bd_wt {l:List Bd} {b:Bd} (h:b∈l):b.e.wt<bdsWt l:=by
 induction l with
 |nil=>cases h
 |cons x r ih=>
  simp only[bdsWt]
  have:=x.wt_gt
  rcases List.mem_cons.1 h with rfl|h
  ·omega
  ·have:=ih h;omega
theorem bindersP_ok (G:Gl) (hG:GClosed G) (cons:List Cn) (binds:List Bd) (H:List Blk) (hw:bdsWt binds<4294967296):
 ACall Tryz.prog G 33 [.agg [.list 4 (cnCells cons),.list 9 (bdCells binds)]] H (fun r H'=>H'=H++[.cells 0 1 ((bindersP binds).map .str)]∧r= .sl H.length 0 0 (bindersP binds).length):=by
 have hle:=bdsWt_len binds
 obtain⟨L2,b1,b2,b3,b4⟩:=flat_seq (fun b:Bd=>b.name::bnds b.e) [] binds
 have e0:bindersP binds=L2 binds.length:=by rw[b4,List.nil_append];rfl
 have hln:=bindersP_len binds
 rw[e0] at hln ⊢
 rw[← b4] at b3
 have under_ints:=fun n=>cnCells_under n cons
 refine ACall.of_go TB [3] tabOK _ Tryz.func33 rfl (by decide) Tryz.ntmps33 (by simp) rfl (by simp only[initEnv,Nat.reduceAdd];rfl) fun C R' hR hC hcl hB=>?_;have X:=noX;have hC':=congrArg List.length hC
 (refine run ?_;with_reducible repeat' first|exact trivial|(apply Fork.mk<;>intro hb)|apply Two.mk)
 refine go_loop (fun i:Nat=>[(3,.sl (H.length+1) 0 0 (L2 i).length),(7,.list 9 (bdCells binds)),(8,.int .i64 binds.length),(9,.int .i64 i)])
  (fun i=>H++[.cells 0 2 [.agg [.list 4 (cnCells cons),.list 9 (bdCells binds)]],.cells 0 1 ((L2 i).map .str)]) (fun i=>binds.length - i) (fun i=>i≤binds.length) 0 (Nat.zero_le _) ?_ ?_
 ·simp only[b1,List.length_nil,List.map_nil]
  exact wkS (n0:=H.length) [(H.length,0),(H.length+1,0)] hG hB hC' hcl
 rintro K i hi hK
 rcases Nat.lt_or_ge i binds.length with hlt|hge
 ·have hpb:=bd_wt (List.getElem_mem hlt)
  have c1:=fun H=>binders_ok G hG binds[i].e.wt binds[i].e H (Nat.le_refl _) (by omega)
  have e1:=b2 i hlt
  have e2:=b3 (i+1)
  have e3:=b3 i
  have e4:=bndF_len binds[i].e.wt binds[i].e
  rw[e1,List.length_append] at e2
  simp only[List.length_cons,bnds] at e2 e1
  generalize bndF binds[i].e.wt binds[i].e=l at*
  generalize L2 i=l1 at*
  have X:=And.intro noX (show(l1.map SV.str).length=l1.length∧(l.map SV.str).length=l.length from⟨List.length_map ..,List.length_map ..⟩)
  (refine run ?_;with_reducible repeat' first|exact trivial|(apply Fork.mk<;>intro hb)|apply Two.mk)
  refine hK _ _ (i+1) (by omega) (by omega) ?_
  rw[e1,List.map_append,List.map_cons,show(l1++binds[i].name::l).length=l1.length+(1+l.length) from by simp;omega]
  exact wkS (n0:=H.length) [(H.length,0),(H.length+1,0)] hG hB hC' hcl
 obtain rfl:i=binds.length:=by omega
 clear hK
 (refine run ?_;with_reducible repeat' first|exact trivial|(apply Fork.mk<;>intro hb)|apply Two.mk)
 exact finK [(H.length+1,0)] (.sl H.length 0 0 (L2 binds.length).length) [.cells 0 1 ((L2 binds.length).map .str)] hR hC' hcl ⟨rfl,rfl⟩
theorem Bd.sv_eq (b:Bd):b.sv= .agg (.str b.name::b.e.cells):=congrArg SV.agg b.cells_eq
theorem every1_ok (G:Gl) (hG:GClosed G) (fid:FuncId) (fi ca:List SV) (p:Ex→Bool) (m:Nat) (hm:m<549755813888) (b:Bd) (H:List Blk) (ib:Nat) (hb0:b.e.wt≤m) (hib:H[ib]? =some (.cells 0 1 [.fn (.func fid) fi ca])) (hfu:(SV.fn (.func fid) fi ca).under H.length=true) (hy:AnsV G fid fi ca p H m):
 ACall Tryz.prog G 31 [b.sv,.ptr ib 0 0 0] H (fun r H'=>H'=H∧r= .bool (!allS p b.e)):=by
 have hlt2:ib<H.length:=(List.getElem?_eq_some_iff.1 hib).1
 have c1:=fun L=>allP_ok G hG fid fi ca p m hm b.e (H++L) hb0 ((SV.below_mono_both (by simp)).1 _ hfu) (hy.app L)
 rw[b.sv_eq]
 refine ACall.of_go TB [] tabOK _ Tryz.func31 rfl (by decide) Tryz.ntmps31 (by simp) rfl (by simp only[initEnv,Nat.reduceAdd];rfl) fun C R' hR hC hcl hB=>?_;have X:=noX;have hC':=congrArg List.length hC
 have X:=And.intro X (fun L=>(show(H++L)[ib]? =some (.cells 0 1 [.fn (.func fid) fi ca]) by rw[get_old hlt2];exact hib))
 (refine run ?_;with_reducible repeat' first|exact trivial|(apply Fork.mk<;>intro hb)|apply Two.mk)
 exact finS (n0:=H.length) hR hC' hcl (.same _ rfl) ⟨rfl,rfl⟩
theorem every_ok (G:Gl) (hG:GClosed G) (fid:FuncId) (fi ca:List SV) (p:Ex→Bool) (cons:List Cn) (binds:List Bd) (hw:bdsWt binds<549755813888) (H:List Blk) (pb:Nat) (hpb:H[pb]? =some (.cells 0 2 [.agg [.list 4 (cnCells cons),.list 9 (bdCells binds)]])) (hfu:(SV.fn (.func fid) fi ca).under H.length=true) (hy:AnsV G fid fi ca p H (bdsWt binds)):
 ACall Tryz.prog G 29 [.fn (.func fid) fi ca,.ptr pb 0 0 0] H (fun r H'=>H'=H∧r= .bool (binds.all fun b=>allS p b.e)):=by
 have hlt2:pb<H.length:=(List.getElem?_eq_some_iff.1 hpb).1
 have hle:=bdsWt_len binds
 have c1:=anyBd_ok G hG (.fn (.func 31) [] [.ptr H.length 0 0 0]) (fun b=>!allS p b.e) binds (H++[.cells 0 1 [.fn (.func fid) fi ca]]) (by omega) (by simp[SV.under,SV.underL])
  (fun b hb=>ACallV.of (first:=[]) (args:=[b.sv]) (cap:=[.ptr H.length 0 0 0]) (every1_ok G hG fid fi ca p (bdsWt binds) hw b _ H.length (Nat.le_of_lt (bd_wt hb)) (by simp) ((SV.below_mono_both (by simp)).1 _ hfu) (hy.app _)))
 have e1:(!(binds.any fun b=>!allS p b.e))=binds.all fun b=>allS p b.e:=by rw[List.all_eq_not_any_not]
 rw[← e1]
 refine ACall.of_go TB [] tabOK _ Tryz.func29 rfl (by decide) Tryz.ntmps29 (by simp) rfl (by simp only[initEnv,Nat.reduceAdd];rfl) fun C R' hR hC hcl hB=>?_;have X:=noX;have hC':=congrArg List.length hC
 have X:=And.intro X (fun L=>(show(H++L)[pb]? =some (.cells 0 2 [.agg [.list 4 (cnCells cons),.list 9 (bdCells binds)]]) by rw[get_old hlt2];exact hpb))
 (refine run ?_;with_reducible repeat' first|exact trivial|(apply Fork.mk<;>intro hb)|apply Two.mk)
 exact finS (n0:=H.length) hR hC' hcl (.same _ rfl) ⟨rfl,rfl⟩
theorem bound_ok (G:Gl) (hG:GClosed G) (t:List (Str×Int)) (ht:∀ s,0≤cntB t s∧cntB t s≤1) (b:Bd) (hw:b.e.wt<549755813888) (H:List Blk) (vb tb:Nat) (hvb:H[vb]? =some (.cells 0 1 [.map tb])) (htb:H[tb]? =some (.map none (esB t))):
 ACall Tryz.prog G 35 [b.sv,.ptr vb 0 0 0] H (fun r H'=>H'=H∧r= .bool (bndS t b)):=by
 have l1:vb<H.length:=(List.getElem?_eq_some_iff.1 hvb).1
 have l2:tb<H.length:=(List.getElem?_eq_some_iff.1 htb).1
 rw[b.sv_eq]
 have c1:ACall Tryz.prog G 37 [.map tb] (H++[.cells 0 9 [.agg (.str b.name::b.e.cells)],.map none []]) (fun r H'=>H'=H++[.cells 0 9 [.agg (.str b.name::b.e.cells)],.map none [],.map none (esB t)]∧r= .map (H.length+2)):=
  (ACall.of_clone (G:=G) ⟨_,Tryz.func37,by decide,rfl⟩ (fun b es clock w hb=>Tryz.maps_Clone b es clock w hb) tb (H++[.cells 0 9 [.agg (.str b.name::b.e.cells)],.map none []]) none (esB t) (by rw[get_old l2];exact htb)).mono (by rintro r H' ⟨rfl,rfl⟩;simp)
 have hcall:=unbound_ok G hG b.e.wt b.e (Nat.le_refl _) hw (H++[.cells 0 9 [.agg (.str b.name::b.e.cells)],.map none [],.map none (esB t)]) (H.length+2) (H.length+1) (t,[]) (by simp) (by simp[esO]) (by omega) (fun s=>by have:=ht s;simp only;omega)
 refine ACall.of_go TB [] tabOK _ Tryz.func35 rfl (by decide) Tryz.ntmps35 (by simp) rfl (by simp only[initEnv,Nat.reduceAdd];rfl) fun C R' hR hC hcl hB=>?_;have X:=noX;have hC':=congrArg List.length hC
 have X:=And.intro X (fun L=>(show(H++L)[vb]? =some (.cells 0 1 [.map tb]) by rw[get_old l1];exact hvb))
 (refine run ?_;with_reducible repeat' first|exact trivial|(apply Fork.mk<;>intro hb)|apply Two.mk)
 refine xcallS hcall ?_
 rintro r H' rfl
 simp only[UH,set_app,List.set_cons_succ,List.set_cons_zero]
 have hul:=unb_len b.e.wt b.e (t,[])
 have ebn:bndS t b=decide ((unbF b.e.wt b.e (t,[])).2.length=0):=rfl
 generalize hst:unbF b.e.wt b.e (t,[])=st at*
 have hul2:st.2.length≤9223372036854775807:=by simp only[List.length_nil] at hul;omega
 have e3:(esO st.2).length=st.2.length:=by simp[esO]
 have X:=And.intro X e3
 (refine run ?_;with_reducible repeat' first|exact trivial|(apply Fork.mk<;>intro hb)|apply Two.mk)
 refine finS (n0:=H.length) hR hC' hcl (.same _ rfl) ⟨rfl,?_⟩
 rw[ebn]
 exact congrArg SV.bool (decide_eq_decide.2 (by omega))
theorem bound4_ok (G:Gl) (hG:GClosed G) (t:List (Str×Int)) (ht:∀ s,0≤cntB t s∧cntB t s≤1) (b:Bd) (hw:b.e.wt<549755813888) (H:List Blk) (fb vb tb:Nat) (hfb:H[fb]? =some (.cells 0 1 [.fn (.func 35) [] [.ptr vb 0 0 0]])) (hvb:H[vb]? =some (.cells 0 1 [.map tb])) (htb:H[tb]? =some (.map none (esB t))):
 ACall Tryz.prog G 43 [b.sv,.ptr fb 0 0 0] H (fun r H'=>H'=H∧r= .bool (!bndS t b)):=by
 have l0:fb<H.length:=(List.getElem?_eq_some_iff.1 hfb).1
 have l1:vb<H.length:=(List.getElem?_eq_some_iff.1 hvb).1
 have l2:tb<H.length:=(List.getElem?_eq_some_iff.1 htb).1
 have hb:=bound_ok G hG t ht b hw (H++[.cells 0 9 [.agg (.str b.name::b.e.cells)]]) vb tb (by rw[get_old l1];exact hvb) (by rw[get_old l2];exact htb)
 rw[b.sv_eq] at*
 have v1:=ACallV.of (first:=[]) (args:=[.agg (.str b.name::b.e.cells)]) (cap:=[.ptr vb 0 0 0]) hb
 refine ACall.of_go TB [] tabOK _ Tryz.func43 rfl (by decide) Tryz.ntmps43 (by simp) rfl (by simp only[initEnv,Nat.reduceAdd];rfl) fun C R' hR hC hcl hB=>?_;have X:=noX;have hC':=congrArg List.length hC
 have X:=And.intro X (fun L=>(show(H++L)[fb]? =some (.cells 0 1 [.fn (.func 35) [] [.ptr vb 0 0 0]]) by rw[get_old l0];exact hfb))
 (refine run ?_;with_reducible repeat' first|exact trivial|(apply Fork.mk<;>intro hb)|apply Two.mk)
 exact finS (n0:=H.length) hR hC' hcl (.same _ rfl) ⟨rfl,rfl⟩
theorem known_ok (G:Gl) (hG:GClosed G) (H:List Blk) (lb mb vb:Nat) (cs:List Cn) (hl:LintAt H lb mb cs) (hvb:H[vb]? =some (.cells 0 1 [.ptr lb 0 0 0])):
 ACall Tryz.prog G 38 [.ptr vb 0 0 0] H (fun r H'=>H'=H∧r= .bool (knoS cs)):=by
 have l0:vb<H.length:=(List.getElem?_eq_some_iff.1 hvb).1
 have l1:=(List.getElem?_eq_some_iff.1 hl.l).1
 have l2:=(List.getElem?_eq_some_iff.1 hl.m).1
 refine ACall.of_go TB [] tabOK _ Tryz.func38 rfl (by decide) Tryz.ntmps38 (by simp) rfl (by simp only[initEnv,Nat.reduceAdd];rfl) fun C R' hR hC hcl hB=>?_;have X:=noX;have hC':=congrArg List.length hC
 have hvx:=fun L=>(show(H++L)[vb]? =some (.cells 0 1 [.ptr lb 0 0 0]) by rw[get_old l0];exact hvb)
 (refine run ?_;with_reducible repeat' first|exact trivial|(apply Fork.mk<;>intro hb)|apply Two.mk)
 refine go_loop (fun i:Nat=>[(0,.ptr vb 0 0 0),(8,.agg [.str [80,114,105,109,46,70,97,108,115,101],.int .i64 0,.int .i64 0,.int .i64 2,.str [80,114,105,109,46,84,114,117,101],.int .i64 0,.int .i64 1,.int .i64 2,.str [80,114,105,109,46,40,41],.int .i64 0,.int .i64 0,.int .i64 1,.str [80,114,105,109,46,66,111,120],.int .i64 1,.int .i64 0,.int .i64 1]),(9,.int .i64 i)]) (fun _=>H++[]) (fun i=>4 - i) (fun i=>i≤4∧(kno4.take i).all (fun c=>decide (getCn cs c.name=c))=true) 0 ⟨by omega,rfl⟩ ?_ ?_
 ·simp only[List.append_nil]
  exact Wk.sub (by simp[subEnv,look])
 rintro K i ⟨hi,ho⟩ hK
 have h5:i=0∨i=1∨i=2∨i=3∨i=4:=by omega
 rcases h5 with rfl|rfl|rfl|rfl|rfl
 ·have hz:=cn_zero cs [80,114,105,109,46,70,97,108,115,101]
  by_cases hq:getCn cs [80,114,105,109,46,70,97,108,115,101]=(⟨[80,114,105,109,46,70,97,108,115,101],0,0,2⟩:Cn)
  ·rw[hq] at hz
   have X:=And.intro X (And.intro hl.X (And.intro hvx hz))
   (refine run ?_;with_reducible repeat' first|exact trivial|(apply Fork.mk<;>intro hb)|apply Two.mk)
   refine hK _ _ 1 (by omega) ⟨by omega,?_⟩ ?_
   ·simp only[kno4,List.take_succ_cons,List.take_zero,List.all_cons,List.all_nil,Bool.and_true,Bool.and_eq_true,decide_eq_true_eq] at ho ⊢
    simp_all
   ·exact wkS (n0:=H.length) [] hG hB hC' hcl
  ·have hf:knoS cs=false:=by rw[knoS,List.all_eq_false];exact⟨(⟨[80,114,105,109,46,70,97,108,115,101],0,0,2⟩:Cn),by simp[kno4],by simpa using hq⟩
   rw[hf] at hR
   generalize getCn cs [80,114,105,109,46,70,97,108,115,101]=q at*
   obtain⟨n1,n2,n3,n4⟩:=q
   have X:=And.intro X (And.intro hl.X (And.intro hvx hz))
   (refine run ?_;with_reducible repeat' first|exact trivial|(apply Fork.mk<;>intro hb)|apply Two.mk)
   ·exact finS (n0:=H.length) hR hC' hcl (.same _ rfl) ⟨rfl,rfl⟩
   ·exfalso;apply hq;simp_all
 ·have hz:=cn_zero cs [80,114,105,109,46,84,114,117,101]
  by_cases hq:getCn cs [80,114,105,109,46,84,114,117,101]=(⟨[80,114,105,109,46,84,114,117,101],0,1,2⟩:Cn)
  ·rw[hq] at hz
   have X:=And.intro X (And.intro hl.X (And.intro hvx hz))
   (refine run ?_;with_reducible repeat' first|exact trivial|(apply Fork.mk<;>intro hb)|apply Two.mk)
   refine hK _ _ 2 (by omega) ⟨by omega,?_⟩ ?_
   ·simp only[kno4,List.take_succ_cons,List.take_zero,List.all_cons,List.all_nil,Bool.and_true,Bool.and_eq_true,decide_eq_true_eq] at ho ⊢
    simp_all
   ·exact wkS (n0:=H.length) [] hG hB hC' hcl
  ·have hf:knoS cs=false:=by rw[knoS,List.all_eq_false];exact⟨(⟨[80,114,105,109,46,84,114,117,101],0,1,2⟩:Cn),by simp[kno4],by simpa using hq⟩
   rw[hf] at hR
   generalize getCn cs [80,114,105,109,46,84,114,117,101]=q at*
   obtain⟨n1,n2,n3,n4⟩:=q
   have X:=And.intro X (And.intro hl.X (And.intro hvx hz))
   (refine run ?_;with_reducible repeat' first|exact trivial|(apply Fork.mk<;>intro hb)|apply Two.mk)
   ·exact finS (n0:=H.length) hR hC' hcl (.same _ rfl) ⟨rfl,rfl⟩
   ·exfalso;apply hq;simp_all
 ·have hz:=cn_zero cs [80,114,105,109,46,40,41]
  by_cases hq:getCn cs [80,114,105,109,46,40,41]=(⟨[80,114,105,109,46,40,41],0,0,1⟩:Cn)
  ·rw[hq] at hz
   have X:=And.intro X (And.intro hl.X (And.intro hvx hz))
   (refine run ?_;with_reducible repeat' first|exact trivial|(apply Fork.mk<;>intro hb)|apply Two.mk)
   refine hK _ _ 3 (by omega) ⟨by omega,?_⟩ ?_
   ·simp only[kno4,List.take_succ_cons,List.take_zero,List.all_cons,List.all_nil,Bool.and_true,Bool.and_eq_true,decide_eq_true_eq] at ho ⊢
    simp_all
   ·exact wkS (n0:=H.length) [] hG hB hC' hcl
  ·have hf:knoS cs=false:=by rw[knoS,List.all_eq_false];exact⟨(⟨[80,114,105,109,46,40,41],0,0,1⟩:Cn),by simp[kno4],by simpa using hq⟩
   rw[hf] at hR
   generalize getCn cs [80,114,105,109,46,40,41]=q at*
   obtain⟨n1,n2,n3,n4⟩:=q
   have X:=And.intro X (And.intro hl.X (And.intro hvx hz))
   (refine run ?_;with_reducible repeat' first|exact trivial|(apply Fork.mk<;>intro hb)|apply Two.mk)
   ·exact finS (n0:=H.length) hR hC' hcl (.same _ rfl) ⟨rfl,rfl⟩
   ·exfalso;apply hq;simp_all
 ·have hz:=cn_zero cs [80,114,105,109,46,66,111,120]
  by_cases hq:getCn cs [80,114,105,109,46,66,111,120]=(⟨[80,114,105,109,46,66,111,120],1,0,1⟩:Cn)
  ·rw[hq] at hz
   have X:=And.intro X (And.intro hl.X (And.intro hvx hz))
   (refine run ?_;with_reducible repeat' first|exact trivial|(apply Fork.mk<;>intro hb)|apply Two.mk)
   refine hK _ _ 4 (by omega) ⟨by omega,?_⟩ ?_
   ·simp only[kno4,List.take_succ_cons,List.take_zero,List.all_cons,List.all_nil,Bool.and_true,Bool.and_eq_true,decide_eq_true_eq] at ho ⊢
    simp_all
   ·exact wkS (n0:=H.length) [] hG hB hC' hcl
  ·have hf:knoS cs=false:=by rw[knoS,List.all_eq_false];exact⟨(⟨[80,114,105,109,46,66,111,120],1,0,1⟩:Cn),by simp[kno4],by simpa using hq⟩
   rw[hf] at hR
   generalize getCn cs [80,114,105,109,46,66,111,120]=q at*
   obtain⟨n1,n2,n3,n4⟩:=q
   have X:=And.intro X (And.intro hl.X (And.intro hvx hz))
   (refine run ?_;with_reducible repeat' first|exact trivial|(apply Fork.mk<;>intro hb)|apply Two.mk)
   ·exact finS (n0:=H.length) hR hC' hcl (.same _ rfl) ⟨rfl,rfl⟩
   ·exfalso;apply hq;simp_all
 ·have ho:knoS cs=true:=ho
  rw[ho] at hR
  (refine run ?_;with_reducible repeat' first|exact trivial|(apply Fork.mk<;>intro hb)|apply Two.mk)
  exact finS (n0:=H.length) hR hC' hcl (.same _ rfl) ⟨rfl,rfl⟩
theorem dedNs_le (l:List Str):∀ m,(dedNs l m).length≤m
 |0=>Nat.le_refl _
 |m+1=>by
  rw[dedNs]
  have:=dedNs_le l m
  split
  ·omega
  ·rw[List.length_append,List.length_singleton];omega
theorem cellsQ {H:List Blk} {id g sz:Nat} {vs0:List SV} (h:H[id]? =some (.cells g sz vs0)):
 ∃ Q:List SV→List Blk,Q vs0=H∧(∀ vs,Q vs=H.set id (.cells g sz vs))∧(∀ vs,(Q vs).length=H.length)∧
  ((∀ vs,(Q vs)[id]? =some (.cells g sz vs))∧(∀ vs L,(Q vs++L)[id]? =some (.cells g sz vs))∧(∀ vs ws,(Q vs).set id (.cells g sz ws)=Q ws)∧(∀ vs ws L,(Q vs++L).set id (.cells g sz ws)=Q ws++L))∧(closed H→∀ vs,SV.underL H.length vs=true→closed (Q vs)):=by
 have hl:=(List.getElem?_eq_some_iff.1 h).1
 refine⟨fun vs=>H.set id (.cells g sz vs),set_same h,fun vs=>rfl,fun vs=>by simp,⟨fun vs=>List.getElem?_set_self hl,fun vs L=>?_,fun vs ws=>List.set_set ..,fun vs ws L=>?_⟩,fun hc vs hv=>hc.set hv⟩
 ·rw[List.getElem?_append_left (by simpa using hl)];exact List.getElem?_set_self hl
 ·rw[set_old (by simpa using hl),List.set_set]
theorem compact_ok (G:Gl) (hG:GClosed G) (l:List Str) (H:List Blk) (id g:Nat) (hid:H[id]? =some (.cells g 1 (l.map .str))) (hl:l.length<1099511627776):
 ACall Tryz.prog G 41 [.sl id g 0 l.length] H (fun r H'=>∃ vs,(H'=H.set id (.cells g 1 vs)∧r= .sl id g 0 (dedS l).length)∧vs.length=l.length∧SV.underL H.length vs=true):=by
 obtain⟨Q,q0,qd,hlen,qx,qc⟩:=cellsQ hid
 have li:=(List.getElem?_eq_some_iff.1 hid).1
 have hlm:(l.map SV.str).length=l.length:=List.length_map ..
 simp only[← qd]
 have hu:∀ xs:List Str,SV.underL H.length (xs.map SV.str)=true:=fun xs=>SV.underL_map fun _ _=>rfl
 rw[← q0]
 refine ACall.of_go TB [] tabOK _ Tryz.func41 rfl (by decide) Tryz.ntmps41 (by simp) rfl (by simp only[initEnv,Nat.reduceAdd];rfl) fun C R' hR hC hcl hB=>?_;have X:=noX;have hC':=congrArg List.length hC
 have hC':=hC'.trans (hlen _)
 rw[hlen] at hR
 have hcls:∀ vs,SV.underL H.length vs=true→closed (Q vs):=fun vs=>qc (q0 ▸ hcl) vs
 generalize H.length=n0 at*
 have X:=And.intro X (And.intro qx hlm)
 (refine run ?_;with_reducible repeat' first|exact trivial|(apply Fork.mk<;>intro hb)|apply Two.mk)
 ·rename_i hb
  have e:(dedS l).length=l.length:=by
   match l,hb with
   |[],_=>rfl
   |[x],_=>rfl
   |x::y::r,h=>simp only[List.length_cons] at h;omega
  exact Fin.out hR ⟨_,⟨rfl,by rw[e];rfl⟩,hlm,hu l⟩
 have hn2:2≤l.length:=by omega
 refine go_loop (fun m:Nat=>[(0,.sl id g 0 l.length),(2,.nil),(3,.int .i64 ((m+1:Nat):Int))]) (fun _=>Q (l.map .str)++[]) (fun m=>l.length - m) (fun m=>m+1≤l.length∧dedNs l (m+1)=l.take (m+1)) 0 ⟨by omega,?_⟩ ?_ ?_
 ·match l,hn2 with
  |x::r,_=>simp[dedNs]
 ·rw[List.append_nil]
  exact Wk.sub (by simp[subEnv,look])
 rintro K m ⟨hm,hd⟩ hK
 rcases Nat.lt_or_ge (m+1) l.length with hlt|hge
 ·have hm0:m<l.length:=by omega
  have e1:(l.map SV.str)[m+1]? =some (.str l[m+1]):=by simp[hlt]
  have e2:(l.map SV.str)[m]? =some (.str l[m]):=by simp[hm0]
  have hmi:((m+1:Nat):Int) - 1=(m:Int):=by omega
  have g1:l.getD (m+1) []=l[m+1]:=by rw[List.getD_eq_getElem?_getD,List.getElem?_eq_getElem hlt];rfl
  have g0:l.getD m []=l[m]:=by rw[List.getD_eq_getElem?_getD,List.getElem?_eq_getElem hm0];rfl
  have hds:dedNs l (m+2)=if l[m+1]=l[m] then dedNs l (m+1) else dedNs l (m+1)++[l[m+1]]:=by
   rw[dedNs,Nat.add_sub_cancel,g1,g0]
   by_cases h:l[m+1]=l[m]
   ·rw[if_pos ⟨by omega,h⟩,if_pos h]
   ·rw[if_neg (fun q=>h q.2),if_neg h]
  have ht:=List.take_succ_eq_append_getElem hlt
  generalize l[m+1]=x1 at*
  generalize l[m]=x0 at*
  have X:=And.intro X (And.intro e1 (And.intro e2 hmi))
  (refine run ?_;with_reducible repeat' first|exact trivial|(apply Fork.mk<;>intro hb)|apply Two.mk)
  ·rw[if_pos hb] at hds
   have hJ0:(dedNs l (m+2)).length=m+1:=by rw[hds,hd,List.length_take];omega
   refine go_loop (fun a:Nat×List Str=>[(0,.sl id g 0 l.length),(3,.int .i64 ((dedNs l (m+1+(a.1+1))).length:Int)),(4,.sl id g (m+1) (l.length - (m+1))),(5,.int .i64 ((a.1+1:Nat):Int))]) (fun a=>Q (a.2.map .str)++[]) (fun a=>l.length - a.1)
    (fun a=>(m+1+(a.1+1)≤l.length∧a.2.length=l.length)∧(∀ i,m+1+a.1≤i→a.2[i]? =l[i]?)∧(dedNs l (m+1+(a.1+1))).length≤m+1+a.1) (0,l) ⟨⟨by omega,rfl⟩,fun i _=>rfl,by simp only[Nat.zero_add];rw[show dedNs l (m+1+1)=dedNs l (m+2) from rfl,hJ0];omega⟩ ?_ ?_
   ·simp only[Nat.zero_add]
    rw[show dedNs l (m+1+1)=dedNs l (m+2) from rfl,hJ0]
    exact wkS (n0:=n0) [] hG hB hC' (hcls _ (hu l))
   clear hK X
   rintro K2 ⟨a,xs⟩ ⟨⟨ha1,ha2⟩,ha4,ha5⟩ hK2
   simp only at ha1 ha2 ha4 ha5
   dsimp only
   have ha2':(xs.map SV.str).length=l.length:=by rw[List.length_map,ha2]
   have hJn:=hds
   rcases Nat.lt_or_ge (m+1+(a+1)) l.length with hl2|hl2
   ·have f1:=ha4 (m+1+(a+1)) (by omega)
    have f2:=ha4 (m+1+a) (by omega)
    have hl3:m+1+a<l.length:=by omega
    rw[List.getElem?_eq_getElem hl2] at f1
    rw[List.getElem?_eq_getElem hl3] at f2
    have g1:l.getD (m+1+(a+1)) []=l[m+1+(a+1)]:=by rw[List.getD_eq_getElem?_getD,List.getElem?_eq_getElem hl2];rfl
    have g0:l.getD (m+1+a) []=l[m+1+a]:=by rw[List.getD_eq_getElem?_getD,List.getElem?_eq_getElem hl3];rfl
    have hds:dedNs l (m+1+(a+1+1))=if l[m+1+(a+1)]=l[m+1+a] then dedNs l (m+1+(a+1)) else dedNs l (m+1+(a+1))++[l[m+1+(a+1)]]:=by
     rw[show m+1+(a+1+1)=(m+1+(a+1))+1 from rfl,dedNs,show m+1+(a+1) - 1=m+1+a by omega,g1,g0]
     by_cases h:l[m+1+(a+1)]=l[m+1+a]
     ·rw[if_pos ⟨by omega,h⟩,if_pos h]
     ·rw[if_neg (fun q=>h q.2),if_neg h]
    clear hJn
    generalize l[m+1+(a+1)]=x1 at*
    generalize l[m+1+a]=x0 at*
    generalize hJ:(dedNs l (m+1+(a+1))).length=J at*
    have q1:((l.length - (m+1):Nat):Int)=(l.length:Int) - (m+1):=by omega
    have q2:((a+1:Nat):Int) - 1=(a:Int):=by omega
    have hJl:J<xs.length:=by omega
    obtain⟨y,hy⟩:∃ y,xs[J]? =some y:=⟨_,List.getElem?_eq_getElem hJl⟩
    have f1':(xs.map SV.str)[m+(1+(a+1))]? =some (.str x1):=by rw[← Nat.add_assoc,List.getElem?_map,f1];rfl
    have f2':(xs.map SV.str)[m+(1+a)]? =some (.str x0):=by rw[← Nat.add_assoc,List.getElem?_map,f2];rfl
    have hy':(xs.map SV.str)[J]? =some (.str y):=by rw[List.getElem?_map,hy];rfl
    have hset:(xs.map SV.str).set J (.str x1)=(xs.set J x1).map SV.str:=by rw[List.map_set]
    have X:=And.intro noX (And.intro qx (And.intro f1' (And.intro f2' (And.intro q2 (And.intro ha2' (And.intro hy' hset))))))
    (refine run ?_;with_reducible repeat' first|exact trivial|(apply Fork.mk<;>intro hb)|apply Two.mk)
    ·rw[if_neg hb] at hds
     have hJ2:(dedNs l (m+1+(a+1+1))).length=J+1:=by rw[hds,List.length_append,hJ];rfl
     refine hK2 _ _ (a+1,xs.set J x1) (by simp only;omega) ⟨⟨by simp only;omega,by simpa using ha2⟩,fun i hi=>?_,by simp only[hJ2];omega⟩ ?_
     ·simp only at hi
      rw[List.getElem?_set_ne (by omega)]
      exact ha4 i (by omega)
     ·simp only[hJ2]
      exact wkS (n0:=n0) [] hG hB hC' (hcls _ (hu _))
    ·rw[if_pos (by simpa using hb)] at hds
     have hJ2:(dedNs l (m+1+(a+1+1))).length=J:=by rw[hds,hJ]
     refine hK2 _ _ (a+1,xs) (by simp only;omega) ⟨⟨by simp only;omega,ha2⟩,fun i hi=>ha4 i (by simp only at hi;omega),by simp only[hJ2];omega⟩ ?_
     simp only[hJ2]
     exact wkS (n0:=n0) [] hG hB hC' (hcls _ (hu _))
   ·have hml:m+1+(a+1)=l.length:=by omega
    have he:dedS l=dedNs l (m+1+(a+1)):=by rw[dedS,hml]
    have hq:((l.length - (m+1):Nat):Int)=((a+1:Nat):Int):=by omega
    have hJ3:(dedNs l (m+1+(a+1))).length≤l.length:=by omega
    rw[he] at hR
    generalize (dedNs l (m+1+(a+1))).length=J at*
    clear hK2
    have X:=And.intro noX (And.intro qx (And.intro ha2' (And.intro hq (Int.lt_irrefl ((a+1:Nat):Int)))))
    (refine run ?_;with_reducible repeat' first|exact trivial|(apply Fork.mk<;>intro hb)|apply Two.mk)
    have hul:SV.underL n0 (List.take J (xs.map SV.str)++(List.replicate (l.length - J) (SV.str [])++List.drop (J+(l.length - J)) (xs.map SV.str)))=true:=by
     rw[SV.underL_append,SV.underL_append,SV.underL_replicate rfl,← List.map_take,← List.map_drop,hu,hu];rfl
    exact finS (n0:=n0) hR hC' (hcls _ hul) (.same _ (by simpa [SV.under,resSV] using li)) ⟨_,⟨rfl,rfl⟩,by simp only[List.length_append,List.length_take,List.length_replicate,List.length_drop,List.length_map];omega,hul⟩
  ·rw[if_neg hb,hd,← ht] at hds
   exact hK _ _ (m+1) (by omega) ⟨by omega,hds⟩ (wkS (n0:=n0) [] hG hB hC' (hcls _ (hu l)))
 ·have hml:m+1=l.length:=by omega
  clear hK
  (refine run ?_;with_reducible repeat' first|exact trivial|(apply Fork.mk<;>intro hb)|apply Two.mk)
  have e:dedS l=l:=by rw[dedS,← hml,hd,hml,List.take_length]
  exact finS (n0:=n0) hR hC' (hcls _ (hu l)) (.same _ (by simpa [SV.under,resSV] using li)) ⟨_,⟨rfl,by rw[e];rfl⟩,hlm,hu l⟩
def DepC (G:Gl) (m:Nat):Prop:=∀ (e:Ex) (H:List Blk),e.wt≤m→ACall Tryz.prog G 28 [e.sv] H (fun r H'=>H'=H∧r= .int .i64 (depF m e))
theorem max_nat (n d:Nat):(if (n:Int)<(d:Int) then (d:Int) else (n:Int))=((max n d:Nat):Int):=by
 split<;>omega
theorem depth1_ok (G:Gl) (hG:GClosed G) (m:Nat) (hm:m<4294967296) (hrec:DepC G m) (p:Ex) (H:List Blk) (n nb:Nat) (hp:p.wt≤m) (h1:H[nb]? =some (szC n)) (hn:n<4294967296):
 ACall Tryz.prog G 78 [p.sv,.ptr nb 0 0 0] H (fun r H'=>H'=H.set nb (szC (max n (depF m p):Nat))∧r= .bool true):=by
 have hlt:nb<H.length:=(List.getElem?_eq_some_iff.1 h1).1
 have hd:=depF_le m p
 have c1:=fun H=>hrec p H hp
 generalize depF m p=d at*
 refine ACall.of_go TB [] tabOK _ Tryz.func78 rfl (by decide) Tryz.ntmps78 (by simp) rfl (by simp only[initEnv,Nat.reduceAdd];rfl) fun C R' hR hC hcl hB=>?_;have X:=noX;have hC':=congrArg List.length hC
 have X:=And.intro h1 (show IntKind.i64.min≤(d:Int)∧(d:Int)≤IntKind.i64.max from⟨by show(-9223372036854775808:Int)≤_;omega,by show _≤(9223372036854775807:Int);omega⟩)
 unfold szC at X
 (refine run ?_;with_reducible repeat' first|exact trivial|(apply Fork.mk<;>intro hb)|apply Two.mk)
 rw[max_nat]
 exact Fin.tellN (n0:=H.length) hR (by simp) hC' (hcl.set rfl) (.same _ rfl) ⟨rfl,rfl⟩
theorem maxL_take (l:List Nat) (i:Nat) (h:i<l.length):maxL (l.take (i+1))=max (maxL (l.take i)) l[i]:=by
 rw[List.take_succ_eq_append_getElem h,maxL_app]
theorem depth_ok (G:Gl) (hG:GClosed G):∀ m,m<4294967296→DepC G m
 |0,_,e,_,h=>absurd e.wt_pos (by omega)
 |m+1,hm2,e,H,hm=>by
  have hrec:=depth_ok G hG m (by omega)
  have hmx:∀ i,maxL ((e.parts.map (depF m)).take i)≤m:=fun i=>maxL_le fun x hx=>by
   obtain⟨p,_,rfl⟩:=List.mem_map.1 (List.mem_of_mem_take hx)
   exact depF_le m p
  refine ACall.of_go TB [] tabOK _ Tryz.func28 rfl (by decide) Tryz.ntmps28 (by simp) rfl (by simp only[initEnv,Nat.reduceAdd];rfl) fun C R' hR hC hcl hB=>?_;have X:=noX;have hC':=congrArg List.length hC
  have heach:=each_ok G hG e (by omega) (.fn (.func 78) [] [.ptr (H.length+1) 0 0 0]) (fun i=>H++[.cells 0 8 [.agg e.cells],szC (maxL ((e.parts.map (depF m)).take i):Nat)]) (H.length+2) (fun i=>by simp) (by simp[SV.under,SV.underL])
   (fun h i=>by
    have:=h.set (id:=H.length+1) (b:=szC (maxL ((e.parts.map (depF m)).take i):Nat)) rfl
    simpa using this) (fun i p X hp=>by
    have hpw:=Ex.wt_parts (List.mem_of_getElem? hp)
    have hlp:=(List.getElem?_eq_some_iff.1 hp)
    have hli:i<(e.parts.map (depF m)).length:=by simpa using hlp.1
    have hnx:=maxL_take (e.parts.map (depF m)) i hli
    have hget:(e.parts.map (depF m))[i]=depF m p:=by simp[hlp.2]
    rw[hget] at hnx
    have hi:=hmx i
    refine ACallV.of (first:=[]) (args:=[p.sv]) (cap:=[.ptr (H.length+1) 0 0 0]) ((depth1_ok G hG m (by omega) hrec p _ (maxL ((e.parts.map (depF m)).take i)) (H.length+1) (by omega) (by simp) (by omega)).mono ?_)
    rintro r H' ⟨rfl,rfl⟩
    refine⟨?_,rfl⟩
    rw[hnx]
    simp)
  have h0:maxL ((e.parts.map (depF m)).take 0)=0:=rfl
  have hall:maxL ((e.parts.map (depF m)).take e.parts.length)=maxL (e.parts.map (depF m)):=by
   rw[List.take_of_length_le (by simp)]
  simp only[szC,h0,hall] at heach
  have hmm:=hmx e.parts.length
  rw[hall] at hmm
  unfold depF at hR
  generalize maxL (e.parts.map (depF m))=d at*
  (refine run ?_;with_reducible repeat' first|exact trivial|(apply Fork.mk<;>intro hb)|apply Two.mk)
  refine callS heach ?_
  rintro r H' ⟨rfl,rfl⟩
  (refine run ?_;with_reducible repeat' first|exact trivial|(apply Fork.mk<;>intro hb)|apply Two.mk)
  exact Fin.tellN (n0:=H.length) hR (by simp) hC' hcl (.same _ rfl) ⟨rfl,by simp only[resSV];rfl⟩
theorem clone_sl (G:Gl) (hG:GClosed G) (l:List Str) (H:List Blk) (id g:Nat) (hid:H[id]? =some (.cells g 1 (l.map .str))) (hl:l.length<1099511627776):
 ACall Tryz.prog G 42 [.sl id g 0 l.length] H (fun r H'=>H'=H++[.cells 0 1 (l.map .str)]∧r= .sl H.length 0 0 l.length):=by
 have li:=(List.getElem?_eq_some_iff.1 hid).1
 have hlm:(l.map SV.str).length=l.length:=List.length_map ..
 have ht:List.take l.length (l.map SV.str)=l.map SV.str:=List.take_of_length_le (by omega)
 refine ACall.of_go TB [2,5] tabOK _ Tryz.func42 rfl (by decide) Tryz.ntmps42 (by simp) rfl (by simp only[initEnv,Nat.reduceAdd];rfl) fun C R' hR hC hcl hB=>?_;have X:=noX;have hC':=congrArg List.length hC
 have X:=And.intro X (And.intro hid (And.intro hlm ht))
 (refine runO ?_;with_reducible repeat' first|exact trivial|(apply Fork.mk<;>intro hb)|apply Two.mk)
 ·obtain rfl:l=[]:=List.length_eq_zero_iff.1 hb
  exact finK [(H.length+1,0)] (.sl H.length 0 0 0) [.cells 0 1 []] hR hC' hcl ⟨rfl,rfl⟩
 ·exact finK [(H.length+1,0)] (.sl H.length 0 0 l.length) [.cells 0 1 (l.map .str)] hR hC' hcl ⟨rfl,rfl⟩
theorem top_cnt:∀ (l:List Bd) (t:List (Str×Int)),(∀ s,0≤cntB t s∧cntB t s≤1)→∀ s,0≤cntB (l.foldl (fun t b=>setB t b.name 1) t) s∧cntB (l.foldl (fun t b=>setB t b.name 1) t) s≤1
 |[],t,h=>h
 |b::r,t,h=>by
  rw[List.foldl_cons]
  refine top_cnt r _ fun s=>?_
  rw[cnt_set]
  split
  ·omega
  ·exact h s
theorem topB_cnt (l:List Bd) (s:Str):0≤cntB (topB l) s∧cntB (topB l) s≤1:=top_cnt l [] (fun s=>by simp[cntB]) s
theorem topB_snoc (l:List Bd) (b:Bd):setSV (esB (topB l)) (.str b.name) (.int .i64 1)=esB (topB (l++[b])):=by
 rw[setSV_esB,topB,topB,List.foldl_append];rfl
theorem sizeP_snoc (l:List Bd) (b:Bd):sizeP (l++[b])=sizeP l+b.e.size:=by simp[sizeP]
theorem depP_snoc (l:List Bd) (b:Bd):depP (l++[b])=max (depP l) (dep b.e):=by rw[depP,List.map_append,List.map_cons,List.map_nil,maxL_app];rfl
theorem sizeP_le:∀ l:List Bd,sizeP l≤bdsWt l
 |[]=>Nat.le_refl _
 |b::r=>by
  have h1:=sizeP_le r
  have h2:=size_le_wt b.e.wt b.e (Nat.le_refl _)
  have h3:=b.wt_gt
  simp only[sizeP,List.map_cons,List.sum_cons,bdsWt] at*
  omega
theorem bdsWt_take (l:List Bd) (i:Nat):bdsWt (l.take i)≤bdsWt l:=by
 induction l generalizing i with
 |nil=>simp
 |cons b r ih=>
  cases i with
  |zero=>simp[bdsWt]
  |succ i=>simp only[List.take_succ_cons,bdsWt];have:=ih i;omega
theorem dep_le (e:Ex):dep e≤e.wt:=depF_le _ _
theorem depP_le (l:List Bd):depP l≤bdsWt l:=maxL_le fun x hx=>by
 obtain⟨b,hb,rfl⟩:=List.mem_map.1 hx
 have:=dep_le b.e
 have:=bd_wt hb
 omega
section
section
variable {P:Program} {G:Gl} {T:Tab} {own:List Nat} {nt B:Nat} {ρ:Option Nat} {C:Cx} {rs:List ResultVar} {R:SV→List Blk→Prop} {env env2:Env} {H X KB:List Blk} {k:List It}
theorem frzG {p:Prop} (h:p:=by repeat' (first|exact FrzL.nil|(refine FrzL.cons _ _ _ _ ?_ ?_)|(apply Frz.same;exact undS)|(apply Frz.ks 3 rfl;(· exact hbS);(· omega);(· omega);(· omega);(· omega))|(apply Frz.ks 4 rfl;(· exact hbS);(· omega);(· omega);(· omega);(· omega))|(apply Frz.ks 5 rfl;(· exact hbS);(· omega);(· omega);(· omega);(· omega))|(apply Frz.ks 6 rfl;(· exact hbS);(· omega);(· omega);(· omega);(· omega))|(apply Frz.ks 7 rfl;(· exact hbS);(· omega);(· omega);(· omega);(· omega))|fail)):p:=h
theorem wkF (ks:Keep) {n0:Nat} (hG:GClosed G) (hB:Based G C.H.length) (hC:C.H.length=n0) (hcl:closed H) (hn:H.length=n0:=by first|rfl|(simp;done)|exact hlen _)
 (hk:KeepB (H++X) n0 ks ks KB:=by
  repeat' (first|exact KeepB.nil|(apply KeepB.c;(· exact hbS);(· omega);(· first|omega|(simp<;>omega));(· first|(apply FrzL.same;exact undS)|(refine FrzL.cons _ _ _ _ ?_ FrzL.nil;apply Frz.agg;exact frzG)|exact frzLS))|exact frzS))
 (hd:(ks.map (·.1)).Nodup:=by first|rfl|decide|simp)
 (he:subEnvF (H++X) n0 ks env2 env:=by
  repeat' (first|exact True.intro|(refine And.intro ⟨_,rfl,?_⟩ ?_)|(apply Frz.fn;(· exact frzLS);(· exact frzLS))|(apply Frz.kp 5 rfl;(· exact hbS);(· omega);(· omega);(· omega))|(apply Frz.kp 6 rfl;(· exact hbS);(· omega);(· omega);(· omega))|(apply Frz.kp 7 rfl;(· exact hbS);(· omega);(· omega);(· omega))|exact frzS)):Wk G nt C ⟨env,H++X⟩ ⟨env2,H++KB⟩:=Wk.keepN ks hG hB hn hC hcl hk hd he
end
end
theorem lint_ok (G:Gl) (hG:GClosed G) (p:Pg) (H:List Blk) (hw:bdsWt p.binds<4294967295) (hcn:p.cons.length<1099511627776):
 ACall Tryz.prog G 10 [p.sv] H (fun r H'=>H'=H∧r= .int .i64 (lintS p)):=by
 obtain⟨cons,binds⟩:=p
 simp only at hw hcn
 rw[show(Pg.mk cons binds).sv= .agg [.list 4 (cnCells cons),.list 9 (bdCells binds)] from rfl]
 have hle:=bdsWt_len binds
 have hszl:=fun i=>Nat.le_trans (sizeP_le (binds.take i)) (bdsWt_take binds i)
 have hdpl:=fun i=>Nat.le_trans (depP_le (binds.take i)) (bdsWt_take binds i)
 have under_ints:=fun n=>cnCells_under n cons
 generalize hS:lintS ⟨cons,binds⟩=S
 refine ACall.of_go TB [] tabOK _ Tryz.func10 rfl (by decide) Tryz.ntmps10 (by simp) rfl (by simp only[initEnv,Nat.reduceAdd];rfl) fun C R' hR hC hcl hB=>?_;have X:=noX;have hC':=congrArg List.length hC
 (refine run ?_;with_reducible repeat' first|exact trivial|(apply Fork.mk<;>intro hb)|apply Two.mk)
 refine go_loop (fun i:Nat=>[(1,.ptr H.length 0 0 0),(2,.int .i64 0),(3,.int .i64 (sizeP (binds.take i):Int)),(4,.int .i64 (depP (binds.take i):Int)),(16,.list 9 (bdCells binds)),(17,.int .i64 binds.length),(18,.int .i64 i)])
  (fun i=>H++[.cells 0 2 [.agg [.list 4 (cnCells cons),.list 9 (bdCells binds)]]]) (fun i=>binds.length - i) (fun i=>i≤binds.length) 0 (Nat.zero_le _) ?_ ?_
 ·simp only[List.take_zero,show sizeP []=0 from rfl,show depP []=0 from rfl]
  exact wkS (n0:=H.length) [(H.length,0)] hG hB hC' hcl
 rintro K i hi hK
 rcases Nat.lt_or_ge i binds.length with hlt|hge
 ·have hpb:=bd_wt (List.getElem_mem hlt)
  have hsw:=size_le_wt binds[i].e.wt binds[i].e (Nat.le_refl _)
  have c1:=fun H=>size_ok G hG binds[i].e H (by omega) (by omega)
  have c2:∀ H,ACall Tryz.prog G 28 [binds[i].e.sv] H (fun r H'=>H'=H∧r= .int .i64 (dep binds[i].e)):=fun H=>depth_ok G hG binds[i].e.wt (by omega) binds[i].e H (Nat.le_refl _)
  have hdw:=dep_le binds[i].e
  have ht:=List.take_succ_eq_append_getElem hlt
  have e1:sizeP (binds.take (i+1))=sizeP (binds.take i)+binds[i].e.size:=by rw[ht,sizeP_snoc]
  have e2:depP (binds.take (i+1))=max (depP (binds.take i)) (dep binds[i].e):=by rw[ht,depP_snoc]
  have h1:=hszl i
  have h2:=hszl (i+1)
  have h3:=hdpl i
  have hmx:=max_nat (depP (binds.take i)) (dep binds[i].e)
  generalize binds[i].e.size=sz at*
  generalize sizeP (binds.take i)=s0 at*
  generalize depP (binds.take i)=d0 at*
  generalize dep binds[i].e=d1 at*
  have X:=And.intro noX (And.intro hmx (show IntKind.i64.min≤(d1:Int)∧(d1:Int)≤IntKind.i64.max from⟨by show(-9223372036854775808:Int)≤_;omega,by show _≤(9223372036854775807:Int);omega⟩))
  (refine run ?_;with_reducible repeat' first|exact trivial|(apply Fork.mk<;>intro hb)|apply Two.mk)
  refine hK _ _ (i+1) (by omega) (by omega) ?_
  rw[e1,e2]
  exact wkS (n0:=H.length) [(H.length,0)] hG hB hC' hcl
 obtain rfl:i=binds.length:=by omega
 clear hK
 simp only[List.take_length]
 have X:=And.intro noX (Int.lt_irrefl (binds.length:Int))
 have hfc:(100000:Int)<(sizeP binds:Int)↔100000<sizeP binds:=by omega
 have hfd:(1000:Int)<(depP binds:Int)↔1000<depP binds:=by omega
 (refine run ?_;with_reducible repeat' first|exact trivial|(apply Fork.mk<;>intro hb)|apply Two.mk)
 ·have e:lintS ⟨cons,binds⟩=3:=if_pos (hfc.1 hb)
  rw[← hS,e] at hR
  exact finS (n0:=H.length) hR hC' hcl (.same _ rfl) ⟨rfl,rfl⟩
 ·have q1:¬ (100000:Int)<(sizeP binds:Int):=by assumption
  have e:lintS ⟨cons,binds⟩=4:=(if_neg (fun h=>q1 (hfc.2 h))).trans (if_pos (hfd.1 hb))
  rw[← hS,e] at hR
  exact finS (n0:=H.length) hR hC' hcl (.same _ rfl) ⟨rfl,rfl⟩
 have q1:¬ 100000<sizeP binds:=fun h=>absurd (hfc.2 h) (by assumption)
 have q2:¬ 1000<depP binds:=fun h=>hb (hfd.2 h)
 clear hfc hfd hb
 refine callS (bindersP_ok G hG cons binds _ (by omega)) ?_
 rintro r H' ⟨rfl,rfl⟩
 simp only[List.append_assoc,List.cons_append,List.nil_append,List.length_append,List.length_cons,List.length_nil,List.length_set,X,Nat.reduceAdd]
 have hbl:=bindersP_len binds
 (refine run ?_;with_reducible repeat' first|exact trivial|(apply Fork.mk<;>intro hb)|apply Two.mk)
 refine callS (sort_strs G (H.length+4) 0 (bindersP binds) _ (by simp) (by omega)) ?_
 rintro r H' ⟨rfl,rfl⟩
 simp only[set_app,List.set_cons_succ,List.set_cons_zero]
 have hnl:(sortS (bindersP binds)).length=(bindersP binds).length:=sortS_len _
 rw[← hnl]
 generalize hNM:sortS (bindersP binds)=nm at*
 (refine run ?_;with_reducible repeat' first|exact trivial|(apply Fork.mk<;>intro hb)|apply Two.mk)
 refine go_loop (fun i:Nat=>[(1,.ptr H.length 0 0 0),(7,.fn (.func 29) [] [.ptr H.length 0 0 0]),(8,.ptr (H.length+3) 0 0 0),(9,.sl (H.length+4) 0 0 nm.length),(10,.ptr (H.length+6) 0 0 0),(49,.list 9 (bdCells binds)),(50,.int .i64 binds.length),(51,.int .i64 i)])
  (fun i=>H++[.cells 0 2 [.agg [.list 4 (cnCells cons),.list 9 (bdCells binds)]],.map none [],.cells 0 1 [.agg [.map (H.length+1)]],.cells 0 1 [.ptr (H.length+2) 0 0 0],.cells 0 1 (nm.map .str),.map none (esB (topB (binds.take i))),.cells 0 1 [.map (H.length+5)]]) (fun i=>binds.length - i) (fun i=>i≤binds.length) 0 (Nat.zero_le _) ?_ ?_
 ·exact wkF (n0:=H.length) [(H.length,0),(H.length+1,0),(H.length+2,0),(H.length+3,0),(H.length+4,0),(H.length+5,0),(H.length+6,0)] hG hB hC' hcl
 rintro K i hi hK
 rcases Nat.lt_or_ge i binds.length with hlt|hge
 ·have ht:=List.take_succ_eq_append_getElem hlt
  have hsn:=topB_snoc (binds.take i) binds[i]
  rw[← ht] at hsn
  have X:=And.intro noX hsn
  (refine run ?_;with_reducible repeat' first|exact trivial|(apply Fork.mk<;>intro hb)|apply Two.mk)
  refine hK _ _ (i+1) (by omega) (by omega) ?_
  exact wkF (n0:=H.length) [(H.length,0),(H.length+1,0),(H.length+2,0),(H.length+3,0),(H.length+4,0),(H.length+5,0),(H.length+6,0)] hG hB hC' hcl
 obtain rfl:i=binds.length:=by omega
 clear hK
 simp only[List.take_length]
 have X:=And.intro noX (Int.lt_irrefl (binds.length:Int))
 (refine run ?_;with_reducible repeat' first|exact trivial|(apply Fork.mk<;>intro hb)|apply Two.mk)
 have hwb:∀ x:Ex,x.wt≤bdsWt binds→x.wt<549755813888:=fun x hx=>by omega
 refine callV (ACallV.of (first:=[]) (args:=[.fn (.func 39) [] []]) (cap:=[.ptr H.length 0 0 0]) (every_ok G hG 39 [] [] shpC cons binds (by omega) _ H.length (by simp) rfl
  (fun x hx X=>ACallV.of (first:=[]) (args:=[x.sv]) (cap:=[]) (shaped_ok G hG x (hwb x hx) _)))) ?_
 rintro r H' ⟨rfl,rfl⟩
 cases q3:(binds.all fun b=>allS shpC b.e)
 ·(refine run ?_;with_reducible repeat' first|exact trivial|(apply Fork.mk<;>intro hb)|apply Two.mk)
  have e:lintS ⟨cons,binds⟩=120:=by unfold lintS;rw[if_neg q1,if_neg q2,if_pos (by rw[q3];rfl)]
  rw[← hS,e] at hR
  exact finS (n0:=H.length) hR hC' hcl (.same _ rfl) ⟨rfl,rfl⟩
 (refine run ?_;with_reducible repeat' first|exact trivial|(apply Fork.mk<;>intro hb)|apply Two.mk)
 refine callS (made_ok G hG _ (H.length+2) (H.length+1) cons (by simp) (by simp) hcn) ?_
 rintro r H' ⟨l,⟨rfl,rfl⟩,hl⟩
 simp only[set_app,List.set_cons_succ,List.set_cons_zero]
 cases q4:okCns [] cons
 ·(refine run ?_;with_reducible repeat' first|exact trivial|(apply Fork.mk<;>intro hb)|apply Two.mk)
  have e:lintS ⟨cons,binds⟩=121:=by unfold lintS;rw[if_neg q1,if_neg q2,if_neg (by rw[q3];exact Bool.false_ne_true),if_pos (by rw[q4];rfl)]
  rw[← hS,e] at hR
  exact finS (n0:=H.length) hR hC' hcl (.same _ rfl) ⟨rfl,rfl⟩
 obtain rfl:=hl q4
 (refine run ?_;with_reducible repeat' first|exact trivial|(apply Fork.mk<;>intro hb)|apply Two.mk)
 ·have q5:badNames binds=true:=by
   unfold badNames
   rw[hNM,← hnl,List.getD_eq_getElem?_getD,List.getElem?_eq_getElem (by omega)]
   simp only[Option.getD_some,eqS,hb,decide_true,Bool.and_true,Bool.or_eq_true,decide_eq_true_eq]
   exact .inl (by omega)
  have e:lintS ⟨l,binds⟩=122:=by unfold lintS;rw[if_neg q1,if_neg q2,if_neg (by rw[q3];exact Bool.false_ne_true),if_neg (by rw[q4];exact Bool.false_ne_true),if_pos q5]
  rw[← hS,e] at hR
  exact finS (n0:=H.length) hR hC' hcl (.same _ rfl) ⟨rfl,rfl⟩
 all_goals
  have q50:(decide (0<(bindersP binds).length)&&eqS ((sortS (bindersP binds)).getD 0 []) [])=false:=by
   first
   |(rw[show decide (0<(bindersP binds).length)=false from decide_eq_false (by omega)];rfl)
   |(rw[hNM,List.getD_eq_getElem?_getD,List.getElem?_eq_getElem (by omega)];simp only[Option.getD_some,eqS,hb,decide_false,Bool.and_false])
  refine callS (clone_sl G hG nm _ (H.length+4) 0 (by simp) (by omega)) ?_
  rintro r H' ⟨rfl,rfl⟩
  simp only[List.append_assoc,List.cons_append,List.nil_append,List.length_append,List.length_cons,List.length_nil,List.length_set,X,Nat.reduceAdd]
  (refine run ?_;with_reducible repeat' first|exact trivial|(apply Fork.mk<;>intro hb)|apply Two.mk)
  refine callS (compact_ok G hG nm _ (H.length+8) 0 (by simp) (by omega)) ?_
  rintro r H' ⟨vs,⟨rfl,rfl⟩,hvl,hvu⟩
  simp only[set_app,List.set_cons_succ,List.set_cons_zero]
  have hbn:badNames binds=decide ((dedS nm).length≠nm.length):=by
   unfold badNames
   rw[q50,hNM,Bool.false_or,hnl]
  by_cases hdn:(dedS nm).length=nm.length
  rotate_left
  ·have hdi:¬ ((dedS nm).length:Int)=(nm.length:Int):=by omega
   (refine run ?_;with_reducible repeat' first|exact trivial|(apply Fork.mk<;>intro hb)|apply Two.mk)
   have q5:badNames binds=true:=by rw[hbn];exact decide_eq_true hdn
   have e:lintS ⟨l,binds⟩=122:=by unfold lintS;rw[if_neg q1,if_neg q2,if_neg (by rw[q3];exact Bool.false_ne_true),if_neg (by rw[q4];exact Bool.false_ne_true),if_pos q5]
   rw[← hS,e] at hR
   exact finS (n0:=H.length) hR hC' hcl (.same _ rfl) ⟨rfl,rfl⟩
  have q5:badNames binds=false:=by rw[hbn];exact decide_eq_false (fun h=>h hdn)
  rw[hdn]
  have hany:(binds.any fun b=>!bndS (topB binds) b)=!(binds.all (bndS (topB binds))):=by rw[List.all_eq_not_any_not,Bool.not_not]
  (refine run ?_;with_reducible repeat' first|exact trivial|(apply Fork.mk<;>intro hb)|apply Two.mk)
  refine callS (anyBd_ok G hG (.fn (.func 43) [] [.ptr (H.length+7) 0 0 0]) (fun b=>!bndS (topB binds) b) binds _ (by omega) (by simp[SV.under,SV.underL]) (fun b hb=>ACallV.of (first:=[]) (args:=[b.sv]) (cap:=[.ptr (H.length+7) 0 0 0])
   (bound4_ok G hG (topB binds) (topB_cnt binds) b (hwb _ (Nat.le_of_lt (bd_wt hb))) _ (H.length+7) (H.length+6) (H.length+5) (by simp) (by simp) (by simp)))) ?_
  rintro r H' ⟨rfl,rfl⟩
  rw[hany]
  cases q6:binds.all (bndS (topB binds))
  ·(refine run ?_;with_reducible repeat' first|exact trivial|(apply Fork.mk<;>intro hb)|apply Two.mk)
   have e:lintS ⟨l,binds⟩=123:=by unfold lintS;rw[if_neg q1,if_neg q2,if_neg (by rw[q3];exact Bool.false_ne_true),if_neg (by rw[q4];exact Bool.false_ne_true),if_neg (by rw[q5];exact Bool.false_ne_true),if_pos (by rw[q6];rfl)]
   rw[← hS,e] at hR
   exact finS (n0:=H.length) hR hC' hcl (.same _ rfl) ⟨rfl,rfl⟩
  (refine run ?_;with_reducible repeat' first|exact trivial|(apply Fork.mk<;>intro hb)|apply Two.mk)
  refine callV (ACallV.of (first:=[]) (args:=[]) (cap:=[.ptr (H.length+3) 0 0 0]) (known_ok G hG _ (H.length+2) (H.length+1) (H.length+3) l ⟨by simp,by simp⟩ (by simp))) ?_
  rintro r H' ⟨rfl,rfl⟩
  cases q7:knoS l
  ·(refine run ?_;with_reducible repeat' first|exact trivial|(apply Fork.mk<;>intro hb)|apply Two.mk)
   have e:lintS ⟨l,binds⟩=124:=by unfold lintS;rw[if_neg q1,if_neg q2,if_neg (by rw[q3];exact Bool.false_ne_true),if_neg (by rw[q4];exact Bool.false_ne_true),if_neg (by rw[q5];exact Bool.false_ne_true),if_neg (by rw[q6];exact Bool.false_ne_true),if_pos (by rw[q7];rfl)]
   rw[← hS,e] at hR
   exact finS (n0:=H.length) hR hC' hcl (.same _ rfl) ⟨rfl,rfl⟩
  (refine run ?_;with_reducible repeat' first|exact trivial|(apply Fork.mk<;>intro hb)|apply Two.mk)
  refine callV (ACallV.of (first:=[]) (args:=[.fn (.func 44) [.ptr (H.length+2) 0 0 0] []]) (cap:=[.ptr H.length 0 0 0]) (every_ok G hG 44 [.ptr (H.length+2) 0 0 0] [] (fulS l) l binds (by omega) _ H.length (by simp) (by simp[SV.under,SV.underL])
   (fun x hx X=>ACallV.of (first:=[.ptr (H.length+2) 0 0 0]) (args:=[x.sv]) (cap:=[]) (full_ok G hG _ (H.length+2) (H.length+1) l ⟨by simp,by simp⟩ x (hwb x hx))))) ?_
  rintro r H' ⟨rfl,rfl⟩
  cases q8:(binds.all fun b=>allS (fulS l) b.e)
  ·(refine run ?_;with_reducible repeat' first|exact trivial|(apply Fork.mk<;>intro hb)|apply Two.mk)
   have e:lintS ⟨l,binds⟩=124:=by unfold lintS;rw[if_neg q1,if_neg q2,if_neg (by rw[q3];exact Bool.false_ne_true),if_neg (by rw[q4];exact Bool.false_ne_true),if_neg (by rw[q5];exact Bool.false_ne_true),if_neg (by rw[q6];exact Bool.false_ne_true),if_pos (by rw[q7,q8];rfl)]
   rw[← hS,e] at hR
   exact finS (n0:=H.length) hR hC' hcl (.same _ rfl) ⟨rfl,rfl⟩
  (refine run ?_;with_reducible repeat' first|exact trivial|(apply Fork.mk<;>intro hb)|apply Two.mk)
  refine callV (ACallV.of (first:=[]) (args:=[.fn (.func 45) [.ptr (H.length+2) 0 0 0] []]) (cap:=[.ptr H.length 0 0 0]) (every_ok G hG 45 [.ptr (H.length+2) 0 0 0] [] (chsS l) l binds (by omega) _ H.length (by simp) (by simp[SV.under,SV.underL])
   (fun x hx X=>ACallV.of (first:=[.ptr (H.length+2) 0 0 0]) (args:=[x.sv]) (cap:=[]) (chosen_ok G hG _ (H.length+2) (H.length+1) l ⟨by simp,by simp⟩ x (hwb x hx))))) ?_
  rintro r H' ⟨rfl,rfl⟩
  cases q9:(binds.all fun b=>allS (chsS l) b.e)
  ·(refine run ?_;with_reducible repeat' first|exact trivial|(apply Fork.mk<;>intro hb)|apply Two.mk)
   have e:lintS ⟨l,binds⟩=125:=by unfold lintS;rw[if_neg q1,if_neg q2,if_neg (by rw[q3];exact Bool.false_ne_true),if_neg (by rw[q4];exact Bool.false_ne_true),if_neg (by rw[q5];exact Bool.false_ne_true),if_neg (by rw[q6];exact Bool.false_ne_true),if_neg (by rw[q7,q8];exact Bool.false_ne_true),if_pos (by rw[q9];rfl)]
   rw[← hS,e] at hR
   exact finS (n0:=H.length) hR hC' hcl (.same _ rfl) ⟨rfl,rfl⟩
  by_cases qm:cntB (topB binds) mainN=0
  ·have qm':cntB (topB binds) [77,97,105,110,46,109,97,105,110]=0:=qm
   have X:=And.intro noX qm'
   (refine run ?_;with_reducible repeat' first|exact trivial|(apply Fork.mk<;>intro hb)|apply Two.mk)
   have e:lintS ⟨l,binds⟩=126:=by unfold lintS;rw[if_neg q1,if_neg q2,if_neg (by rw[q3];exact Bool.false_ne_true),if_neg (by rw[q4];exact Bool.false_ne_true),if_neg (by rw[q5];exact Bool.false_ne_true),if_neg (by rw[q6];exact Bool.false_ne_true),if_neg (by rw[q7,q8];exact Bool.false_ne_true),if_neg (by rw[q9];exact Bool.false_ne_true),if_pos qm]
   rw[← hS,e] at hR
   exact finS (n0:=H.length) hR hC' hcl (.same _ rfl) ⟨rfl,rfl⟩
  ·have qm':¬ cntB (topB binds) [77,97,105,110,46,109,97,105,110]=0:=qm
   have X:=noX
   (refine run ?_;with_reducible repeat' first|exact trivial|(apply Fork.mk<;>intro hb)|apply Two.mk)
   have e:lintS ⟨l,binds⟩=0:=by unfold lintS;rw[if_neg q1,if_neg q2,if_neg (by rw[q3];exact Bool.false_ne_true),if_neg (by rw[q4];exact Bool.false_ne_true),if_neg (by rw[q5];exact Bool.false_ne_true),if_neg (by rw[q6];exact Bool.false_ne_true),if_neg (by rw[q7,q8];exact Bool.false_ne_true),if_neg (by rw[q9];exact Bool.false_ne_true),if_neg qm]
   rw[← hS,e] at hR
   exact finS (n0:=H.length) hR hC' hcl (.same _ rfl) ⟨rfl,rfl⟩
theorem dedNs_adj (l:List Str):∀ m,(dedNs l m).length=m→∀ i,i+1<m→l.getD (i+1) []≠l.getD i []
 |0,_,i,h=>by omega
 |m+1,hm,i,h=>by
  have h1:=dedNs_le l m
  rw[dedNs] at hm
  split at hm
  ·omega
  ·rename_i hc
   rw[List.length_append,List.length_singleton] at hm
   rcases Nat.lt_or_ge (i+1) m with h2|h2
   ·exact dedNs_adj l m (by omega) i h2
   ·obtain rfl:m=i+1:=by omega
    intro he
    exact hc ⟨by omega,by simpa using he⟩
theorem sortS_le (l:List Str) {i j:Nat} (hj:j<(sortS l).length) (hij:i<j):(sortS l)[i]≤(sortS l)[j]:=by
 have tr:∀ a b c:List UInt8,(decide (a≤b))=true→(decide (b≤c))=true→(decide (a≤c))=true:=fun a b c h1 h2=>by simp only[decide_eq_true_eq] at*;exact List.le_trans h1 h2
 have to:∀ a b:List UInt8,(decide (a≤b)||decide (b≤a))=true:=fun a b=>by simp only[Bool.or_eq_true,decide_eq_true_eq];exact List.le_total a b
 have h1:(sortS l).Pairwise (fun x y:List UInt8=>(decide (x≤y))=true):=List.pairwise_mergeSort tr to _
 exact of_decide_eq_true (List.pairwise_iff_getElem.1 h1 i j (by omega) hj hij)
theorem sorted_nodup (l:List Str) (h:(dedS (sortS l)).length=l.length):l.Nodup:=by
 have hl:(sortS l).length=l.length:=sortS_len _
 rw[dedS,← hl] at h
 refine(sortS_perm _).nodup_iff.1 (List.pairwise_iff_getElem.2 fun i j hi hj hij he=>?_)
 have hadj:=dedNs_adj (sortS l) _ h i (by omega)
 apply hadj
 rw[List.getD_eq_getElem?_getD,List.getD_eq_getElem?_getD,List.getElem?_eq_getElem (show i+1<(sortS l).length by omega),List.getElem?_eq_getElem hi]
 simp only[Option.getD_some]
 have h1:=sortS_le l (i:=i) (j:=i+1) (by omega) (by omega)
 rcases Nat.lt_or_ge (i+1) j with h2|h2
 ·have h3:=sortS_le l hj h2
  rw[← he] at h3
  exact List.le_antisymm h3 h1
 ·obtain rfl:j=i+1:=by omega
  exact he.symm
structure Lint0 (p:Pg):Prop where
 shp:∀ b∈p.binds,allS shpC b.e=true
 cons:okCns [] p.cons=true
 names:(bindersP p.binds).Nodup
 scope:∀ b∈p.binds,bndS (topB p.binds) b=true
 know:knoS p.cons=true
 full:∀ b∈p.binds,allS (fulS p.cons) b.e=true
 alts:∀ b∈p.binds,allS (chsS p.cons) b.e=true
theorem lint0 {p:Pg} (h:lintS p=0):Lint0 p:=by
 unfold lintS at h
 split at h
 ·cases h
 split at h
 ·cases h
 split at h
 ·cases h
 rename_i h3
 split at h
 ·cases h
 rename_i h4
 split at h
 ·cases h
 rename_i h5
 split at h
 ·cases h
 rename_i h6
 split at h
 ·cases h
 rename_i h7
 split at h
 ·cases h
 rename_i h8
 simp only[Bool.not_eq_true',Bool.not_eq_false,Bool.and_eq_true,List.all_eq_true] at h3 h4 h6 h7 h8
 refine⟨h3,by simpa using h4,?_,h6,h7.1,h7.2,h8⟩
 unfold badNames at h5
 simp only[Bool.or_eq_true,not_or,decide_eq_true_eq,Decidable.not_not] at h5
 exact sorted_nodup _ h5.2
section
open Go Go.ChangeShapes Go.WideShapes Go.RowKit
def Cn.wt (c:Cn):Nat:=c.name.length+4
section
variable {H:Type} {enc:TypeId×Value→H} {W:World} {sp:Nat→Bool}
theorem read_cn (n:Nat):Rd enc Tryz.prog W sp n 67 Cn.cells Cn.wt:=by
 intro cs x hx
 obtain⟨xs,m,hm,rfl,hl,hlen,hf⟩:=DataW.trod_struct Tryz.underlying67 hx
 obtain⟨z0,z1,z2,z3,rfl⟩:∃ z0 z1 z2 z3,xs=[z0,z1,z2,z3]:=by
  match xs,(show xs.length=4 from hlen) with
  |[a,b,c,d],_=>exact⟨a,b,c,d,rfl⟩
 have hsz:Tryz.prog.cellsOf 67=4:=by kernel_rfl
 obtain⟨y0,s,e0,g0,w0⟩:=field_of hf 0 0 1 (by kernel_rfl) (by kernel_rfl) (read_str m) (by simp)
 obtain⟨y1,a,e1,g1,w1⟩:=field_of hf 1 1 1 (by kernel_rfl) (by kernel_rfl) (read_int m) (by simp)
 obtain⟨y2,b,e2,g2,w2⟩:=field_of hf 2 2 1 (by kernel_rfl) (by kernel_rfl) (read_int m) (by simp)
 obtain⟨y3,c,e3,g3,w3⟩:=field_of hf 3 3 1 (by kernel_rfl) (by kernel_rfl) (read_int m) (by simp)
 rw[hsz] at hl
 refine⟨⟨s,a,b,c⟩,?_,by rw[hsz,hl],?_⟩
 ·have:(Cn.mk s a b c).cells=[.str s]++([.int .i64 a]++([.int .i64 b]++([.int .i64 c]++[]))):=rfl
  rw[this,← List.drop_zero (l:=cs)]
  refine .cut g0 (.cut g1 (.cut g2 (.cut g3 ?_)))
  rw[List.drop_eq_nil_of_le (by omega)]
  exact .nil
 ·cases e0;cases e1;cases e2;cases e3
  simp only[Rows.uptoBulk,Rows.uptoBulkAll,List.map_cons,List.map_nil,Cn.wt]
  omega
theorem read_cns (n:Nat):Rd enc Tryz.prog W sp n 22 (fun l:List Cn=>[.list 4 (cnCells l)]) (fun l=>1+(l.map Cn.wt).sum):=
 rd_slice (enc:=enc) (P:=Tryz.prog) (W:=W) (sp:=sp) (t:=22) (e:=67) true (f:=Cn.cells) (wt:=Cn.wt) (n:=4) (N:=n) (by kernel_rfl) (by kernel_rfl) (by kernel_rfl) (by omega) (.inl rfl) (fun m _=>read_cn m)
def Pg.wt (p:Pg):Nat:=2+(p.cons.map Cn.wt).sum+bdsWt p.binds
theorem read_pg (n:Nat):Rd enc Tryz.prog W sp n 25 Pg.cells Pg.wt:=by
 intro cs x hx
 obtain⟨xs,m,hm,rfl,hl,hlen,hf⟩:=DataW.trod_struct Tryz.underlying25 hx
 obtain⟨z0,z1,rfl⟩:=len_two (show xs.length=2 from hlen)
 have hsz:Tryz.prog.cellsOf 25=2:=by kernel_rfl
 obtain⟨y0,c,e0,g0,w0⟩:=field_of hf 0 0 1 (by kernel_rfl) (by kernel_rfl) (read_cns m) (by simp)
 obtain⟨y1,b,e1,g1,w1⟩:=field_of hf 1 1 1 (by kernel_rfl) (by kernel_rfl) (read_bds m) (by simp)
 rw[hsz] at hl
 refine⟨⟨c,b⟩,?_,by rw[hsz,hl],?_⟩
 ·have:(Pg.mk c b).cells=[.list 4 (cnCells c)]++([.list 9 (bdCells b)]++[]):=rfl
  rw[this,← List.drop_zero (l:=cs)]
  refine .cut g0 (.cut g1 ?_)
  rw[List.drop_eq_nil_of_le (by omega)]
  exact .nil
 ·cases e0;cases e1
  simp only[Rows.uptoBulk,Rows.uptoBulkAll,List.map_cons,List.map_nil,Pg.wt]
  omega
end
theorem sum_len {α:Type} {f:α→Nat} (h:∀ x,1≤f x):∀ l:List α,l.length≤(l.map f).sum
 |[]=>Nat.zero_le _
 |x::l=>by have:=h x;have:=sum_len h l;simp only[List.length_cons,List.map_cons,List.sum_cons];omega
theorem strs_wt {l:List Str} {s:Str} (h:s∈l):s.length≤strsWt l:=by
 induction l with
 |nil=>cases h
 |cons x r ih=>
  simp only[strsWt]
  rcases List.mem_cons.1 h with rfl|h
  ·omega
  ·have:=ih h;omega
theorem bnds_wt:∀ (m:Nat) (e:Ex) {s:Str},s∈bndF m e→s.length≤e.wt
 |0,e,s,h=>by cases h
 |m+1,.mk kd nm nn op names subs binds alts,s,h=>by
  have h1:bndF (m+1) (.mk kd nm nn op names subs binds alts)=(if kd=3 then names else [])++subs.flatMap (bndF m)++binds.flatMap (fun b=>b.name::bndF m b.e)++(if kd=6 then [nm] else [])++alts.flatMap (fun a=>a.names++bndF m a.body):=rfl
  rw[h1] at h
  have hp:=Ex.parts_mk kd nm nn op names subs binds alts
  simp only[List.mem_append,List.mem_flatMap] at h
  rcases h with (((h|⟨x,hx,h⟩)|⟨b,hb,h⟩)|h)|⟨a,ha,h⟩
  ·split at h
   ·have:=strs_wt h;simp only[Ex.wt];omega
   ·cases h
  ·have:=bnds_wt m x h
   have:=Ex.wt_parts (e:= .mk kd nm nn op names subs binds alts) (p:=x) (by rw[hp];exact List.mem_append_left _ hx)
   omega
  ·rcases List.mem_cons.1 h with rfl|h
   ·have h2:b.name.length+b.e.wt≤b.wt:=by obtain⟨q,e⟩:=b;simp only[Bd.wt,Bd.name,Bd.e];omega
    have h3:b.wt≤bdsWt binds:=by
     clear h1 h2 hp
     induction binds with
     |nil=>cases hb
     |cons y r ih=>
      simp only[bdsWt]
      rcases List.mem_cons.1 hb with rfl|hb
      ·omega
      ·have:=ih hb;omega
    simp only[Ex.wt];omega
   ·have:=bnds_wt m b.e h
    have:=Ex.wt_parts (e:= .mk kd nm nn op names subs binds alts) (p:=b.e) (by rw[hp];exact List.mem_append_right _ (List.mem_append_left _ (List.mem_map.2 ⟨b,hb,rfl⟩)))
    omega
  ·split at h
   ·rw[List.mem_singleton.1 h];simp only[Ex.wt];omega
   ·cases h
  ·rcases h with h|h
   ·have h2:=strs_wt h
    have h3:=alsWt_mem ha
    obtain⟨ak,an,am,al,ab⟩:=a
    simp only[Al.wt,Al.names,Ex.wt] at*
    omega
   ·have:=bnds_wt m a.body h
    have:=Ex.wt_parts (e:= .mk kd nm nn op names subs binds alts) (p:=a.body) (by rw[hp];exact List.mem_append_right _ (List.mem_append_right _ (List.mem_map.2 ⟨a,ha,rfl⟩)))
    omega
theorem bd_wt2 {l:List Bd} {b:Bd} (hb:b∈l):b.wt≤bdsWt l:=by
 induction l with
 |nil=>cases hb
 |cons y r ih=>
  simp only[bdsWt]
  rcases List.mem_cons.1 hb with rfl|hb
  ·omega
  ·have:=ih hb;omega
theorem bindersP_wt {l:List Bd} {s:Str} (h:s∈bindersP l):s.length≤bdsWt l:=by
 obtain⟨b,hb,h⟩:=List.mem_flatMap.1 h
 have h3:=bd_wt2 hb
 have h2:b.name.length≤b.wt∧b.e.wt≤b.wt:=by obtain⟨q,e⟩:=b;simp only[Bd.wt,Bd.name,Bd.e];omega
 rcases List.mem_cons.1 h with rfl|h
 ·omega
 ·have:=bnds_wt _ _ h;omega
end
def noEx:Ex:= .mk 0 [] 0 0 [] [] [] []
theorem num_snoc:∀ (l:List UInt8) (acc:Nat) (b:UInt8),Lib.decFrom acc (l++[b])=(Lib.decFrom acc l).bind fun n=>(Lib.digitVal b).map fun d=>n*10+d
 |[],acc,b=>by
  simp only[List.nil_append,Lib.decFrom,Option.bind_some]
  cases Lib.digitVal b<;>rfl
 |a::t,acc,b=>by
  simp only[List.cons_append,Lib.decFrom]
  cases Lib.digitVal a with
  |none=>rfl
  |some d=>exact num_snoc t _ b
theorem num_ge:∀ (l:List UInt8) (acc n:Nat),Lib.decFrom acc l=some n→acc≤n
 |[],acc,n,h=>by simp only[Lib.decFrom,Option.some.injEq] at h;omega
 |a::t,acc,n,h=>by
  simp only[Lib.decFrom] at h
  cases hd:Lib.digitVal a with
  |none=>rw[hd] at h;cases h
  |some d=>rw[hd] at h;have:=num_ge t _ n h;omega
theorem num_pos {b:UInt8} {r:List UInt8} {n:Nat} (h:Lib.decFrom 0 (b::r)=some n) (h0:b≠48):0<n:=by
 simp only[Lib.decFrom] at h
 cases hd:Lib.digitVal b with
 |none=>rw[hd] at h;cases h
 |some d=>
  rw[hd] at h
  have h1:=num_ge r _ n h
  obtain⟨h2,h3,h4⟩:=Lib.digitVal_eq hd
  have:b.toNat≠48:=fun e=>h0 (UInt8.toNat_inj.1 e)
  omega
theorem digit_byte {b:UInt8} {d:Nat} (h:Lib.digitVal b=some d):d<10∧UInt8.ofNat (48+d)=b:=by
 obtain⟨h2,h3,h4⟩:=Lib.digitVal_eq h
 refine⟨by omega,UInt8.toNat_inj.1 ?_⟩
 rw[UInt8.toNat_ofNat']
 omega
theorem digit_of {d:Nat} (h:d<10):Lib.digitVal (UInt8.ofNat (48+d))=some d:=by
 have h1:(UInt8.ofNat (48+d)).toNat=48+d:=by rw[UInt8.toNat_ofNat'];omega
 unfold Lib.digitVal
 rw[h1,if_pos (by omega)]
 congr 1
 omega
theorem digs_of:∀ (k:Nat) (l:List UInt8) (n:Nat),l.length=k→l≠[]→l.head?≠some 48→Lib.decFrom 0 l=some n→Lib.decDigits n=l
 |0,l,n,hk,h,_,_=>absurd (List.length_eq_zero_iff.1 hk) h
 |k+1,l,n,hk,h,h0,hd=>by
  obtain⟨r,b,rfl⟩:∃ r b,l=r++[b]:=⟨l.dropLast,l.getLast h,(List.dropLast_concat_getLast h).symm⟩
  rw[num_snoc] at hd
  cases hr:Lib.decFrom 0 r with
  |none=>rw[hr] at hd;cases hd
  |some m=>
   rw[hr] at hd
   cases hb:Lib.digitVal b with
   |none=>rw[hb] at hd;cases hd
   |some d=>
    rw[hb] at hd
    obtain rfl:m*10+d=n:=Option.some.inj hd
    obtain⟨hd1,hd2⟩:=digit_byte hb
    by_cases hre:r=[]
    ·subst hre
     simp only[Lib.decFrom,Option.some.injEq] at hr
     subst hr
     rw[Lib.decDigits,dif_pos (by omega)]
     simp only[Nat.zero_mul,Nat.zero_add,hd2,List.nil_append]
    ·have hh:r.head?=(r++[b]).head?:=by cases r with
      |nil=>exact absurd rfl hre
      |cons x t=>rfl
     have hrl:r.length=k:=by simp at hk;omega
     have ih:=digs_of k r m hrl hre (by rw[hh];exact h0) hr
     have hm:0<m:=by
      cases r with
      |nil=>exact absurd rfl hre
      |cons x t=>exact num_pos hr (fun e=>h0 (by rw[e];rfl))
     rw[Lib.decDigits,dif_neg (by omega),show(m*10+d) / 10=m by omega,show(m*10+d) % 10=d by omega,ih,hd2]
theorem num_digs (u:Nat):Lib.decFrom 0 (Lib.decDigits u)=some u:=by
 induction u using Nat.strongRecOn with
 |_ u ih=>
  by_cases h:u<10
  ·rw[Lib.decDigits,dif_pos h]
   simp only[Lib.decFrom,digit_of h]
   congr 1;omega
  ·rw[Lib.decDigits,dif_neg h,num_snoc,ih (u / 10) (by omega),Option.bind_some,digit_of (by omega)]
   simp only[Option.map_some]
   congr 1;omega
theorem digs_ne (u:Nat):Lib.decDigits u≠[]:=by
 rw[Lib.decDigits]
 split<;>simp
theorem digs_head (u:Nat) (h:0<u):(Lib.decDigits u).head?≠some 48:=by
 induction u using Nat.strongRecOn with
 |_ u ih=>
  by_cases h2:u<10
  ·rw[Lib.decDigits,dif_pos h2]
   intro e
   have e:UInt8.ofNat (48+u)=48:=Option.some.inj e
   have:=digit_of h2
   rw[e] at this
   have h3:Lib.digitVal 48=some 0:=by decide
   rw[h3] at this
   have:=Option.some.inj this
   omega
  ·rw[Lib.decDigits,dif_neg h2]
   have ih:=ih (u / 10) (by omega) (by omega)
   cases hl:Lib.decDigits (u / 10) with
   |nil=>exact absurd hl (digs_ne _)
   |cons x t=>rw[hl] at ih;exact ih
def numS (s:Str):Nat:=if s.length<3∨11<s.length∨s.take 2≠[116,35]∨s[2]? =some 48 then 0 else (Lib.decFrom 0 (s.drop 2)).getD 0
theorem numS_lt (s:Str):numS s<1000000000:=by
 unfold numS
 split
 ·decide
 ·rename_i h
  cases hd:Lib.decFrom 0 (s.drop 2) with
  |none=>show(0:Nat)<_;decide
  |some n=>
   have h1:=Lib.decFrom_lt _ _ _ hd
   have h2:(s.drop 2).length≤9:=by rw[List.length_drop];omega
   have h3:10 ^ (s.drop 2).length≤10 ^ 9:=Nat.pow_le_pow_right (by decide) h2
   show n<_
   omega
def nxtC (s:Str):Bool:=decide (s.take 2=[116,35])&&(atoA (s.drop 2)).2&&decide (0<(atoA (s.drop 2)).1)&&decide ((s.drop 2).length≤9)&&decide (Lib.itoa (atoA (s.drop 2)).1=s.drop 2)
theorem nxtC_eq (s:Str):(if nxtC s then (atoA (s.drop 2)).1 else 0)=(numS s:Int):=by
 by_cases hp:s.take 2=[116,35]
 rotate_left
 ·rw[show nxtC s=false by simp only[nxtC,decide_eq_false hp,Bool.false_and],show numS s=0 by unfold numS;rw[if_pos (.inr (.inr (.inl hp)))]]
  rfl
 have hs:s=116::35::s.drop 2:=by
  have:=List.take_append_drop 2 s
  rw[hp] at this
  exact this.symm
 generalize hds:s.drop 2=ds at*
 subst hs
 by_cases hl:ds.length≤9
 rotate_left
 ·rw[show nxtC (116::35::ds)=false by simp only[nxtC,List.drop_succ_cons,List.drop_zero,decide_eq_false hl,Bool.and_false,Bool.false_and],show numS (116::35::ds)=0 by unfold numS;rw[if_pos (.inr (.inl (by simp;omega)))]]
  rfl
 have hat:atoA ds=match Lib.atoi ds with|some v=>(v,true)|none=>(0,false):=by
  unfold atoA
  rw[Lib.atoiAll_short ds (by omega)]
  cases Lib.atoi ds<;>rfl
 by_cases hn:numS (116::35::ds)=0
 ·rw[hn]
  split
  ·rename_i hc
   exfalso
   simp only[nxtC,List.drop_succ_cons,List.drop_zero,Bool.and_eq_true,decide_eq_true_eq] at hc
   obtain⟨⟨⟨⟨-,h1⟩,h2⟩,-⟩,h3⟩:=hc
   generalize (atoA ds).1=k at*
   obtain⟨u,rfl⟩:=Int.eq_ofNat_of_zero_le (show 0≤k by omega)
   rw[Lib.itoa_nonneg] at h3
   have hd:=num_digs u
   have hh:=digs_head u (by omega)
   have hne:=digs_ne u
   rw[h3] at hd hh hne
   unfold numS at hn
   rw[if_neg,show List.drop 2 (116::35::ds)=ds from rfl,hd] at hn
   ·have:u=0:=hn
    omega
   ·rintro (h|h|h|h)
    ·cases ds with
     |nil=>exact hne rfl
     |cons x t=>simp at h;omega
    ·simp at h;omega
    ·exact h rfl
    ·cases ds with
     |nil=>exact hne rfl
     |cons x t=>exact hh h
  ·rfl
 ·have hn2:=hn
  unfold numS at hn2
  split at hn2
  ·exact absurd rfl hn2
  rename_i hc
  have hne:ds≠[]:=fun e=>hc (.inl (by rw[e];decide))
  have hh:ds.head?≠some 48:=fun e=>hc (.inr (.inr (.inr (by cases ds with|nil=>cases e|cons x t=>exact e))))
  cases hd:Lib.decFrom 0 ds with
  |none=>rw[show List.drop 2 (116::35::ds)=ds from rfl,hd] at hn2;exact absurd rfl hn2
  |some u=>
   have hnu:numS (116::35::ds)=u:=by unfold numS;rw[if_neg hc,show List.drop 2 (116::35::ds)=ds from rfl,hd];rfl
   rw[hnu]
   have hdg:=digs_of _ ds u rfl hne hh hd
   have hu:0<u:=by omega
   have hai:Lib.atoi ds=some (u:Int):=by
    cases ds with
    |nil=>exact absurd rfl hne
    |cons x t=>
     have hx:∃ d,Lib.digitVal x=some d:=Lib.digit_of_decFrom _ _ _ hd 0 x rfl
     obtain⟨d,hx⟩:=hx
     obtain⟨h1,h2,-⟩:=Lib.digitVal_eq hx
     have h45:(x==45)=false:=by
      rw[beq_eq_false_iff_ne];intro e;rw[e] at h1;revert h1;decide
     have h43:(x==43)=false:=by
      rw[beq_eq_false_iff_ne];intro e;rw[e] at h1;revert h1;decide
     simp only[Lib.atoi,h45,h43,Bool.false_eq_true,if_false,Lib.decNat,List.isEmpty_cons,hd,Option.map_some]
   rw[hai] at hat
   have hat:atoA ds=((u:Int),true):=hat
   rw[if_pos]
   ·rw[hat]
   ·simp only[nxtC,List.drop_succ_cons,List.drop_zero,hat,Lib.itoa_nonneg,hdg,Bool.and_eq_true,decide_eq_true_eq]
    refine⟨⟨⟨⟨rfl,trivial⟩,by omega⟩,hl⟩,trivial⟩
def nxtS (l:List Bd):Nat:=((bindersP l).foldl (fun n s=>max n (numS s)) 0)+1
theorem fold_lt:∀ (l:List Str) (n:Nat),n<1000000000→l.foldl (fun n s=>max n (numS s)) n<1000000000
 |[],n,h=>h
 |s::r,n,h=>fold_lt r _ (by have:=numS_lt s;show max n (numS s)<_;omega)
theorem nxtS_lt (l:List Bd):nxtS l<1000000001:=by
 have:=fold_lt (bindersP l) 0 (by decide)
 unfold nxtS
 omega
theorem ACall.fin {P:Program} {G:Gl} {f:FuncId} {args:List SV} {H:List Blk} {R R':SV→List Blk→Prop} (h:ACall P G f args H R)
 (hf:∀ C x H',C.H=H→closed H→R x H'→Fin C H' x R'):ACall P G f args H R':=
 ⟨h.1,fun c vs h1 h2 h3 h4=>(h.2 c vs h1 h2 h3 h4).mono fun e w' ⟨v,x,c',a1,a2,a3,a4,a5,a6⟩=>
  let ⟨c2,y,b1,b2,b3,b4,b5⟩:=hf c x c'.H h1 (h1 ▸ h2.closed) a3 c' v rfl a4 a5 a6
  ⟨v,y,c2,a1,b1.trans a2,b2,b3,b4,b5⟩⟩
theorem ACall.frz {P:Program} {G:Gl} {f:FuncId} {args:List SV} {H:List Blk} {sz:Nat} {vs:List SV} {n:Nat} (hu:SV.underL H.length vs=true) (hn:vs.length=n)
 (h:ACall P G f args H (fun r H'=>H'=H++[.cells 0 sz vs]∧r= .sl H.length 0 0 n)):ACall P G f args H (fun r H'=>H'=H∧r= .list sz vs):=
 h.fin fun C x H' h1 hcl hr=>by
  obtain⟨rfl,rfl⟩:=hr
  exact Fin.tellN (n0:=H.length) (R0:=fun r H'=>H'=H∧r= .list sz vs) (fun _ _ h=>h) rfl (by rw[h1]) hcl (Frz.sf (g:=0) (sz:=sz) (vals:=vs) (List.getElem?_concat_length ..) (Nat.le_refl _) (by simp) (by rw[List.drop_zero,List.take_of_length_le (by omega)]) hu) ⟨rfl,rfl⟩
theorem part_ok (G:Gl) (hG:GClosed G) (e:Ex) (hw:e.wt<4294967296) (i:Nat) (hi:i<e.parts.length) (H:List Blk):ACall Tryz.prog G 92 [e.sv,.int .i64 i] H (fun r H'=>H'=H∧r=e.parts[i].sv):=by
 obtain⟨kd,nm,nn,op,names,subs,binds,alts⟩:=e
 have hle:=Ex.wt_lens kd nm nn op names subs binds alts
 have hpm:=Ex.parts_mk kd nm nn op names subs binds alts
 have hpl:(Ex.mk kd nm nn op names subs binds alts).parts.length=subs.length+(binds.length+alts.length):=by rw[hpm];simp
 have hg:(Ex.mk kd nm nn op names subs binds alts).parts[i]? =some (Ex.mk kd nm nn op names subs binds alts).parts[i]:=List.getElem?_eq_getElem hi
 rw[hpl] at hi
 generalize (Ex.mk kd nm nn op names subs binds alts).parts[i]=x at*
 rw[hpm] at hg
 clear hpm hpl
 rcases Nat.lt_or_ge i subs.length with h1|h1
 ·rw[List.getElem?_append_left h1,List.getElem?_eq_getElem h1] at hg
  obtain rfl:=Option.some.inj hg
  refine ACall.of_go TB [] tabOK _ Tryz.func92 rfl (by decide) Tryz.ntmps92 (by simp) rfl (by simp only[initEnv,Nat.reduceAdd];rfl) fun C R' hR hC hcl hB=>?_;have X:=noX;have hC':=congrArg List.length hC
  (refine run ?_;with_reducible repeat' first|exact trivial|(apply Fork.mk<;>intro hb)|apply Two.mk)
  exact finS (n0:=H.length) hR hC' hcl (.same _ (by simp only[resSV];exact undS)) ⟨rfl,rfl⟩
 rw[List.getElem?_append_right h1] at hg
 rcases Nat.lt_or_ge i (subs.length+binds.length) with h2|h2
 ·obtain⟨j,rfl⟩:∃ j,i=subs.length+j:=⟨i - subs.length,by omega⟩
  have h3:j<binds.length:=by omega
  rw[Nat.add_sub_cancel_left,List.getElem?_append_left (by simpa using h3),List.getElem?_map,List.getElem?_eq_getElem h3] at hg
  obtain rfl:=Option.some.inj hg
  have hj:((subs.length+j:Nat):Int) - (subs.length:Int)=(j:Int):=by omega
  refine ACall.of_go TB [] tabOK _ Tryz.func92 rfl (by decide) Tryz.ntmps92 (by simp) rfl (by simp only[initEnv,Nat.reduceAdd];rfl) fun C R' hR hC hcl hB=>?_;have X:=noX;have hC':=congrArg List.length hC
  have X:=And.intro X hj
  (refine run ?_;with_reducible repeat' first|exact trivial|(apply Fork.mk<;>intro hb)|apply Two.mk)
  all_goals first|exact finS (n0:=H.length) hR hC' hcl (.same _ (by simp only[resSV];exact undS)) ⟨rfl,rfl⟩|(exfalso;omega)
 ·obtain⟨j,rfl⟩:∃ j,i=subs.length+(binds.length+j):=⟨i - subs.length - binds.length,by omega⟩
  have h3:j<alts.length:=by omega
  rw[Nat.add_sub_cancel_left,List.getElem?_append_right (by simp),List.length_map,Nat.add_sub_cancel_left,List.getElem?_map,List.getElem?_eq_getElem h3] at hg
  obtain rfl:=Option.some.inj hg
  have hj:((subs.length+(binds.length+j):Nat):Int) - (subs.length:Int)=((binds.length+j:Nat):Int):=by omega
  have hj2:((binds.length+j:Nat):Int) - (binds.length:Int)=(j:Int):=by omega
  refine ACall.of_go TB [] tabOK _ Tryz.func92 rfl (by decide) Tryz.ntmps92 (by simp) rfl (by simp only[initEnv,Nat.reduceAdd];rfl) fun C R' hR hC hcl hB=>?_;have X:=noX;have hC':=congrArg List.length hC
  have X:=And.intro X (And.intro hj hj2)
  (refine run ?_;with_reducible repeat' first|exact trivial|(apply Fork.mk<;>intro hb)|apply Two.mk)
  all_goals first|exact finS (n0:=H.length) hR hC' hcl (.same _ (by simp only[resSV];exact undS)) ⟨rfl,rfl⟩|(exfalso;omega)
end Go.Proofs.YtedejleokilohaaGreatDoor
