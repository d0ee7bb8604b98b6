/- A part of the proof: M0, U3, N3, L0, L1, S5, S3, Z1, G1, P1, P2, G2, G3, T1, G4. Names and spaces are cut short by program. -/
import Derived.Test.YtedejleokilohaaGreatDoorMh
set_option linter.unusedSimpArgs false
set_option linter.unusedVariables false
set_option maxRecDepth 10000
set_option maxHeartbeats 4000000
namespace Go.Proofs.YtedejleokilohaaGreatDoor
open Go
theorem ag.fin {P:Program} {G:Gl} {f:FuncId} {args:List SV} {H:List az} {R R':SV→List az→Prop} (h:ag P G f args H R)
 (hf:∀ C x H',C.H=H→closed H→R x H'→Fin C H' x R'):ag P G f args H R':=
 ⟨h.1,fun c vs h1 h2 h3 h4=>(h.2 c vs h1 h2 h3 h4).mono fun e w' ⟨v,x,c',a1,a2,a3,a4,a5,a6⟩=>
  let ⟨c2,y,b1,b2,b3,b4,b5⟩:=hf c x c'.H h1 (h1 ▸ h2.closed) a3 c' v rfl a4 a5 a6
  ⟨v,y,c2,a1,b1.trans a2,b2,b3,b4,b5⟩⟩
theorem ag.o5 {P:Program} {G:Gl} {f:FuncId} {args args':List SV} {H:List az} {R:SV→List az→Prop} (h:ag P G f args H R)
 (ha:∀ c vs,aD c args' vs→aD c args vs):ag P G f args' H R:=
 ⟨h.1,fun c vs h1 h2 h3 h4=>h.2 c vs h1 h2 h3 (ha c vs h4)⟩
theorem ag.KG {P:Program} {G:Gl} {f:FuncId} {args:List SV} {H:List az} {sz:Nat} {vs:List SV} {n:Nat} (hu:SV.aB H.length vs=true) (hn:vs.length=n)
 (h:ag P G f args H (fun r H'=>H'=H++[.cells 0 sz vs]∧r= .sl H.length 0 0 n)):ag P G f args H (fun r H'=>H'=H∧r= .list sz vs):=
 h.fin fun C x H' h1 hcl hr=>by
  obtain⟨rfl,rfl⟩:=hr
  exact Fin.dx (n0:=H.length) (R0:=fun r H'=>H'=H∧r= .list sz vs) (fun _ _ h=>h) rfl (by rw[h1]) hcl (bV.sf (g:=0) (sz:=sz) (vals:=vs) (List.getElem?_concat_length ..) (Nat.le_refl _) (by simp) (by rw[List.drop_zero,List.take_of_length_le (by omega)]) hu) ⟨rfl,rfl⟩
theorem aG.xt {c:Cx} {sz:Nat} {v:Value} (h:aG c .nil v):aG c (.list sz []) v:=by
 simp only[aG] at h ⊢
 exact⟨none,0,h,Nat.le_refl _,Nat.zero_le _,.inl trivial⟩
theorem FE (G:Gl) (hG:aw G) (e:Ex) (hw:e.wt<4294967296) (i:Nat) (hi:i<e.parts.length) (H:List az):ag Tryz.prog G 92 [e.sv,.int .i64 i] H (fun r H'=>H'=H∧r=e.parts[i].sv):=by
 obtain⟨kd,nm,nn,op,names,ad,binds,alts⟩:=e
 have hle:=Ex.cY kd nm nn op names ad binds alts
 have hpm:=Ex.dn kd nm nn op names ad binds alts
 have hpl:(Ex.mk kd nm nn op names ad binds alts).parts.length=ad.length+(binds.length+alts.length):=by rw[hpm];simp
 have hg:(Ex.mk kd nm nn op names ad binds alts).parts[i]? =some (Ex.mk kd nm nn op names ad binds alts).parts[i]:=List.getElem?_eq_getElem hi
 rw[hpl] at hi
 generalize (Ex.mk kd nm nn op names ad binds alts).parts[i]=x at*
 rw[hpm] at hg
 clear hpm hpl
 rcases Nat.lt_or_ge i ad.length with h1|h1
 ·rw[List.getElem?_append_left h1,List.getElem?_eq_getElem h1] at hg
  obtain rfl:=Option.some.inj hg
  refine ag.aK TB [] aF _ Tryz.func92 rfl (by decide) Tryz.ntmps92 (by simp) rfl (by simp only[au,Nat.reduceAdd];rfl) fun C R' hR hC hcl hB=>?_;have X:=aO;have hC':=congrArg List.length hC
  (refine run ?_;with_reducible repeat' first|exact trivial|(apply af.mk<;>intro hb)|apply ax.mk)
  exact aS (n0:=H.length) hR hC' hcl (.same _ (by simp only[bA];exact kX)) ⟨rfl,rfl⟩
 rw[List.getElem?_append_right h1] at hg
 rcases Nat.lt_or_ge i (ad.length+binds.length) with h2|h2
 ·obtain⟨j,rfl⟩:∃ j,i=ad.length+j:=⟨i - ad.length,by omega⟩
  have h3:j<binds.length:=by omega
  rw[Nat.add_sub_cancel_left,List.getElem?_append_left (by simpa using h3),List.getElem?_map,List.getElem?_eq_getElem h3] at hg
  obtain rfl:=Option.some.inj hg
  have hj:((ad.length+j:Nat):Int) - (ad.length:Int)=(j:Int):=by omega
  refine ag.aK TB [] aF _ Tryz.func92 rfl (by decide) Tryz.ntmps92 (by simp) rfl (by simp only[au,Nat.reduceAdd];rfl) fun C R' hR hC hcl hB=>?_;have X:=aO;have hC':=congrArg List.length hC
  have X:=And.intro X hj
  (refine run ?_;with_reducible repeat' first|exact trivial|(apply af.mk<;>intro hb)|apply ax.mk)
  all_goals first|exact aS (n0:=H.length) hR hC' hcl (.same _ (by simp only[bA];exact kX)) ⟨rfl,rfl⟩|(exfalso;omega)
 ·obtain⟨j,rfl⟩:∃ j,i=ad.length+(binds.length+j):=⟨i - ad.length - binds.length,by omega⟩
  have h3:j<alts.length:=by omega
  rw[Nat.add_sub_cancel_left,List.getElem?_append_right (by simp),List.length_map,Nat.add_sub_cancel_left,List.getElem?_map,List.getElem?_eq_getElem h3] at hg
  obtain rfl:=Option.some.inj hg
  have hj:((ad.length+(binds.length+j):Nat):Int) - (ad.length:Int)=((binds.length+j:Nat):Int):=by omega
  have hj2:((binds.length+j:Nat):Int) - (binds.length:Int)=(j:Int):=by omega
  refine ag.aK TB [] aF _ Tryz.func92 rfl (by decide) Tryz.ntmps92 (by simp) rfl (by simp only[au,Nat.reduceAdd];rfl) fun C R' hR hC hcl hB=>?_;have X:=aO;have hC':=congrArg List.length hC
  have X:=And.intro X (And.intro hj hj2)
  (refine run ?_;with_reducible repeat' first|exact trivial|(apply af.mk<;>intro hb)|apply ax.mk)
  all_goals first|exact aS (n0:=H.length) hR hC' hcl (.same _ (by simp only[bA];exact kX)) ⟨rfl,rfl⟩|(exfalso;omega)
def KO (G:Gl) (m:Nat):Prop:=∀ (e:Ex) (H:List az),e.wt≤m→e.wt<4294967296→ag Tryz.prog G 48 [e.sv] H (fun r H'=>H'=H++[.cells 0 1 ((eo m e).map .str)]∧r= .sl H.length 0 0 (eo m e).length)
theorem p7 (G:Gl) (hG:aw G):∀ m,KO G m
 |0,e,H,h,_=>absurd e.bz (by omega)
 |m+1,e,H,hm,hw0=>by
  have hrec:=p7 G hG m
  obtain⟨kd,nm,nn,op,names,ad,binds,alts⟩:=e
  have hle:=Ex.cY kd nm nn op names ad binds alts
  have hln:=dR (m+1) (.mk kd nm nn op names ad binds alts)
  have hpw:∀ p∈(Ex.mk kd nm nn op names ad binds alts).parts,p.wt≤m∧p.wt<4294967296:=fun p hp=>by have:=Ex.cU hp;exact⟨by omega,by omega⟩
  rw[Ex.dn] at hpw
  have eb:eo (m+1) (.mk kd nm nn op names ad binds alts)=(if kd=3 then names else [])++ad.flatMap (eo m)++binds.flatMap (fun b=>b.name::eo m b.e)++(if kd=6 then [nm] else [])++alts.flatMap (fun a=>a.names++eo m a.body):=rfl
  rw[eb] at hln ⊢
  clear eb
  have h3n:(if kd=3 then names else []).length≤names.length:=by split<;>simp
  generalize hl0:(if kd=3 then names else [])=l0 at*
  generalize hl5:(if kd=6 then [nm] else [])=l5 at*
  obtain⟨L1,a1,a2,a3,a4⟩:=gB (eo m) l0 ad
  rw[← a4] at hln ⊢
  obtain⟨L2,b1,b2,b3,b4⟩:=gB (fun b:Bd=>b.name::eo m b.e) (L1 ad.length) binds
  rw[← b4] at hln ⊢
  obtain⟨L4,d1,d2,d3,d4⟩:=gB (fun a:Al=>a.names++eo m a.body) (L2 binds.length++l5) alts
  rw[← d4] at hln ⊢
  rw[← a4] at a3
  rw[← b4] at b3
  rw[← d4] at d3
  have q4:(L2 binds.length).length+l5.length≤(L4 alts.length).length:=by have:=d3 0;rw[d1,List.length_append] at this;exact this
  have q2:(L1 ad.length).length≤(L2 binds.length).length:=by have:=b3 0;rw[b1] at this;exact this
  generalize hW:(Ex.mk kd nm nn op names ad binds alts).wt=W at*
  refine ag.aK TB [3] aF _ Tryz.func48 rfl (by decide) Tryz.ntmps48 (by simp) rfl (by simp only[au,Nat.reduceAdd];rfl) fun C R' hR hC hcl hB=>?_;have X:=aO;have hC':=congrArg List.length hC
  (refine jD ?_;with_reducible repeat' first|exact trivial|(apply af.mk<;>intro hb)|apply ax.mk)
  refine eT (fun _:Unit=>[(1,.ptr H.length 0 0 0),(3,.sl (H.length+1) 0 0 l0.length)]) (fun _=>H++[.cells 0 8 [.agg [.int .i64 kd,.str nm,.int .i64 nn,.int .i64 op,.list 1 (names.map .str),.list 8 (aj ad),.list 9 (ao binds),.list 12 (aA alts)]],.cells 0 1 (l0.map .str)]) (fun _=>True) (fun K hK=>?_) (fun _ _=>?_)
  ·(refine bP ?_;with_reducible repeat' first|exact trivial|(apply af.mk<;>intro hb)|apply ax.mk)
   ·refine hK _ _ () trivial ?_
    rw[if_pos hb] at hl0
    subst hl0
    exact bB (n0:=H.length) [(H.length,0),(H.length+1,0)] hG hB hC' hcl
   ·refine hK _ _ () trivial ?_
    rw[if_neg hb] at hl0
    subst hl0
    simp only[List.length_nil,List.map_nil]
    exact bB (n0:=H.length) [(H.length,0),(H.length+1,0)] hG hB hC' hcl
  (refine bP ?_;with_reducible repeat' first|exact trivial|(apply af.mk<;>intro hb)|apply ax.mk)
  refine aC (fun i:Nat=>[(1,.ptr H.length 0 0 0),(3,.sl (H.length+1) 0 0 (L1 i).length),(4,.int .i64 i)])
   (fun i=>H++[.cells 0 8 [.agg [.int .i64 kd,.str nm,.int .i64 nn,.int .i64 op,.list 1 (names.map .str),.list 8 (aj ad),.list 9 (ao binds),.list 12 (aA alts)]],.cells 0 1 ((L1 i).map .str)]) (fun i=>ad.length - i) (fun i=>i≤ad.length) 0 (Nat.zero_le _) ?_ ?_
  ·rw[a1]
   exact Wk.sub (by simp[bR,look])
  rintro K i hi hK
  rcases Nat.lt_or_ge i ad.length with hlt|hge
  ·have c1:=fun H=>hrec ad[i] H (hpw _ (by simp)).1 (hpw _ (by simp)).2
   have e1:=a2 i hlt
   have e2:=a3 (i+1)
   have e3:=a3 i
   have e4:=dR m ad[i]
   have e5:=(hpw ad[i] (by simp)).2
   rw[e1,List.length_append] at e2
   generalize eo m ad[i]=l at*
   generalize L1 i=l1 at*
   have X:=And.intro aO (show(l1.map SV.str).length=l1.length∧(l.map SV.str).length=l.length from⟨List.length_map ..,List.length_map ..⟩)
   (refine run ?_;with_reducible repeat' first|exact trivial|(apply af.mk<;>intro hb)|apply ax.mk)
   refine hK _ _ (i+1) (by omega) (by omega) ?_
   rw[e1,List.map_append,show(l1++l).length=l1.length+l.length from List.length_append ..]
   exact bB (n0:=H.length) [(H.length,0),(H.length+1,0)] hG hB hC' hcl
  obtain rfl:i=ad.length:=by omega
  clear hK
  (refine bP ?_;with_reducible repeat' first|exact trivial|(apply af.mk<;>intro hb)|apply ax.mk)
  refine aC (fun i:Nat=>[(1,.ptr H.length 0 0 0),(3,.sl (H.length+1) 0 0 (L2 i).length),(5,.int .i64 i)])
   (fun i=>H++[.cells 0 8 [.agg [.int .i64 kd,.str nm,.int .i64 nn,.int .i64 op,.list 1 (names.map .str),.list 8 (aj ad),.list 9 (ao binds),.list 12 (aA alts)]],.cells 0 1 ((L2 i).map .str)]) (fun i=>binds.length - i) (fun i=>i≤binds.length) 0 (Nat.zero_le _) ?_ ?_
  ·rw[b1]
   exact Wk.sub (by simp[bR,look])
  rintro K i hi hK
  rcases Nat.lt_or_ge i binds.length with hlt|hge
  ·have hpb:=hpw binds[i].e (by simp;exact .inr (.inl ⟨_,List.getElem_mem hlt,rfl⟩))
   have c1:=fun H=>hrec binds[i].e H hpb.1 hpb.2
   have e1:=b2 i hlt
   have e2:=b3 (i+1)
   have e3:=b3 i
   have e4:=dR m binds[i].e
   rw[e1,List.length_append] at e2
   simp only[List.length_cons] at e2
   generalize eo m binds[i].e=l at*
   generalize L2 i=l1 at*
   have X:=And.intro aO (show(l1.map SV.str).length=l1.length∧(l.map SV.str).length=l.length from⟨List.length_map ..,List.length_map ..⟩)
   (refine run ?_;with_reducible repeat' first|exact trivial|(apply af.mk<;>intro hb)|apply ax.mk)
   refine hK _ _ (i+1) (by omega) (by omega) ?_
   rw[e1,List.map_append,List.map_cons,show(l1++binds[i].name::l).length=l1.length+(1+l.length) from by simp;omega]
   exact bB (n0:=H.length) [(H.length,0),(H.length+1,0)] hG hB hC' hcl
  obtain rfl:i=binds.length:=by omega
  clear hK
  (refine jD ?_;with_reducible repeat' first|exact trivial|(apply af.mk<;>intro hb)|apply ax.mk)
  refine gV rfl (by omega) ?_
  (refine jD ?_;with_reducible repeat' first|exact trivial|(apply af.mk<;>intro hb)|apply ax.mk)
  refine eT (fun _:Unit=>[(1,.ptr H.length 0 0 0),(3,.sl (H.length+1) 0 0 (L2 binds.length++l5).length)]) (fun _=>H++[.cells 0 8 [.agg [.int .i64 kd,.str nm,.int .i64 nn,.int .i64 op,.list 1 (names.map .str),.list 8 (aj ad),.list 9 (ao binds),.list 12 (aA alts)]],.cells 0 1 ((L2 binds.length++l5).map .str)]) (fun _=>True) (fun K hK=>?_) (fun _ _=>?_)
  ·have X:=And.intro aO (show((L2 binds.length).map SV.str).length=(L2 binds.length).length from List.length_map ..)
   (refine bP ?_;with_reducible repeat' first|exact trivial|(apply af.mk<;>intro hb)|apply ax.mk)
   ·refine hK _ _ () trivial ?_
    rw[if_pos hb] at hl5
    subst hl5
    rw[List.map_append,List.length_append,List.length_singleton]
    exact bB (n0:=H.length) [(H.length,0),(H.length+1,0)] hG hB hC' hcl
   ·refine hK _ _ () trivial ?_
    rw[if_neg hb] at hl5
    subst hl5
    rw[List.append_nil]
    exact bB (n0:=H.length) [(H.length,0),(H.length+1,0)] hG hB hC' hcl
  (refine bP ?_;with_reducible repeat' first|exact trivial|(apply af.mk<;>intro hb)|apply ax.mk)
  refine aC (fun i:Nat=>[(1,.ptr H.length 0 0 0),(3,.sl (H.length+1) 0 0 (L4 i).length),(6,.int .i64 i)])
   (fun i=>H++[.cells 0 8 [.agg [.int .i64 kd,.str nm,.int .i64 nn,.int .i64 op,.list 1 (names.map .str),.list 8 (aj ad),.list 9 (ao binds),.list 12 (aA alts)]],.cells 0 1 ((L4 i).map .str)]) (fun i=>alts.length - i) (fun i=>i≤alts.length) 0 (Nat.zero_le _) ?_ ?_
  ·rw[d1]
   exact Wk.sub (by simp[bR,look])
  rintro K i hi hK
  rcases Nat.lt_or_ge i alts.length with hlt|hge
  ·have hpb:=hpw alts[i].body (by simp;exact .inr (.inr ⟨_,List.getElem_mem hlt,rfl⟩))
   have c1:=fun H=>hrec alts[i].body H hpb.1 hpb.2
   have e1:=d2 i hlt
   have e2:=d3 (i+1)
   have e3:=d3 i
   have e4:=dR m alts[i].body
   rw[e1,List.length_append] at e2
   simp only[List.length_append] at e2
   generalize eo m alts[i].body=l at*
   generalize L4 i=l1 at*
   have X:=And.intro aO (show(l1.map SV.str).length=l1.length∧(l.map SV.str).length=l.length from⟨List.length_map ..,List.length_map ..⟩)
   (refine run ?_;with_reducible repeat' first|exact trivial|(apply af.mk<;>intro hb)|apply ax.mk)
   refine hK _ _ (i+1) (by omega) (by omega) ?_
   rw[e1,List.map_append,List.map_append,show(l1++(alts[i].names++l)).length=l1.length+(alts[i].names.length+l.length) from by simp]
   exact bB (n0:=H.length) [(H.length,0),(H.length+1,0)] hG hB hC' hcl
  obtain rfl:i=alts.length:=by omega
  clear hK
  (refine bP ?_;with_reducible repeat' first|exact trivial|(apply af.mk<;>intro hb)|apply ax.mk)
  exact jv [(H.length+1,0)] (.sl H.length 0 0 (L4 alts.length).length) [.cells 0 1 ((L4 alts.length).map .str)] hR hC' hcl ⟨rfl,rfl⟩
def MW (G:Gl) (m:Nat):Prop:=∀ (e:Ex) (H:List az) (at_:Nat),e.wt≤m→e.wt<4294967296→ag Tryz.prog G 46 [e.sv,.int .i64 (at_:Int)] H (fun r H'=>∃ (n:Nat) (b:Bool),(H'=H∧r= .tuple [.int .i64 n,.bool b])∧n≤e.wt)
theorem qU (G:Gl) (hG:aw G):∀ m,MW G m
 |0,e,H,at_,h,_=>absurd e.bz (by omega)
 |m+1,e,H,at_,hm,hw0=>by
  have hrec:=qU G hG m
  have hep:=e.bz
  by_cases hat:(300:Int)<(at_:Int)
  ·refine ag.aK TB [] aF _ Tryz.func46 rfl (by decide) Tryz.ntmps46 (by simp) rfl (by simp only[au,Nat.reduceAdd];rfl) fun C R' hR hC hcl hB=>?_;have X:=aO;have hC':=congrArg List.length hC
   (refine jD ?_;with_reducible repeat' first|exact trivial|(apply af.mk<;>intro hb)|apply ax.mk)
   refine gd rfl hat ?_
   (refine run ?_;with_reducible repeat' first|exact trivial|(apply af.mk<;>intro hb)|apply ax.mk)
   exact aS (n0:=H.length) hR hC' hcl (.same _ rfl) ⟨1,false,⟨rfl,rfl⟩,by omega⟩
  have hpt:=fun i (h:i<e.parts.length)=>Ex.cU (List.getElem_mem h)
  have hpo:=fun H i (h:i<e.parts.length)=>FE G hG e hw0 i h H
  have hpw:=xD e
  have hsum:∀ i (h:i<e.parts.length),((e.parts.take (i+1)).map Ex.wt).sum=((e.parts.take i).map Ex.wt).sum+e.parts[i].wt:=fun i h=>by rw[List.take_succ_eq_append_getElem h,List.map_append,List.sum_append,List.map_singleton,List.sum_singleton]
  have hsml:∀ i,((e.parts.take i).map Ex.wt).sum≤(e.parts.map Ex.wt).sum:=fun i=>by rw[List.map_take];exact mf i
  have hat2:(at_:Int)+1=((at_+1:Nat):Int):=by omega
  obtain⟨kd,nm,nn,op,names,ad,binds,alts⟩:=e
  have hle:=Ex.cY kd nm nn op names ad binds alts
  have hpl:(Ex.mk kd nm nn op names ad binds alts).parts.length=ad.length+binds.length+alts.length:=by rw[Ex.dn];simp;omega
  generalize hP:(Ex.mk kd nm nn op names ad binds alts).parts=P at*
  generalize hW:(Ex.mk kd nm nn op names ad binds alts).wt=W at*
  refine ag.aK TB [] aF _ Tryz.func46 rfl (by decide) Tryz.ntmps46 (by simp) rfl (by simp only[au,Nat.reduceAdd];rfl) fun C R' hR hC hcl hB=>?_;have X:=aO;have hC':=congrArg List.length hC
  (refine jD ?_;with_reducible repeat' first|exact trivial|(apply af.mk<;>intro hb)|apply ax.mk)
  refine gV rfl hat ?_
  (refine run ?_;with_reducible repeat' first|exact trivial|(apply af.mk<;>intro hb)|apply ax.mk)
  refine aC (fun a:Nat×Nat=>[(1,.int .i64 (at_:Int)),(2,.ptr H.length 0 0 0),(6,.int .i64 (a.2:Int)),(7,.int .i64 (a.1:Int))]) (fun _=>H++[.cells 0 8 [.agg [.int .i64 kd,.str nm,.int .i64 nn,.int .i64 op,.list 1 (names.map .str),.list 8 (aj ad),.list 9 (ao binds),.list 12 (aA alts)]]]) (fun a=>P.length - a.1) (fun a=>a.1≤P.length∧a.2≤1+((P.take a.1).map Ex.wt).sum) (0,1) ⟨Nat.zero_le _,by simp⟩ ?_ ?_
  ·exact bB (n0:=H.length) [(H.length,0)] hG hB hC' hcl
  rintro K ⟨i,n⟩ ⟨hi,hn⟩ hK
  simp only at hi hn
  dsimp only
  have hs2:=hsml i
  rcases Nat.lt_or_ge i P.length with hlt|hge
  ·have hp1:=hpt i hlt
   have c1:=fun H=>hpo H i hlt
   have hs1:=hsum i hlt
   have hs3:=hsml (i+1)
   have hgd:(i:Int)<(ad.length:Int)+(binds.length:Int)+(alts.length:Int):=by omega
   have hcall:=fun H=>hrec P[i] H (at_+1) (by omega) (by omega)
   generalize P[i]=x at*
   have X:=And.intro aO (And.intro hat2 hgd)
   (refine run ?_;with_reducible repeat' first|exact trivial|(apply af.mk<;>intro hb)|apply ax.mk)
   refine bh (hcall _) ?_
   rintro r H' ⟨n2,b2,⟨rfl,rfl⟩,hn2⟩
   have hnn:(n:Int)+(n2:Int)=((n+n2:Nat):Int):=by omega
   have X:=And.intro aO hnn
   (refine run ?_;with_reducible repeat' first|exact trivial|(apply af.mk<;>intro hb)|apply ax.mk)
   ·exact aS (n0:=H.length) hR hC' hcl (.same _ rfl) ⟨n+n2,false,⟨rfl,rfl⟩,by omega⟩
   ·refine hK _ _ (i+1,n+n2) (by simp only;omega) ⟨by simp only;omega,by simp only;omega⟩ ?_
    dsimp only
    exact bB (n0:=H.length) [(H.length,0)] hG hB hC' hcl
  ·have hgd:¬ (i:Int)<(ad.length:Int)+(binds.length:Int)+(alts.length:Int):=by omega
   have X:=And.intro aO hgd
   clear hK
   (refine run ?_;with_reducible repeat' first|exact trivial|(apply af.mk<;>intro hb)|apply ax.mk)
   exact aS (n0:=H.length) hR hC' hcl (.same _ rfl) ⟨n,true,⟨rfl,rfl⟩,by omega⟩
theorem ye (G:Gl) (hG:aw G) (e:Ex) (hw:e.wt<4294967296) (H:List az):ag Tryz.prog G 12 [e.sv] H (fun r H'=>∃ (n:Nat) (b:Bool),(H'=H∧r= .tuple [.int .i64 n,.bool b])∧n≤e.wt):=by
 refine ag.aK TB [] aF _ Tryz.func12 rfl (by decide) Tryz.ntmps12 (by simp) rfl (by simp only[au,Nat.reduceAdd];rfl) fun C R' hR hC hcl hB=>?_;have X:=aO;have hC':=congrArg List.length hC
 (refine run ?_;with_reducible repeat' first|exact trivial|(apply af.mk<;>intro hb)|apply ax.mk)
 refine bh (qU G hG e.wt e _ 0 (Nat.le_refl _) hw) ?_
 rintro r H' ⟨n,b,⟨rfl,rfl⟩,hn⟩
 (refine run ?_;with_reducible repeat' first|exact trivial|(apply af.mk<;>intro hb)|apply ax.mk)
 exact aS (n0:=H.length) hR hC' hcl (.same _ rfl) ⟨n,b,⟨rfl,rfl⟩,hn⟩
theorem EI (G:Gl) (hG:aw G) (cons:List Cn) (binds:List Bd) (H:List az) (hw:aW binds<4294967296):
 ag Tryz.prog G 14 [.agg [.list 4 (aQ cons),.list 9 (ao binds)]] H (fun r H'=>H'=H++[.cells 0 1 ((bj binds).map .str)]∧r= .sl H.length 0 0 (bj binds).length):=by
 have hle:=dG binds
 obtain⟨L2,b1,b2,b3,b4⟩:=gB (fun b:Bd=>b.name::ym b.e) [] binds
 have e0:bj binds=L2 binds.length:=by rw[b4,List.nil_append];rfl
 have hln:=dQ binds
 rw[e0] at hln ⊢
 rw[← b4] at b3
 have bF:=fun n=>bN n cons
 refine ag.aK TB [3] aF _ Tryz.func14 rfl (by decide) Tryz.ntmps14 (by simp) rfl (by simp only[au,Nat.reduceAdd];rfl) fun C R' hR hC hcl hB=>?_;have X:=aO;have hC':=congrArg List.length hC
 (refine run ?_;with_reducible repeat' first|exact trivial|(apply af.mk<;>intro hb)|apply ax.mk)
 refine aC (fun i:Nat=>[(1,.ptr H.length 0 0 0),(3,.sl (H.length+1) 0 0 (L2 i).length),(4,.int .i64 i)])
  (fun i=>H++[.cells 0 2 [.agg [.list 4 (aQ cons),.list 9 (ao binds)]],.cells 0 1 ((L2 i).map .str)]) (fun i=>binds.length - i) (fun i=>i≤binds.length) 0 (Nat.zero_le _) ?_ ?_
 ·simp only[b1,List.length_nil,List.map_nil]
  exact bB (n0:=H.length) [(H.length,0),(H.length+1,0)] hG hB hC' hcl
 rintro K i hi hK
 rcases Nat.lt_or_ge i binds.length with hlt|hge
 ·have hpb:=nJ (List.getElem_mem hlt)
  have c1:=fun H=>p7 G hG binds[i].e.wt binds[i].e H (Nat.le_refl _) (by omega)
  have e1:=b2 i hlt
  have e2:=b3 (i+1)
  have e3:=b3 i
  have e4:=dR binds[i].e.wt binds[i].e
  rw[e1,List.length_append] at e2
  simp only[List.length_cons,ym] at e2 e1
  generalize eo binds[i].e.wt binds[i].e=l at*
  generalize L2 i=l1 at*
  have X:=And.intro aO (show(l1.map SV.str).length=l1.length∧(l.map SV.str).length=l.length from⟨List.length_map ..,List.length_map ..⟩)
  (refine run ?_;with_reducible repeat' first|exact trivial|(apply af.mk<;>intro hb)|apply ax.mk)
  refine hK _ _ (i+1) (by omega) (by omega) ?_
  rw[e1,List.map_append,List.map_cons,show(l1++binds[i].name::l).length=l1.length+(1+l.length) from by simp;omega]
  exact bB (n0:=H.length) [(H.length,0),(H.length+1,0)] hG hB hC' hcl
 obtain rfl:i=binds.length:=by omega
 clear hK
 have X:=And.intro aO (Int.lt_irrefl (binds.length:Int))
 (refine run ?_;with_reducible repeat' first|exact trivial|(apply af.mk<;>intro hb)|apply ax.mk)
 exact jv [(H.length+1,0)] (.sl H.length 0 0 (L2 binds.length).length) [.cells 0 1 ((L2 binds.length).map .str)] hR hC' hcl ⟨rfl,rfl⟩
theorem uD (G:Gl) (hG:aw G) (cons:List Cn) (binds:List Bd) (H:List az) (hw:aW binds<4294967296):
 ag Tryz.prog G 14 [.agg [.list 4 (aQ cons),.list 9 (ao binds)]] H (fun r H'=>H'=H∧r= .list 1 ((bj binds).map .str)):=
 ag.KG (cm _ _) (List.length_map ..) (EI G hG cons binds H hw)
theorem wrap_u8 {n:Nat} (h:n<256):IntKind.u8.wrap (n:Int)=(n:Int):=by
 simp only[IntKind.wrap,IntKind.bits,IntKind.signed]
 simp
 omega
theorem Bk (G:Gl) (hG:aw G) (s:aI) (hs:s.length<4294967296) (H:List az):ag Tryz.prog G 47 [.str s] H (fun r H'=>∃ n:Nat,(H'=H∧r= .int .i64 n)∧n<10000000000):=by
 refine ag.aK TB [] aF _ Tryz.func47 rfl (by decide) Tryz.ntmps47 (by simp) rfl (by simp only[au,Nat.reduceAdd];rfl) fun C R' hR hC hcl hB=>?_;have X:=aO;have hC':=congrArg List.length hC
 (refine run ?_;with_reducible repeat' first|exact trivial|(apply af.mk<;>intro hb)|apply ax.mk)
 ·exact Fin.out hR ⟨0,⟨rfl,rfl⟩,by omega⟩
 have hl3:¬ (List.length s:Int)<3:=fun h=>by rw[decide_eq_true h] at hb;simp at hb
 have hl11:¬ (11:Int)<(List.length s:Int):=fun h=>by rw[decide_eq_true h] at hb;simp at hb
 have h2l:2<s.length:=by omega
 have h2:s[2]? =some s[2]:=List.getElem?_eq_getElem h2l
 have X:=And.intro aO h2
 (refine run ?_;with_reducible repeat' first|exact trivial|(apply af.mk<;>intro hb)|apply ax.mk)
 ·exact Fin.out hR ⟨0,⟨rfl,rfl⟩,by omega⟩
 have hpw:∀ i,2≤i→10 ^ (i+1 - 2)=10*10 ^ (i - 2):=fun i hi=>by rw[show i+1 - 2=(i - 2)+1 by omega,Nat.pow_succ];omega
 have hpm:∀ i,i≤11→10 ^ (i - 2)≤1000000000:=fun i hi=>Nat.le_trans (Nat.pow_le_pow_right (by omega) (show i - 2≤9 by omega)) (by omega)
 refine aC (fun a:Nat×Nat=>[(0,.str s),(3,.int .i64 (a.2:Int)),(4,.int .i64 (a.1:Int))]) (fun _=>H) (fun a=>s.length - a.1) (fun a=>(2≤a.1∧a.1≤s.length)∧a.2<10 ^ (a.1 - 2)) (2,0) ⟨⟨Nat.le_refl _,by simp only;omega⟩,by simp⟩ (Wk.sub (by simp[bR,look])) ?_
 rintro K ⟨i,n⟩ ⟨⟨hi1,hi2⟩,hn⟩ hK
 simp only at hi1 hi2 hn
 dsimp only
 have hp1:=hpw i hi1
 have hp2:=hpm i (by omega)
 generalize hPP:10 ^ (i - 2)=pp at*
 rcases Nat.lt_or_ge i s.length with hlt|hge
 ·have hg:s[i]? =some s[i]:=List.getElem?_eq_getElem hlt
  have hb8:s[i].toNat<256:=s[i].toNat_lt
  generalize s[i]=b at*
  generalize hbn:b.toNat=bn at*
  have X:=And.intro aO (And.intro hg hbn)
  (refine run ?_;with_reducible repeat' first|exact trivial|(apply af.mk<;>intro hb)|apply ax.mk)
  ·exact Fin.out hR ⟨0,⟨rfl,rfl⟩,by omega⟩
  ·simp only[Bool.or_eq_false_iff,decide_eq_false_iff_not] at hb
   have hw8:IntKind.u8.wrap ((bn:Int) - 48)=((bn - 48:Nat):Int):=by rw[show(bn:Int) - 48=((bn - 48:Nat):Int) by omega];exact wrap_u8 (by omega)
   rw[hw8,wrap_i64 ((bn - 48:Nat):Int) (by omega),wrap_i64 _ (by omega),show 10*(n:Int)+((bn - 48:Nat):Int)=((10*n+(bn - 48):Nat):Int) by omega]
   exact hK _ _ (i+1,10*n+(bn - 48)) (by simp only;omega) ⟨⟨by simp only;omega,by simp only;omega⟩,by simp only[hp1];omega⟩ (Wk.sub (by simp[bR,look]))
 ·have hni:¬ (i:Int)<(List.length s:Int):=by omega
  clear hK
  have X:=aO
  (refine run ?_;with_reducible repeat' first|exact trivial|(apply af.mk<;>intro hb)|apply ax.mk)
  exact Fin.out hR ⟨n,⟨rfl,rfl⟩,by omega⟩
theorem EO (G:Gl) (hG:aw G) (cons:List Cn) (binds:List Bd) (H:List az) (hw:aW binds<4294967295) (hns:∀ s∈bj binds,s.length<4294967296):
 ag Tryz.prog G 13 [.agg [.list 4 (aQ cons),.list 9 (ao binds)]] H (fun r H'=>∃ n:Nat,(H'=H∧r= .int .i64 n)∧n<10000000001):=by
 have hln:=dQ binds
 refine ag.aK TB [] aF _ Tryz.func13 rfl (by decide) Tryz.ntmps13 (by simp) rfl (by simp only[au,Nat.reduceAdd];rfl) fun C R' hR hC hcl hB=>?_;have X:=aO;have hC':=congrArg List.length hC
 (refine run ?_;with_reducible repeat' first|exact trivial|(apply af.mk<;>intro hb)|apply ax.mk)
 refine bh (uD G hG cons binds _ (by omega)) ?_
 rintro r H' ⟨rfl,rfl⟩
 generalize bj binds=l at*
 (refine run ?_;with_reducible repeat' first|exact trivial|(apply af.mk<;>intro hb)|apply ax.mk)
 refine aC (fun a:Nat×Nat=>[(3,.int .i64 (a.2:Int)),(4,.list 1 (l.map .str)),(5,.int .i64 (a.1:Int))]) (fun a=>H++[]) (fun a=>l.length - a.1) (fun a=>a.1≤l.length∧a.2<10000000000) (0,0) ⟨Nat.zero_le _,by omega⟩ ?_ ?_
 ·exact bB (n0:=H.length) [] hG hB hC' hcl
 rintro K ⟨i,n⟩ ⟨hi,hn⟩ hK
 simp only at hi hn
 dsimp only
 rcases Nat.lt_or_ge i l.length with hlt|hge
 ·have g1:(l.map SV.str)[i]? =some (.str l[i]):=by simp[hlt]
  have hnum:=fun H=>Bk G hG l[i] (hns _ (List.getElem_mem hlt)) H
  generalize l[i]=s at*
  have X:=And.intro aO g1
  (refine run ?_;with_reducible repeat' first|exact trivial|(apply af.mk<;>intro hb)|apply ax.mk)
  refine bh (hnum _) ?_
  rintro r H' ⟨n2,⟨rfl,rfl⟩,hn2⟩
  have hmm:=mD n n2
  have X:=And.intro aO (And.intro hmm (show IntKind.i64.min≤(n2:Int)∧(n2:Int)≤IntKind.i64.max from⟨by show(-9223372036854775808:Int)≤_;omega,by show _≤(9223372036854775807:Int);omega⟩))
  (refine run ?_;with_reducible repeat' first|exact trivial|(apply af.mk<;>intro hb)|apply ax.mk)
  refine hK _ _ (i+1,max n n2) (by simp only;omega) ⟨by simp only;omega,by simp only;omega⟩ ?_
  dsimp only
  exact bB (n0:=H.length) [] hG hB hC' hcl
 ·have hni:¬ (i:Int)<(l.length:Int):=by omega
  clear hK
  have X:=aO
  (refine run ?_;with_reducible repeat' first|exact trivial|(apply af.mk<;>intro hb)|apply ax.mk)
  refine aS (n0:=H.length) hR hC' hcl (.same _ rfl) ⟨n+1,⟨rfl,?_⟩,by omega⟩
  simp only[bA,Int.natCast_add,Int.natCast_one]
theorem BX (G:Gl) (hG:aw G) (cons:List Cn) (binds:List Bd) (H:List az) (hw:aW binds<1073741824) (hcn:cons.length<1099511627776) (hns:∀ s∈bj binds,s.length<4294967296):
 ag Tryz.prog G 5 [.agg [.list 4 (aQ cons),.list 9 (ao binds)]] H (Kz H):=by
 have hln:=dQ binds
 have hle:=dG binds
 have bF:=fun n=>bN n cons
 have hlm:((bj binds).map SV.str).length=(bj binds).length:=List.length_map ..
 refine ag.aK TB [] aF _ Tryz.func5 rfl (by decide) Tryz.ntmps5 (by simp) rfl (by simp only[au,Nat.reduceAdd];rfl) fun C R' hR hC hcl hB=>?_;have X:=aO;have hC':=congrArg List.length hC
 (refine run ?_;with_reducible repeat' first|exact trivial|(apply af.mk<;>intro hb)|apply ax.mk)
 ·exact aS (n0:=H.length) hR hC' hcl (.same _ rfl) ⟨rfl,_,rfl⟩
 refine aC (fun a:Nat×Nat=>[(1,.ptr H.length 0 0 0),(3,.int .i64 (a.2:Int)),(4,.int .i64 (a.1:Int))]) (fun _=>H++[.cells 0 2 [.agg [.list 4 (aQ cons),.list 9 (ao binds)]]]) (fun a=>binds.length - a.1) (fun a=>a.1≤binds.length∧a.2≤aW (binds.take a.1)) (0,0) ⟨Nat.zero_le _,Nat.zero_le _⟩ ?_ ?_
 ·exact bB (n0:=H.length) [(H.length,0)] hG hB hC' hcl
 rintro K ⟨i,n⟩ ⟨hi,hn⟩ hK
 simp only at hi hn
 dsimp only
 have hbt:=kB binds i
 rcases Nat.lt_or_ge i binds.length with hlt|hge
 ·have hpb:=nJ (List.getElem_mem hlt)
  have hbd:=fun H=>ye G hG binds[i].e (by omega) H
  have hbt2:aW (binds.take (i+1))=aW (binds.take i)+binds[i].wt:=by
   rw[List.take_succ_eq_append_getElem hlt]
   have:∀ (l:List Bd) (b:Bd),aW (l++[b])=aW l+b.wt:=fun l b=>by
    induction l with
    |nil=>simp[aW]
    |cons x r ih=>simp only[List.cons_append,aW,ih];omega
   exact this _ _
  have hbg:=binds[i].cZ
  have hX:=aO
  have X:=aO
  (refine run ?_;with_reducible repeat' first|exact trivial|(apply af.mk<;>intro hb)|apply ax.mk)
  refine bh (hbd _) ?_
  rintro r H' ⟨n2,b2,⟨rfl,rfl⟩,hn2⟩
  have hnn:(n:Int)+(n2:Int)=((n+n2:Nat):Int):=by omega
  have X:=And.intro aO hnn
  (refine run ?_;with_reducible repeat' first|exact trivial|(apply af.mk<;>intro hb)|apply ax.mk)
  ·exact aS (n0:=H.length) hR hC' hcl (.same _ rfl) ⟨rfl,_,rfl⟩
  ·refine hK _ _ (i+1,n+n2) (by simp only;omega) ⟨by simp only;omega,by simp only;omega⟩ ?_
   dsimp only
   exact bB (n0:=H.length) [(H.length,0)] hG hB hC' hcl
 ·have hni:¬ (i:Int)<(binds.length:Int):=by omega
  clear hK
  have c1:=fun H=>uD G hG cons binds H (by omega)
  have X:=And.intro aO (And.intro hni hlm)
  (refine run ?_;with_reducible repeat' first|exact trivial|(apply af.mk<;>intro hb)|apply ax.mk)
  refine bh (EO G hG cons binds _ (by omega) hns) ?_
  rintro r H' ⟨n2,⟨rfl,rfl⟩,hn2⟩
  clear hn2
  generalize (n2:Int)=z
  (refine run ?_;with_reducible repeat' first|exact trivial|(apply af.mk<;>intro hb)|apply ax.mk)
  all_goals exact aS (n0:=H.length) hR hC' hcl (.same _ rfl) ⟨rfl,_,rfl⟩
theorem zG (s:aI): -9223372036854775808≤(ic s).1∧(ic s).1≤9223372036854775807:=by
 unfold ic
 rcases h:Lib.atoiAll s with v|_|_
 ·exact Lib.atoiAll_bounds h
 ·exact⟨show(-9223372036854775808:Int)≤0 by decide,show(0:Int)≤9223372036854775807 by decide⟩
 ·exact Lib.atoiSat_bounds s
theorem Ak (s:aI):s.take 2=[116,35]↔2≤s.length∧s.take 2=[116,35]:=⟨fun h=>⟨by have:=congrArg List.length h;rw[List.length_take] at this;simp at this;omega,h⟩,fun h=>h.2⟩
theorem u6 (G:Gl) (s:aI) (hs:s.length<4294967296) (H:List az):ag Tryz.prog G 137 [.str s,.str [116,35]] H (fun r H'=>H'=H∧r= .bool (decide (s.take 2=[116,35]))):=by
 by_cases h2:(2:Int)≤(s.length:Int)
 ·have h2n:2≤s.length:=by omega
  refine ag.aK TB [] aF _ Tryz.func137 rfl (by decide) Tryz.ntmps137 (by simp) rfl (by simp only[au,Nat.reduceAdd];rfl) fun C R' hR hC hcl hB=>?_;have X:=aO;have hC':=congrArg List.length hC
  have X:=And.intro X h2
  (refine run ?_;with_reducible repeat' first|exact trivial|(apply af.mk<;>intro hb)|apply ax.mk)
  exact Fin.out hR ⟨rfl,rfl⟩
 ·have h2n2:¬ 2≤s.length:=by omega
  have e:decide (s.take 2=[116,35])=false:=decide_eq_false fun h=>by have:=((Ak s).1 h).1;omega
  rw[e]
  refine ag.aK TB [] aF _ Tryz.func137 rfl (by decide) Tryz.ntmps137 (by simp) rfl (by simp only[au,Nat.reduceAdd];rfl) fun C R' hR hC hcl hB=>?_;have X:=aO;have hC':=congrArg List.length hC
  have X:=And.intro X h2
  (refine run ?_;with_reducible repeat' first|exact trivial|(apply af.mk<;>intro hb)|apply ax.mk)
  refine Fin.out hR ⟨rfl,?_⟩
  simp only[bA]
  rw[show decide (((2:Nat):Int)≤(s.length:Int))=false from decide_eq_false (by omega),Bool.false_and]
theorem Cy (G:Gl) (s:aI) (hs:s.length<4294967296) (H:List az):ag Tryz.prog G 101 [.str s,.str [116,35]] H (fun r H'=>H'=H∧r= .tuple [.str (if s.take 2=[116,35] then s.drop 2 else s),.bool (decide (s.take 2=[116,35]))]):=by
 have c1:=fun H=>u6 G s hs H
 by_cases h:s.take 2=[116,35]
 ·have h2:=((Ak s).1 h).1
  rw[decide_eq_true h] at*
  rw[if_pos h]
  refine ag.aK TB [] aF _ Tryz.func101 rfl (by decide) Tryz.ntmps101 (by simp) rfl (by simp only[au,Nat.reduceAdd];rfl) fun C R' hR hC hcl hB=>?_;have X:=aO;have hC':=congrArg List.length hC
  (refine run ?_;with_reducible repeat' first|exact trivial|(apply af.mk<;>intro hb)|apply ax.mk)
  exact Fin.out hR ⟨rfl,by rw[List.take_of_length_le (by rw[List.length_drop];exact Nat.le_refl _)];rfl⟩
 ·rw[decide_eq_false h] at*
  rw[if_neg h]
  refine ag.aK TB [] aF _ Tryz.func101 rfl (by decide) Tryz.ntmps101 (by simp) rfl (by simp only[au,Nat.reduceAdd];rfl) fun C R' hR hC hcl hB=>?_;have X:=aO;have hC':=congrArg List.length hC
  (refine run ?_;with_reducible repeat' first|exact trivial|(apply af.mk<;>intro hb)|apply ax.mk)
  exact Fin.out hR ⟨rfl,rfl⟩
theorem uQ (G:Gl) (s:aI) (hs:s.length<4294967296) (H:List az):ag Tryz.prog G 53 [.str s,.str [116,35]] H (fun r H'=>H'=H∧r= .tuple [.str (if s.take 2=[116,35] then s.drop 2 else s),.bool (decide (s.take 2=[116,35]))]):=by
 have c1:=fun H=>Cy G s hs H
 refine ag.aK TB [] aF _ Tryz.func53 rfl (by decide) Tryz.ntmps53 (by simp) rfl (by simp only[au,Nat.reduceAdd];rfl) fun C R' hR hC hcl hB=>?_;have X:=aO;have hC':=congrArg List.length hC
 (refine run ?_;with_reducible repeat' first|exact trivial|(apply af.mk<;>intro hb)|apply ax.mk)
 exact Fin.out hR ⟨rfl,rfl⟩
theorem AZ (l:List aI) (s:aI) (n:Nat):(l++[s]).foldl (fun n s=>max n (eh s)) n=max (l.foldl (fun n s=>max n (eh s)) n) (eh s):=by rw[List.foldl_append];rfl
theorem Io {z nb:Bool} {k:Int} {ds:aI} (hnu:nb=(true&&z&&decide (0<k)&&decide (ds.length≤9)&&decide (Lib.itoa k=ds))) (h1:(z&&decide (0<k)&&decide ((ds.length:Int)≤9))=true) (h2:Lib.itoa k=ds):nb=true:=by
 rw[hnu]
 simp only[Bool.and_eq_true,decide_eq_true_eq] at h1 ⊢
 exact⟨⟨⟨⟨trivial,h1.1.1⟩,h1.1.2⟩,by omega⟩,h2⟩
theorem G3 {z nb:Bool} {k:Int} {ds:aI} (hnu:nb=(true&&z&&decide (0<k)&&decide (ds.length≤9)&&decide (Lib.itoa k=ds))) (h2:¬ Lib.itoa k=ds):nb=false:=by
 rw[hnu,decide_eq_false h2,Bool.and_false]
theorem G4 {z nb:Bool} {k:Int} {ds:aI} (hnu:nb=(true&&z&&decide (0<k)&&decide (ds.length≤9)&&decide (Lib.itoa k=ds))) (h1:(z&&decide (0<k)&&decide ((ds.length:Int)≤9))=false):nb=false:=by
 rw[hnu]
 simp only[show decide ((ds.length:Int)≤9)=decide (ds.length≤9) from decide_eq_decide.2 (by omega)] at h1
 rw[Bool.true_and,h1,Bool.false_and]
theorem Cv (G:Gl) (hG:aw G) (C0:Cx) (hb0:G.base=some C0) (hl0:gZ C0) (cons:List Cn) (binds:List Bd) (H:List az) (hw:aW binds<4294967295) (hns:∀ s∈bj binds,s.length<4294967296):
 ag Tryz.prog G 19 [.agg [.list 4 (aQ cons),.list 9 (ao binds)]] H (fun r H'=>H'=H∧r= .int .i64 (ql binds)):=by
 have hln:=dQ binds
 have c1:=fun H=>ag.KG (cm _ _) (List.length_map ..) (pO G hG cons binds H (by omega))
 have hnx:ql binds=(bj binds).foldl (fun n s=>max n (eh s)) 0+1:=rfl
 rw[hnx]
 clear hnx
 have hflt:=fun i=>qz ((bj binds).take i) 0 (by decide)
 refine ag.aK TB [] aF _ Tryz.func19 rfl (by decide) Tryz.ntmps19 (by simp) rfl (by simp only[au,Nat.reduceAdd];rfl) fun C R' hR hC hcl hB=>?_;have X:=aO;have hC':=congrArg List.length hC
 generalize bj binds=l at*
 (refine run ?_;with_reducible repeat' first|exact trivial|(apply af.mk<;>intro hb)|apply ax.mk)
 refine aC (fun i:Nat=>[(3,.int .i64 (((l.take i).foldl (fun n s=>max n (eh s)) 0:Nat):Int)),(11,.list 1 (l.map .str)),(12,.int .i64 l.length),(13,.int .i64 (i:Int))]) (fun a=>H++[]) (fun i=>l.length - i) (fun i=>i≤l.length) 0 (Nat.zero_le _) ?_ ?_
 ·exact bB (n0:=H.length) [] hG hB hC' hcl
 rintro K i hi hK
 have hfi:=hflt i
 rcases Nat.lt_or_ge i l.length with hlt|hge
 ·have g1:(l.map SV.str)[i]? =some (.str l[i]):=by simp[hlt]
  have hsl:=hns _ (List.getElem_mem hlt)
  have hsn:=AZ (l.take i) l[i] 0
  rw[← List.take_succ_eq_append_getElem hlt] at hsn
  have hfi2:=hflt (i+1)
  rw[hsn] at hfi2
  have hnc:=FB l[i]
  have hnu:vl l[i]=(decide (l[i].take 2=[116,35])&&(ic (l[i].drop 2)).2&&decide (0<(ic (l[i].drop 2)).1)&&decide ((l[i].drop 2).length≤9)&&decide (Lib.itoa (ic (l[i].drop 2)).1=l[i].drop 2)):=rfl
  generalize l[i]=s at*
  generalize hFF:(l.take i).foldl (fun n s=>max n (eh s)) 0=n at*
  have c2:=fun H=>uQ G s hsl H
  by_cases hp:s.take 2=[116,35]
  ·rw[decide_eq_true hp] at c2 hnu
   rw[if_pos hp] at c2
   have hdl:(s.drop 2).length<4294967296:=by rw[List.length_drop];omega
   generalize s.drop 2=ds at*
   have c3:=fun H=>zH G C0 hb0 hl0 ds hdl H
   obtain⟨hr1,hr2⟩:=zG ds
   generalize (ic ds).2=z at*
   generalize (ic ds).1=k at*
   have c4:=fun H=>zX G C0 hb0 hl0 k hr1 hr2 H
   have X:=And.intro aO g1
   (refine run ?_;with_reducible repeat' first|exact trivial|(apply af.mk<;>intro hb)|apply ax.mk)
   ·have hnt:=Io hnu (by assumption) (by assumption)
    rw[hnt,if_pos rfl] at hnc
    subst hnc
    have hnl:=vk s
    have hmm:=mD n (eh s)
    have X:=And.intro aO (And.intro hmm (show IntKind.i64.min≤(eh s:Int)∧(eh s:Int)≤IntKind.i64.max from⟨by show(-9223372036854775808:Int)≤_;omega,by show _≤(9223372036854775807:Int);omega⟩))
    (refine run ?_;with_reducible repeat' first|exact trivial|(apply af.mk<;>intro hb)|apply ax.mk)
    refine hK _ _ (i+1) (by omega) (by omega) ?_
    rw[hsn]
    exact bB (n0:=H.length) [] hG hB hC' hcl
   ·have hnt:=G3 hnu (by assumption)
    rw[hnt,if_neg Bool.false_ne_true] at hnc
    rw[show eh s=0 by omega,Nat.max_zero] at hsn
    refine hK _ _ (i+1) (by omega) (by omega) ?_
    rw[hsn]
    exact bB (n0:=H.length) [] hG hB hC' hcl
   ·have hnt:=G4 hnu (by assumption)
    rw[hnt,if_neg Bool.false_ne_true] at hnc
    rw[show eh s=0 by omega,Nat.max_zero] at hsn
    refine hK _ _ (i+1) (by omega) (by omega) ?_
    rw[hsn]
    exact bB (n0:=H.length) [] hG hB hC' hcl
  ·rw[decide_eq_false hp] at c2 hnu
   rw[if_neg hp] at c2
   have c3:=fun H=>zH G C0 hb0 hl0 s hsl H
   obtain⟨hr1,hr2⟩:=zG s
   generalize (ic s).2=z at*
   generalize (ic s).1=k at*
   have X:=And.intro aO g1
   (refine run ?_;with_reducible repeat' first|exact trivial|(apply af.mk<;>intro hb)|apply ax.mk)
   rw[show vl s=false by rw[hnu];simp only[Bool.false_and],if_neg Bool.false_ne_true] at hnc
   rw[show eh s=0 by omega,Nat.max_zero] at hsn
   refine hK _ _ (i+1) (by omega) (by omega) ?_
   rw[hsn]
   exact bB (n0:=H.length) [] hG hB hC' hcl
 ·have hni:¬ (i:Int)<(l.length:Int):=by omega
  clear hK
  rw[List.take_of_length_le hge] at hfi ⊢
  generalize l.foldl (fun n s=>max n (eh s)) 0=n at*
  have X:=And.intro aO hni
  (refine run ?_;with_reducible repeat' first|exact trivial|(apply af.mk<;>intro hb)|apply ax.mk)
  refine aS (n0:=H.length) hR hC' hcl (.same _ rfl) ⟨rfl,?_⟩
  simp only[bA,Int.natCast_add,Int.natCast_one]
theorem tw (G:Gl) (hG:aw G) (l:List Ex) (H:List az) (hl:l.length<4294967296):ag Tryz.prog G 94 [.list 8 (aj l)] H (fun r H'=>H'=H++[.cells 0 8 (aj l)]∧r= .sl H.length 0 0 l.length):=by
 refine ag.aK TB [2,5] aF _ Tryz.func94 rfl (by decide) Tryz.ntmps94 (by simp) rfl (by simp only[au,Nat.reduceAdd];rfl) fun C R' hR hC hcl hB=>?_;have X:=aO;have hC':=congrArg List.length hC
 (refine bP ?_;with_reducible repeat' first|exact trivial|(apply af.mk<;>intro hb)|apply ax.mk)
 ·obtain rfl:l=[]:=List.length_eq_zero_iff.1 hb
  exact jv [(H.length+1,0)] (.sl H.length 0 0 0) [.cells 0 8 []] hR hC' hcl ⟨rfl,rfl⟩
 ·exact jv [(H.length+1,0)] (.sl H.length 0 0 l.length) [.cells 0 8 (aj l)] hR hC' hcl ⟨rfl,rfl⟩
def bW (n:Nat):aI:=Lib.itoa (n:Int)
theorem Fs (G:Gl) (C0:Cx) (hb0:G.base=some C0) (hl0:gZ C0) (n:Nat) (h:n<4294967296):(bW n).length≤20∧∀ H,ag Tryz.prog G 55 [.int .i64 (n:Int)] H (fun r H'=>H'=H∧r= .str (bW n)):=
 ⟨ou _ (by omega) (by omega),fun H=>zX G C0 hb0 hl0 n (by omega) (by omega) H⟩
def eB (its:Nat→aI) (n:Nat):aI:=[116,35]++its n
def fO {α β:Type} (f:α→Nat→β×Nat):List α→Nat→List β×Nat
 |[],n=>([],n)
 |x::r,n=>((f x n).1::(fO f r (f x n).2).1,(fO f r (f x n).2).2)
theorem xh {α β:Type} {f:α→Nat→β×Nat} {l:List α} {D:List β} {n0 n i:Nat} (h:i<l.length) (hm:fO f l n0=(D++(fO f (l.drop i) n).1,(fO f (l.drop i) n).2)):
 fO f l n0=((D++[(f l[i] n).1])++(fO f (l.drop (i+1)) (f l[i] n).2).1,(fO f (l.drop (i+1)) (f l[i] n).2).2):=by
 rw[hm,List.drop_eq_getElem_cons h]
 simp only[fO,List.append_assoc,List.cons_append,List.nil_append]
theorem ga {L:List Ex} {j:Nat} (h:j<L.length):(aj L)[j]? =some (.agg L[j].cells):=by
 rw[bQ];simp[h];rfl
theorem vi (n:Nat) (l:List Nat) (h:l.Nodup):(l.map fun q=>(n+q,0)).map Prod.fst|>.Nodup:=by
 rw[List.map_map]
 exact List.Pairwise.map _ (fun a b hab e=>hab (by simp only[Function.comp_apply] at e;omega)) h
theorem pQ (G:Gl) (hG:aw G) (xs:List SV) (hu0:∀ n,SV.aB n xs=true) (H:List az) (hl:xs.length<4294967296):ag Tryz.prog G 20 [.list 4 xs] H (fun r H'=>H'=H++[.cells 0 4 xs]∧r= .sl H.length 0 0 xs.length):=by
 have hu:SV.aB H.length (List.drop 0 xs)=true:=hu0 _
 refine ag.aK TB [2,5] aF _ Tryz.func20 rfl (by decide) Tryz.ntmps20 (by simp) rfl (by simp only[au,Nat.reduceAdd];rfl) fun C R' hR hC hcl hB=>?_;have X:=aO;have hC':=congrArg List.length hC
 (refine bP ?_;with_reducible repeat' first|exact trivial|(apply af.mk<;>intro hb)|apply ax.mk)
 ·obtain rfl:xs=[]:=List.length_eq_zero_iff.1 hb
  exact jv [(H.length+1,0)] (.sl H.length 0 0 0) [.cells 0 4 []] hR hC' hcl ⟨rfl,rfl⟩
 ·exact jv [(H.length+1,0)] (.sl H.length 0 0 xs.length) [.cells 0 4 xs] hR hC' hcl ⟨rfl,rfl⟩
theorem ag.Il {P:Program} {G:Gl} {f:FuncId} {args args2:List SV} {H:List az} {y:SV} (hG:aw G) (hB:eJ G 0) (hf:de H 0 [] args args2) (hy:∀ c c' v,aG c y v→aG c' y v)
 (h:ag P G f args2 [] (fun r _=>r=y)):ag P G f args H (fun r H'=>H'=H∧r=y):=by
 refine⟨h.1,fun c vs hH hc hg hv=>?_⟩
 subst hH
 have hk:eR (H:=[]) (X:=c.H) [] []:=eR.nil
 have h00:=Cx.jz (θ:=c.θ) (H:=[]) (X:=c.H) (w:=c.w) hc hk (fun B hB=>by cases hB)
 have hv2:=(bV.rep (θ:=c.θ) (H:=[]) (X:=c.H) (w:=c.w) hc hk).2 hf vs hv
 have hg2:yf G ⟨mP c.θ ([]++c.H) 0 [],[],c.w⟩:=⟨fun p hp=>(aG.gg (θ:=c.θ) (H:=[]) (X:=c.H) (w:=c.w) hk).1 _ _ (hg.1 p hp) (hG p hp),fun C1 e=>h00.2 C1 (hB C1 e) (hg.2 C1 e)⟩
 refine(h.2 ⟨mP c.θ ([]++c.H) 0 [],[],c.w⟩ vs rfl h00.1 hg2 hv2).mono ?_
 rintro e w' ⟨v,x,c',e1,e2,e3,e4,e5,e6⟩
 subst e2
 have hold:∀ k,k<c.w.heap.size→c'.w.heap[k]? =c.w.heap[k]? :=fun k hk=>e6.Bo k hk (fun⟨id,o,⟨B,hB,_⟩,_⟩=>by cases hB)
 obtain⟨g1,g2⟩:=Cx.world hc (w':=c'.w) hold e6.size e6.os e6.tape e6.output
 exact⟨v,x,{ c with w:=c'.w},e1,rfl,⟨rfl,e3⟩,g2,by rw[e3] at e5 ⊢;exact hy _ _ _ e5,g1⟩
theorem ir {l:List Ex} {i:Nat} (h:i<l.length):bt (l.drop i)=l[i].wt+bt (l.drop (i+1)):=by rw[List.drop_eq_getElem_cons h];rfl
theorem kA {l:List Bd} {i:Nat} (h:i<l.length):aW (l.drop i)=l[i].wt+aW (l.drop (i+1)):=by rw[List.drop_eq_getElem_cons h];rfl
theorem qN {l:List Al} {i:Nat} (h:i<l.length):cp (l.drop i)=l[i].wt+cp (l.drop (i+1)):=by rw[List.drop_eq_getElem_cons h];rfl
structure At where
 name:aI
 n:Int
deriving DecidableEq,Inhabited
def At.cells (a:At):List SV:=[.str a.name,.int .i64 a.n]
def bq (l:List At):List SV:=l.map fun a=> .agg a.cells
mutual
inductive Sg where
 |mk (kind:Int) (name:aI) (op:Int) (args:List At) (ad:List Sg) (binds:List Sb) (alts:List Sl)
inductive Sb where
 |mk (name:aI) (kind:Int) (free params:List aI) (update:Bool) (con:aI) (args:List At) (body:List Sg)
inductive Sl where
 |mk (kind:Int) (name:aI) (n:Int) (names:List aI) (body:Sg)
end
mutual
def Sg.cells:Sg→List SV
 | .mk k s op args ad binds alts=>[.int .i64 k,.str s,.int .i64 op,.list 2 (bq args),.list 7 (cJ ad),.list 8 (aX binds),.list 11 (bU alts)]
def cJ:List Sg→List SV
 |[]=>[]
 |e::r=> .agg e.cells::cJ r
def Sb.cells:Sb→List SV
 | .mk s k free params up con args body=>[.str s,.int .i64 k,.list 1 (free.map .str),.list 1 (params.map .str),.bool up,.str con,.list 2 (bq args),.list 7 (cJ body)]
def aX:List Sb→List SV
 |[]=>[]
 |b::r=> .agg b.cells::aX r
def Sl.cells:Sl→List SV
 | .mk k s n names body=> .int .i64 k:: .str s:: .int .i64 n:: .list 1 (names.map .str)::body.cells
def bU:List Sl→List SV
 |[]=>[]
 |a::r=> .agg a.cells::bU r
end
def Sg.sv (e:Sg):SV:= .agg e.cells
def Sb.sv (b:Sb):SV:= .agg b.cells
def Sl.sv (a:Sl):SV:= .agg a.cells
def Sl.kind:Sl→Int| .mk k _ _ _ _=>k
def Sl.name:Sl→aI| .mk _ s _ _ _=>s
def Sl.n:Sl→Int| .mk _ _ n _ _=>n
def Sl.names:Sl→List aI| .mk _ _ _ l _=>l
def Sl.body:Sl→Sg| .mk _ _ _ _ e=>e
theorem Sg.aH (e:Sg):e.cells.length=7:=by cases e;rfl
theorem Sb.aH (b:Sb):b.cells.length=8:=by cases b;rfl
theorem Sl.aH (a:Sl):a.cells.length=11:=by cases a;simp[Sl.cells,Sg.aH]
theorem l9:∀ l:List Sg,cJ l=l.map Sg.sv
 |[]=>rfl
 |e::r=>by rw[cJ,l9 r];rfl
theorem gI:∀ l:List Sb,aX l=l.map Sb.sv
 |[]=>rfl
 |e::r=>by rw[aX,gI r];rfl
theorem jl:∀ l:List Sl,bU l=l.map Sl.sv
 |[]=>rfl
 |e::r=>by rw[bU,jl r];rfl
theorem dk (l:List At):(bq l).length=l.length:=by simp[bq]
theorem qf (l:List Sg):(cJ l).length=l.length:=by simp[l9]
theorem cc (l:List Sb):(aX l).length=l.length:=by simp[gI]
theorem jk (l:List Sl):(bU l).length=l.length:=by simp[jl]
theorem cx (l:List At) (a:At):bq l++[.agg [.str a.name,.int .i64 a.n]]=bq (l++[a]):=by simp[bq,At.cells]
theorem ff (l m:List Sb):aX l++aX m=aX (l++m):=by simp[gI]
theorem vz (l:List Sb) (b:Sb):aX l++[.agg b.cells]=aX (l++[b]):=by simp[gI];rfl
theorem oO (l:List Sl) (b:Sl):bU l++[.agg b.cells]=bU (l++[b]):=by simp[jl];rfl
theorem Sl.df (a:Sl):a.cells= .int .i64 a.kind:: .str a.name:: .int .i64 a.n:: .list 1 (a.names.map .str)::a.body.cells:=by cases a;rfl
theorem bS (n:Nat) (l:List At):SV.aB n (bq l)=true:=SV.bX fun _ _=>by simp[At.cells,SV.under,SV.aB]
mutual
theorem Sg.aP (n:Nat):∀ e:Sg,SV.aB n e.cells=true
 | .mk k s op args ad binds alts=>by
  simp only[Sg.cells,SV.aB,SV.under,bS,da,aY,cg,Bool.and_self]
theorem da (n:Nat):∀ l:List Sg,SV.aB n (cJ l)=true
 |[]=>rfl
 |e::r=>by simp only[cJ,SV.aB,SV.under,Sg.aP n e,da n r,Bool.and_self]
theorem Sb.aP (n:Nat):∀ b:Sb,SV.aB n b.cells=true
 | .mk s k free params up con args body=>by simp only[Sb.cells,SV.aB,SV.under,cm,bS,da,Bool.and_self]
theorem aY (n:Nat):∀ l:List Sb,SV.aB n (aX l)=true
 |[]=>rfl
 |e::r=>by simp only[aX,SV.aB,SV.under,Sb.aP n e,aY n r,Bool.and_self]
theorem Sl.aP (n:Nat):∀ b:Sl,SV.aB n b.cells=true
 | .mk k s m l e=>by simp only[Sl.cells,SV.aB,SV.under,cm,Sg.aP n e,Bool.and_self]
theorem cg (n:Nat):∀ l:List Sl,SV.aB n (bU l)=true
 |[]=>rfl
 |e::r=>by simp only[bU,SV.aB,SV.under,Sl.aP n e,cg n r,Bool.and_self]
end
theorem Sg.aU (e:Sg):e.cells.take 7=e.cells:=List.take_of_length_le (by rw[e.aH];exact Nat.le_refl _)
@[simp] theorem EB (l:List At):List.take l.length (bq l)=bq l:=List.take_of_length_le (by rw[dk];exact Nat.le_refl _)
@[simp] theorem EE (l:List Sb):List.take l.length (aX l)=aX l:=List.take_of_length_le (by rw[cc];exact Nat.le_refl _)
@[simp] theorem EG (l:List Sl):List.take l.length (bU l)=bU l:=List.take_of_length_le (by rw[jk];exact Nat.le_refl _)
inductive Ar where
 |bs (l:List Sb)
 |look (s:aI) (x:Sg)
def HF:List SV:=[.int .i64 0,.str [],.int .i64 0,.nil,.nil,.nil,.nil]
def Ar.cells:Ar→List SV
 | .bs l=> .list 8 (aX l):: .str []::HF
 | .look s x=> .nil:: .str s::x.cells
def bO (l:List Ar):List SV:=l.map fun a=> .agg a.cells
theorem e9 (l:List Ar):(bO l).length=l.length:=by simp[bO]
theorem nH (l:List Ar) (a:Ar):bO l++[.agg a.cells]=bO (l++[a]):=by simp[bO]
theorem dD (n:Nat) (l:List Ar):SV.aB n (bO l)=true:=SV.bX fun a _=>by
 cases a<;>simp[Ar.cells,HF,SV.under,SV.aB,aY,Sg.aP]
@[simp] theorem Ez (l:List Ar):List.take l.length (bO l)=bO l:=List.take_of_length_le (by rw[e9];exact Nat.le_refl _)
def Ar.ok:Ar→Prop
 | .bs l=>l≠[]
 | .look _ _=>True
def Hy:Ar→Sg→Sg
 | .bs l,e=> .mk 6 [] 0 [] [e] l []
 | .look s x,e=> .mk 5 s 0 [] [x] [] [.mk 3 [] 0 [] e]
def dy (l:List Ar) (e:Sg):Sg:=l.foldr Hy e
def dI:List Ar→List Sb
 |[]=>[]
 | .bs l::r=>l++dI r
 | .look _ _::r=>dI r
def pn (e:Ex):Bool:=decide (e.kind=1)||decide (e.kind=2)
def Cc (e:Ex):At:=⟨e.name,e.n⟩
def aM (B:aI→Ex→Bool→Nat→List Sb×Nat):List Ex→Nat→(List At×List Ar)×Nat
 |[],n=>(([],[]),n)
 |e::r,n=>
  if pn e then ((Cc e::(aM B r n).1.1,(aM B r n).1.2),(aM B r n).2)
  else ((⟨eB bW n,0⟩::(aM B r (B (eB bW n) e true (n+1)).2).1.1,.bs (B (eB bW n) e true (n+1)).1::(aM B r (B (eB bW n) e true (n+1)).2).1.2),(aM B r (B (eB bW n) e true (n+1)).2).2)
def bG (E:Ex→Nat→Sg×Nat):List Ex→Nat→(List At×List Ar)×Nat
 |[],n=>(([],[]),n)
 |e::r,n=>
  if e.kind=2 then ((Cc e::(bG E r n).1.1,(bG E r n).1.2),(bG E r n).2)
  else ((⟨eB bW n,0⟩::(bG E r (E e (n+1)).2).1.1,.look (eB bW n) (E e (n+1)).1::(bG E r (E e (n+1)).2).1.2),(bG E r (E e (n+1)).2).2)
def b9:Nat→Ex→aI→Bool
 |0,_,_=>false
 |m+1,.mk kd nm _ _ _ ad binds alts,s=>
  if kd=1 then decide (nm=s)
  else if kd=8 then ad.any (fun e=>b9 m e s)
  else if kd=4 then (ad.take 1).any (fun e=>b9 m e s)
  else if kd=6 then (ad.take 1).any (fun e=>b9 m e s)||(!decide (nm=s)&&alts.any (fun a=>!decide (s∈a.names)&&b9 m a.body s))
  else if kd=5 then !(binds.any fun b=>decide (b.name=s))&&ad.any (fun e=>b9 m e s)
  else false
def Dx (e:Ex) (s:aI):Bool:=b9 e.wt e s
def oS (e:Ex) (s:aI):Bool:=decide (fX s e=1)&&Dx e s
def iO (top:List aI) (e:Ex):List aI:=(cz e).filter fun s=>!decide (s∈top)
def qo (binds:List Bd) (x:Ex) (b:Bd):Bool:=!(decide (binds.length=1)&&!decide (b.name∈cz b.e)&&oS x b.name)
def cF (B:aI→Ex→Bool→Nat→List Sb×Nat) (u:Bd→Bool):List Bd→Nat→List Sb×Nat
 |[],n=>([],n)
 |b::r,n=>((B b.name b.e (u b) n).1++(cF B u r (B b.name b.e (u b) n).2).1,(cF B u r (B b.name b.e (u b) n).2).2)
def lh (E:Ex→Nat→Sg×Nat) (a:Al) (n:Nat):Sl×Nat:=(.mk a.kind a.name a.n a.names (E a.body n).1,(E a.body n).2)
def eW (E:Ex→Nat→Sg×Nat) (B:aI→Ex→Bool→Nat→List Sb×Nat):Ex→Nat→Sg×Nat
 | .mk kd nm nn op names ad binds alts,n=>
  if kd=1∨kd=2 then (.mk 1 [] 0 [⟨nm,nn⟩] [] [] [],n)
  else if kd=3 then (dy [.bs (B (eB bW n) (.mk kd nm nn op names ad binds alts) true (n+1)).1] (.mk 1 [] 0 [⟨eB bW n,0⟩] [] [] []),(B (eB bW n) (.mk kd nm nn op names ad binds alts) true (n+1)).2)
  else if kd=7 then (dy (aM B ad n).1.2 (.mk 3 nm 0 (aM B ad n).1.1 [] [] []),(aM B ad n).2)
  else if kd=8 then (dy (bG E ad n).1.2 (.mk 4 [] op (bG E ad n).1.1 [] [] []),(bG E ad n).2)
  else if kd=4 then
   if (ad.headD bw).kind=1 then (dy (aM B (ad.drop 1) n).1.2 (.mk 2 (ad.headD bw).name 0 (aM B (ad.drop 1) n).1.1 [] [] []),(aM B (ad.drop 1) n).2)
   else (dy (.look (eB bW n) (E (ad.headD bw) (n+1)).1::(aM B (ad.drop 1) (E (ad.headD bw) (n+1)).2).1.2) (.mk 2 (eB bW n) 0 (aM B (ad.drop 1) (E (ad.headD bw) (n+1)).2).1.1 [] [] []),(aM B (ad.drop 1) (E (ad.headD bw) (n+1)).2).2)
  else if kd=5 then (.mk 6 [] 0 [] [(E (ad.headD bw) (cF B (qo binds (ad.headD bw)) binds n).2).1] (cF B (qo binds (ad.headD bw)) binds n).1 [],(E (ad.headD bw) (cF B (qo binds (ad.headD bw)) binds n).2).2)
  else (.mk 5 nm 0 [] [(E (ad.headD bw) n).1] [] (fO (lh E) alts (E (ad.headD bw) n).2).1,(fO (lh E) alts (E (ad.headD bw) n).2).2)
def fK (top:List aI) (E:Ex→Nat→Sg×Nat) (B:aI→Ex→Bool→Nat→List Sb×Nat) (s:aI) (e:Ex) (up:Bool) (n:Nat):List Sb×Nat:=
 if e.kind=3 then ([.mk s 1 (iO top e) e.names false [] [] [(E (e.ad.headD bw) n).1]],(E (e.ad.headD bw) n).2)
 else if e.kind=7 then (dI (aM B e.ad n).1.2++[.mk s 3 [] [] false e.name (aM B e.ad n).1.1 []],(aM B e.ad n).2)
 else ([.mk s 2 (iO top e) [] up [] [] [(E e n).1]],(E e n).2)
def jF (top:List aI):Nat→(Ex→Nat→Sg×Nat)×(aI→Ex→Bool→Nat→List Sb×Nat)
 |0=>(fun _ n=>(.mk 1 [] 0 [] [] [] [],n),fun _ _ _ n=>([],n))
 |m+1=>(eW (jF top m).1 (jF top m).2,fK top (jF top m).1 (jF top m).2)
def qD (e:Ex):Nat:=3*e.wt+(if e.kind=3 then 2 else 0)
def l6 (e:Ex):Nat:=3*e.wt+1
theorem Bp (e:Ex):e.parts.length<e.wt:=by
 obtain⟨kd,nm,nn,op,names,ad,binds,alts⟩:=e
 have:=Ex.cY kd nm nn op names ad binds alts
 rw[Ex.dn]
 simp only[List.length_append,List.length_map]
 omega
theorem Eg (e:Ex):e.size=1+(e.parts.map Ex.size).sum:=e.nz
def KJ (G:Gl) (m:Nat):Prop:=∀ (e:Ex) (H:List az) (at_:Nat),e.wt≤m→at_+m<8589934592→ag Tryz.prog G 112 [e.sv,.int .i64 (at_:Int)] H (fun r H'=>H'=H∧r= .tuple [.int .i64 e.size,.int .i64 ((at_+gh (e.parts.map dep):Nat):Int)])
theorem wF (G:Gl) (hG:aw G):∀ m,m<4294967296→KJ G m
 |0,_,e,_,_,h,_=>absurd e.bz (by omega)
 |m+1,hm2,e,H,at_,hm,hat=>by
  have hrec:=wF G hG m (by omega)
  have hsz:=Eg e
  have hsw:e.size≤e.wt:=iN _ _ (Nat.le_refl _)
  have c1:=fun H=>oE G hG e H (by omega)
  have hpw:∀ p∈e.parts,p.wt≤m:=fun p hp=>by have:=Ex.cU hp;omega
  have hpl:=Bp e
  rw[hsz]
  have hs0:1+(e.parts.map Ex.size).sum≤e.wt:=by omega
  have hek:e.sv= .agg e.cells:=rfl
  have heu:=fun n=>Ex.aP n e
  generalize e.parts=ps at*
  have hsl:∀ i,((ps.take i).map Ex.size).sum≤(ps.map Ex.size).sum:=fun i=>by rw[List.map_take];exact mf _
  have hmx:∀ i,gh ((ps.take i).map dep)≤m:=fun i=>qA fun x hx=>by
   obtain⟨p,hp,rfl⟩:=List.mem_map.1 hx
   have h1:=hpw p (List.mem_of_mem_take hp)
   have h2:dep p≤p.wt:=kF _ _
   omega
  have hat2:(at_:Int)+1=((at_+1:Nat):Int):=by omega
  obtain⟨kd,nm,nn,op,names,ad,binds,alts⟩:=e
  refine ag.aK TB [] aF _ Tryz.func112 rfl (by decide) Tryz.ntmps112 (by simp) rfl (by simp only[au,Nat.reduceAdd];rfl) fun C R' hR hC hcl hB=>?_;have X:=aO;have hC':=congrArg List.length hC
  (refine run ?_;with_reducible repeat' first|exact trivial|(apply af.mk<;>intro hb)|apply ax.mk)
  refine aC (fun i:Nat=>[(1,.int .i64 (at_:Int)),(6,.int .i64 (1+((ps.take i).map Ex.size).sum:Nat)),(7,.int .i64 ((at_+gh ((ps.take i).map dep):Nat):Int)),(8,.list 8 (aj ps)),(9,.int .i64 i)])
   (fun _=>H++[]) (fun i=>ps.length - i) (fun i=>i≤ps.length) 0 (Nat.zero_le _) ?_ ?_
  ·exact bB (n0:=H.length) [] hG hB hC' hcl
  rintro K i hi hK
  rcases Nat.lt_or_ge i ps.length with hlt|hge
  ·have hsum:((ps.take (i+1)).map Ex.size).sum=((ps.take i).map Ex.size).sum+ps[i].size:=by rw[List.take_succ_eq_append_getElem hlt,List.map_append,List.sum_append];simp only[List.map_cons,List.map_nil,List.sum_cons,List.sum_nil,Nat.add_zero]
   have hm1:gh ((ps.take (i+1)).map dep)=max (gh ((ps.take i).map dep)) (dep ps[i]):=by rw[List.take_succ_eq_append_getElem hlt,List.map_append];exact rU _ _
   have hdp:dep ps[i]≤ps[i].wt:=kF _ _
   have hpi:=hpw _ (List.getElem_mem hlt)
   have hl1:=hsl (i+1)
   have hm3:=hmx (i+1)
   have hcall:=fun H=>hrec ps[i] H (at_+1) hpi (by omega)
   have hdpe:at_+1+gh (ps[i].parts.map dep)=at_+dep ps[i]:=by have:=tD ps[i];omega
   rw[hdpe] at hcall
   have hg:(aj ps)[i]? =some (.agg ps[i].cells):=by rw[bQ];simp[hlt];rfl
   have hss:ps[i].size≤ps[i].wt:=iN _ _ (Nat.le_refl _)
   have hmn:=mD (at_+gh ((ps.take i).map dep)) (at_+dep ps[i])
   have hmm:max (at_+gh ((ps.take i).map dep)) (at_+dep ps[i])=at_+gh ((ps.take (i+1)).map dep):=by rw[hm1];omega
   rw[hmm] at hmn
   generalize hgx:ps[i]=x at*
   have X:=And.intro aO (And.intro hg (And.intro hat2 (And.intro hmn (show IntKind.i64.min≤((at_+dep x:Nat):Int)∧((at_+dep x:Nat):Int)≤IntKind.i64.max from⟨by show(-9223372036854775808:Int)≤_;omega,by show _≤(9223372036854775807:Int);omega⟩))))
   (refine run ?_;with_reducible repeat' first|exact trivial|(apply af.mk<;>intro hb)|apply ax.mk)
   refine bh (hcall _) ?_
   rintro r H' ⟨rfl,rfl⟩
   (refine run ?_;with_reducible repeat' first|exact trivial|(apply af.mk<;>intro hb)|apply ax.mk)
   refine hK _ _ (i+1) (by omega) (by omega) ?_
   rw[show((1+((ps.take i).map Ex.size).sum:Nat):Int)+(x.size:Int)=((1+((ps.take (i+1)).map Ex.size).sum:Nat):Int) from by omega]
   exact bB (n0:=H.length) [] hG hB hC' hcl
  obtain rfl:i=ps.length:=by omega
  have hmm:=hmx ps.length
  rw[List.take_length] at hmm ⊢
  clear hK
  have X:=And.intro aO (Int.lt_irrefl (ps.length:Int))
  (refine run ?_;with_reducible repeat' first|exact trivial|(apply af.mk<;>intro hb)|apply ax.mk)
  exact Fin.dx (n0:=H.length) hR rfl hC' hcl (.same _ rfl) ⟨rfl,rfl⟩
def qS (l:List Bd):Int:=if 100000<eg l then 3 else if 1000<im l then 4 else 0
theorem AM (G:Gl) (hG:aw G) (cons:List Cn) (binds:List Bd) (H:List az) (hw:aW binds<4294967296):
 ag Tryz.prog G 61 [.agg [.list 4 (aQ cons),.list 9 (ao binds)]] H (fun r H'=>H'=H∧r= .int .i64 (qS binds)):=by
 have hle:=dG binds
 have bF:=fun n=>bN n cons
 have hsl:∀ i,eg (binds.take i)≤aW binds:=fun i=>Nat.le_trans (sK _) (kB _ _)
 refine ag.aK TB [] aF _ Tryz.func61 rfl (by decide) Tryz.ntmps61 (by simp) rfl (by simp only[au,Nat.reduceAdd];rfl) fun C R' hR hC hcl hB=>?_;have X:=aO;have hC':=congrArg List.length hC
 (refine run ?_;with_reducible repeat' first|exact trivial|(apply af.mk<;>intro hb)|apply ax.mk)
 refine aC (fun i:Nat=>[(1,.ptr H.length 0 0 0),(3,.int .i64 (eg (binds.take i):Nat)),(4,.bool (decide (1000<im (binds.take i)))),(5,.int .i64 i)]) (fun i=>H++[.cells 0 2 [.agg [.list 4 (aQ cons),.list 9 (ao binds)]]]) (fun i=>binds.length - i) (fun i=>i≤binds.length) 0 (Nat.zero_le _) ?_ ?_
 ·exact bB (n0:=H.length) [(H.length,0)] hG hB hC' hcl
 rintro K i hi hK
 rcases Nat.lt_or_ge i binds.length with hlt|hge
 ·have hpb:=nJ (List.getElem_mem hlt)
  have hcall:=fun H=>wF G hG binds[i].e.wt (by omega) binds[i].e H 1 (Nat.le_refl _) (by omega)
  have hde:1+gh (binds[i].e.parts.map dep)=dep binds[i].e:=by have:=tD binds[i].e;omega
  rw[hde] at hcall
  have hs1:eg (binds.take (i+1))=eg (binds.take i)+binds[i].e.size:=by rw[List.take_succ_eq_append_getElem hlt,sL]
  have hd1:im (binds.take (i+1))=max (im (binds.take i)) (dep binds[i].e):=by rw[List.take_succ_eq_append_getElem hlt,tC]
  have hl1:=hsl (i+1)
  have hg:(ao binds)[i]? =some (.agg (.str binds[i].name::binds[i].e.cells)):=by rw[cr,List.getElem?_map,List.getElem?_eq_getElem hlt,Option.map_some,Bd.sv,Bd.df]
  have hdw:dep binds[i].e≤binds[i].e.wt:=kF _ _
  have hbb:(decide (1000<im (binds.take i))||decide ((1000:Int)<(dep binds[i].e:Int)))=decide (1000<im (binds.take (i+1))):=by
   rw[hd1,Bool.eq_iff_iff]
   simp only[Bool.or_eq_true,decide_eq_true_eq]
   omega
  generalize dep binds[i].e=dd at*
  generalize binds[i].e=x at*
  generalize binds[i].name=s at*
  generalize decide (1000<im (binds.take i))=b0 at*
  have X:=And.intro aO hg
  (refine run ?_;with_reducible repeat' first|exact trivial|(apply af.mk<;>intro hb)|apply ax.mk)
  refine bh (hcall _) ?_
  rintro r H' ⟨rfl,rfl⟩
  cases b0
  ·rw[Bool.false_or] at hbb
   (refine run ?_;with_reducible repeat' first|exact trivial|(apply af.mk<;>intro hb)|apply ax.mk)
   refine hK _ _ (i+1) (by omega) (by omega) ?_
   rw[show((eg (binds.take (i+1)):Nat):Int)=(eg (binds.take i):Int)+(x.size:Int) by omega,← hbb]
   exact bB (n0:=H.length) [(H.length,0)] hG hB hC' hcl
  ·rw[Bool.true_or] at hbb
   (refine run ?_;with_reducible repeat' first|exact trivial|(apply af.mk<;>intro hb)|apply ax.mk)
   refine hK _ _ (i+1) (by omega) (by omega) ?_
   rw[show((eg (binds.take (i+1)):Nat):Int)=(eg (binds.take i):Int)+(x.size:Int) by omega,← hbb]
   exact bB (n0:=H.length) [(H.length,0)] hG hB hC' hcl
 obtain rfl:i=binds.length:=by omega
 clear hK
 rw[List.take_length]
 have hs2:=hsl binds.length
 rw[List.take_length] at hs2
 have X:=And.intro aO (Int.lt_irrefl (binds.length:Int))
 by_cases h1:100000<eg binds
 ·have e:qS binds=3:=by unfold qS;rw[if_pos h1]
  rw[e] at hR
  have h1:(100000:Int)<(eg binds:Int):=by omega
  have X:=And.intro X h1
  (refine run ?_;with_reducible repeat' first|exact trivial|(apply af.mk<;>intro hb)|apply ax.mk)
  exact aS (n0:=H.length) hR hC' hcl (.same _ rfl) ⟨rfl,rfl⟩
 ·have h1i:¬ (100000:Int)<(eg binds:Int):=by omega
  by_cases h2:1000<im binds
  ·have e:qS binds=4:=by unfold qS;rw[if_neg h1,if_pos h2]
   rw[e] at hR
   rw[decide_eq_true h2]
   have X:=And.intro X h1i
   (refine run ?_;with_reducible repeat' first|exact trivial|(apply af.mk<;>intro hb)|apply ax.mk)
   exact aS (n0:=H.length) hR hC' hcl (.same _ rfl) ⟨rfl,rfl⟩
  ·have e:qS binds=0:=by unfold qS;rw[if_neg h1,if_neg h2]
   rw[e] at hR
   rw[decide_eq_false h2]
   have X:=And.intro X h1i
   (refine run ?_;with_reducible repeat' first|exact trivial|(apply af.mk<;>intro hb)|apply ax.mk)
   exact aS (n0:=H.length) hR hC' hcl (.same _ rfl) ⟨rfl,rfl⟩
theorem uX {l:List Cn} {s:aI} {i:Nat} (h:∀ j (hj:j<l.length),j<i→¬ l[j].name=s):ck l s=ck (l.drop i) s:=by
 induction i generalizing l with
 |zero=>rfl
 |succ i ih=>
  cases l with
  |nil=>rfl
  |cons c r=>
   have h0:=h 0 (by simp) (by omega)
   simp only[List.getElem_cons_zero] at h0
   rw[ck,if_neg (fun e=>h0 e.symm),List.drop_succ_cons]
   exact ih fun j hj hji=>by
    have:=h (j+1) (by simp only[List.length_cons];omega) (by omega)
    simpa only[List.getElem_cons_succ] using this
theorem oH (G:Gl) (hG:aw G) (l:List Cn) (s:aI) (H:List az) (hl:l.length<1099511627776):
 ag Tryz.prog G 115 [.list 4 (aQ l),.str s] H (fun r H'=>H'=H∧r= .tuple [.agg (b8 l s).cells,.bool (ck l s).isSome]):=by
 have bF:=fun n=>bN n l
 refine ag.aK TB [] aF _ Tryz.func115 rfl (by decide) Tryz.ntmps115 (by simp) rfl (by simp only[au,Nat.reduceAdd];rfl) fun C R' hR hC hcl hB=>?_;have X:=aO;have hC':=congrArg List.length hC
 (refine run ?_;with_reducible repeat' first|exact trivial|(apply af.mk<;>intro hb)|apply ax.mk)
 refine aC (fun i:Nat=>[(0,.list 4 (aQ l)),(1,.str s),(4,.ptr H.length 0 0 0),(6,.int .i64 i)]) (fun i=>H++[.cells 0 4 [.agg [.str [],.int .i64 0,.int .i64 0,.int .i64 0]]]) (fun i=>l.length - i) (fun i=>i≤l.length∧ck l s=ck (l.drop i) s) 0 ⟨Nat.zero_le _,rfl⟩ ?_ ?_
 ·exact bB (n0:=H.length) [(H.length,0)] hG hB hC' hcl
 rintro K i ⟨hi,hf⟩ hK
 rcases Nat.lt_or_ge i l.length with hlt|hge
 ·have hg:(aQ l)[i]? =some (.agg [.str l[i].name,.int .i64 l[i].arity,.int .i64 l[i].tag,.int .i64 l[i].family]):=gA l hlt
  rw[List.drop_eq_getElem_cons hlt,ck] at hf
  generalize l[i]=c at*
  by_cases hs:c.name=s
  ·rw[if_pos hs.symm] at hf
   have X:=And.intro aO (And.intro hg hs)
   clear hK
   (refine run ?_;with_reducible repeat' first|exact trivial|(apply af.mk<;>intro hb)|apply ax.mk)
   refine aS (n0:=H.length) hR hC' hcl (.same _ rfl) ⟨rfl,?_⟩
   rw[b8,hf,← hs];rfl
  ·rw[if_neg (fun e=>hs e.symm)] at hf
   have X:=And.intro aO (And.intro hg hs)
   (refine run ?_;with_reducible repeat' first|exact trivial|(apply af.mk<;>intro hb)|apply ax.mk)
   refine hK _ _ (i+1) (by omega) ⟨by omega,hf⟩ ?_
   exact bB (n0:=H.length) [(H.length,0)] hG hB hC' hcl
 have hni:¬ (i:Int)<(l.length:Int):=by omega
 clear hK
 rw[List.drop_eq_nil_of_le hge,ck] at hf
 have X:=And.intro aO hni
 (refine run ?_;with_reducible repeat' first|exact trivial|(apply af.mk<;>intro hb)|apply ax.mk)
 refine aS (n0:=H.length) hR hC' hcl (.same _ rfl) ⟨rfl,?_⟩
 rw[b8,hf];rfl
def dM (kd nn op:Int) (nm nl sl bl al:Nat) (ar:Int):Prop:=
 (1≤kd∧kd≤8)∧(nm=0∨kd=1∨kd=6∨kd=7)∧(nn=0∨kd=2)∧(op=0∨kd=8)∧(nl=0∨kd=3)∧(bl=0∨kd=5)∧(al=0∨kd=6)∧(sl=1∨¬ (kd=3∨kd=5∨kd=6))∧(sl=0∨¬ (kd=1∨kd=2))∧(0≤ar∨¬ kd=8)
theorem jg {α:Type} (l:List α):(l=[])=(l.length=0):=by rw[List.length_eq_zero_iff]
theorem mc (kd:Int) (nm:aI) (nn op:Int) (names:List aI) (ad:List Ex) (binds:List Bd) (alts:List Al):
 (eY (.mk kd nm nn op names ad binds alts)=true)↔(dM kd nn op nm.length names.length ad.length binds.length alts.length (mM op)∧alts.any fz=false):=by
 generalize hq:alts.any fz=q
 have h0:eY (.mk kd nm nn op names ad binds alts)=if kd=1 then !ln true false false false false false 0 (.mk kd nm nn op names ad binds alts)&&!q
  else if kd=2 then !ln false false false false false true 0 (.mk kd nm nn op names ad binds alts)&&!q
  else if kd=3 then !ln false true false false false false 1 (.mk kd nm nn op names ad binds alts)&&!q
  else if kd=4 then !ln false false false false false false (-1) (.mk kd nm nn op names ad binds alts)&&!q
  else if kd=5 then !ln false false true false false false 1 (.mk kd nm nn op names ad binds alts)&&!q
  else if kd=6 then !ln true false false true false false 1 (.mk kd nm nn op names ad binds alts)&&!q
  else if kd=7 then !ln true false false false false false (-1) (.mk kd nm nn op names ad binds alts)&&!q
  else if kd=8 then !ln false false false false true false (-1) (.mk kd nm nn op names ad binds alts)&&!q
  else false:=by rw[← hq];rfl
 rw[h0]
 clear h0 hq
 simp only[ln,jg]
 generalize mM op=ar
 generalize nm.length=nml
 generalize names.length=nal
 generalize ad.length=sul
 generalize binds.length=bil
 generalize alts.length=all
 unfold dM
 cases q
 ·simp only[Bool.not_false,Bool.and_true,and_true]
  by_cases h1:kd=1
  ·subst h1;simp;omega
  by_cases h2:kd=2
  ·subst h2;simp;omega
  by_cases h3:kd=3
  ·subst h3;simp;omega
  by_cases h4:kd=4
  ·subst h4;simp;omega
  by_cases h5:kd=5
  ·subst h5;simp;omega
  by_cases h6:kd=6
  ·subst h6;simp;omega
  by_cases h7:kd=7
  ·subst h7;simp;omega
  by_cases h8:kd=8
  ·subst h8;simp;omega
  simp only[h1,h2,h3,h4,h5,h6,h7,h8,if_false,Bool.false_eq_true,false_iff]
  omega
 ·simp
def EV (k n:Int) (nm nl:Nat):Prop:=¬ ((1≤k∧k≤3)∧(k=1∨(nm=0∧nl=0))∧(k=2∨n=0))
theorem AI (a:Al):(fz a=true)↔EV a.kind a.n a.name.length a.names.length:=by
 unfold fz EV
 simp only[jg]
 generalize a.name.length=nml
 generalize a.names.length=nal
 by_cases h1:a.kind=1
 ·rw[if_pos h1];simp;omega
 by_cases h2:a.kind=2
 ·rw[if_neg h1,if_pos h2];simp;omega
 by_cases h3:a.kind=3
 ·rw[if_neg h1,if_neg h2,if_pos h3];simp;omega
 rw[if_neg h1,if_neg h2,if_neg h3]
 simp only[true_iff]
 omega
def KQ (G:Gl) (m:Nat):Prop:=∀ (e:Ex) (H:List az),e.wt≤m→e.wt<4294967296→ag Tryz.prog G 62 [e.sv] H (fun r H'=>H'=H∧r= .bool (dF m eY e))
theorem ug (G:Gl) (hG:aw G):∀ m,KQ G m
 |0,e,H,h,_=>absurd e.bz (by omega)
 |m+1,e,H,hm,hw0=>by
  have hrec:=ug G hG m
  obtain⟨kd,nm,nn,op,names,ad,binds,alts⟩:=e
  have hlen:=Ex.cY kd nm nn op names ad binds alts
  have hall:dF (m+1) eY (.mk kd nm nn op names ad binds alts)=(eY (.mk kd nm nn op names ad binds alts)&&(Ex.mk kd nm nn op names ad binds alts).parts.all (dF m eY)):=rfl
  rw[hall]
  clear hall
  have hiff:=mc kd nm nn op names ad binds alts
  have c1:=fun H=>zF G hG op H
  rw[show o5 op=mM op from rfl] at c1
  have hpts:=fun H=>oE G hG (Ex.mk kd nm nn op names ad binds alts) H hw0
  have hpw:∀ p∈(Ex.mk kd nm nn op names ad binds alts).parts,p.wt≤m∧p.wt<4294967296:=fun p hp=>by have:=Ex.cU hp;omega
  have hpl:(Ex.mk kd nm nn op names ad binds alts).parts.length≤(Ex.mk kd nm nn op names ad binds alts).wt:=by rw[Ex.dn];simp;omega
  generalize eY (.mk kd nm nn op names ad binds alts)=sh at*
  generalize hp:(Ex.mk kd nm nn op names ad binds alts).parts=pp at*
  generalize mM op=ar at*
  generalize hW:(Ex.mk kd nm nn op names ad binds alts).wt=W at*
  have hstop:¬ dM kd nn op nm.length names.length ad.length binds.length alts.length ar→sh=false:=fun hn=>Bool.eq_false_iff.2 fun h=>hn (hiff.1 h).1
  have hbadc:∀ i (h:i<alts.length),fz alts[i]=true→sh=false:=fun i h hb=>Bool.eq_false_iff.2 fun h2=>by
   have:=(hiff.1 h2).2
   rw[List.any_eq_false] at this
   exact this _ (List.getElem_mem h) hb
  have hyes:dM kd nn op nm.length names.length ad.length binds.length alts.length ar→alts.any fz=false→sh=true:=fun h1 h2=>hiff.2 ⟨h1,h2⟩
  clear hiff
  refine ag.aK TB [] aF _ Tryz.func62 rfl (by decide) Tryz.ntmps62 (by simp) rfl (by simp only[au,Nat.reduceAdd];rfl) fun C R' hR hC hcl hB=>?_;have X:=aO;have hC':=congrArg List.length hC
  (refine run ?_;with_reducible repeat' first|exact trivial|(apply af.mk<;>intro hb)|apply ax.mk)
  ·simp only[Bool.or_eq_true,Bool.and_eq_true,Bool.not_eq_true',Bool.not_eq_false',Bool.or_eq_false_iff,Bool.and_eq_false_iff,decide_eq_true_eq,decide_eq_false_iff_not,Decidable.not_not,jg] at hb
   rw[hstop (by unfold dM;omega),Bool.false_and] at hR
   exact aS (n0:=H.length) hR hC' hcl (.same _ rfl) ⟨rfl,rfl⟩
  ·simp only[Bool.or_eq_true,Bool.and_eq_true,Bool.not_eq_true',Bool.not_eq_false',Bool.or_eq_false_iff,Bool.and_eq_false_iff,decide_eq_true_eq,decide_eq_false_iff_not,Decidable.not_not,jg] at hb
   rw[hstop (by unfold dM;omega),Bool.false_and] at hR
   exact aS (n0:=H.length) hR hC' hcl (.same _ rfl) ⟨rfl,rfl⟩
  ·rename_i hk8
   rw[hstop (by unfold dM;omega),Bool.false_and] at hR
   exact aS (n0:=H.length) hR hC' hcl (.same _ rfl) ⟨rfl,rfl⟩
  case' r.r.l.r=>(rename_i c1 c2 c3;have hP:dM kd nn op nm.length names.length ad.length binds.length alts.length ar:=by (simp only[Bool.or_eq_true,Bool.and_eq_true,Bool.not_eq_true',Bool.not_eq_false',Bool.or_eq_false_iff,Bool.and_eq_false_iff,decide_eq_true_eq,decide_eq_false_iff_not,Decidable.not_not,jg] at c1 c2;unfold dM;omega))
  case' r.r.r=>(rename_i c1 c2;have hP:dM kd nn op nm.length names.length ad.length binds.length alts.length ar:=by (simp only[Bool.or_eq_true,Bool.and_eq_true,Bool.not_eq_true',Bool.not_eq_false',Bool.or_eq_false_iff,Bool.and_eq_false_iff,decide_eq_true_eq,decide_eq_false_iff_not,Decidable.not_not,jg] at c1 c2;unfold dM;omega))
  all_goals
   clear c1 c2 hb
   refine aC (fun i:Nat=>[(1,.ptr H.length 0 0 0),(6,.int .i64 i)]) (fun i=>H++[.cells 0 8 [.agg [.int .i64 kd,.str nm,.int .i64 nn,.int .i64 op,.list 1 (names.map .str),.list 8 (aj ad),.list 9 (ao binds),.list 12 (aA alts)]]]) (fun i=>alts.length - i) (fun i=>i≤alts.length∧(alts.take i).any fz=false) 0 ⟨Nat.zero_le _,rfl⟩ ?_ ?_
   ·exact bB (n0:=H.length) [(H.length,0)] hG hB hC' hcl
   rintro K i ⟨hi,hany⟩ hK
   rcases Nat.lt_or_ge i alts.length with hlt|hge
   ·have hg:(aA alts)[i]? =some (.agg (.int .i64 alts[i].kind:: .str alts[i].name:: .int .i64 alts[i].n:: .list 1 (alts[i].names.map .str)::alts[i].body.cells)):=by rw[dC,List.getElem?_map,List.getElem?_eq_getElem hlt,Option.map_some,Al.sv,Al.df]
    have hbc:=hbadc i hlt
    have hbi:=AI alts[i]
    have hgo:fz alts[i]=false→(alts.take (i+1)).any fz=false:=fun h=>by rw[List.take_succ_eq_append_getElem hlt,List.any_append,hany];simp[h]
    generalize fz alts[i]=z at*
    have hx8:=alts[i].body.aH
    have hnl:=Al.j8 (kd:=kd) (nm:=nm) (nn:=nn) (op:=op) (names:=names) (ad:=ad) (binds:=binds) hlt
    generalize alts[i]=a at*
    obtain⟨ak,an,ann,ans,ab⟩:=a
    simp only[Al.kind,Al.name,Al.n,Al.names,Al.body] at hg hbi hx8 hnl
    have X:=And.intro aO (And.intro hg hx8)
    (refine run ?_;with_reducible repeat' first|exact trivial|(apply af.mk<;>intro hb)|apply ax.mk)
    ·have hz:z=true:=hbi.2 (by simp only[Bool.or_eq_true,Bool.and_eq_true,Bool.not_eq_true',Bool.not_eq_false',Bool.or_eq_false_iff,Bool.and_eq_false_iff,decide_eq_true_eq,decide_eq_false_iff_not,Decidable.not_not,jg] at hb;unfold EV;omega)
     rw[hbc hz,Bool.false_and] at hR
     clear hK
     exact aS (n0:=H.length) hR hC' hcl (.same _ rfl) ⟨rfl,rfl⟩
    ·have hz:z=false:=Bool.eq_false_iff.2 fun h=>by
      have h2:=hbi.1 h
      simp only[Bool.or_eq_true,Bool.and_eq_true,Bool.not_eq_true',Bool.not_eq_false',Bool.or_eq_false_iff,Bool.and_eq_false_iff,decide_eq_true_eq,decide_eq_false_iff_not,Decidable.not_not,jg] at hb
      unfold EV at h2
      omega
     refine hK _ _ (i+1) (by omega) ⟨by omega,hgo hz⟩ ?_
     exact bB (n0:=H.length) [(H.length,0)] hG hB hC' hcl
   rw[List.take_of_length_le hge] at hany
   rw[hyes hP hany,Bool.true_and] at hR
   clear hK
   have hni:¬ (i:Int)<(alts.length:Int):=by omega
   have c1:=hpts
   have X:=And.intro aO hni
   (refine run ?_;with_reducible repeat' first|exact trivial|(apply af.mk<;>intro hb)|apply ax.mk)
   refine aC (fun i:Nat=>[(8,.list 8 (aj pp)),(9,.int .i64 i)]) (fun i=>H++[]) (fun i=>pp.length - i) (fun i=>i≤pp.length∧(pp.take i).all (dF m eY)=true) 0 ⟨Nat.zero_le _,rfl⟩ ?_ ?_
   ·exact bB (n0:=H.length) [] hG hB hC' hcl
   rintro K i2 ⟨hi2,hall⟩ hK
   rcases Nat.lt_or_ge i2 pp.length with hlt|hge
   ·have hmem:=List.getElem_mem hlt
    have hg:(aj pp)[i2]? =some (.agg pp[i2].cells):=by rw[bQ];simp[hlt];rfl
    have hpw2:=hpw _ hmem
    have c1:=fun H=>hrec pp[i2] H hpw2.1 hpw2.2
    have hst:dF m eY pp[i2]=false→pp.all (dF m eY)=false:=fun h=>Bool.eq_false_iff.2 fun h2=>by rw[List.all_eq_true.1 h2 _ hmem] at h;cases h
    have hgo:dF m eY pp[i2]=true→(pp.take (i2+1)).all (dF m eY)=true:=fun h=>by rw[List.take_succ_eq_append_getElem hlt,List.all_append,hall];simp[h]
    generalize dF m eY pp[i2]=z at*
    generalize pp[i2]=x at*
    have X:=And.intro aO hg
    cases z
    ·rw[hst rfl] at hR
     clear hK
     (refine run ?_;with_reducible repeat' first|exact trivial|(apply af.mk<;>intro hb)|apply ax.mk)
     exact aS (n0:=H.length) hR hC' hcl (.same _ rfl) ⟨rfl,rfl⟩
    ·(refine run ?_;with_reducible repeat' first|exact trivial|(apply af.mk<;>intro hb)|apply ax.mk)
     refine hK _ _ (i2+1) (by omega) ⟨by omega,hgo rfl⟩ ?_
     exact bB (n0:=H.length) [] hG hB hC' hcl
   rw[List.take_of_length_le hge] at hall
   rw[hall] at hR
   clear hK
   have hni:¬ (i2:Int)<(pp.length:Int):=by omega
   have X:=And.intro aO hni
   (refine run ?_;with_reducible repeat' first|exact trivial|(apply af.mk<;>intro hb)|apply ax.mk)
   exact aS (n0:=H.length) hR hC' hcl (.same _ rfl) ⟨rfl,rfl⟩
section
structure Sh (cs:List Cn) (e:Ex):Prop where
 BR:dP eY e=true
 M4:dP (ll cs) e=true
theorem Sh.part {cs:List Cn} {e p:Ex} (h:Sh cs e) (hp:p∈e.parts):Sh cs p:=by
 obtain⟨h1,h2⟩:=h
 rw[qp,Bool.and_eq_true,List.all_eq_true] at h1 h2
 exact⟨h1.2 p hp,h2.2 p hp⟩
section
variable {cs:List Cn} {kd nn op:Int} {nm:aI} {names:List aI} {ad:List Ex} {binds:List Bd} {alts:List Al}
theorem Sh.sub (h:Sh cs (.mk kd nm nn op names ad binds alts)) {x:Ex} (hx:x∈ad):Sh cs x:=h.part (List.mem_append_left _ hx)
theorem Sh.bind (h:Sh cs (.mk kd nm nn op names ad binds alts)) {x:Bd} (hx:x∈binds):Sh cs x.e:=h.part (List.mem_append_right _ (List.mem_append_left _ (List.mem_map_of_mem hx)))
theorem Sh.alt (h:Sh cs (.mk kd nm nn op names ad binds alts)) {x:Al} (hx:x∈alts):Sh cs x.body:=h.part (List.mem_append_right _ (List.mem_append_right _ (List.mem_map_of_mem hx)))
theorem Sh.node (h:Sh cs (.mk kd nm nn op names ad binds alts)):dM kd nn op nm.length names.length ad.length binds.length alts.length (mM op):=by
 have h1:=h.BR
 rw[qp,Bool.and_eq_true] at h1
 exact((mc ..).1 h1.1).1
theorem Sh.app (h:Sh cs (.mk 4 nm nn op names ad binds alts)):1<ad.length:=by
 have h1:=h.M4
 rw[qp,Bool.and_eq_true] at h1
 have h2:=h1.1
 simp only[ll,Ex.kind,Ex.ad] at h2
 rw[if_neg (by omega),if_pos trivial] at h2
 exact of_decide_eq_true h2
end
def o4 (cs:List Cn) (E:Ex→Nat→Sg×Nat):Prop:=∀ e n,Sh cs e→(E e n).2+1≤n+e.wt
def oZ (cs:List Cn) (B:aI→Ex→Bool→Nat→List Sb×Nat):Prop:=∀ s e u n,Sh cs e→(B s e u n).2+1≤n+e.wt∧(B s e u n).1.length≤e.wt
theorem fH {cs:List Cn} {B:aI→Ex→Bool→Nat→List Sb×Nat} (hB:oZ cs B):∀ (l:List Ex) (n:Nat),(∀ x∈l,Sh cs x)→
 (aM B l n).2≤n+bt l∧(aM B l n).1.1.length=l.length∧(aM B l n).1.2.length≤l.length∧(dI (aM B l n).1.2).length≤bt l
 |[],n,_=>by simp[aM,bt,dI]
 |e::r,n,h=>by
  have hr:=fun n=>fH hB r n fun x hx=>h x (List.mem_cons_of_mem _ hx)
  have he:=fun s u n=>hB s e u n (h e (List.mem_cons_self ..))
  have hp:=e.bz
  rw[aM]
  split
  ·have h1:=hr n
   simp only[bt,List.length_cons]
   omega
  ·have h1:=he (eB bW n) true (n+1)
   have h2:=hr (B (eB bW n) e true (n+1)).2
   simp only[bt,List.length_cons,dI,List.length_append]
   omega
theorem pM {cs:List Cn} {E:Ex→Nat→Sg×Nat} (hE:o4 cs E):∀ (l:List Ex) (n:Nat),(∀ x∈l,Sh cs x)→
 (bG E l n).2≤n+bt l∧(bG E l n).1.1.length=l.length∧(bG E l n).1.2.length≤l.length
 |[],n,_=>by simp[bG,bt]
 |e::r,n,h=>by
  have hr:=fun n=>pM hE r n fun x hx=>h x (List.mem_cons_of_mem _ hx)
  have he:=fun n=>hE e n (h e (List.mem_cons_self ..))
  have hp:=e.bz
  rw[bG]
  split
  ·have h1:=hr n
   simp only[bt,List.length_cons]
   omega
  ·have h1:=he (n+1)
   have h2:=hr (E e (n+1)).2
   simp only[bt,List.length_cons]
   omega
theorem px {cs:List Cn} {B:aI→Ex→Bool→Nat→List Sb×Nat} (hB:oZ cs B) (u:Bd→Bool):∀ (l:List Bd) (n:Nat),(∀ x∈l,Sh cs x.e)→
 (cF B u l n).2≤n+aW l∧(cF B u l n).1.length≤aW l
 |[],n,_=>by simp[cF,aW]
 |b::r,n,h=>by
  have h1:=hB b.name b.e (u b) n (h b (List.mem_cons_self ..))
  have h2:=px hB u r (B b.name b.e (u b) n).2 fun x hx=>h x (List.mem_cons_of_mem _ hx)
  have hp:=b.cZ
  simp only[cF,aW,List.length_append]
  omega
theorem vP {cs:List Cn} {E:Ex→Nat→Sg×Nat} (hE:o4 cs E):∀ (l:List Al) (n:Nat),(∀ x∈l,Sh cs x.body)→(fO (lh E) l n).2≤n+cp l
 |[],n,_=>by simp[fO,cp]
 |a::r,n,h=>by
  have h1:=hE a.body n (h a (List.mem_cons_self ..))
  have h2:=vP hE r (E a.body n).2 fun x hx=>h x (List.mem_cons_of_mem _ hx)
  have hp:=a.cZ
  simp only[fO,lh,cp]
  omega
theorem cP {l:List Ex} (h:0<l.length):l.headD bw∈l:=by
 cases l with
 |nil=>simp at h
 |cons x r=>exact List.mem_cons_self ..
theorem b7 {l:List Ex} (h:0<l.length):bt l=(l.headD bw).wt+bt (l.drop 1):=by
 cases l with
 |nil=>simp at h
 |cons x r=>rfl
theorem AS {cs:List Cn} {E:Ex→Nat→Sg×Nat} {B:aI→Ex→Bool→Nat→List Sb×Nat} (hE:o4 cs E) (hB:oZ cs B)
 (hL:∀ s e u n,Sh cs e→e.kind=3→(B s e u n).2+2≤n+e.wt):o4 cs (eW E B):=by
 intro e n h
 have hp:=e.bz
 obtain⟨kd,nm,nn,op,names,ad,binds,alts⟩:=e
 have hnode:=h.node
 have hw:(Ex.mk kd nm nn op names ad binds alts).wt=1+nm.length+cW names+bt ad+aW binds+cp alts:=by simp only[Ex.wt]
 rw[eW]
 split
 ·simp only;omega
 split
 ·rename_i h3
  have:=hL (eB bW n) _ true (n+1) h h3
  simp only;omega
 split
 ·have:=(fH hB ad n fun x hx=>h.sub hx).1
  simp only;omega
 split
 ·have:=(pM hE ad n fun x hx=>h.sub hx).1
  simp only;omega
 split
 ·rename_i h4
  subst h4
  have hs:=h.app
  have h0:=b7 (l:=ad) (by omega)
  have hc:=fun n=>(fH hB (ad.drop 1) n fun x hx=>h.sub (List.mem_of_mem_drop hx)).1
  have he:=fun n=>hE (ad.headD bw) n (h.sub (cP (by omega)))
  have hpe:=(ad.headD bw).bz
  split
  ·have:=hc n
   simp only;omega
  ·have h1:=he (n+1)
   have h2:=hc (E (ad.headD bw) (n+1)).2
   simp only;omega
 split
 ·rename_i h5
  subst h5
  have hs:ad.length=1:=by unfold dM at hnode;omega
  have h0:=b7 (l:=ad) (by omega)
  have h1:=(px hB (qo binds (ad.headD bw)) binds n fun x hx=>h.bind hx).1
  have h2:=hE (ad.headD bw) (cF B (qo binds (ad.headD bw)) binds n).2 (h.sub (cP (by omega)))
  simp only;omega
 ·have hs:ad.length=1:=by unfold dM at hnode;omega
  have h0:=b7 (l:=ad) (by omega)
  have h1:=hE (ad.headD bw) n (h.sub (cP (by omega)))
  have h2:=vP hE alts (E (ad.headD bw) n).2 fun x hx=>h.alt hx
  simp only;omega
theorem AJ {cs:List Cn} {top:List aI} {E:Ex→Nat→Sg×Nat} {B:aI→Ex→Bool→Nat→List Sb×Nat} (hE:o4 cs E) (hB:oZ cs B):
 oZ cs (fK top E B)∧∀ s e u n,Sh cs e→e.kind=3→(fK top E B s e u n).2+2≤n+e.wt:=by
 have h3:∀ s e u n,Sh cs e→e.kind=3→(fK top E B s e u n).2+2≤n+e.wt∧(fK top E B s e u n).1.length≤e.wt:=by
  intro s e u n h hk
  have hp:=e.bz
  obtain⟨kd,nm,nn,op,names,ad,binds,alts⟩:=e
  have hnode:=h.node
  have hw:(Ex.mk kd nm nn op names ad binds alts).wt=1+nm.length+cW names+bt ad+aW binds+cp alts:=by simp only[Ex.wt]
  obtain rfl:kd=3:=hk
  have hs:ad.length=1:=by unfold dM at hnode;omega
  have h0:=b7 (l:=ad) (by omega)
  have h1:=hE (ad.headD bw) n (h.sub (cP (by omega)))
  unfold fK
  rw[if_pos (show(Ex.mk 3 nm nn op names ad binds alts).kind=3 from rfl)]
  simp only[Ex.ad,List.length_cons,List.length_nil]
  omega
 refine⟨fun s e u n h=>?_,fun s e u n h hk=>(h3 s e u n h hk).1⟩
 by_cases hk:e.kind=3
 ·have:=h3 s e u n h hk;omega
 have hp:=e.bz
 obtain⟨kd,nm,nn,op,names,ad,binds,alts⟩:=e
 have hw:(Ex.mk kd nm nn op names ad binds alts).wt=1+nm.length+cW names+bt ad+aW binds+cp alts:=by simp only[Ex.wt]
 have h1:=hE _ n h
 have h2:=fH hB ad n fun x hx=>h.sub hx
 unfold fK
 rw[if_neg hk]
 split
 ·simp only[Ex.ad,List.length_append,List.length_cons,List.length_nil]
  omega
 ·simp only[List.length_cons,List.length_nil]
  omega
theorem oU (cs:List Cn) (top:List aI):∀ m,o4 cs (jF top m).1∧oZ cs (jF top m).2∧∀ s e u n,Sh cs e→e.kind=3→((jF top m).2 s e u n).2+2≤n+e.wt
 |0=>by
  refine⟨fun e n h=>?_,fun s e u n h=>?_,fun s e u n h hk=>?_⟩
  ·have:=e.bz;simp only[jF];omega
  ·have:=e.bz;simp only[jF,List.length_nil];omega
  ·obtain⟨kd,nm,nn,op,names,ad,binds,alts⟩:=e
   have hnode:=h.node
   obtain rfl:kd=3:=hk
   have hs:ad.length=1:=by unfold dM at hnode;omega
   have h0:=b7 (l:=ad) (by omega)
   have:=(ad.headD bw).bz
   simp only[jF,Ex.wt];omega
 |m+1=>by
  obtain⟨h1,h2,h3⟩:=oU cs top m
  obtain⟨h4,h5⟩:=AJ (top:=top) h1 h2
  exact⟨AS h1 h2 h3,h4,h5⟩
theorem Ci (top:List aI) (E:Ex→Nat→Sg×Nat) (B:aI→Ex→Bool→Nat→List Sb×Nat) (s:aI) (e:Ex) (u:Bool) (n:Nat):(fK top E B s e u n).1≠[]:=by
 unfold fK
 split
 ·simp
 split
 ·simp
 ·simp
theorem Hm (top:List aI) {m:Nat} (hm:0<m) (s:aI) (e:Ex) (u:Bool) (n:Nat):((jF top m).2 s e u n).1≠[]:=by
 cases m with
 |zero=>omega
 |succ m=>exact Ci top (jF top m).1 (jF top m).2 s e u n
theorem mn {B:aI→Ex→Bool→Nat→List Sb×Nat}:∀ (l:List Ex) (n:Nat),(∀ s x u n,(B s x u n).1≠[])→∀ a∈(aM B l n).1.2,a.ok
 |[],n,_,a,ha=>by simp[aM] at ha
 |e::r,n,h,a,ha=>by
  rw[aM] at ha
  split at ha
  ·exact mn r _ h a ha
  ·simp only[List.mem_cons] at ha
   rcases ha with rfl|ha
   ·exact h _ _ _ _
   ·exact mn r _ h a ha
theorem sW {E:Ex→Nat→Sg×Nat}:∀ (l:List Ex) (n:Nat),∀ a∈(bG E l n).1.2,a.ok
 |[],n,a,ha=>by simp[bG] at ha
 |e::r,n,a,ha=>by
  rw[bG] at ha
  split at ha
  ·exact sW r _ a ha
  ·simp only[List.mem_cons] at ha
   rcases ha with rfl|ha
   ·trivial
   ·exact sW r _ a ha
theorem l7 {e x:Ex} (h:x.wt<e.wt):qD x+1≤3*e.wt∧l6 x+1≤3*e.wt:=by
 unfold qD l6
 split<;>omega
theorem qW {B:aI→Ex→Bool→Nat→List Sb×Nat} {l:List Ex} {n0 n i:Nat} {A:List At} {W:List Ar} (h:i<l.length)
 (hm:aM B l n0=((A++(aM B (l.drop i) n).1.1,W++(aM B (l.drop i) n).1.2),(aM B (l.drop i) n).2)):
 (pn l[i]=true→aM B l n0=((A++[Cc l[i]]++(aM B (l.drop (i+1)) n).1.1,W++(aM B (l.drop (i+1)) n).1.2),(aM B (l.drop (i+1)) n).2))∧
 (pn l[i]=false→aM B l n0=((A++[⟨eB bW n,0⟩]++(aM B (l.drop (i+1)) (B (eB bW n) l[i] true (n+1)).2).1.1,W++[.bs (B (eB bW n) l[i] true (n+1)).1]++(aM B (l.drop (i+1)) (B (eB bW n) l[i] true (n+1)).2).1.2),(aM B (l.drop (i+1)) (B (eB bW n) l[i] true (n+1)).2).2)):=by
 rw[List.drop_eq_getElem_cons h] at hm
 rw[aM] at hm
 constructor
 ·intro hb
  rw[if_pos hb] at hm
  rw[hm];simp
 ·intro hb
  rw[if_neg (by rw[hb];exact Bool.false_ne_true)] at hm
  rw[hm];simp
theorem BK {E:Ex→Nat→Sg×Nat} {l:List Ex} {n0 n i:Nat} {A:List At} {W:List Ar} (h:i<l.length)
 (hm:bG E l n0=((A++(bG E (l.drop i) n).1.1,W++(bG E (l.drop i) n).1.2),(bG E (l.drop i) n).2)):
 (l[i].kind=2→bG E l n0=((A++[Cc l[i]]++(bG E (l.drop (i+1)) n).1.1,W++(bG E (l.drop (i+1)) n).1.2),(bG E (l.drop (i+1)) n).2))∧
 (¬ l[i].kind=2→bG E l n0=((A++[⟨eB bW n,0⟩]++(bG E (l.drop (i+1)) (E l[i] (n+1)).2).1.1,W++[.look (eB bW n) (E l[i] (n+1)).1]++(bG E (l.drop (i+1)) (E l[i] (n+1)).2).1.2),(bG E (l.drop (i+1)) (E l[i] (n+1)).2).2)):=by
 rw[List.drop_eq_getElem_cons h] at hm
 rw[bG] at hm
 constructor
 ·intro hb
  rw[if_pos hb] at hm
  rw[hm];simp
 ·intro hb
  rw[if_neg hb] at hm
  rw[hm];simp
theorem mC {B:aI→Ex→Bool→Nat→List Sb×Nat} {u:Bd→Bool} {l:List Bd} {n0 n i:Nat} {D:List Sb} (h:i<l.length) (hm:cF B u l n0=(D++(cF B u (l.drop i) n).1,(cF B u (l.drop i) n).2)):
 cF B u l n0=(D++(B l[i].name l[i].e (u l[i]) n).1++(cF B u (l.drop (i+1)) (B l[i].name l[i].e (u l[i]) n).2).1,(cF B u (l.drop (i+1)) (B l[i].name l[i].e (u l[i]) n).2).2):=by
 rw[List.drop_eq_getElem_cons h] at hm
 rw[cF] at hm
 rw[hm];simp
end
def MM (G:Gl) (cs:List Cn) (m:Nat):Prop:=∀ (e:Ex) (s:aI) (H:List az),e.wt≤m→e.wt<4294967296→Sh cs e→ag Tryz.prog G 51 [e.sv,.str s] H (fun r H'=>H'=H∧r= .bool (b9 m e s))
theorem Bf (G:Gl) (hG:aw G) {cs:List Cn} {m:Nat} (hrec:MM G cs m) (x:Ex) (s:aI) (H:List az) (hx:x.wt≤m) (hw:x.wt<4294967296) (hs:Sh cs x):
 ag Tryz.prog G 98 [x.sv,.iR (.str s)] H (fun r H'=>H'=H∧r= .bool (b9 m x s)):=by
 have c1:=fun H=>hrec x s H hx hw hs
 generalize b9 m x s=b0 at*
 obtain⟨k2,n2,nn2,op2,ns2,ss2,bs2,as2⟩:=x
 refine ag.aK TB [] aF _ Tryz.func98 rfl (by decide) Tryz.ntmps98 (by simp) rfl (by simp only[au,Nat.reduceAdd];rfl) fun C R' hR hC hcl hB=>?_;have X:=aO;have hC':=congrArg List.length hC
 (refine run ?_;with_reducible repeat' first|exact trivial|(apply af.mk<;>intro hb)|apply ax.mk)
 exact aS (n0:=H.length) hR hC' hcl (.same _ rfl) ⟨rfl,rfl⟩
theorem Be (G:Gl) (hG:aw G) (x:Bd) (s:aI) (H:List az):ag Tryz.prog G 96 [x.sv,.iR (.str s)] H (fun r H'=>H'=H∧r= .bool (decide (x.name=s))):=by
 obtain⟨n,e⟩:=x
 obtain⟨k2,n2,nn2,op2,ns2,ss2,bs2,as2⟩:=e
 rw[show(Bd.mk n (.mk k2 n2 nn2 op2 ns2 ss2 bs2 as2)).name=n from rfl]
 refine ag.aK TB [] aF _ Tryz.func96 rfl (by decide) Tryz.ntmps96 (by simp) rfl (by simp only[au,Nat.reduceAdd];rfl) fun C R' hR hC hcl hB=>?_;have X:=aO;have hC':=congrArg List.length hC
 (refine run ?_;with_reducible repeat' first|exact trivial|(apply af.mk<;>intro hb)|apply ax.mk)
 exact aS (n0:=H.length) hR hC' hcl (.same _ rfl) ⟨rfl,rfl⟩
theorem MJ {alts:List Al} {i:Nat} (h:i<alts.length) (p:Al→Bool) (S:List Ex):
 S++((alts.take (i+1)).filter p).map Al.body=if p alts[i] then (S++((alts.take i).filter p).map Al.body)++[alts[i].body] else S++((alts.take i).filter p).map Al.body:=by
 rw[List.take_succ_eq_append_getElem h,List.filter_append,List.map_append]
 cases hp:p alts[i]<;>simp[hp]
theorem gq (l:List Ex) (n:Nat):aj (l.take n)=(aj l).take n:=by simp[bQ,List.map_take]
theorem xi (G:Gl) (hG:aw G) (hB0:eJ G 0) (cs:List Cn):∀ m,MM G cs m
 |0,e,_,_,h,_,_=>absurd e.bz (by omega)
 |m+1,e,s,H,hm,hw,hs=>by
  have hrec:=xi G hG hB0 cs m
  obtain⟨kd,nm,nn,op,names,ad,binds,alts⟩:=e
  have hlen:=Ex.cY kd nm nn op names ad binds alts
  have hww:(Ex.mk kd nm nn op names ad binds alts).wt=1+nm.length+cW names+bt ad+aW binds+cp alts:=by simp only[Ex.wt]
  have hnode:=hs.node
  have hany:=fun(V:List Ex) (hV:∀ x∈V,x.wt≤m∧x.wt<4294967296∧Sh cs x) (hl:V.length<1125899906842624) (H2:List az) (args:List SV) (hf:de H2 0 [] args [.list 8 (aj V),.fn (.func 98) [] [.iR (.str s)]])=>
   ag.Il (y:= .bool (V.any fun x=>b9 m x s)) hG hB0 hf (fun c c' v h=>by simpa only[aG] using h) ((B9 G hG (.fn (.func 98) [] [.iR (.str s)]) (fun x=>b9 m x s) V [] hl (by rfl) (fun x hx=>bL.of (first:=[]) (args:=[x.sv]) (cap:=[.iR (.str s)]) (Bf G hG hrec x s [] (hV x hx).1 (hV x hx).2.1 (hV x hx).2.2))).mono fun r H' h=>h.2)
  have hsub:∀ x∈ad,x.wt≤m∧x.wt<4294967296∧Sh cs x:=fun x hx=>⟨by have:=cH hx;omega,by have:=cH hx;omega,hs.sub hx⟩
  have halt:∀ x∈alts,x.body.wt≤m∧x.body.wt<4294967296∧Sh cs x.body:=fun x hx=>⟨by have:=cN hx;have:=x.cZ;omega,by have:=cN hx;have:=x.cZ;omega,hs.alt hx⟩
  by_cases h1:kd=1
  ·rw[show b9 (m+1) (.mk kd nm nn op names ad binds alts) s=decide (nm=s) by simp only[b9];rw[if_pos h1]]
   subst h1
   refine ag.aK TB [] aF _ Tryz.func51 rfl (by decide) Tryz.ntmps51 (by simp) rfl (by simp only[au,Nat.reduceAdd];rfl) fun C R' hR hC hcl hB=>?_;have X:=aO;have hC':=congrArg List.length hC
   (refine run ?_;with_reducible repeat' first|exact trivial|(apply af.mk<;>intro hb)|apply ax.mk)
   exact aS (n0:=H.length) hR hC' hcl (.same _ rfl) ⟨rfl,rfl⟩
  by_cases h8:kd=8
  ·rw[show b9 (m+1) (.mk kd nm nn op names ad binds alts) s=ad.any (fun x=>b9 m x s) by simp only[b9];rw[if_neg h1,if_pos h8]]
   subst h8
   refine ag.aK TB [] aF _ Tryz.func51 rfl (by decide) Tryz.ntmps51 (by simp) rfl (by simp only[au,Nat.reduceAdd];rfl) fun C R' hR hC hcl hB=>?_;have X:=aO;have hC':=congrArg List.length hC
   (refine run ?_;with_reducible repeat' first|exact trivial|(apply af.mk<;>intro hb)|apply ax.mk)
   refine bh (hany ad hsub (by omega) _ [.list 8 (aj ad),.fn (.func 98) [] [.ptr (H.length+1) 0 0 0]] (.cons _ _ _ _ (.same _ kX) (.cons _ _ _ _ (.fn _ _ _ _ _ .nil (.cons _ _ _ _ (.ptr _ _ _ _ _ _ _ (by rw[bJ];rfl) (Nat.zero_le _) (by simp) rfl (.same _ rfl)) .nil)) .nil))) ?_
   rintro r H' ⟨rfl,rfl⟩
   (refine run ?_;with_reducible repeat' first|exact trivial|(apply af.mk<;>intro hb)|apply ax.mk)
   exact aS (n0:=H.length) hR hC' hcl (.same _ rfl) ⟨rfl,rfl⟩
  by_cases h4:kd=4
  ·rw[show b9 (m+1) (.mk kd nm nn op names ad binds alts) s=(ad.take 1).any (fun x=>b9 m x s) by simp only[b9];rw[if_neg h1,if_neg h8,if_pos h4]]
   subst h4
   have hsl:1<ad.length:=hs.app
   have hal:alts.length=0:=by unfold dM at hnode;omega
   have i1:¬ (ad.length:Int)<1:=by omega
   have i2:(1:Int)≤(ad.length:Int):=by omega
   have i3:IntKind.i64.min≤(ad.length:Int)∧(ad.length:Int)≤IntKind.i64.max:=⟨by show(-9223372036854775808:Int)≤_;omega,by show _≤(9223372036854775807:Int);omega⟩
   have hcl1:=fun H=>tw G hG (ad.take 1) H (by rw[List.length_take];omega)
   rw[gq,List.length_take,Nat.min_eq_left (by omega:1≤ad.length)] at hcl1
   refine ag.aK TB [5] aF _ Tryz.func51 rfl (by decide) Tryz.ntmps51 (by simp) rfl (by simp only[au,Nat.reduceAdd];rfl) fun C R' hR hC hcl hB=>?_;have X:=aO;have hC':=congrArg List.length hC
   have X:=And.intro aO (And.intro i1 (And.intro i2 i3))
   (refine run ?_;with_reducible repeat' first|exact trivial|(apply af.mk<;>intro hb)|apply ax.mk)
   refine bh (hcl1 _) ?_
   rintro r H' ⟨rfl,rfl⟩
   simp only[List.append_assoc,List.cons_append,List.nil_append,List.length_append,List.length_cons,List.length_nil,List.length_set,X,Nat.reduceAdd]
   have X:=And.intro aO (And.intro hal (Int.lt_irrefl 0))
   (refine run ?_;with_reducible repeat' first|exact trivial|(apply af.mk<;>intro hb)|apply ax.mk)
   refine aC (fun _:Unit=>[(2,.ptr H.length 0 0 0),(3,.ptr (H.length+1) 0 0 0),(5,.sl (H.length+3) 0 0 1),(33,.int .i64 0),(34,.int .i64 0)])
    (fun _=>H++[.cells 0 8 [.agg [.int .i64 4,.str nm,.int .i64 nn,.int .i64 op,.list 1 (names.map .str),.list 8 (aj ad),.list 9 (ao binds),.list 12 (aA alts)]],.cells 0 1 [.str s],.cells 0 8 [],.cells 0 8 ((aj ad).take 1)]) (fun _=>0) (fun _=>True) () trivial (Wk.sub (by simp[bR,look])) ?_
   rintro K _ _ hK
   clear hK
   have X:=And.intro aO (Int.lt_irrefl 0)
   (refine run ?_;with_reducible repeat' first|exact trivial|(apply af.mk<;>intro hb)|apply ax.mk)
   refine bh (hany (ad.take 1) (fun x hx=>hsub x (List.mem_of_mem_take hx)) (by rw[List.length_take];omega) _ [.sl (H.length+3) 0 0 1,.fn (.func 98) [] [.ptr (H.length+1) 0 0 0]] (.cons _ _ _ _ (bV.sf (g:=0) (sz:=8) (vals:=(aj ad).take 1) (by rw[bJ];rfl) (Nat.zero_le _) (by simp) (by rw[gq,List.drop_zero];first|done|rfl|(rw[List.take_take];rfl)|(rw[List.take_take];done)) (eN _ _)) (.cons _ _ _ _ (.fn _ _ _ _ _ .nil (.cons _ _ _ _ (.ptr _ _ _ _ _ _ _ (by rw[bJ];rfl) (Nat.zero_le _) (by simp) rfl (.same _ rfl)) .nil)) .nil))) ?_
   rintro r H' ⟨rfl,rfl⟩
   (refine run ?_;with_reducible repeat' first|exact trivial|(apply af.mk<;>intro hb)|apply ax.mk)
   exact aS (n0:=H.length) hR hC' hcl (.same _ rfl) ⟨rfl,rfl⟩
  by_cases h6:kd=6
  ·rw[show b9 (m+1) (.mk kd nm nn op names ad binds alts) s=((ad.take 1).any (fun x=>b9 m x s)||(!decide (nm=s)&&alts.any (fun a=>!decide (s∈a.names)&&b9 m a.body s))) by simp only[b9];rw[if_neg h1,if_neg h8,if_neg h4,if_pos h6]]
   subst h6
   have hsl:ad.length=1:=by unfold dM at hnode;omega
   have hst:ad.take 1=ad:=List.take_of_length_le (by omega)
   rw[hst]
   have i1:¬ (ad.length:Int)<1:=by omega
   have i2:(1:Int)≤(ad.length:Int):=by omega
   have i3:IntKind.i64.min≤(ad.length:Int)∧(ad.length:Int)≤IntKind.i64.max:=⟨by show(-9223372036854775808:Int)≤_;omega,by show _≤(9223372036854775807:Int);omega⟩
   have hcl1:=fun H=>tw G hG (ad.take 1) H (by rw[List.length_take];omega)
   rw[gq,List.length_take,Nat.min_eq_left (by omega:1≤ad.length)] at hcl1
   have hex:(aj ad).take 1=aj ad:=by rw[← gq,hst]
   rw[hex] at hcl1
   have hways:∀ V,V=ad++(alts.filter fun a=>!decide (nm=s)&&!decide (s∈a.names)).map Al.body→(V.any fun x=>b9 m x s)=(ad.any (fun x=>b9 m x s)||(!decide (nm=s)&&alts.any (fun a=>!decide (s∈a.names)&&b9 m a.body s))):=by
    rintro V rfl
    rw[List.any_append,List.any_map,List.any_filter]
    congr 1
    cases decide (nm=s)<;>simp
   have hvm:∀ x∈ad++(alts.filter fun a=>!decide (nm=s)&&!decide (s∈a.names)).map Al.body,x.wt≤m∧x.wt<4294967296∧Sh cs x:=fun x hx=>by
    rcases List.mem_append.1 hx with hx|hx
    ·exact hsub x hx
    ·obtain⟨a,ha,rfl⟩:=List.mem_map.1 hx
     exact halt a (List.mem_filter.1 ha).1
   have hvl:∀ i,(ad++((alts.take i).filter fun a=>!decide (nm=s)&&!decide (s∈a.names)).map Al.body).length≤1+alts.length:=fun i=>by
    rw[List.length_append,List.length_map]
    have h1:=List.length_filter_le (fun a:Al=>!decide (nm=s)&&!decide (s∈a.names)) (alts.take i)
    have h2:(alts.take i).length≤alts.length:=by rw[List.length_take];omega
    omega
   have hstep:=fun i (h:i<alts.length)=>MJ h (fun a=>!decide (nm=s)&&!decide (s∈a.names)) ad
   have hall:ad++((alts.take alts.length).filter fun a=>!decide (nm=s)&&!decide (s∈a.names)).map Al.body=ad++(alts.filter fun a=>!decide (nm=s)&&!decide (s∈a.names)).map Al.body:=by rw[List.take_length]
   have h00:ad=ad++((alts.take 0).filter fun a=>!decide (nm=s)&&!decide (s∈a.names)).map Al.body:=by simp
   obtain⟨V,hV⟩:∃ V:Nat→List Ex,∀ i,V i=ad++((alts.take i).filter fun a=>!decide (nm=s)&&!decide (s∈a.names)).map Al.body:=⟨fun i=>_,fun i=>rfl⟩
   simp only[← hV] at hvl hstep h00 hall
   refine ag.aK TB [5] aF _ Tryz.func51 rfl (by decide) Tryz.ntmps51 (by simp) rfl (by simp only[au,Nat.reduceAdd];rfl) fun C R' hR hC hcl hB=>?_;have X:=aO;have hC':=congrArg List.length hC
   have X:=And.intro aO (And.intro i1 (And.intro i2 (And.intro i3 hex)))
   (refine run ?_;with_reducible repeat' first|exact trivial|(apply af.mk<;>intro hb)|apply ax.mk)
   refine bh (hcl1 _) ?_
   rintro r H' ⟨rfl,rfl⟩
   simp only[List.append_assoc,List.cons_append,List.nil_append,List.length_append,List.length_cons,List.length_nil,List.length_set,X,Nat.reduceAdd]
   (refine run ?_;with_reducible repeat' first|exact trivial|(apply af.mk<;>intro hb)|apply ax.mk)
   refine aC (fun i:Nat=>[(2,.ptr H.length 0 0 0),(3,.ptr (H.length+1) 0 0 0),(5,.sl (H.length+2) 0 0 (V i).length),(32,.list 12 (aA alts)),(33,.int .i64 alts.length),(34,.int .i64 (i:Int))])
    (fun i=>H++[.cells 0 8 [.agg [.int .i64 6,.str nm,.int .i64 nn,.int .i64 op,.list 1 (names.map .str),.list 8 (aj ad),.list 9 (ao binds),.list 12 (aA alts)]],.cells 0 1 [.str s],.cells 0 8 (aj (V i))]) (fun i=>alts.length - i) (fun i=>i≤alts.length) 0 (Nat.zero_le _) ?_ ?_
   ·rw[← h00,hsl]
    exact bB (n0:=H.length) [(H.length,0),(H.length+1,0),(H.length+3,0)] hG hB hC' hcl
   rintro K i hi hK
   rcases Nat.lt_or_ge i alts.length with hlt|hge
   ·have hst2:=hstep i hlt
    have hvi:=hvl i
    have hw1:=alts[i].ku
    have hw2:=cN (List.getElem_mem hlt)
    have hcg:(aA alts)[i]? =some (.agg (.int .i64 alts[i].kind:: .str alts[i].name:: .int .i64 alts[i].n:: .list 1 (alts[i].names.map .str)::alts[i].body.cells)):=by rw[gy,List.getElem?_eq_getElem hlt];rfl
    have c1:=fun H=>gp G alts[i].names s H (by omega)
    have hsn:∀ e:Ex,aj (V i)++[.agg e.cells]=aj (V i++[e]):=fun e=>by simp[bQ];rfl
    generalize V i=Vi at*
    generalize alts[i].names=ns at*
    generalize alts[i].body=bd at*
    obtain⟨k2,n2,nn2,op2,ns2,ss2,bs2,as2⟩:=bd
    have hsn:aj Vi++[.agg [.int .i64 k2,.str n2,.int .i64 nn2,.int .i64 op2,.list 1 (ns2.map .str),.list 8 (aj ss2),.list 9 (ao bs2),.list 12 (aA as2)]]=aj (Vi++[.mk k2 n2 nn2 op2 ns2 ss2 bs2 as2]):=hsn (.mk k2 n2 nn2 op2 ns2 ss2 bs2 as2)
    have hxl:(aj Vi).length=Vi.length:=ct _
    by_cases hns:nm=s
    ·rw[decide_eq_true hns,Bool.not_true,Bool.false_and,if_neg Bool.false_ne_true] at hst2
     subst hns
     have X:=And.intro aO (And.intro hcg (And.intro hxl (And.intro hsn (eq_self nm))))
     (refine run ?_;with_reducible repeat' first|exact trivial|(apply af.mk<;>intro hb)|apply ax.mk)
     refine hK _ _ (i+1) (by omega) (by omega) ?_
     rw[hst2]
     exact bB (n0:=H.length) [(H.length,0),(H.length+1,0),(H.length+2,0)] hG hB hC' hcl
    rw[decide_eq_false hns,Bool.not_false,Bool.true_and] at hst2
    by_cases hin:s∈ns
    ·rw[decide_eq_true hin,Bool.not_true,if_neg Bool.false_ne_true] at hst2
     rw[decide_eq_true hin] at c1
     have X:=And.intro aO (And.intro hcg (And.intro hxl (And.intro hsn hns)))
     (refine run ?_;with_reducible repeat' first|exact trivial|(apply af.mk<;>intro hb)|apply ax.mk)
     refine hK _ _ (i+1) (by omega) (by omega) ?_
     rw[hst2]
     exact bB (n0:=H.length) [(H.length,0),(H.length+1,0),(H.length+2,0)] hG hB hC' hcl
    ·rw[decide_eq_false hin,Bool.not_false,if_pos rfl] at hst2
     rw[decide_eq_false hin] at c1
     have X:=And.intro aO (And.intro hcg (And.intro hxl (And.intro hsn hns)))
     (refine run ?_;with_reducible repeat' first|exact trivial|(apply af.mk<;>intro hb)|apply ax.mk)
     refine hK _ _ (i+1) (by omega) (by omega) ?_
     rw[hst2,List.length_append,List.length_singleton]
     exact bB (n0:=H.length) [(H.length,0),(H.length+1,0),(H.length+2,0)] hG hB hC' hcl
   clear hK
   obtain rfl:i=alts.length:=by omega
   have hvi:=hvl alts.length
   rw[hall] at*
   have X:=And.intro aO (Int.lt_irrefl (alts.length:Int))
   (refine run ?_;with_reducible repeat' first|exact trivial|(apply af.mk<;>intro hb)|apply ax.mk)
   refine bh (hany _ hvm (by omega) _ [.sl (H.length+2) 0 0 _,.fn (.func 98) [] [.ptr (H.length+1) 0 0 0]] (.cons _ _ _ _ (bV.sf (g:=0) (sz:=8) (by rw[bJ];rfl) (Nat.zero_le _) (by simp) (by rw[List.drop_zero,k9]) (eN _ _)) (.cons _ _ _ _ (.fn _ _ _ _ _ .nil (.cons _ _ _ _ (.ptr _ _ _ _ _ _ _ (by rw[bJ];rfl) (Nat.zero_le _) (by simp) rfl (.same _ rfl)) .nil)) .nil))) ?_
   rintro r H' ⟨rfl,rfl⟩
   have hwy:=hways _ rfl
   (refine run ?_;with_reducible repeat' first|exact trivial|(apply af.mk<;>intro hb)|apply ax.mk)
   exact aS (n0:=H.length) hR hC' hcl (.same _ rfl) ⟨rfl,congrArg SV.bool (by simpa using hwy)⟩
  by_cases h5:kd=5
  ·rw[show b9 (m+1) (.mk kd nm nn op names ad binds alts) s=(!(binds.any fun b=>decide (b.name=s))&&ad.any (fun x=>b9 m x s)) by simp only[b9];rw[if_neg h1,if_neg h8,if_neg h4,if_neg h6,if_pos h5]]
   subst h5
   have hbd:=fun(H2:List az) (args:List SV) (hf:de H2 0 [] args [.list 9 (ao binds),.fn (.func 96) [] [.iR (.str s)]])=>
    ag.Il (y:= .bool (binds.any fun b=>decide (b.name=s))) hG hB0 hf (fun c c' v h=>by simpa only[aG] using h) ((qO G hG (.fn (.func 96) [] [.iR (.str s)]) (fun b=>decide (b.name=s)) binds [] (by omega) (by rfl) (fun x hx=>bL.of (first:=[]) (args:=[x.sv]) (cap:=[.iR (.str s)]) (Be G hG x s []))).mono fun r H' h=>h.2)
   generalize (binds.any fun b=>decide (b.name=s))=bb at*
   refine ag.aK TB [] aF _ Tryz.func51 rfl (by decide) Tryz.ntmps51 (by simp) rfl (by simp only[au,Nat.reduceAdd];rfl) fun C R' hR hC hcl hB=>?_;have X:=aO;have hC':=congrArg List.length hC
   (refine run ?_;with_reducible repeat' first|exact trivial|(apply af.mk<;>intro hb)|apply ax.mk)
   refine bh (hbd _ [.list 9 (ao binds),.fn (.func 96) [] [.ptr (H.length+1) 0 0 0]] (.cons _ _ _ _ (.same _ kX) (.cons _ _ _ _ (.fn _ _ _ _ _ .nil (.cons _ _ _ _ (.ptr _ _ _ _ _ _ _ (by rw[bJ];rfl) (Nat.zero_le _) (by simp) rfl (.same _ rfl)) .nil)) .nil))) ?_
   rintro r H' ⟨rfl,rfl⟩
   cases bb
   ·(refine run ?_;with_reducible repeat' first|exact trivial|(apply af.mk<;>intro hb)|apply ax.mk)
    refine bh (hany ad hsub (by omega) _ [.list 8 (aj ad),.fn (.func 98) [] [.ptr (H.length+1) 0 0 0]] (.cons _ _ _ _ (.same _ kX) (.cons _ _ _ _ (.fn _ _ _ _ _ .nil (.cons _ _ _ _ (.ptr _ _ _ _ _ _ _ (by rw[bJ];rfl) (Nat.zero_le _) (by simp) rfl (.same _ rfl)) .nil)) .nil))) ?_
    rintro r H' ⟨rfl,rfl⟩
    (refine run ?_;with_reducible repeat' first|exact trivial|(apply af.mk<;>intro hb)|apply ax.mk)
    exact aS (n0:=H.length) hR hC' hcl (.same _ rfl) ⟨rfl,rfl⟩
   ·(refine run ?_;with_reducible repeat' first|exact trivial|(apply af.mk<;>intro hb)|apply ax.mk)
    refine bh (hany [] (fun x hx=>by cases hx) (by simp) _ [.nil,.fn (.func 98) [] [.ptr (H.length+1) 0 0 0]] (.cons _ _ _ _ (.nil _) (.cons _ _ _ _ (.fn _ _ _ _ _ .nil (.cons _ _ _ _ (.ptr _ _ _ _ _ _ _ (by rw[bJ];rfl) (Nat.zero_le _) (by simp) rfl (.same _ rfl)) .nil)) .nil))) ?_
    rintro r H' ⟨rfl,rfl⟩
    (refine run ?_;with_reducible repeat' first|exact trivial|(apply af.mk<;>intro hb)|apply ax.mk)
    exact aS (n0:=H.length) hR hC' hcl (.same _ rfl) ⟨rfl,rfl⟩
  ·rw[show b9 (m+1) (.mk kd nm nn op names ad binds alts) s=false by simp only[b9];rw[if_neg h1,if_neg h8,if_neg h4,if_neg h6,if_neg h5]]
   refine ag.aK TB [] aF _ Tryz.func51 rfl (by decide) Tryz.ntmps51 (by simp) rfl (by simp only[au,Nat.reduceAdd];rfl) fun C R' hR hC hcl hB=>?_;have X:=aO;have hC':=congrArg List.length hC
   have X:=And.intro aO (And.intro h1 (And.intro h8 (And.intro h4 (And.intro h6 h5))))
   (refine run ?_;with_reducible repeat' first|exact trivial|(apply af.mk<;>intro hb)|apply ax.mk)
   refine bh (hany [] (fun x hx=>by cases hx) (by simp) _ [.nil,.fn (.func 98) [] [.ptr (H.length+1) 0 0 0]] (.cons _ _ _ _ (.nil _) (.cons _ _ _ _ (.fn _ _ _ _ _ .nil (.cons _ _ _ _ (.ptr _ _ _ _ _ _ _ (by rw[bJ];rfl) (Nat.zero_le _) (by simp) rfl (.same _ rfl)) .nil)) .nil))) ?_
   rintro r H' ⟨rfl,rfl⟩
   (refine run ?_;with_reducible repeat' first|exact trivial|(apply af.mk<;>intro hb)|apply ax.mk)
   exact aS (n0:=H.length) hR hC' hcl (.same _ rfl) ⟨rfl,rfl⟩
theorem look_ok (G:Gl) (hG:aw G):∀ (m:Nat) (e:Ex) (H:List az) (id g:Nat) (s:aI) (n lams:Int) (b:Bool),e.wt≤m→H[id]? =some (.cells g 3 [tl s n b])→0≤n→n+e.wt<1099511627776→0≤lams→lams+e.wt<1099511627776→
 ag Tryz.prog G 93 [.ptr id g 0 0,e.sv,.int .i64 lams] H (fun r H'=>H'=H.set id (.cells g 3 [tl s (n+fX s e) (b||eA s (decide (0<lams)) e)]))
 |0,e,H,id,g,s,n,lams,b,hw,_,_,_,_,_=>by have:=e.bz;omega
 |m+1,e,H,id,g,s,n,lams,b,hw,hid,hn0,hn1,hl0,hl1=>by
  obtain⟨kd,nm,nn,op,names,ad,binds,alts⟩:=e
  have hlen:=Ex.cY kd nm nn op names ad binds alts
  have hwt:(Ex.mk kd nm nn op names ad binds alts).wt=1+nm.length+cW names+bt ad+aW binds+cp alts:=rfl
  have hlt:id<H.length:=(List.getElem?_eq_some_iff.1 hid).1
  have hlm:0≤(lams+if kd=3 then 1 else 0)∧(lams+if kd=3 then 1 else 0)≤lams+1:=by split<;>omega
  refine ag.aK TB [6] aF _ Tryz.func93 rfl (by decide) Tryz.ntmps93 (by simp) rfl (by simp only[au,Nat.reduceAdd];rfl) fun C R' hR hC hcl hB=>?_;have X:=aO;have hC':=congrArg List.length hC
  have hC':C.H.length=H.length:=by rw[hC]
  (have X:=And.intro X (And.intro hid @tl.eq_1);refine vx ?_;with_reducible repeat' first|exact trivial|(apply af.mk<;>intro hb)|apply ax.mk)
  refine eT (fun _:Unit=>[(0,.ptr id g 0 0),(2,.int .i64 (lams+if kd=3 then 1 else 0)),(4,.ptr H.length 0 0 0),(6,.list 1 ((cT kd names binds).map .str))])
   (fun _=>H++[.cells 0 8 [.agg [.int .i64 kd,.str nm,.int .i64 nn,.int .i64 op,.list 1 (names.map .str),.list 8 (aj ad),.list 9 (ao binds),.list 12 (aA alts)]]]) (fun _=>kd≠1) (fun K hK=>?_) (fun _ hkd=>?_)
  ·(have X:=And.intro X (And.intro hid @tl.eq_1);refine bP ?_;with_reducible repeat' first|exact trivial|(apply af.mk<;>intro hb)|apply ax.mk)
   ·rename_i h1 h2
    refine Fin.dx (n0:=H.length) hR (by simp) hC' (hcl.set rfl) (.same _ rfl) ?_
    simp[fX,eA,tl,h1,h2,hb]
   ·rename_i h1 h2
    refine Fin.dx (n0:=H.length) hR (by simp) hC' (hcl.set rfl) (.same _ rfl) ?_
    simp[fX,eA,tl,h1,h2,hb]
   ·rename_i h1
    refine Fin.dx (n0:=H.length) hR (by simp) hC' hcl (.same _ rfl) ?_
    simp[fX,eA,h1,hb,dV hid]
   ·refine hK _ _ () (by omega) ?_
    simp only[hb,if_true,cT]
    exact bB (n0:=H.length) [(H.length,0)] hG hB (by rw[hC]) hcl
   ·refine aC (fun i:Nat=>[(0,.ptr id g 0 0),(2,.int .i64 lams),(4,.ptr H.length 0 0 0),(53,.list 9 (ao binds)),(54,.int .i64 binds.length),(55,.int .i64 i),(6,.sl (H.length+1) 0 0 i)])
     (fun i=>H++[.cells 0 8 [.agg [.int .i64 kd,.str nm,.int .i64 nn,.int .i64 op,.list 1 (names.map .str),.list 8 (aj ad),.list 9 (ao binds),.list 12 (aA alts)]],.cells 0 1 ((binds.take i).map fun b=> .str b.name)])
     (fun i=>binds.length - i) (fun i=>i≤binds.length) 0 (Nat.zero_le _) ?_ ?_
    ·exact bB (n0:=H.length) [(H.length,0),(H.length+1,0)] hG hB (by rw[hC]) hcl
    ·intro K2 i hi hK2
     (have X:=And.intro X (And.intro hid @tl.eq_1);refine bP ?_;with_reducible repeat' first|exact trivial|(apply af.mk<;>intro hb)|apply ax.mk)
     ·refine hK2 _ _ (i+1) (by omega) (by omega) ?_
      simp only[List.take_succ_eq_append_getElem (show i<binds.length by omega),List.map_append,List.map_cons,List.map_nil]
      exact bB (n0:=H.length) [(H.length,0),(H.length+1,0)] hG hB (by rw[hC]) hcl
     ·refine hK _ _ () (by omega) ?_
      have hi':i=binds.length:=by omega
      subst hi'
      rename_i h1 h2 h3
      have e1:cT kd names binds=binds.map Bd.name:=by simp[cT,h3]
      have e2:((lams+if kd=3 then 1 else 0):Int)=lams:=by simp[h2]
      simp only[e1,e2,List.take_length,List.map_map]
      exact bB (n0:=H.length) [(H.length,0)] hG hB (by rw[hC]) hcl
   ·refine hK _ _ () (by omega) ?_
    rename_i h1 h2
    simp only[h2,hb,if_false,cT,Int.add_zero]
    exact bB (n0:=H.length) [(H.length,0)] hG hB (by rw[hC]) hcl
  ·have hol:(cT kd names binds).length<4611686018427387904:=by unfold cT;split;omega;split;simp;omega;simp
   (have X:=And.intro X (And.intro hid @tl.eq_1);refine vx ?_;with_reducible repeat' first|exact trivial|(apply af.mk<;>intro hb)|apply ax.mk)
   refine fg ?_ rfl (gp G (cT kd names binds) s _ hol) ?_
   ·exact cv
   rintro r H' ⟨rfl,rfl⟩
   (have X:=And.intro X (And.intro hid @tl.eq_1);refine vx ?_;with_reducible repeat' first|exact trivial|(apply af.mk<;>intro hb)|apply ax.mk)
   ·refine Fin.dx (n0:=H.length) hR (by simp) hC' hcl (.same _ rfl) ?_
    simp[fX,eA,hkd,hb,dV hid]
   have hno:=hb
   
   refine eT (fun a:Int×Bool=>[(0,.ptr id g 0 0),(2,.int .i64 (lams+if kd=3 then 1 else 0)),(4,.ptr H.length 0 0 0)])
    (fun a=>H.set id (.cells g 3 [.agg [.str s,.int .i64 a.1,.bool a.2]])++[.cells 0 8 [.agg [.int .i64 kd,.str nm,.int .i64 nn,.int .i64 op,.list 1 (names.map .str),.list 8 (aj ad),.list 9 (ao binds),.list 12 (aA alts)]]]) (fun a=>a=(n+oC s ad,b||mS s (decide (0<lams)||decide (kd=3)) ad)) (fun K hK=>?_) ?_
   ·(refine bP ?_;with_reducible repeat' first|exact trivial|(apply af.mk<;>intro hb)|apply ax.mk)
    refine aC (fun a:Nat×Int×Bool=>[(0,.ptr id g 0 0),(2,.int .i64 (lams+if kd=3 then 1 else 0)),(4,.ptr H.length 0 0 0),(72,.list 8 (aj ad)),(73,.int .i64 ad.length),(74,.int .i64 a.1)])
     (fun a=>H.set id (.cells g 3 [.agg [.str s,.int .i64 a.2.1,.bool a.2.2]])++[.cells 0 8 [.agg [.int .i64 kd,.str nm,.int .i64 nn,.int .i64 op,.list 1 (names.map .str),.list 8 (aj ad),.list 9 (ao binds),.list 12 (aA alts)]]]) (fun a=>ad.length - a.1)
     (fun a=>a.1≤ad.length∧0≤a.2.1∧a.2.1+bt (ad.drop a.1)≤n+bt ad∧a.2.1+oC s (ad.drop a.1)=n+oC s ad∧(a.2.2||mS s (decide (0<lams)||decide (kd=3)) (ad.drop a.1))=(b||mS s (decide (0<lams)||decide (kd=3)) ad))
     (0,n,b) ⟨Nat.zero_le _,hn0,Int.le_refl _,rfl,rfl⟩ ?_ ?_
    ·rw[show H.set id (.cells g 3 [.agg [.str s,.int .i64 n,.bool b]])=H from dV hid]
     exact bB (n0:=H.length) [(H.length,0)] hG hB (by rw[hC]) hcl
    ·rintro K2 ⟨i,n',b'⟩ ⟨hi,h1,h2,h3,h4⟩ hK2
     simp only at hi h1 h2 h3 h4
     (refine bP ?_;with_reducible repeat' first|exact trivial|(apply af.mk<;>intro hb)|apply ax.mk)
     ·have hi':i<ad.length:=by omega
      rw[List.drop_eq_getElem_cons hi'] at h2 h3 h4
      simp only[bt,oC,mS] at h2 h3 h4
      have hm:=cH (List.getElem_mem hi')
      have ho:=lX s ad[i]
      refine fg ?_ rfl (look_ok G hG m ad[i] _ id g s n' (lams+if kd=3 then 1 else 0) b' (by omega) (jO hlt) h1 (by omega) hlm.1 (by omega)) ?_
      ·exact cv
      intro r H' hH
      rw[iL hlt] at hH
      subst hH
      (refine bP ?_;with_reducible repeat' first|exact trivial|(apply af.mk<;>intro hb)|apply ax.mk)
      refine hK2 _ _ (i+1,n'+fX s ad[i],b'||eA s (decide (0<lams)||decide (kd=3)) ad[i]) (by simp only;omega) ⟨by simp only;omega,by simp only;omega,by simp only;omega,by simp only;omega,?_⟩ ?_
      ·simp only;rw[← h4,Bool.or_assoc]
      ·have e:decide (0<(lams+if kd=3 then 1 else 0))=(decide (0<lams)||decide (kd=3)):=by
        by_cases h:kd=3<;>simp[h]<;>omega
       rw[e]
       exact bB (n0:=H.length) [(H.length,0)] hG hB (by rw[hC]) (hcl.set rfl)
     ·have hi':i=ad.length:=by omega
      subst hi'
      rw[List.drop_length] at h3 h4
      simp only[oC,mS,Bool.or_false] at h3 h4
      refine hK _ _ (n',b') (by rw[← h4,← h3];simp) ?_
      exact bB (n0:=H.length) [(H.length,0)] hG hB (by rw[hC]) (hcl.set rfl)
   rintro _ rfl
   generalize hn1':n+(oC s ad:Int)=n1
   generalize hb1':(b||mS s (decide (0<lams)||decide (kd=3)) ad)=b1
   have ho1:=vn s ad
   (refine vx ?_;with_reducible repeat' first|exact trivial|(apply af.mk<;>intro hb)|apply ax.mk)
   refine eT (fun a:Int×Bool=>[(0,.ptr id g 0 0),(2,.int .i64 (lams+if kd=3 then 1 else 0)),(4,.ptr H.length 0 0 0)])
    (fun a=>H.set id (.cells g 3 [.agg [.str s,.int .i64 a.1,.bool a.2]])++[.cells 0 8 [.agg [.int .i64 kd,.str nm,.int .i64 nn,.int .i64 op,.list 1 (names.map .str),.list 8 (aj ad),.list 9 (ao binds),.list 12 (aA alts)]]]) (fun a=>a=(n1+oB s binds,b1||mR s (decide (0<lams)||decide (kd=3)) binds)) (fun K hK=>?_) ?_
   ·(refine bP ?_;with_reducible repeat' first|exact trivial|(apply af.mk<;>intro hb)|apply ax.mk)
    refine aC (fun a:Nat×Int×Bool=>[(0,.ptr id g 0 0),(2,.int .i64 (lams+if kd=3 then 1 else 0)),(4,.ptr H.length 0 0 0),(84,.list 9 (ao binds)),(85,.int .i64 binds.length),(86,.int .i64 a.1)])
     (fun a=>H.set id (.cells g 3 [.agg [.str s,.int .i64 a.2.1,.bool a.2.2]])++[.cells 0 8 [.agg [.int .i64 kd,.str nm,.int .i64 nn,.int .i64 op,.list 1 (names.map .str),.list 8 (aj ad),.list 9 (ao binds),.list 12 (aA alts)]]]) (fun a=>binds.length - a.1)
     (fun a=>a.1≤binds.length∧0≤a.2.1∧a.2.1+aW (binds.drop a.1)≤n1+aW binds∧a.2.1+oB s (binds.drop a.1)=n1+oB s binds∧(a.2.2||mR s (decide (0<lams)||decide (kd=3)) (binds.drop a.1))=(b1||mR s (decide (0<lams)||decide (kd=3)) binds))
     (0,n1,b1) ⟨Nat.zero_le _,by simp only;omega,Int.le_refl _,rfl,rfl⟩ ?_ ?_
    ·exact bB (n0:=H.length) [(H.length,0)] hG hB (by rw[hC]) (hcl.set rfl)
    ·rintro K2 ⟨i,n',b'⟩ ⟨hi,h1,h2,h3,h4⟩ hK2
     simp only at hi h1 h2 h3 h4
     (refine bP ?_;with_reducible repeat' first|exact trivial|(apply af.mk<;>intro hb)|apply ax.mk)
     ·have hi':i<binds.length:=by omega
      rw[List.drop_eq_getElem_cons hi'] at h2 h3 h4
      simp only[aW,oB,mR,r9,tQ] at h2 h3 h4
      have hm:=dH (List.getElem_mem hi')
      have hm2:=binds[i].cZ
      have ho:=lX s binds[i].e
      refine fg ?_ rfl (look_ok G hG m binds[i].e _ id g s n' (lams+if kd=3 then 1 else 0) b' (by omega) (jO hlt) h1 (by omega) hlm.1 (by omega)) ?_
      ·exact cv
      intro r H' hH
      rw[iL hlt] at hH
      subst hH
      (refine bP ?_;with_reducible repeat' first|exact trivial|(apply af.mk<;>intro hb)|apply ax.mk)
      refine hK2 _ _ (i+1,n'+fX s binds[i].e,b'||eA s (decide (0<lams)||decide (kd=3)) binds[i].e) (by simp only;omega) ⟨by simp only;omega,by simp only;omega,by simp only;omega,by simp only;omega,?_⟩ ?_
      ·simp only;rw[← h4,Bool.or_assoc]
      ·have e:decide (0<(lams+if kd=3 then 1 else 0))=(decide (0<lams)||decide (kd=3)):=by
        by_cases h:kd=3<;>simp[h]<;>omega
       rw[e]
       exact bB (n0:=H.length) [(H.length,0)] hG hB (by rw[hC]) (hcl.set rfl)
     ·have hi':i=binds.length:=by omega
      subst hi'
      rw[List.drop_length] at h3 h4
      simp only[oB,mR,Bool.or_false] at h3 h4
      refine hK _ _ (n',b') (by rw[← h4,← h3];simp) ?_
      exact bB (n0:=H.length) [(H.length,0)] hG hB (by rw[hC]) (hcl.set rfl)
   rintro _ rfl
   generalize hn2':n1+(oB s binds:Int)=n2
   generalize hb2':(b1||mR s (decide (0<lams)||decide (kd=3)) binds)=b2
   have ho2:=vm s binds
   (refine vx ?_;with_reducible repeat' first|exact trivial|(apply af.mk<;>intro hb)|apply ax.mk)
   refine eT (fun a:Int×Bool=>[(0,.ptr id g 0 0),(2,.int .i64 (lams+if kd=3 then 1 else 0)),(4,.ptr H.length 0 0 0)])
    (fun a=>H.set id (.cells g 3 [.agg [.str s,.int .i64 a.1,.bool a.2]])++[.cells 0 8 [.agg [.int .i64 kd,.str nm,.int .i64 nn,.int .i64 op,.list 1 (names.map .str),.list 8 (aj ad),.list 9 (ao binds),.list 12 (aA alts)]]]) (fun a=>a=(n2+lW s (kd=6∧nm=s) alts,b2||j7 s (decide (0<lams)||decide (kd=3)) (kd=6∧nm=s) alts)) (fun K hK=>?_) ?_
   ·(refine bP ?_;with_reducible repeat' first|exact trivial|(apply af.mk<;>intro hb)|apply ax.mk)
    refine aC (fun a:Nat×Int×Bool=>[(0,.ptr id g 0 0),(2,.int .i64 (lams+if kd=3 then 1 else 0)),(4,.ptr H.length 0 0 0),(97,.list 12 (aA alts)),(98,.int .i64 alts.length),(99,.int .i64 a.1)])
     (fun a=>H.set id (.cells g 3 [.agg [.str s,.int .i64 a.2.1,.bool a.2.2]])++[.cells 0 8 [.agg [.int .i64 kd,.str nm,.int .i64 nn,.int .i64 op,.list 1 (names.map .str),.list 8 (aj ad),.list 9 (ao binds),.list 12 (aA alts)]]]) (fun a=>alts.length - a.1)
     (fun a=>a.1≤alts.length∧0≤a.2.1∧a.2.1+cp (alts.drop a.1)≤n2+cp alts∧a.2.1+lW s (kd=6∧nm=s) (alts.drop a.1)=n2+lW s (kd=6∧nm=s) alts∧(a.2.2||j7 s (decide (0<lams)||decide (kd=3)) (kd=6∧nm=s) (alts.drop a.1))=(b2||j7 s (decide (0<lams)||decide (kd=3)) (kd=6∧nm=s) alts))
     (0,n2,b2) ⟨Nat.zero_le _,by simp only;omega,Int.le_refl _,rfl,rfl⟩ ?_ ?_
    ·exact bB (n0:=H.length) [(H.length,0)] hG hB (by rw[hC]) (hcl.set rfl)
    ·rintro K2 ⟨i,n',b'⟩ ⟨hi,h1,h2,h3,h4⟩ hK2
     simp only at hi h1 h2 h3 h4
     (refine bP ?_;with_reducible repeat' first|exact trivial|(apply af.mk<;>intro hb)|apply ax.mk)
     ·have hi':i<alts.length:=by omega
      rw[List.drop_eq_getElem_cons hi'] at h2 h3 h4
      simp only[cp,lW,j7,r8,tP] at h2 h3 h4
      have hm:=cN (List.getElem_mem hi')
      have hm2:=alts[i].cZ
      have hm3:=alts[i].ku
      have ho:=lX s alts[i].body
      refine qI ?_ (gp G alts[i].names s _ (by omega)) ?_
      ·exact cv
      rintro r H' ⟨rfl,rfl⟩
      have hc6:∀ (h:¬ s∈alts[i].names) (h2:¬ (kd=6∧nm=s)),(s∈alts[i].names∨kd=6∧nm=s)=False:=fun h h2=>by simp only[h,h2,or_self]
      have go:∀ (hf:(s∈alts[i].names∨kd=6∧nm=s)=False),n'+fX s alts[i].body+cp (alts.drop (i+1))≤n2+cp alts∧n'+fX s alts[i].body+lW s (kd=6∧nm=s) (alts.drop (i+1))=n2+lW s (kd=6∧nm=s) alts∧(b'||eA s (decide (0<lams)||decide (kd=3)) alts[i].body||j7 s (decide (0<lams)||decide (kd=3)) (kd=6∧nm=s) (alts.drop (i+1)))=(b2||j7 s (decide (0<lams)||decide (kd=3)) (kd=6∧nm=s) alts):=fun hf=>by
       simp only[hf,if_false] at h3 h4
       refine⟨by omega,by omega,?_⟩
       rw[← h4,Bool.or_assoc]
      have stay:∀ (hf:(s∈alts[i].names∨kd=6∧nm=s)=True),n'+cp (alts.drop (i+1))≤n2+cp alts∧n'+lW s (kd=6∧nm=s) (alts.drop (i+1))=n2+lW s (kd=6∧nm=s) alts∧(b'||j7 s (decide (0<lams)||decide (kd=3)) (kd=6∧nm=s) (alts.drop (i+1)))=(b2||j7 s (decide (0<lams)||decide (kd=3)) (kd=6∧nm=s) alts):=fun hf=>by
       simp only[hf,if_true] at h3 h4
       refine⟨by omega,by omega,?_⟩
       rw[← h4];simp
      have e:decide (0<(lams+if kd=3 then 1 else 0))=(decide (0<lams)||decide (kd=3)):=by
       by_cases h:kd=3<;>simp[h]<;>omega
      (refine bP ?_;with_reducible repeat' first|exact trivial|(apply af.mk<;>intro hb)|apply ax.mk)
      ·obtain⟨g1,g2,g3⟩:=go (hc6 ‹_› fun h=>hb h.1)
       refine fg ?_ rfl (look_ok G hG m alts[i].body _ id g s n' (lams+if kd=3 then 1 else 0) b' (by omega) (jO hlt) h1 (by omega) hlm.1 (by omega)) ?_
       ·exact cv
       intro r H' hH
       rw[iL hlt,e] at hH
       subst hH
       (refine bP ?_;with_reducible repeat' first|exact trivial|(apply af.mk<;>intro hb)|apply ax.mk)
       refine hK2 _ _ (i+1,n'+fX s alts[i].body,b'||eA s (decide (0<lams)||decide (kd=3)) alts[i].body) (by simp only;omega) ⟨by simp only;omega,by simp only;omega,g1,g2,g3⟩ ?_
       exact bB (n0:=H.length) [(H.length,0)] hG hB (by rw[hC]) (hcl.set rfl)
      ·obtain⟨g1,g2,g3⟩:=go (hc6 ‹_› fun h=>hb h.2)
       refine fg ?_ rfl (look_ok G hG m alts[i].body _ id g s n' (lams+if kd=3 then 1 else 0) b' (by omega) (jO hlt) h1 (by omega) hlm.1 (by omega)) ?_
       ·exact cv
       intro r H' hH
       rw[iL hlt,e] at hH
       subst hH
       (refine bP ?_;with_reducible repeat' first|exact trivial|(apply af.mk<;>intro hb)|apply ax.mk)
       refine hK2 _ _ (i+1,n'+fX s alts[i].body,b'||eA s (decide (0<lams)||decide (kd=3)) alts[i].body) (by simp only;omega) ⟨by simp only;omega,by simp only;omega,g1,g2,g3⟩ ?_
       exact bB (n0:=H.length) [(H.length,0)] hG hB (by rw[hC]) (hcl.set rfl)
      ·rename_i q1 q2
       obtain⟨g1,g2,g3⟩:=stay (eq_true (.inr ⟨Decidable.of_not_not q2,Decidable.of_not_not hb⟩))
       refine hK2 _ _ (i+1,n',b') (by simp only;omega) ⟨by simp only;omega,h1,g1,g2,g3⟩ ?_
       exact bB (n0:=H.length) [(H.length,0)] hG hB (by rw[hC]) (hcl.set rfl)
      ·obtain⟨g1,g2,g3⟩:=stay (eq_true (.inl (Decidable.of_not_not hb)))
       refine hK2 _ _ (i+1,n',b') (by simp only;omega) ⟨by simp only;omega,h1,g1,g2,g3⟩ ?_
       exact bB (n0:=H.length) [(H.length,0)] hG hB (by rw[hC]) (hcl.set rfl)
     ·have hi':i=alts.length:=by omega
      subst hi'
      rw[List.drop_length] at h3 h4
      simp only[lW,j7,Bool.or_false] at h3 h4
      refine hK _ _ (n',b') (by rw[← h4,← h3];simp) ?_
      exact bB (n0:=H.length) [(H.length,0)] hG hB (by rw[hC]) (hcl.set rfl)
   rintro _ rfl
   (refine bP ?_;with_reducible repeat' first|exact trivial|(apply af.mk<;>intro hb)|apply ax.mk)
   refine Fin.dx (n0:=H.length) hR (by simp) hC' (hcl.set rfl) (.same _ rfl) ?_
   simp only[fX,eA,if_neg hkd,if_neg hno,tl]
   rw[← hn2',← hn1',← hb2',← hb1']
   simp only[Int.natCast_add,Int.add_assoc,Bool.or_assoc]
theorem FU (G:Gl) (hG:aw G) (e:Ex) (s:aI) (H:List az) (hw0:e.wt<4294967296):ag Tryz.prog G 50 [e.sv,.str s] H (fun r H'=>H'=H∧r= .tuple [.int .i64 (fX s e),.bool (eA s false e)]):=by
 refine ag.aK TB [] aF _ Tryz.func50 rfl (by decide) Tryz.ntmps50 (by simp) rfl (by simp only[au,Nat.reduceAdd];rfl) fun C R' hR hC hcl hB=>?_;have X:=aO;have hC':=congrArg List.length hC
 have hC':C.H.length=H.length:=by rw[hC]
 (refine run ?_;with_reducible repeat' first|exact trivial|(apply af.mk<;>intro hb)|apply ax.mk)
 refine fg ?_ rfl (look_ok G hG _ e _ (H.length+1) 0 s 0 0 false (Nat.le_refl _) (by simp[tl]) (by omega) (by omega) (by omega) (by omega)) ?_
 ·exact cv
 rintro r H' rfl
 simp only[xR,uo,cq,dB,List.set_cons_succ,List.set_cons_zero,tl,Int.zero_add,Bool.false_or,show decide ((0:Int)<0)=false from rfl]
 (refine run ?_;with_reducible repeat' first|exact trivial|(apply af.mk<;>intro hb)|apply ax.mk)
 exact Fin.dx (n0:=H.length) hR (by simp) hC' hcl (.same _ rfl) ⟨rfl,rfl⟩
theorem xY (G:Gl) (hG:aw G) (hB0:eJ G 0) (cs:List Cn) (e:Ex) (s:aI) (H:List az) (hw:e.wt<4294967296) (hs:Sh cs e):
 ag Tryz.prog G 16 [e.sv,.str s] H (fun r H'=>H'=H∧r= .bool (oS e s)):=by
 have c1:=fun H=>FU G hG e s H hw
 have c2:=fun H=>xi G hG hB0 cs e.wt e s H (Nat.le_refl _) hw hs
 unfold oS Dx
 generalize fX s e=n at*
 generalize eA s false e=b0 at*
 generalize b9 e.wt e s=b1 at*
 obtain⟨k2,n2,nn2,op2,ns2,ss2,bs2,as2⟩:=e
 refine ag.aK TB [] aF _ Tryz.func16 rfl (by decide) Tryz.ntmps16 (by simp) rfl (by simp only[au,Nat.reduceAdd];rfl) fun C R' hR hC hcl hB=>?_;have X:=aO;have hC':=congrArg List.length hC
 by_cases hn:n=1
 ·have hn':(n:Int)=1:=by omega
  have X:=And.intro aO hn'
  (refine run ?_;with_reducible repeat' first|exact trivial|(apply af.mk<;>intro hb)|apply ax.mk)
  exact aS (n0:=H.length) hR hC' hcl (.same _ rfl) ⟨rfl,by simp[hn,bA]⟩
 ·have hn':¬ (n:Int)=1:=by omega
  have X:=And.intro aO hn'
  (refine run ?_;with_reducible repeat' first|exact trivial|(apply af.mk<;>intro hb)|apply ax.mk)
  exact aS (n0:=H.length) hR hC' hcl (.same _ rfl) ⟨rfl,by simp[hn,bA,pk]⟩
theorem sj (G:Gl) (hG:aw G) (e:Ex) (H:List az):ag Tryz.prog G 108 [e.sv] H (fun r H'=>H'=H∧r= .tuple [.agg [.str e.name,.int .i64 e.n],.bool (pn e)]):=by
 have h1:pn e=(decide (e.kind=1)||decide (e.kind=2)):=rfl
 rw[h1]
 obtain⟨k2,n2,nn2,op2,ns2,ss2,bs2,as2⟩:=e
 simp only[Ex.name,Ex.n,Ex.kind]
 refine ag.aK TB [] aF _ Tryz.func108 rfl (by decide) Tryz.ntmps108 (by simp) rfl (by simp only[au,Nat.reduceAdd];rfl) fun C R' hR hC hcl hB=>?_;have X:=aO;have hC':=congrArg List.length hC
 by_cases hk:k2=1
 ·have X:=And.intro aO hk
  (refine run ?_;with_reducible repeat' first|exact trivial|(apply af.mk<;>intro hb)|apply ax.mk)
  exact aS (n0:=H.length) hR hC' hcl (.same _ rfl) ⟨rfl,by first|(simp[hk,pk,bA];done)|(simp[hk,pk,bA];congr)⟩
 ·have X:=And.intro aO hk
  (refine run ?_;with_reducible repeat' first|exact trivial|(apply af.mk<;>intro hb)|apply ax.mk)
  exact aS (n0:=H.length) hR hC' hcl (.same _ rfl) ⟨rfl,by first|(simp[hk,pk,bA];done)|(simp[hk,pk,bA];congr)⟩
theorem nU (G:Gl) (hG:aw G) (C0:Cx) (hb0:G.base=some C0) (hl0:gZ C0) (mb g0 nx:Nat) (kb:SV) (H:List az) (h2:H[mb]? =some (.cells g0 2 [.agg [.int .i64 (nx:Int),kb]])) (hn:nx<4294967295):
 ag Tryz.prog G 109 [.ptr mb g0 0 0] H (fun r H'=>H'=H.set mb (.cells g0 2 [.agg [.int .i64 ((nx+1:Nat):Int),kb]])∧r= .str (eB bW nx)):=by
 obtain⟨hil,c1⟩:=Fs G C0 hb0 hl0 nx (by omega)
 have lm:=(List.getElem?_eq_some_iff.1 h2).1
 have hmx:2+(bW nx).length≤maxLen:=by unfold maxLen;omega
 unfold eB
 generalize bW nx=s at*
 refine ag.aK TB [] aF _ Tryz.func109 rfl (by decide) Tryz.ntmps109 (by simp) rfl (by simp only[au,Nat.reduceAdd];rfl) fun C R' hR hC hcl hB=>?_;have X:=aO;have hC':=congrArg List.length hC
 have hww:=wrap_i64 ((nx+1:Nat):Int) (by omega)
 have e1:(nx:Int)+1=((nx+1:Nat):Int):=by omega
 have hx:=fun L=>(show(H++L)[mb]? =some (.cells g0 2 [.agg [.int .i64 (nx:Int),kb]]) by rw[du lm];exact h2)
 have X:=And.intro aO (And.intro h2 (And.intro hmx (And.intro e1 hww)))
 (refine run ?_;with_reducible repeat' first|exact trivial|(apply af.mk<;>intro hb)|apply ax.mk)
 exact Fin.out hR ⟨rfl,rfl⟩
theorem uJ (G:Gl) (hG:aw G) (l:List Ar) (H:List az):ag Tryz.prog G 146 [.list 9 (bO l)] H (fun r H'=>H'=H∧r= .fn (.func 166) [] [.iR (.list 9 (bO l))]):=by
 refine ag.aK TB [] aF _ Tryz.func146 rfl (by decide) Tryz.ntmps146 (by simp) rfl (by simp only[au,Nat.reduceAdd];rfl) fun C R' hR hC hcl hB=>?_;have X:=aO;have hC':=congrArg List.length hC
 (refine bP ?_;with_reducible repeat' first|exact trivial|(apply af.mk<;>intro hb)|apply ax.mk)
 refine Fin.dx (n0:=H.length) hR (by simp) (by rw[hC]) hcl (.fn _ _ _ _ _ .nil (.cons _ _ _ _ ?_ .nil)) ⟨rfl,rfl⟩
 refine .ptr _ _ _ _ _ _ _ (by exact dL) (Nat.le_refl _) (by simp) rfl (.same _ ?_)
 exact dD _ _
theorem vR {l:List Ar} {b:Nat} (h:b<l.length):(bO l)[b]? =some (.agg l[b].cells):=by simp[bO,h]
theorem Ar.aH (a:Ar):a.cells.length=9:=by
 cases a with
 |bs l=>rfl
 |look s x=>simp[Ar.cells,Sg.aH]
theorem s7 (G:Gl) (l:List Ar) (hl:l.length<1099511627776) (n1:Nat) (Hs:Nat→List az)
 (hy:∀ i (h:i<l.length) X,bL Tryz.prog G (.it n1) [.int .i64 i,.agg l[i].cells] (Hs (i+1)++X) (fun r H'=>H'=Hs i++X∧r= .bool true)):
 ag Tryz.prog G 166 [.it n1,.iR (.list 9 (bO l))] (Hs l.length) (fun r H'=>H'=Hs 0):=by
 have hlm:=e9 l
 refine ag.aK TB [] aF _ Tryz.func166 rfl (by decide) Tryz.ntmps166 (by simp) rfl (by simp only[au,Nat.reduceAdd];rfl) fun C R' hR hC hcl hB=>?_;have X:=aO;have hC':=congrArg List.length hC
 have X:=And.intro X hlm
 (refine bP ?_;with_reducible repeat' first|exact trivial|(apply af.mk<;>intro hb)|apply ax.mk)
 refine aC (fun a:Nat=>[(0,.it n1),(1,.iR (.list 9 (bO l))),(3,.int .i64 ((a:Int) - 1))]) (fun a=>Hs a) (fun a=>a) (fun a=>a≤l.length) l.length (Nat.le_refl _) (Wk.sub (by simp[bR,look])) ?_
 intro K a ha hK
 rcases Nat.eq_zero_or_pos a with h0|hpos
 ·subst h0
  have hn:¬ (0:Int)≤((0:Nat):Int) - 1:=by omega
  have X:=And.intro aO hn
  clear hK
  (refine bP ?_;with_reducible repeat' first|exact trivial|(apply af.mk<;>intro hb)|apply ax.mk)
  exact Fin.out hR rfl
 ·obtain⟨b,rfl⟩:∃ b,a=b+1:=⟨a - 1,by omega⟩
  have hlt:b<l.length:=by omega
  have e:(((b+1:Nat):Int) - 1)=(b:Int):=by omega
  have hge:(0:Int)≤(b:Int):=by omega
  have g1:=vR hlt
  have hcall:=hy b hlt []
  rw[List.append_nil,List.append_nil] at hcall
  have hx9:=l[b].aH
  have hxd:l[b].cells.drop 9=[]:=List.drop_eq_nil_of_le (by omega)
  generalize l[b]=x at*
  have X:=And.intro aO (And.intro e (And.intro hge (And.intro g1 (And.intro hx9 hxd))))
  rw[e]
  (refine bP ?_;with_reducible repeat' first|exact trivial|(apply af.mk<;>intro hb)|apply ax.mk)
  refine nW rfl ?_ rfl hcall ?_
  ·exact cv
  rintro r H' ⟨rfl,rfl⟩
  (refine bP ?_;with_reducible repeat' first|exact trivial|(apply af.mk<;>intro hb)|apply ax.mk)
  refine hK _ _ b (by omega) (by omega) ?_
  exact Wk.sub (by simp[bR,look])
theorem B5 (G:Gl) (hG:aw G) (x:Sg) (s:aI) (e:Sg) (H:List az):ag Tryz.prog G 147 [.agg x.cells,.str s,.agg e.cells] H (fun r H'=>H'=H∧r=(Hy (.look s x) e).sv):=by
 obtain⟨k1,n1,o1,a1,s1,b1,l1⟩:=x
 obtain⟨k2,n2,o2,a2,s2,b2,l2⟩:=e
 have hu:=fun n=>Sg.aP n (Hy (.look s (.mk k1 n1 o1 a1 s1 b1 l1)) (.mk k2 n2 o2 a2 s2 b2 l2))
 refine ag.aK TB [] aF _ Tryz.func147 rfl (by decide) Tryz.ntmps147 (by simp) rfl (by simp only[au,Nat.reduceAdd];rfl) fun C R' hR hC hcl hB=>?_;have X:=aO;have hC':=congrArg List.length hC
 (refine run ?_;with_reducible repeat' first|exact trivial|(apply af.mk<;>intro hb)|apply ax.mk)
 exact aS (n0:=H.length) hR hC' hcl (.same _ (by simp only[bA,SV.under];exact hu _)) ⟨rfl,rfl⟩
theorem zw {l:List Ar} {j:Nat} (h:j<l.length) (e:Sg):Hy l[j] (dy (l.drop (j+1)) e)=dy (l.drop j) e:=by rw[List.drop_eq_getElem_cons h];rfl
theorem zx (G:Gl) (hG:aw G) (l:List Ar) (hok:∀ a∈l,a.ok) (hl:l.length<1099511627776) (e:Sg) (H:List az):ag Tryz.prog G 111 [.agg e.cells,.list 9 (bO l)] H (fun r H'=>H'=H∧r=(dy l e).sv):=by
 obtain⟨W,hW⟩:∃ W:Nat→Sg,∀ j,W j=dy (l.drop j) e:=⟨fun j=>_,fun j=>rfl⟩
 have hWn:e=W l.length:=by rw[hW,List.drop_length];rfl
 have hW0:dy l e=W 0:=by rw[hW,List.drop_zero]
 have hWs:∀ j (h:j<l.length),Hy l[j] (W (j+1))=W j:=fun j h=>by rw[hW,hW];exact zw h e
 have hWu:=fun n j=>Sg.aP n (W j)
 have hW7:=fun j=>(W j).aH
 rw[hW0]
 clear hW hW0
 have he7:=e.aH
 have heu:=fun n=>Sg.aP n e
 refine ag.aK TB [] aF _ Tryz.func111 rfl (by decide) Tryz.ntmps111 (by simp) rfl (by simp only[au,Nat.reduceAdd];rfl) fun C R' hR hC hcl hB=>?_;have X:=aO;have hC':=congrArg List.length hC
 have X:=And.intro aO he7
 (refine run ?_;with_reducible repeat' first|exact trivial|(apply af.mk<;>intro hb)|apply ax.mk)
 refine bh (uJ G hG l _) ?_
 rintro r H' ⟨rfl,rfl⟩
 rw[hWn]
 (refine run ?_;with_reducible repeat' first|exact trivial|(apply af.mk<;>intro hb)|apply ax.mk)
 refine nZ aF (σ:=Nat) (ξ:=Nat×Ar) (fun j=>H++[.cells 0 7 [.agg (W j).cells],.cells 0 7 [.agg [.int .i64 0,.str [],.int .i64 0,.list 2 [],.list 7 [],.list 8 [],.list 11 []]]]) (H.length+2) (fun s=>by simp) l.length
  [(2,.ptr H.length 0 0 0),(4,.ptr (H.length+1) 0 0 0),(8,.fn (.func 166) [] [.iR (.list 9 (bO l))])] (fun x=>[.int .i64 x.1,.agg x.2.cells]) (fun s x=>s=x.1+1∧l[x.1]? =some x.2) (fun s x=>x.1) (fun s=>s=0)
  (fun x=>[(10,.agg x.2.cells),(9,.int .i64 x.1),(2,.ptr H.length 0 0 0),(4,.ptr (H.length+1) 0 0 0),(8,.fn (.func 166) [] [.iR (.list 9 (bO l))])]) rfl rfl (fun x=>rfl) (fun x=>rfl) ?_ ?_ ?_ ?_
 ·exact Wk.sub (by simp[bR,look])
 ·intro G' LO hGl hLO hy
  have:=s7 G' l hl (H.length+2) (fun i=>(H++[.cells 0 7 [.agg (W i).cells],.cells 0 7 [.agg [.int .i64 0,.str [],.int .i64 0,.list 2 [],.list 7 [],.list 8 [],.list 11 []]]])++[LO]) (fun i hi Y=>by
   have:=hy (i+1) (i,l[i]) Y ⟨rfl,List.getElem?_eq_getElem _⟩
   simpa only[List.append_assoc,List.cons_append,List.nil_append] using this)
  exact this.mono fun r H' h=>⟨0,rfl,h⟩
 ·rintro G' C' ρ' s ⟨j,x⟩ Y LO LB K1 K hGl hB' hCH hcl' hLO hLB ⟨hs,hb⟩ hK1 hK
  subst hs
  have hj:j<l.length:=(List.getElem?_eq_some_iff.1 hb).1
  have hbe:l[j]=x:=(List.getElem?_eq_some_iff.1 hb).2
  have hw:=hWs j hj
  have hx:=hok _ (List.getElem_mem hj)
  rw[hbe] at hw hx
  have hG':aw G':=by unfold aw;rw[hGl];exact hG
  have hclj:closed (H++ .cells 0 7 [.agg (W j).cells]:: .cells 0 7 [.agg [.int .i64 0,.str [],.int .i64 0,.list 2 [],.list 7 [],.list 8 [],.list 11 []]]::LB::Y):=by
   simp only[List.append_assoc,List.cons_append,List.nil_append] at hcl'
   refine pR hcl' (by simp) (fun q hq=>?_)
   simp only[List.mem_cons] at hq
   rcases hq with rfl|rfl|rfl|hq
   ·simp only[az.under,SV.aB,SV.under,hWu,Bool.and_self]
   ·rfl
   ·exact az.sU (Nat.zero_le _) hLB
   ·have:=hcl' q (by simp[hq])
    simpa using this
  have h8:=hW7 (j+1)
  have h8j:=hW7 j
  cases x with
  |bs bs=>
   rw[← hw] at h8j hclj hK
   have hbn:bs≠[]:=hx
   simp only[Ar.cells,HF,Hy] at*
   simp only[List.append_assoc,List.cons_append,List.nil_append] at hcl' hCH ⊢
   have X:=And.intro aO h8
   (refine run ?_;with_reducible repeat' first|exact trivial|(apply af.mk<;>intro hb)|apply ax.mk)
   refine hK1 _ _ (by rw[bJ];rfl) ?_
   simp only[cq,List.set_cons_succ,List.set_cons_zero]
   (refine run ?_;with_reducible repeat' first|exact trivial|(apply af.mk<;>intro hb)|apply ax.mk)
   ·rw[cc] at hb
    exact absurd (List.length_eq_zero_iff.1 hb) hbn
   ·refine hK _ _ ?_
    simp only[List.append_assoc,List.cons_append,List.nil_append]
    rw[show ∀ (x1 x2 x3 x4:az),H++x1::x2::x3::(Y++[x4])=(H++x1::x2::x3::Y)++[x4] from fun _ _ _ _=>by simp]
    exact Wk.tell hG' (fun C0 h0=>by have:=hB' C0 h0;rw[hCH] at this;simpa using this) (by rw[hCH];simp) hclj trivial
  |look n s=>
   simp only[Ar.cells] at*
   simp only[List.append_assoc,List.cons_append,List.nil_append] at hcl' hCH ⊢
   have h7s:=s.aH
   have X:=And.intro aO (And.intro h8 (And.intro h7s s.aU))
   (refine run ?_;with_reducible repeat' first|exact trivial|(apply af.mk<;>intro hb)|apply ax.mk)
   refine hK1 _ _ (by rw[bJ];rfl) ?_
   simp only[cq,List.set_cons_succ,List.set_cons_zero]
   (refine run ?_;with_reducible repeat' first|exact trivial|(apply af.mk<;>intro hb)|apply ax.mk)
   refine bh (B5 G' hG' s n (W (j+1)) _) ?_
   rintro r H' ⟨rfl,rfl⟩
   rw[hw,show(W j).sv= .agg (W j).cells from rfl]
   have hd7:(W (j+1)).cells.drop 7=[]:=List.drop_eq_nil_of_le (by omega)
   have X:=And.intro aO (And.intro h8j (And.intro (W j).aU (And.intro h8 hd7)))
   (refine run ?_;with_reducible repeat' first|exact trivial|(apply af.mk<;>intro hb)|apply ax.mk)
   ·refine hK _ _ ?_
    simp only[List.append_assoc,List.cons_append,List.nil_append]
    rw[show ∀ (x1 x2 x3 x4:az),H++x1::x2::x3::(Y++[x4])=(H++x1::x2::x3::Y)++[x4] from fun _ _ _ _=>by simp]
    exact Wk.tell hG' (fun C0 h0=>by have:=hB' C0 h0;rw[hCH] at this;simpa using this) (by rw[hCH];simp) hclj trivial
 ·intro s LO hs hLO
  subst hs
  simp only[List.append_assoc,List.cons_append,List.nil_append]
  have h80:=hW7 0
  have X:=And.intro aO h80
  (refine run ?_;with_reducible repeat' first|exact trivial|(apply af.mk<;>intro hb)|apply ax.mk)
  exact aS (n0:=H.length) hR hC' hcl (.same _ (by simp only[bA,SV.under];exact hWu _ _)) ⟨rfl,rfl⟩
end Go.Proofs.YtedejleokilohaaGreatDoor
