/- A part of the proof: N3, L0, L1, S5, S3, Z1, G1, P1, P2, G2, G3, T1, G4, G5. Names and spaces are cut short by program. -/
import Derived.Test.YtedejleokilohaaGreatDoorMh
set_option linter.unusedSimpArgs false
set_option linter.unusedVariables false
set_option maxRecDepth 10000
set_option maxHeartbeats 4000000
namespace Go.Proofs.YtedejleokilohaaGreatDoor
open Go
def RbnC (G:Gl) (m:Nat):Prop:=∀ (e:Ex) (H:List Blk),e.wt≤m→e.wt<4294967296→ACall Tryz.prog G 48 [e.sv] H (fun r H'=>H'=H++[.cells 0 1 ((bndF m e).map .str)]∧r= .sl H.length 0 0 (bndF m e).length)
theorem rbinders_ok (G:Gl) (hG:GClosed G):∀ m,RbnC G m
 |0,e,H,h,_=>absurd e.wt_pos (by omega)
 |m+1,e,H,hm,hw0=>by
  have hrec:=rbinders_ok G hG m
  obtain⟨kd,nm,nn,op,names,subs,binds,alts⟩:=e
  have hle:=Ex.wt_lens kd nm nn op names subs binds alts
  have hln:=bndF_len (m+1) (.mk kd nm nn op names subs binds alts)
  have hpw:∀ p∈(Ex.mk kd nm nn op names subs binds alts).parts,p.wt≤m∧p.wt<4294967296:=fun p hp=>by have:=Ex.wt_parts hp;exact⟨by omega,by omega⟩
  rw[Ex.parts_mk] at hpw
  have eb:bndF (m+1) (.mk kd nm nn op names subs binds alts)=(if kd=3 then names else [])++subs.flatMap (bndF m)++binds.flatMap (fun b=>b.name::bndF m b.e)++(if kd=6 then [nm] else [])++alts.flatMap (fun a=>a.names++bndF m a.body):=rfl
  rw[eb] at hln ⊢
  clear eb
  have h3n:(if kd=3 then names else []).length≤names.length:=by split<;>simp
  generalize hl0:(if kd=3 then names else [])=l0 at*
  generalize hl5:(if kd=6 then [nm] else [])=l5 at*
  obtain⟨L1,a1,a2,a3,a4⟩:=flat_seq (bndF m) l0 subs
  rw[← a4] at hln ⊢
  obtain⟨L2,b1,b2,b3,b4⟩:=flat_seq (fun b:Bd=>b.name::bndF m b.e) (L1 subs.length) binds
  rw[← b4] at hln ⊢
  obtain⟨L4,d1,d2,d3,d4⟩:=flat_seq (fun a:Al=>a.names++bndF m a.body) (L2 binds.length++l5) alts
  rw[← d4] at hln ⊢
  rw[← a4] at a3
  rw[← b4] at b3
  rw[← d4] at d3
  have q4:(L2 binds.length).length+l5.length≤(L4 alts.length).length:=by have:=d3 0;rw[d1,List.length_append] at this;exact this
  have q2:(L1 subs.length).length≤(L2 binds.length).length:=by have:=b3 0;rw[b1] at this;exact this
  generalize hW:(Ex.mk kd nm nn op names subs binds alts).wt=W at*
  refine ACall.of_go TB [3] tabOK _ Tryz.func48 rfl (by decide) Tryz.ntmps48 (by simp) rfl (by simp only[initEnv,Nat.reduceAdd];rfl) fun C R' hR hC hcl hB=>?_;have X:=noX;have hC':=congrArg List.length hC
  (refine runC ?_;with_reducible repeat' first|exact trivial|(apply Fork.mk<;>intro hb)|apply Two.mk)
  refine go_cut (fun _:Unit=>[(1,.ptr H.length 0 0 0),(3,.sl (H.length+1) 0 0 l0.length)]) (fun _=>H++[.cells 0 8 [.agg [.int .i64 kd,.str nm,.int .i64 nn,.int .i64 op,.list 1 (names.map .str),.list 8 (exCells subs),.list 9 (bdCells binds),.list 12 (alCells alts)]],.cells 0 1 (l0.map .str)]) (fun _=>True) (fun K hK=>?_) (fun _ _=>?_)
  ·(refine runO ?_;with_reducible repeat' first|exact trivial|(apply Fork.mk<;>intro hb)|apply Two.mk)
   ·refine hK _ _ () trivial ?_
    rw[if_pos hb] at hl0
    subst hl0
    exact wkS (n0:=H.length) [(H.length,0),(H.length+1,0)] hG hB hC' hcl
   ·refine hK _ _ () trivial ?_
    rw[if_neg hb] at hl0
    subst hl0
    simp only[List.length_nil,List.map_nil]
    exact wkS (n0:=H.length) [(H.length,0),(H.length+1,0)] hG hB hC' hcl
  (refine runO ?_;with_reducible repeat' first|exact trivial|(apply Fork.mk<;>intro hb)|apply Two.mk)
  refine go_loop (fun i:Nat=>[(1,.ptr H.length 0 0 0),(3,.sl (H.length+1) 0 0 (L1 i).length),(4,.int .i64 i)])
   (fun i=>H++[.cells 0 8 [.agg [.int .i64 kd,.str nm,.int .i64 nn,.int .i64 op,.list 1 (names.map .str),.list 8 (exCells subs),.list 9 (bdCells binds),.list 12 (alCells alts)]],.cells 0 1 ((L1 i).map .str)]) (fun i=>subs.length - i) (fun i=>i≤subs.length) 0 (Nat.zero_le _) ?_ ?_
  ·rw[a1]
   exact Wk.sub (by simp[subEnv,look])
  rintro K i hi hK
  rcases Nat.lt_or_ge i subs.length with hlt|hge
  ·have c1:=fun H=>hrec subs[i] H (hpw _ (by simp)).1 (hpw _ (by simp)).2
   have e1:=a2 i hlt
   have e2:=a3 (i+1)
   have e3:=a3 i
   have e4:=bndF_len m subs[i]
   have e5:=(hpw subs[i] (by simp)).2
   rw[e1,List.length_append] at e2
   generalize bndF m subs[i]=l at*
   generalize L1 i=l1 at*
   have X:=And.intro noX (show(l1.map SV.str).length=l1.length∧(l.map SV.str).length=l.length from⟨List.length_map ..,List.length_map ..⟩)
   (refine run ?_;with_reducible repeat' first|exact trivial|(apply Fork.mk<;>intro hb)|apply Two.mk)
   refine hK _ _ (i+1) (by omega) (by omega) ?_
   rw[e1,List.map_append,show(l1++l).length=l1.length+l.length from List.length_append ..]
   exact wkS (n0:=H.length) [(H.length,0),(H.length+1,0)] hG hB hC' hcl
  obtain rfl:i=subs.length:=by omega
  clear hK
  (refine runO ?_;with_reducible repeat' first|exact trivial|(apply Fork.mk<;>intro hb)|apply Two.mk)
  refine go_loop (fun i:Nat=>[(1,.ptr H.length 0 0 0),(3,.sl (H.length+1) 0 0 (L2 i).length),(5,.int .i64 i)])
   (fun i=>H++[.cells 0 8 [.agg [.int .i64 kd,.str nm,.int .i64 nn,.int .i64 op,.list 1 (names.map .str),.list 8 (exCells subs),.list 9 (bdCells binds),.list 12 (alCells alts)]],.cells 0 1 ((L2 i).map .str)]) (fun i=>binds.length - i) (fun i=>i≤binds.length) 0 (Nat.zero_le _) ?_ ?_
  ·rw[b1]
   exact Wk.sub (by simp[subEnv,look])
  rintro K i hi hK
  rcases Nat.lt_or_ge i binds.length with hlt|hge
  ·have hpb:=hpw binds[i].e (by simp;exact .inr (.inl ⟨_,List.getElem_mem hlt,rfl⟩))
   have c1:=fun H=>hrec binds[i].e H hpb.1 hpb.2
   have e1:=b2 i hlt
   have e2:=b3 (i+1)
   have e3:=b3 i
   have e4:=bndF_len m binds[i].e
   rw[e1,List.length_append] at e2
   simp only[List.length_cons] at e2
   generalize bndF m binds[i].e=l at*
   generalize L2 i=l1 at*
   have X:=And.intro noX (show(l1.map SV.str).length=l1.length∧(l.map SV.str).length=l.length from⟨List.length_map ..,List.length_map ..⟩)
   (refine run ?_;with_reducible repeat' first|exact trivial|(apply Fork.mk<;>intro hb)|apply Two.mk)
   refine hK _ _ (i+1) (by omega) (by omega) ?_
   rw[e1,List.map_append,List.map_cons,show(l1++binds[i].name::l).length=l1.length+(1+l.length) from by simp;omega]
   exact wkS (n0:=H.length) [(H.length,0),(H.length+1,0)] hG hB hC' hcl
  obtain rfl:i=binds.length:=by omega
  clear hK
  (refine runC ?_;with_reducible repeat' first|exact trivial|(apply Fork.mk<;>intro hb)|apply Two.mk)
  refine go_condDF rfl (by omega) ?_
  (refine runC ?_;with_reducible repeat' first|exact trivial|(apply Fork.mk<;>intro hb)|apply Two.mk)
  refine go_cut (fun _:Unit=>[(1,.ptr H.length 0 0 0),(3,.sl (H.length+1) 0 0 (L2 binds.length++l5).length)]) (fun _=>H++[.cells 0 8 [.agg [.int .i64 kd,.str nm,.int .i64 nn,.int .i64 op,.list 1 (names.map .str),.list 8 (exCells subs),.list 9 (bdCells binds),.list 12 (alCells alts)]],.cells 0 1 ((L2 binds.length++l5).map .str)]) (fun _=>True) (fun K hK=>?_) (fun _ _=>?_)
  ·have X:=And.intro noX (show((L2 binds.length).map SV.str).length=(L2 binds.length).length from List.length_map ..)
   (refine runO ?_;with_reducible repeat' first|exact trivial|(apply Fork.mk<;>intro hb)|apply Two.mk)
   ·refine hK _ _ () trivial ?_
    rw[if_pos hb] at hl5
    subst hl5
    rw[List.map_append,List.length_append,List.length_singleton]
    exact wkS (n0:=H.length) [(H.length,0),(H.length+1,0)] hG hB hC' hcl
   ·refine hK _ _ () trivial ?_
    rw[if_neg hb] at hl5
    subst hl5
    rw[List.append_nil]
    exact wkS (n0:=H.length) [(H.length,0),(H.length+1,0)] hG hB hC' hcl
  (refine runO ?_;with_reducible repeat' first|exact trivial|(apply Fork.mk<;>intro hb)|apply Two.mk)
  refine go_loop (fun i:Nat=>[(1,.ptr H.length 0 0 0),(3,.sl (H.length+1) 0 0 (L4 i).length),(6,.int .i64 i)])
   (fun i=>H++[.cells 0 8 [.agg [.int .i64 kd,.str nm,.int .i64 nn,.int .i64 op,.list 1 (names.map .str),.list 8 (exCells subs),.list 9 (bdCells binds),.list 12 (alCells alts)]],.cells 0 1 ((L4 i).map .str)]) (fun i=>alts.length - i) (fun i=>i≤alts.length) 0 (Nat.zero_le _) ?_ ?_
  ·rw[d1]
   exact Wk.sub (by simp[subEnv,look])
  rintro K i hi hK
  rcases Nat.lt_or_ge i alts.length with hlt|hge
  ·have hpb:=hpw alts[i].body (by simp;exact .inr (.inr ⟨_,List.getElem_mem hlt,rfl⟩))
   have c1:=fun H=>hrec alts[i].body H hpb.1 hpb.2
   have e1:=d2 i hlt
   have e2:=d3 (i+1)
   have e3:=d3 i
   have e4:=bndF_len m alts[i].body
   rw[e1,List.length_append] at e2
   simp only[List.length_append] at e2
   generalize bndF m alts[i].body=l at*
   generalize L4 i=l1 at*
   have X:=And.intro noX (show(l1.map SV.str).length=l1.length∧(l.map SV.str).length=l.length from⟨List.length_map ..,List.length_map ..⟩)
   (refine run ?_;with_reducible repeat' first|exact trivial|(apply Fork.mk<;>intro hb)|apply Two.mk)
   refine hK _ _ (i+1) (by omega) (by omega) ?_
   rw[e1,List.map_append,List.map_append,show(l1++(alts[i].names++l)).length=l1.length+(alts[i].names.length+l.length) from by simp]
   exact wkS (n0:=H.length) [(H.length,0),(H.length+1,0)] hG hB hC' hcl
  obtain rfl:i=alts.length:=by omega
  clear hK
  (refine runO ?_;with_reducible repeat' first|exact trivial|(apply Fork.mk<;>intro hb)|apply Two.mk)
  exact finK [(H.length+1,0)] (.sl H.length 0 0 (L4 alts.length).length) [.cells 0 1 ((L4 alts.length).map .str)] hR hC' hcl ⟨rfl,rfl⟩
def BdC (G:Gl) (m:Nat):Prop:=∀ (e:Ex) (H:List Blk) (at_:Nat),e.wt≤m→e.wt<4294967296→ACall Tryz.prog G 46 [e.sv,.int .i64 (at_:Int)] H (fun r H'=>∃ (n:Nat) (b:Bool),(H'=H∧r= .tuple [.int .i64 n,.bool b])∧n≤e.wt)
theorem bounded_ok (G:Gl) (hG:GClosed G):∀ m,BdC G m
 |0,e,H,at_,h,_=>absurd e.wt_pos (by omega)
 |m+1,e,H,at_,hm,hw0=>by
  have hrec:=bounded_ok G hG m
  have hep:=e.wt_pos
  by_cases hat:(300:Int)<(at_:Int)
  ·refine ACall.of_go TB [] tabOK _ Tryz.func46 rfl (by decide) Tryz.ntmps46 (by simp) rfl (by simp only[initEnv,Nat.reduceAdd];rfl) fun C R' hR hC hcl hB=>?_;have X:=noX;have hC':=congrArg List.length hC
   (refine runC ?_;with_reducible repeat' first|exact trivial|(apply Fork.mk<;>intro hb)|apply Two.mk)
   refine go_condDT rfl hat ?_
   (refine run ?_;with_reducible repeat' first|exact trivial|(apply Fork.mk<;>intro hb)|apply Two.mk)
   exact finS (n0:=H.length) hR hC' hcl (.same _ rfl) ⟨1,false,⟨rfl,rfl⟩,by omega⟩
  have hpt:=fun i (h:i<e.parts.length)=>Ex.wt_parts (List.getElem_mem h)
  have hpo:=fun H i (h:i<e.parts.length)=>part_ok G hG e hw0 i h H
  have hpw:=parts_wt e
  have hsum:∀ i (h:i<e.parts.length),((e.parts.take (i+1)).map Ex.wt).sum=((e.parts.take i).map Ex.wt).sum+e.parts[i].wt:=fun i h=>by rw[List.take_succ_eq_append_getElem h,List.map_append,List.sum_append,List.map_singleton,List.sum_singleton]
  have hsml:∀ i,((e.parts.take i).map Ex.wt).sum≤(e.parts.map Ex.wt).sum:=fun i=>by rw[List.map_take];exact sum_take_le i
  have hat2:(at_:Int)+1=((at_+1:Nat):Int):=by omega
  obtain⟨kd,nm,nn,op,names,subs,binds,alts⟩:=e
  have hle:=Ex.wt_lens kd nm nn op names subs binds alts
  have hpl:(Ex.mk kd nm nn op names subs binds alts).parts.length=subs.length+binds.length+alts.length:=by rw[Ex.parts_mk];simp;omega
  generalize hP:(Ex.mk kd nm nn op names subs binds alts).parts=P at*
  generalize hW:(Ex.mk kd nm nn op names subs binds alts).wt=W at*
  refine ACall.of_go TB [] tabOK _ Tryz.func46 rfl (by decide) Tryz.ntmps46 (by simp) rfl (by simp only[initEnv,Nat.reduceAdd];rfl) fun C R' hR hC hcl hB=>?_;have X:=noX;have hC':=congrArg List.length hC
  (refine runC ?_;with_reducible repeat' first|exact trivial|(apply Fork.mk<;>intro hb)|apply Two.mk)
  refine go_condDF rfl hat ?_
  (refine run ?_;with_reducible repeat' first|exact trivial|(apply Fork.mk<;>intro hb)|apply Two.mk)
  refine go_loop (fun a:Nat×Nat=>[(1,.int .i64 (at_:Int)),(2,.ptr H.length 0 0 0),(6,.int .i64 (a.2:Int)),(7,.int .i64 (a.1:Int))]) (fun _=>H++[.cells 0 8 [.agg [.int .i64 kd,.str nm,.int .i64 nn,.int .i64 op,.list 1 (names.map .str),.list 8 (exCells subs),.list 9 (bdCells binds),.list 12 (alCells alts)]]]) (fun a=>P.length - a.1) (fun a=>a.1≤P.length∧a.2≤1+((P.take a.1).map Ex.wt).sum) (0,1) ⟨Nat.zero_le _,by simp⟩ ?_ ?_
  ·exact wkS (n0:=H.length) [(H.length,0)] hG hB hC' hcl
  rintro K ⟨i,n⟩ ⟨hi,hn⟩ hK
  simp only at hi hn
  dsimp only
  have hs2:=hsml i
  rcases Nat.lt_or_ge i P.length with hlt|hge
  ·have hp1:=hpt i hlt
   have c1:=fun H=>hpo H i hlt
   have hs1:=hsum i hlt
   have hs3:=hsml (i+1)
   have hgd:(i:Int)<(subs.length:Int)+(binds.length:Int)+(alts.length:Int):=by omega
   have hcall:=fun H=>hrec P[i] H (at_+1) (by omega) (by omega)
   generalize P[i]=x at*
   have X:=And.intro noX (And.intro hat2 hgd)
   (refine run ?_;with_reducible repeat' first|exact trivial|(apply Fork.mk<;>intro hb)|apply Two.mk)
   refine callS (hcall _) ?_
   rintro r H' ⟨n2,b2,⟨rfl,rfl⟩,hn2⟩
   have hnn:(n:Int)+(n2:Int)=((n+n2:Nat):Int):=by omega
   have X:=And.intro noX hnn
   (refine run ?_;with_reducible repeat' first|exact trivial|(apply Fork.mk<;>intro hb)|apply Two.mk)
   ·exact finS (n0:=H.length) hR hC' hcl (.same _ rfl) ⟨n+n2,false,⟨rfl,rfl⟩,by omega⟩
   ·refine hK _ _ (i+1,n+n2) (by simp only;omega) ⟨by simp only;omega,by simp only;omega⟩ ?_
    dsimp only
    exact wkS (n0:=H.length) [(H.length,0)] hG hB hC' hcl
  ·have hgd:¬ (i:Int)<(subs.length:Int)+(binds.length:Int)+(alts.length:Int):=by omega
   have X:=And.intro noX hgd
   clear hK
   (refine run ?_;with_reducible repeat' first|exact trivial|(apply Fork.mk<;>intro hb)|apply Two.mk)
   exact finS (n0:=H.length) hR hC' hcl (.same _ rfl) ⟨n,true,⟨rfl,rfl⟩,by omega⟩
theorem Bounded_ok (G:Gl) (hG:GClosed G) (e:Ex) (hw:e.wt<4294967296) (H:List Blk):ACall Tryz.prog G 12 [e.sv] H (fun r H'=>∃ (n:Nat) (b:Bool),(H'=H∧r= .tuple [.int .i64 n,.bool b])∧n≤e.wt):=by
 refine ACall.of_go TB [] tabOK _ Tryz.func12 rfl (by decide) Tryz.ntmps12 (by simp) rfl (by simp only[initEnv,Nat.reduceAdd];rfl) fun C R' hR hC hcl hB=>?_;have X:=noX;have hC':=congrArg List.length hC
 (refine run ?_;with_reducible repeat' first|exact trivial|(apply Fork.mk<;>intro hb)|apply Two.mk)
 refine callS (bounded_ok G hG e.wt e _ 0 (Nat.le_refl _) hw) ?_
 rintro r H' ⟨n,b,⟨rfl,rfl⟩,hn⟩
 (refine run ?_;with_reducible repeat' first|exact trivial|(apply Fork.mk<;>intro hb)|apply Two.mk)
 exact finS (n0:=H.length) hR hC' hcl (.same _ rfl) ⟨n,b,⟨rfl,rfl⟩,hn⟩
theorem All_own (G:Gl) (hG:GClosed G) (cons:List Cn) (binds:List Bd) (H:List Blk) (hw:bdsWt binds<4294967296):
 ACall Tryz.prog G 14 [.agg [.list 4 (cnCells cons),.list 9 (bdCells binds)]] H (fun r H'=>H'=H++[.cells 0 1 ((bindersP binds).map .str)]∧r= .sl H.length 0 0 (bindersP binds).length):=by
 have hle:=bdsWt_len binds
 obtain⟨L2,b1,b2,b3,b4⟩:=flat_seq (fun b:Bd=>b.name::bnds b.e) [] binds
 have e0:bindersP binds=L2 binds.length:=by rw[b4,List.nil_append];rfl
 have hln:=bindersP_len binds
 rw[e0] at hln ⊢
 rw[← b4] at b3
 have under_ints:=fun n=>cnCells_under n cons
 refine ACall.of_go TB [3] tabOK _ Tryz.func14 rfl (by decide) Tryz.ntmps14 (by simp) rfl (by simp only[initEnv,Nat.reduceAdd];rfl) fun C R' hR hC hcl hB=>?_;have X:=noX;have hC':=congrArg List.length hC
 (refine run ?_;with_reducible repeat' first|exact trivial|(apply Fork.mk<;>intro hb)|apply Two.mk)
 refine go_loop (fun i:Nat=>[(1,.ptr H.length 0 0 0),(3,.sl (H.length+1) 0 0 (L2 i).length),(4,.int .i64 i)])
  (fun i=>H++[.cells 0 2 [.agg [.list 4 (cnCells cons),.list 9 (bdCells binds)]],.cells 0 1 ((L2 i).map .str)]) (fun i=>binds.length - i) (fun i=>i≤binds.length) 0 (Nat.zero_le _) ?_ ?_
 ·simp only[b1,List.length_nil,List.map_nil]
  exact wkS (n0:=H.length) [(H.length,0),(H.length+1,0)] hG hB hC' hcl
 rintro K i hi hK
 rcases Nat.lt_or_ge i binds.length with hlt|hge
 ·have hpb:=bd_wt (List.getElem_mem hlt)
  have c1:=fun H=>rbinders_ok G hG binds[i].e.wt binds[i].e H (Nat.le_refl _) (by omega)
  have e1:=b2 i hlt
  have e2:=b3 (i+1)
  have e3:=b3 i
  have e4:=bndF_len binds[i].e.wt binds[i].e
  rw[e1,List.length_append] at e2
  simp only[List.length_cons,bnds] at e2 e1
  generalize bndF binds[i].e.wt binds[i].e=l at*
  generalize L2 i=l1 at*
  have X:=And.intro noX (show(l1.map SV.str).length=l1.length∧(l.map SV.str).length=l.length from⟨List.length_map ..,List.length_map ..⟩)
  (refine run ?_;with_reducible repeat' first|exact trivial|(apply Fork.mk<;>intro hb)|apply Two.mk)
  refine hK _ _ (i+1) (by omega) (by omega) ?_
  rw[e1,List.map_append,List.map_cons,show(l1++binds[i].name::l).length=l1.length+(1+l.length) from by simp;omega]
  exact wkS (n0:=H.length) [(H.length,0),(H.length+1,0)] hG hB hC' hcl
 obtain rfl:i=binds.length:=by omega
 clear hK
 have X:=And.intro noX (Int.lt_irrefl (binds.length:Int))
 (refine run ?_;with_reducible repeat' first|exact trivial|(apply Fork.mk<;>intro hb)|apply Two.mk)
 exact finK [(H.length+1,0)] (.sl H.length 0 0 (L2 binds.length).length) [.cells 0 1 ((L2 binds.length).map .str)] hR hC' hcl ⟨rfl,rfl⟩
theorem All_ok (G:Gl) (hG:GClosed G) (cons:List Cn) (binds:List Bd) (H:List Blk) (hw:bdsWt binds<4294967296):
 ACall Tryz.prog G 14 [.agg [.list 4 (cnCells cons),.list 9 (bdCells binds)]] H (fun r H'=>H'=H∧r= .list 1 ((bindersP binds).map .str)):=
 ACall.frz (strs_under _ _) (List.length_map ..) (All_own G hG cons binds H hw)
theorem wrap_u8 {n:Nat} (h:n<256):IntKind.u8.wrap (n:Int)=(n:Int):=by
 simp only[IntKind.wrap,IntKind.bits,IntKind.signed]
 simp
 omega
theorem number_ok (G:Gl) (hG:GClosed G) (s:Str) (hs:s.length<4294967296) (H:List Blk):ACall Tryz.prog G 47 [.str s] H (fun r H'=>∃ n:Nat,(H'=H∧r= .int .i64 n)∧n<10000000000):=by
 refine ACall.of_go TB [] tabOK _ Tryz.func47 rfl (by decide) Tryz.ntmps47 (by simp) rfl (by simp only[initEnv,Nat.reduceAdd];rfl) fun C R' hR hC hcl hB=>?_;have X:=noX;have hC':=congrArg List.length hC
 (refine run ?_;with_reducible repeat' first|exact trivial|(apply Fork.mk<;>intro hb)|apply Two.mk)
 ·exact Fin.out hR ⟨0,⟨rfl,rfl⟩,by omega⟩
 have hl3:¬ (List.length s:Int)<3:=fun h=>by rw[decide_eq_true h] at hb;simp at hb
 have hl11:¬ (11:Int)<(List.length s:Int):=fun h=>by rw[decide_eq_true h] at hb;simp at hb
 have h2l:2<s.length:=by omega
 have h2:s[2]? =some s[2]:=List.getElem?_eq_getElem h2l
 have X:=And.intro noX h2
 (refine run ?_;with_reducible repeat' first|exact trivial|(apply Fork.mk<;>intro hb)|apply Two.mk)
 ·exact Fin.out hR ⟨0,⟨rfl,rfl⟩,by omega⟩
 have hpw:∀ i,2≤i→10 ^ (i+1 - 2)=10*10 ^ (i - 2):=fun i hi=>by rw[show i+1 - 2=(i - 2)+1 by omega,Nat.pow_succ];omega
 have hpm:∀ i,i≤11→10 ^ (i - 2)≤1000000000:=fun i hi=>Nat.le_trans (Nat.pow_le_pow_right (by omega) (show i - 2≤9 by omega)) (by omega)
 refine go_loop (fun a:Nat×Nat=>[(0,.str s),(3,.int .i64 (a.2:Int)),(4,.int .i64 (a.1:Int))]) (fun _=>H) (fun a=>s.length - a.1) (fun a=>(2≤a.1∧a.1≤s.length)∧a.2<10 ^ (a.1 - 2)) (2,0) ⟨⟨Nat.le_refl _,by simp only;omega⟩,by simp⟩ (Wk.sub (by simp[subEnv,look])) ?_
 rintro K ⟨i,n⟩ ⟨⟨hi1,hi2⟩,hn⟩ hK
 simp only at hi1 hi2 hn
 dsimp only
 have hp1:=hpw i hi1
 have hp2:=hpm i (by omega)
 generalize hPP:10 ^ (i - 2)=pp at*
 rcases Nat.lt_or_ge i s.length with hlt|hge
 ·have hg:s[i]? =some s[i]:=List.getElem?_eq_getElem hlt
  have hb8:s[i].toNat<256:=s[i].toNat_lt
  generalize s[i]=b at*
  generalize hbn:b.toNat=bn at*
  have X:=And.intro noX (And.intro hg hbn)
  (refine run ?_;with_reducible repeat' first|exact trivial|(apply Fork.mk<;>intro hb)|apply Two.mk)
  ·exact Fin.out hR ⟨0,⟨rfl,rfl⟩,by omega⟩
  ·simp only[Bool.or_eq_false_iff,decide_eq_false_iff_not] at hb
   have hw8:IntKind.u8.wrap ((bn:Int) - 48)=((bn - 48:Nat):Int):=by rw[show(bn:Int) - 48=((bn - 48:Nat):Int) by omega];exact wrap_u8 (by omega)
   rw[hw8,wrap_i64 ((bn - 48:Nat):Int) (by omega),wrap_i64 _ (by omega),show 10*(n:Int)+((bn - 48:Nat):Int)=((10*n+(bn - 48):Nat):Int) by omega]
   exact hK _ _ (i+1,10*n+(bn - 48)) (by simp only;omega) ⟨⟨by simp only;omega,by simp only;omega⟩,by simp only[hp1];omega⟩ (Wk.sub (by simp[subEnv,look]))
 ·have hni:¬ (i:Int)<(List.length s:Int):=by omega
  clear hK
  have X:=noX
  (refine run ?_;with_reducible repeat' first|exact trivial|(apply Fork.mk<;>intro hb)|apply Two.mk)
  exact Fin.out hR ⟨n,⟨rfl,rfl⟩,by omega⟩
theorem Next_ok (G:Gl) (hG:GClosed G) (cons:List Cn) (binds:List Bd) (H:List Blk) (hw:bdsWt binds<4294967295) (hns:∀ s∈bindersP binds,s.length<4294967296):
 ACall Tryz.prog G 13 [.agg [.list 4 (cnCells cons),.list 9 (bdCells binds)]] H (fun r H'=>∃ n:Nat,(H'=H∧r= .int .i64 n)∧n<10000000001):=by
 have hln:=bindersP_len binds
 refine ACall.of_go TB [] tabOK _ Tryz.func13 rfl (by decide) Tryz.ntmps13 (by simp) rfl (by simp only[initEnv,Nat.reduceAdd];rfl) fun C R' hR hC hcl hB=>?_;have X:=noX;have hC':=congrArg List.length hC
 (refine run ?_;with_reducible repeat' first|exact trivial|(apply Fork.mk<;>intro hb)|apply Two.mk)
 refine callS (All_ok G hG cons binds _ (by omega)) ?_
 rintro r H' ⟨rfl,rfl⟩
 generalize bindersP binds=l at*
 (refine run ?_;with_reducible repeat' first|exact trivial|(apply Fork.mk<;>intro hb)|apply Two.mk)
 refine go_loop (fun a:Nat×Nat=>[(3,.int .i64 (a.2:Int)),(4,.list 1 (l.map .str)),(5,.int .i64 (a.1:Int))]) (fun a=>H++[]) (fun a=>l.length - a.1) (fun a=>a.1≤l.length∧a.2<10000000000) (0,0) ⟨Nat.zero_le _,by omega⟩ ?_ ?_
 ·exact wkS (n0:=H.length) [] hG hB hC' hcl
 rintro K ⟨i,n⟩ ⟨hi,hn⟩ hK
 simp only at hi hn
 dsimp only
 rcases Nat.lt_or_ge i l.length with hlt|hge
 ·have g1:(l.map SV.str)[i]? =some (.str l[i]):=by simp[hlt]
  have hnum:=fun H=>number_ok G hG l[i] (hns _ (List.getElem_mem hlt)) H
  generalize l[i]=s at*
  have X:=And.intro noX g1
  (refine run ?_;with_reducible repeat' first|exact trivial|(apply Fork.mk<;>intro hb)|apply Two.mk)
  refine callS (hnum _) ?_
  rintro r H' ⟨n2,⟨rfl,rfl⟩,hn2⟩
  have hmm:=max_nat n n2
  have X:=And.intro noX (And.intro hmm (show IntKind.i64.min≤(n2:Int)∧(n2:Int)≤IntKind.i64.max from⟨by show(-9223372036854775808:Int)≤_;omega,by show _≤(9223372036854775807:Int);omega⟩))
  (refine run ?_;with_reducible repeat' first|exact trivial|(apply Fork.mk<;>intro hb)|apply Two.mk)
  refine hK _ _ (i+1,max n n2) (by simp only;omega) ⟨by simp only;omega,by simp only;omega⟩ ?_
  dsimp only
  exact wkS (n0:=H.length) [] hG hB hC' hcl
 ·have hni:¬ (i:Int)<(l.length:Int):=by omega
  clear hK
  have X:=noX
  (refine run ?_;with_reducible repeat' first|exact trivial|(apply Fork.mk<;>intro hb)|apply Two.mk)
  refine finS (n0:=H.length) hR hC' hcl (.same _ rfl) ⟨n+1,⟨rfl,?_⟩,by omega⟩
  simp only[resSV,Int.natCast_add,Int.natCast_one]
theorem Small_ok (G:Gl) (hG:GClosed G) (cons:List Cn) (binds:List Bd) (H:List Blk) (hw:bdsWt binds<1073741824) (hcn:cons.length<1099511627776) (hns:∀ s∈bindersP binds,s.length<4294967296):
 ACall Tryz.prog G 5 [.agg [.list 4 (cnCells cons),.list 9 (bdCells binds)]] H (someB H):=by
 have hln:=bindersP_len binds
 have hle:=bdsWt_len binds
 have under_ints:=fun n=>cnCells_under n cons
 have hlm:((bindersP binds).map SV.str).length=(bindersP binds).length:=List.length_map ..
 refine ACall.of_go TB [] tabOK _ Tryz.func5 rfl (by decide) Tryz.ntmps5 (by simp) rfl (by simp only[initEnv,Nat.reduceAdd];rfl) fun C R' hR hC hcl hB=>?_;have X:=noX;have hC':=congrArg List.length hC
 (refine run ?_;with_reducible repeat' first|exact trivial|(apply Fork.mk<;>intro hb)|apply Two.mk)
 ·exact finS (n0:=H.length) hR hC' hcl (.same _ rfl) ⟨rfl,_,rfl⟩
 refine go_loop (fun a:Nat×Nat=>[(1,.ptr H.length 0 0 0),(3,.int .i64 (a.2:Int)),(4,.int .i64 (a.1:Int))]) (fun _=>H++[.cells 0 2 [.agg [.list 4 (cnCells cons),.list 9 (bdCells binds)]]]) (fun a=>binds.length - a.1) (fun a=>a.1≤binds.length∧a.2≤bdsWt (binds.take a.1)) (0,0) ⟨Nat.zero_le _,Nat.zero_le _⟩ ?_ ?_
 ·exact wkS (n0:=H.length) [(H.length,0)] hG hB hC' hcl
 rintro K ⟨i,n⟩ ⟨hi,hn⟩ hK
 simp only at hi hn
 dsimp only
 have hbt:=bdsWt_take binds i
 rcases Nat.lt_or_ge i binds.length with hlt|hge
 ·have hpb:=bd_wt (List.getElem_mem hlt)
  have hbd:=fun H=>Bounded_ok G hG binds[i].e (by omega) H
  have hbt2:bdsWt (binds.take (i+1))=bdsWt (binds.take i)+binds[i].wt:=by
   rw[List.take_succ_eq_append_getElem hlt]
   have:∀ (l:List Bd) (b:Bd),bdsWt (l++[b])=bdsWt l+b.wt:=fun l b=>by
    induction l with
    |nil=>simp[bdsWt]
    |cons x r ih=>simp only[List.cons_append,bdsWt,ih];omega
   exact this _ _
  have hbg:=binds[i].wt_gt
  have hX:=noX
  have X:=noX
  (refine run ?_;with_reducible repeat' first|exact trivial|(apply Fork.mk<;>intro hb)|apply Two.mk)
  refine callS (hbd _) ?_
  rintro r H' ⟨n2,b2,⟨rfl,rfl⟩,hn2⟩
  have hnn:(n:Int)+(n2:Int)=((n+n2:Nat):Int):=by omega
  have X:=And.intro noX hnn
  (refine run ?_;with_reducible repeat' first|exact trivial|(apply Fork.mk<;>intro hb)|apply Two.mk)
  ·exact finS (n0:=H.length) hR hC' hcl (.same _ rfl) ⟨rfl,_,rfl⟩
  ·refine hK _ _ (i+1,n+n2) (by simp only;omega) ⟨by simp only;omega,by simp only;omega⟩ ?_
   dsimp only
   exact wkS (n0:=H.length) [(H.length,0)] hG hB hC' hcl
 ·have hni:¬ (i:Int)<(binds.length:Int):=by omega
  clear hK
  have c1:=fun H=>All_ok G hG cons binds H (by omega)
  have X:=And.intro noX (And.intro hni hlm)
  (refine run ?_;with_reducible repeat' first|exact trivial|(apply Fork.mk<;>intro hb)|apply Two.mk)
  refine callS (Next_ok G hG cons binds _ (by omega) hns) ?_
  rintro r H' ⟨n2,⟨rfl,rfl⟩,hn2⟩
  clear hn2
  generalize (n2:Int)=z
  (refine run ?_;with_reducible repeat' first|exact trivial|(apply Fork.mk<;>intro hb)|apply Two.mk)
  all_goals exact finS (n0:=H.length) hR hC' hcl (.same _ rfl) ⟨rfl,_,rfl⟩
theorem atoA_rg (s:Str): -9223372036854775808≤(atoA s).1∧(atoA s).1≤9223372036854775807:=by
 unfold atoA
 rcases h:Lib.atoiAll s with v|_|_
 ·exact Lib.atoiAll_bounds h
 ·exact⟨show(-9223372036854775808:Int)≤0 by decide,show(0:Int)≤9223372036854775807 by decide⟩
 ·exact Lib.atoiSat_bounds s
theorem pre_iff (s:Str):s.take 2=[116,35]↔2≤s.length∧s.take 2=[116,35]:=⟨fun h=>⟨by have:=congrArg List.length h;rw[List.length_take] at this;simp at this;omega,h⟩,fun h=>h.2⟩
theorem hasPrefix_ok (G:Gl) (s:Str) (hs:s.length<4294967296) (H:List Blk):ACall Tryz.prog G 137 [.str s,.str [116,35]] H (fun r H'=>H'=H∧r= .bool (decide (s.take 2=[116,35]))):=by
 by_cases h2:(2:Int)≤(s.length:Int)
 ·have h2n:2≤s.length:=by omega
  refine ACall.of_go TB [] tabOK _ Tryz.func137 rfl (by decide) Tryz.ntmps137 (by simp) rfl (by simp only[initEnv,Nat.reduceAdd];rfl) fun C R' hR hC hcl hB=>?_;have X:=noX;have hC':=congrArg List.length hC
  have X:=And.intro X h2
  (refine run ?_;with_reducible repeat' first|exact trivial|(apply Fork.mk<;>intro hb)|apply Two.mk)
  exact Fin.out hR ⟨rfl,rfl⟩
 ·have h2n2:¬ 2≤s.length:=by omega
  have e:decide (s.take 2=[116,35])=false:=decide_eq_false fun h=>by have:=((pre_iff s).1 h).1;omega
  rw[e]
  refine ACall.of_go TB [] tabOK _ Tryz.func137 rfl (by decide) Tryz.ntmps137 (by simp) rfl (by simp only[initEnv,Nat.reduceAdd];rfl) fun C R' hR hC hcl hB=>?_;have X:=noX;have hC':=congrArg List.length hC
  have X:=And.intro X h2
  (refine run ?_;with_reducible repeat' first|exact trivial|(apply Fork.mk<;>intro hb)|apply Two.mk)
  refine Fin.out hR ⟨rfl,?_⟩
  simp only[resSV]
  rw[show decide (((2:Nat):Int)≤(s.length:Int))=false from decide_eq_false (by omega),Bool.false_and]
theorem cutP1_ok (G:Gl) (s:Str) (hs:s.length<4294967296) (H:List Blk):ACall Tryz.prog G 101 [.str s,.str [116,35]] H (fun r H'=>H'=H∧r= .tuple [.str (if s.take 2=[116,35] then s.drop 2 else s),.bool (decide (s.take 2=[116,35]))]):=by
 have c1:=fun H=>hasPrefix_ok G s hs H
 by_cases h:s.take 2=[116,35]
 ·have h2:=((pre_iff s).1 h).1
  rw[decide_eq_true h] at*
  rw[if_pos h]
  refine ACall.of_go TB [] tabOK _ Tryz.func101 rfl (by decide) Tryz.ntmps101 (by simp) rfl (by simp only[initEnv,Nat.reduceAdd];rfl) fun C R' hR hC hcl hB=>?_;have X:=noX;have hC':=congrArg List.length hC
  (refine run ?_;with_reducible repeat' first|exact trivial|(apply Fork.mk<;>intro hb)|apply Two.mk)
  exact Fin.out hR ⟨rfl,by rw[List.take_of_length_le (by rw[List.length_drop];exact Nat.le_refl _)];rfl⟩
 ·rw[decide_eq_false h] at*
  rw[if_neg h]
  refine ACall.of_go TB [] tabOK _ Tryz.func101 rfl (by decide) Tryz.ntmps101 (by simp) rfl (by simp only[initEnv,Nat.reduceAdd];rfl) fun C R' hR hC hcl hB=>?_;have X:=noX;have hC':=congrArg List.length hC
  (refine run ?_;with_reducible repeat' first|exact trivial|(apply Fork.mk<;>intro hb)|apply Two.mk)
  exact Fin.out hR ⟨rfl,rfl⟩
theorem cutPrefix_ok (G:Gl) (s:Str) (hs:s.length<4294967296) (H:List Blk):ACall Tryz.prog G 53 [.str s,.str [116,35]] H (fun r H'=>H'=H∧r= .tuple [.str (if s.take 2=[116,35] then s.drop 2 else s),.bool (decide (s.take 2=[116,35]))]):=by
 have c1:=fun H=>cutP1_ok G s hs H
 refine ACall.of_go TB [] tabOK _ Tryz.func53 rfl (by decide) Tryz.ntmps53 (by simp) rfl (by simp only[initEnv,Nat.reduceAdd];rfl) fun C R' hR hC hcl hB=>?_;have X:=noX;have hC':=congrArg List.length hC
 (refine run ?_;with_reducible repeat' first|exact trivial|(apply Fork.mk<;>intro hb)|apply Two.mk)
 exact Fin.out hR ⟨rfl,rfl⟩
theorem fold_snoc (l:List Str) (s:Str) (n:Nat):(l++[s]).foldl (fun n s=>max n (numS s)) n=max (l.foldl (fun n s=>max n (numS s)) n) (numS s):=by rw[List.foldl_append];rfl
theorem nxt_t {z nb:Bool} {k:Int} {ds:Str} (hnu:nb=(true&&z&&decide (0<k)&&decide (ds.length≤9)&&decide (Lib.itoa k=ds))) (h1:(z&&decide (0<k)&&decide ((ds.length:Int)≤9))=true) (h2:Lib.itoa k=ds):nb=true:=by
 rw[hnu]
 simp only[Bool.and_eq_true,decide_eq_true_eq] at h1 ⊢
 exact⟨⟨⟨⟨trivial,h1.1.1⟩,h1.1.2⟩,by omega⟩,h2⟩
theorem nxt_f1 {z nb:Bool} {k:Int} {ds:Str} (hnu:nb=(true&&z&&decide (0<k)&&decide (ds.length≤9)&&decide (Lib.itoa k=ds))) (h2:¬ Lib.itoa k=ds):nb=false:=by
 rw[hnu,decide_eq_false h2,Bool.and_false]
theorem nxt_f2 {z nb:Bool} {k:Int} {ds:Str} (hnu:nb=(true&&z&&decide (0<k)&&decide (ds.length≤9)&&decide (Lib.itoa k=ds))) (h1:(z&&decide (0<k)&&decide ((ds.length:Int)≤9))=false):nb=false:=by
 rw[hnu]
 simp only[show decide ((ds.length:Int)≤9)=decide (ds.length≤9) from decide_eq_decide.2 (by omega)] at h1
 rw[Bool.true_and,h1,Bool.false_and]
theorem cnext_ok (G:Gl) (hG:GClosed G) (C0:Cx) (hb0:G.base=some C0) (hl0:LibAt C0) (cons:List Cn) (binds:List Bd) (H:List Blk) (hw:bdsWt binds<4294967295) (hns:∀ s∈bindersP binds,s.length<4294967296):
 ACall Tryz.prog G 19 [.agg [.list 4 (cnCells cons),.list 9 (bdCells binds)]] H (fun r H'=>H'=H∧r= .int .i64 (nxtS binds)):=by
 have hln:=bindersP_len binds
 have c1:=fun H=>ACall.frz (strs_under _ _) (List.length_map ..) (bindersP_ok G hG cons binds H (by omega))
 have hnx:nxtS binds=(bindersP binds).foldl (fun n s=>max n (numS s)) 0+1:=rfl
 rw[hnx]
 clear hnx
 have hflt:=fun i=>fold_lt ((bindersP binds).take i) 0 (by decide)
 refine ACall.of_go TB [] tabOK _ Tryz.func19 rfl (by decide) Tryz.ntmps19 (by simp) rfl (by simp only[initEnv,Nat.reduceAdd];rfl) fun C R' hR hC hcl hB=>?_;have X:=noX;have hC':=congrArg List.length hC
 generalize bindersP binds=l at*
 (refine run ?_;with_reducible repeat' first|exact trivial|(apply Fork.mk<;>intro hb)|apply Two.mk)
 refine go_loop (fun i:Nat=>[(3,.int .i64 (((l.take i).foldl (fun n s=>max n (numS s)) 0:Nat):Int)),(11,.list 1 (l.map .str)),(12,.int .i64 l.length),(13,.int .i64 (i:Int))]) (fun a=>H++[]) (fun i=>l.length - i) (fun i=>i≤l.length) 0 (Nat.zero_le _) ?_ ?_
 ·exact wkS (n0:=H.length) [] hG hB hC' hcl
 rintro K i hi hK
 have hfi:=hflt i
 rcases Nat.lt_or_ge i l.length with hlt|hge
 ·have g1:(l.map SV.str)[i]? =some (.str l[i]):=by simp[hlt]
  have hsl:=hns _ (List.getElem_mem hlt)
  have hsn:=fold_snoc (l.take i) l[i] 0
  rw[← List.take_succ_eq_append_getElem hlt] at hsn
  have hfi2:=hflt (i+1)
  rw[hsn] at hfi2
  have hnc:=nxtC_eq l[i]
  have hnu:nxtC l[i]=(decide (l[i].take 2=[116,35])&&(atoA (l[i].drop 2)).2&&decide (0<(atoA (l[i].drop 2)).1)&&decide ((l[i].drop 2).length≤9)&&decide (Lib.itoa (atoA (l[i].drop 2)).1=l[i].drop 2)):=rfl
  generalize l[i]=s at*
  generalize hFF:(l.take i).foldl (fun n s=>max n (numS s)) 0=n at*
  have c2:=fun H=>cutPrefix_ok G s hsl H
  by_cases hp:s.take 2=[116,35]
  ·rw[decide_eq_true hp] at c2 hnu
   rw[if_pos hp] at c2
   have hdl:(s.drop 2).length<4294967296:=by rw[List.length_drop];omega
   generalize s.drop 2=ds at*
   have c3:=fun H=>atoi_ok G C0 hb0 hl0 ds hdl H
   obtain⟨hr1,hr2⟩:=atoA_rg ds
   generalize (atoA ds).2=z at*
   generalize (atoA ds).1=k at*
   have c4:=fun H=>itoa_ok G C0 hb0 hl0 k hr1 hr2 H
   have X:=And.intro noX g1
   (refine run ?_;with_reducible repeat' first|exact trivial|(apply Fork.mk<;>intro hb)|apply Two.mk)
   ·have hnt:=nxt_t hnu (by assumption) (by assumption)
    rw[hnt,if_pos rfl] at hnc
    subst hnc
    have hnl:=numS_lt s
    have hmm:=max_nat n (numS s)
    have X:=And.intro noX (And.intro hmm (show IntKind.i64.min≤(numS s:Int)∧(numS s:Int)≤IntKind.i64.max from⟨by show(-9223372036854775808:Int)≤_;omega,by show _≤(9223372036854775807:Int);omega⟩))
    (refine run ?_;with_reducible repeat' first|exact trivial|(apply Fork.mk<;>intro hb)|apply Two.mk)
    refine hK _ _ (i+1) (by omega) (by omega) ?_
    rw[hsn]
    exact wkS (n0:=H.length) [] hG hB hC' hcl
   ·have hnt:=nxt_f1 hnu (by assumption)
    rw[hnt,if_neg Bool.false_ne_true] at hnc
    rw[show numS s=0 by omega,Nat.max_zero] at hsn
    refine hK _ _ (i+1) (by omega) (by omega) ?_
    rw[hsn]
    exact wkS (n0:=H.length) [] hG hB hC' hcl
   ·have hnt:=nxt_f2 hnu (by assumption)
    rw[hnt,if_neg Bool.false_ne_true] at hnc
    rw[show numS s=0 by omega,Nat.max_zero] at hsn
    refine hK _ _ (i+1) (by omega) (by omega) ?_
    rw[hsn]
    exact wkS (n0:=H.length) [] hG hB hC' hcl
  ·rw[decide_eq_false hp] at c2 hnu
   rw[if_neg hp] at c2
   have c3:=fun H=>atoi_ok G C0 hb0 hl0 s hsl H
   obtain⟨hr1,hr2⟩:=atoA_rg s
   generalize (atoA s).2=z at*
   generalize (atoA s).1=k at*
   have X:=And.intro noX g1
   (refine run ?_;with_reducible repeat' first|exact trivial|(apply Fork.mk<;>intro hb)|apply Two.mk)
   rw[show nxtC s=false by rw[hnu];simp only[Bool.false_and],if_neg Bool.false_ne_true] at hnc
   rw[show numS s=0 by omega,Nat.max_zero] at hsn
   refine hK _ _ (i+1) (by omega) (by omega) ?_
   rw[hsn]
   exact wkS (n0:=H.length) [] hG hB hC' hcl
 ·have hni:¬ (i:Int)<(l.length:Int):=by omega
  clear hK
  rw[List.take_of_length_le hge] at hfi ⊢
  generalize l.foldl (fun n s=>max n (numS s)) 0=n at*
  have X:=And.intro noX hni
  (refine run ?_;with_reducible repeat' first|exact trivial|(apply Fork.mk<;>intro hb)|apply Two.mk)
  refine finS (n0:=H.length) hR hC' hcl (.same _ rfl) ⟨rfl,?_⟩
  simp only[resSV,Int.natCast_add,Int.natCast_one]
theorem clone_exs (G:Gl) (hG:GClosed G) (l:List Ex) (H:List Blk) (hl:l.length<4294967296):ACall Tryz.prog G 94 [.list 8 (exCells l)] H (fun r H'=>H'=H++[.cells 0 8 (exCells l)]∧r= .sl H.length 0 0 l.length):=by
 refine ACall.of_go TB [2,5] tabOK _ Tryz.func94 rfl (by decide) Tryz.ntmps94 (by simp) rfl (by simp only[initEnv,Nat.reduceAdd];rfl) fun C R' hR hC hcl hB=>?_;have X:=noX;have hC':=congrArg List.length hC
 (refine runO ?_;with_reducible repeat' first|exact trivial|(apply Fork.mk<;>intro hb)|apply Two.mk)
 ·obtain rfl:l=[]:=List.length_eq_zero_iff.1 hb
  exact finK [(H.length+1,0)] (.sl H.length 0 0 0) [.cells 0 8 []] hR hC' hcl ⟨rfl,rfl⟩
 ·exact finK [(H.length+1,0)] (.sl H.length 0 0 l.length) [.cells 0 8 (exCells l)] hR hC' hcl ⟨rfl,rfl⟩
def itsL (n:Nat):Str:=Lib.itoa (n:Int)
theorem itsL_ok (G:Gl) (C0:Cx) (hb0:G.base=some C0) (hl0:LibAt C0) (n:Nat) (h:n<4294967296):(itsL n).length≤20∧∀ H,ACall Tryz.prog G 55 [.int .i64 (n:Int)] H (fun r H'=>H'=H∧r= .str (itsL n)):=
 ⟨itoa_len _ (by omega) (by omega),fun H=>itoa_ok G C0 hb0 hl0 n (by omega) (by omega) H⟩
def itT (its:Nat→Str) (n:Nat):Str:=[116,35]++its n
def mapN {α β:Type} (f:α→Nat→β×Nat):List α→Nat→List β×Nat
 |[],n=>([],n)
 |x::r,n=>((f x n).1::(mapN f r (f x n).2).1,(mapN f r (f x n).2).2)
theorem mapN_cut {α β:Type} {f:α→Nat→β×Nat} {l:List α} {D:List β} {n0 n i:Nat} (h:i<l.length) (hm:mapN f l n0=(D++(mapN f (l.drop i) n).1,(mapN f (l.drop i) n).2)):
 mapN f l n0=((D++[(f l[i] n).1])++(mapN f (l.drop (i+1)) (f l[i] n).2).1,(mapN f (l.drop (i+1)) (f l[i] n).2).2):=by
 rw[hm,List.drop_eq_getElem_cons h]
 simp only[mapN,List.append_assoc,List.cons_append,List.nil_append]
theorem exCells_at {L:List Ex} {j:Nat} (h:j<L.length):(exCells L)[j]? =some (.agg L[j].cells):=by
 rw[exCells_map];simp[h];rfl
theorem ndK (n:Nat) (l:List Nat) (h:l.Nodup):(l.map fun q=>(n+q,0)).map Prod.fst|>.Nodup:=by
 rw[List.map_map]
 exact List.Pairwise.map _ (fun a b hab e=>hab (by simp only[Function.comp_apply] at e;omega)) h
theorem cloneC_list (G:Gl) (hG:GClosed G) (xs:List SV) (hu0:∀ n,SV.underL n xs=true) (H:List Blk) (hl:xs.length<4294967296):ACall Tryz.prog G 20 [.list 4 xs] H (fun r H'=>H'=H++[.cells 0 4 xs]∧r= .sl H.length 0 0 xs.length):=by
 have hu:SV.underL H.length (List.drop 0 xs)=true:=hu0 _
 refine ACall.of_go TB [2,5] tabOK _ Tryz.func20 rfl (by decide) Tryz.ntmps20 (by simp) rfl (by simp only[initEnv,Nat.reduceAdd];rfl) fun C R' hR hC hcl hB=>?_;have X:=noX;have hC':=congrArg List.length hC
 (refine runO ?_;with_reducible repeat' first|exact trivial|(apply Fork.mk<;>intro hb)|apply Two.mk)
 ·obtain rfl:xs=[]:=List.length_eq_zero_iff.1 hb
  exact finK [(H.length+1,0)] (.sl H.length 0 0 0) [.cells 0 4 []] hR hC' hcl ⟨rfl,rfl⟩
 ·exact finK [(H.length+1,0)] (.sl H.length 0 0 xs.length) [.cells 0 4 xs] hR hC' hcl ⟨rfl,rfl⟩
theorem ACall.loan {P:Program} {G:Gl} {f:FuncId} {args args2:List SV} {H:List Blk} {y:SV} (hG:GClosed G) (hB:Based G 0) (hf:FrzL H 0 [] args args2) (hy:∀ c c' v,Rep c y v→Rep c' y v)
 (h:ACall P G f args2 [] (fun r _=>r=y)):ACall P G f args H (fun r H'=>H'=H∧r=y):=by
 refine⟨h.1,fun c vs hH hc hg hv=>?_⟩
 subst hH
 have hk:KeepOK (H:=[]) (X:=c.H) [] []:=KeepOK.nil
 have h00:=Cx.keep (θ:=c.θ) (H:=[]) (X:=c.H) (w:=c.w) hc hk (fun B hB=>by cases hB)
 have hv2:=(Frz.rep (θ:=c.θ) (H:=[]) (X:=c.H) (w:=c.w) hc hk).2 hf vs hv
 have hg2:GOK G ⟨thK c.θ ([]++c.H) 0 [],[],c.w⟩:=⟨fun p hp=>(Rep.keep_both (θ:=c.θ) (H:=[]) (X:=c.H) (w:=c.w) hk).1 _ _ (hg.1 p hp) (hG p hp),fun C1 e=>h00.2 C1 (hB C1 e) (hg.2 C1 e)⟩
 refine(h.2 ⟨thK c.θ ([]++c.H) 0 [],[],c.w⟩ vs rfl h00.1 hg2 hv2).mono ?_
 rintro e w' ⟨v,x,c',e1,e2,e3,e4,e5,e6⟩
 subst e2
 have hold:∀ k,k<c.w.heap.size→c'.w.heap[k]? =c.w.heap[k]? :=fun k hk=>e6.old k hk (fun⟨id,o,⟨B,hB,_⟩,_⟩=>by cases hB)
 obtain⟨g1,g2⟩:=Cx.world hc (w':=c'.w) hold e6.size e6.os e6.tape e6.output
 exact⟨v,x,{ c with w:=c'.w},e1,rfl,⟨rfl,e3⟩,g2,by rw[e3] at e5 ⊢;exact hy _ _ _ e5,g1⟩
theorem exsWt_drop {l:List Ex} {i:Nat} (h:i<l.length):exsWt (l.drop i)=l[i].wt+exsWt (l.drop (i+1)):=by rw[List.drop_eq_getElem_cons h];rfl
theorem bdsWt_drop {l:List Bd} {i:Nat} (h:i<l.length):bdsWt (l.drop i)=l[i].wt+bdsWt (l.drop (i+1)):=by rw[List.drop_eq_getElem_cons h];rfl
theorem alsWt_drop {l:List Al} {i:Nat} (h:i<l.length):alsWt (l.drop i)=l[i].wt+alsWt (l.drop (i+1)):=by rw[List.drop_eq_getElem_cons h];rfl
structure At where
 name:Str
 n:Int
deriving DecidableEq,Inhabited
def At.cells (a:At):List SV:=[.str a.name,.int .i64 a.n]
def atCells (l:List At):List SV:=l.map fun a=> .agg a.cells
mutual
inductive Sg where
 |mk (kind:Int) (name:Str) (op:Int) (args:List At) (subs:List Sg) (binds:List Sb) (alts:List Sl)
inductive Sb where
 |mk (name:Str) (kind:Int) (free params:List Str) (update:Bool) (con:Str) (args:List At) (body:List Sg)
inductive Sl where
 |mk (kind:Int) (name:Str) (n:Int) (names:List Str) (body:Sg)
end
mutual
def Sg.cells:Sg→List SV
 | .mk k s op args subs binds alts=>[.int .i64 k,.str s,.int .i64 op,.list 2 (atCells args),.list 7 (sgCells subs),.list 8 (sbCells binds),.list 11 (slCells alts)]
def sgCells:List Sg→List SV
 |[]=>[]
 |e::r=> .agg e.cells::sgCells r
def Sb.cells:Sb→List SV
 | .mk s k free params up con args body=>[.str s,.int .i64 k,.list 1 (free.map .str),.list 1 (params.map .str),.bool up,.str con,.list 2 (atCells args),.list 7 (sgCells body)]
def sbCells:List Sb→List SV
 |[]=>[]
 |b::r=> .agg b.cells::sbCells r
def Sl.cells:Sl→List SV
 | .mk k s n names body=> .int .i64 k:: .str s:: .int .i64 n:: .list 1 (names.map .str)::body.cells
def slCells:List Sl→List SV
 |[]=>[]
 |a::r=> .agg a.cells::slCells r
end
def Sg.sv (e:Sg):SV:= .agg e.cells
def Sb.sv (b:Sb):SV:= .agg b.cells
def Sl.sv (a:Sl):SV:= .agg a.cells
def Sl.kind:Sl→Int| .mk k _ _ _ _=>k
def Sl.name:Sl→Str| .mk _ s _ _ _=>s
def Sl.n:Sl→Int| .mk _ _ n _ _=>n
def Sl.names:Sl→List Str| .mk _ _ _ l _=>l
def Sl.body:Sl→Sg| .mk _ _ _ _ e=>e
theorem Sg.cells_len (e:Sg):e.cells.length=7:=by cases e;rfl
theorem Sb.cells_len (b:Sb):b.cells.length=8:=by cases b;rfl
theorem Sl.cells_len (a:Sl):a.cells.length=11:=by cases a;simp[Sl.cells,Sg.cells_len]
theorem sgCells_map:∀ l:List Sg,sgCells l=l.map Sg.sv
 |[]=>rfl
 |e::r=>by rw[sgCells,sgCells_map r];rfl
theorem sbCells_map:∀ l:List Sb,sbCells l=l.map Sb.sv
 |[]=>rfl
 |e::r=>by rw[sbCells,sbCells_map r];rfl
theorem slCells_map:∀ l:List Sl,slCells l=l.map Sl.sv
 |[]=>rfl
 |e::r=>by rw[slCells,slCells_map r];rfl
theorem atCells_len (l:List At):(atCells l).length=l.length:=by simp[atCells]
theorem sgCells_len (l:List Sg):(sgCells l).length=l.length:=by simp[sgCells_map]
theorem sbCells_len (l:List Sb):(sbCells l).length=l.length:=by simp[sbCells_map]
theorem slCells_len (l:List Sl):(slCells l).length=l.length:=by simp[slCells_map]
theorem atCells_snoc (l:List At) (a:At):atCells l++[.agg [.str a.name,.int .i64 a.n]]=atCells (l++[a]):=by simp[atCells,At.cells]
theorem sbCells_app (l m:List Sb):sbCells l++sbCells m=sbCells (l++m):=by simp[sbCells_map]
theorem sbCells_snoc (l:List Sb) (b:Sb):sbCells l++[.agg b.cells]=sbCells (l++[b]):=by simp[sbCells_map];rfl
theorem slCells_snoc (l:List Sl) (b:Sl):slCells l++[.agg b.cells]=slCells (l++[b]):=by simp[slCells_map];rfl
theorem Sl.cells_eq (a:Sl):a.cells= .int .i64 a.kind:: .str a.name:: .int .i64 a.n:: .list 1 (a.names.map .str)::a.body.cells:=by cases a;rfl
theorem atCells_under (n:Nat) (l:List At):SV.underL n (atCells l)=true:=SV.underL_map fun _ _=>by simp[At.cells,SV.under,SV.underL]
mutual
theorem Sg.cells_under (n:Nat):∀ e:Sg,SV.underL n e.cells=true
 | .mk k s op args subs binds alts=>by
  simp only[Sg.cells,SV.underL,SV.under,atCells_under,sgCells_under,sbCells_under,slCells_under,Bool.and_self]
theorem sgCells_under (n:Nat):∀ l:List Sg,SV.underL n (sgCells l)=true
 |[]=>rfl
 |e::r=>by simp only[sgCells,SV.underL,SV.under,Sg.cells_under n e,sgCells_under n r,Bool.and_self]
theorem Sb.cells_under (n:Nat):∀ b:Sb,SV.underL n b.cells=true
 | .mk s k free params up con args body=>by simp only[Sb.cells,SV.underL,SV.under,strs_under,atCells_under,sgCells_under,Bool.and_self]
theorem sbCells_under (n:Nat):∀ l:List Sb,SV.underL n (sbCells l)=true
 |[]=>rfl
 |e::r=>by simp only[sbCells,SV.underL,SV.under,Sb.cells_under n e,sbCells_under n r,Bool.and_self]
theorem Sl.cells_under (n:Nat):∀ b:Sl,SV.underL n b.cells=true
 | .mk k s m l e=>by simp only[Sl.cells,SV.underL,SV.under,strs_under,Sg.cells_under n e,Bool.and_self]
theorem slCells_under (n:Nat):∀ l:List Sl,SV.underL n (slCells l)=true
 |[]=>rfl
 |e::r=>by simp only[slCells,SV.underL,SV.under,Sl.cells_under n e,slCells_under n r,Bool.and_self]
end
theorem Sg.cells_take (e:Sg):e.cells.take 7=e.cells:=List.take_of_length_le (by rw[e.cells_len];exact Nat.le_refl _)
@[simp] theorem atCells_tkAll (l:List At):List.take l.length (atCells l)=atCells l:=List.take_of_length_le (by rw[atCells_len];exact Nat.le_refl _)
@[simp] theorem sbCells_tkAll (l:List Sb):List.take l.length (sbCells l)=sbCells l:=List.take_of_length_le (by rw[sbCells_len];exact Nat.le_refl _)
@[simp] theorem slCells_tkAll (l:List Sl):List.take l.length (slCells l)=slCells l:=List.take_of_length_le (by rw[slCells_len];exact Nat.le_refl _)
inductive Ar where
 |bs (l:List Sb)
 |look (s:Str) (x:Sg)
def sgZ:List SV:=[.int .i64 0,.str [],.int .i64 0,.nil,.nil,.nil,.nil]
def Ar.cells:Ar→List SV
 | .bs l=> .list 8 (sbCells l):: .str []::sgZ
 | .look s x=> .nil:: .str s::x.cells
def arCells (l:List Ar):List SV:=l.map fun a=> .agg a.cells
theorem arCells_len (l:List Ar):(arCells l).length=l.length:=by simp[arCells]
theorem arCells_snoc (l:List Ar) (a:Ar):arCells l++[.agg a.cells]=arCells (l++[a]):=by simp[arCells]
theorem arCells_under (n:Nat) (l:List Ar):SV.underL n (arCells l)=true:=SV.underL_map fun a _=>by
 cases a<;>simp[Ar.cells,sgZ,SV.under,SV.underL,sbCells_under,Sg.cells_under]
@[simp] theorem arCells_tkAll (l:List Ar):List.take l.length (arCells l)=arCells l:=List.take_of_length_le (by rw[arCells_len];exact Nat.le_refl _)
def Ar.ok:Ar→Prop
 | .bs l=>l≠[]
 | .look _ _=>True
def arF:Ar→Sg→Sg
 | .bs l,e=> .mk 6 [] 0 [] [e] l []
 | .look s x,e=> .mk 5 s 0 [] [x] [] [.mk 3 [] 0 [] e]
def wrapF (l:List Ar) (e:Sg):Sg:=l.foldr arF e
def barsF:List Ar→List Sb
 |[]=>[]
 | .bs l::r=>l++barsF r
 | .look _ _::r=>barsF r
def isAt (e:Ex):Bool:=decide (e.kind=1)||decide (e.kind=2)
def atE (e:Ex):At:=⟨e.name,e.n⟩
def cellsF (B:Str→Ex→Bool→Nat→List Sb×Nat):List Ex→Nat→(List At×List Ar)×Nat
 |[],n=>(([],[]),n)
 |e::r,n=>
  if isAt e then ((atE e::(cellsF B r n).1.1,(cellsF B r n).1.2),(cellsF B r n).2)
  else ((⟨itT itsL n,0⟩::(cellsF B r (B (itT itsL n) e true (n+1)).2).1.1,.bs (B (itT itsL n) e true (n+1)).1::(cellsF B r (B (itT itsL n) e true (n+1)).2).1.2),(cellsF B r (B (itT itsL n) e true (n+1)).2).2)
def valsF (E:Ex→Nat→Sg×Nat):List Ex→Nat→(List At×List Ar)×Nat
 |[],n=>(([],[]),n)
 |e::r,n=>
  if e.kind=2 then ((atE e::(valsF E r n).1.1,(valsF E r n).1.2),(valsF E r n).2)
  else ((⟨itT itsL n,0⟩::(valsF E r (E e (n+1)).2).1.1,.look (itT itsL n) (E e (n+1)).1::(valsF E r (E e (n+1)).2).1.2),(valsF E r (E e (n+1)).2).2)
def meetF:Nat→Ex→Str→Bool
 |0,_,_=>false
 |m+1,.mk kd nm _ _ _ subs binds alts,s=>
  if kd=1 then decide (nm=s)
  else if kd=8 then subs.any (fun e=>meetF m e s)
  else if kd=4 then (subs.take 1).any (fun e=>meetF m e s)
  else if kd=6 then (subs.take 1).any (fun e=>meetF m e s)||(!decide (nm=s)&&alts.any (fun a=>!decide (s∈a.names)&&meetF m a.body s))
  else if kd=5 then !(binds.any fun b=>decide (b.name=s))&&subs.any (fun e=>meetF m e s)
  else false
def meetS (e:Ex) (s:Str):Bool:=meetF e.wt e s
def straS (e:Ex) (s:Str):Bool:=decide (occ s e=1)&&meetS e s
def topF (top:List Str) (e:Ex):List Str:=(freeS e).filter fun s=>!decide (s∈top)
def upF (binds:List Bd) (x:Ex) (b:Bd):Bool:=!(decide (binds.length=1)&&!decide (b.name∈freeS b.e)&&straS x b.name)
def letsF (B:Str→Ex→Bool→Nat→List Sb×Nat) (u:Bd→Bool):List Bd→Nat→List Sb×Nat
 |[],n=>([],n)
 |b::r,n=>((B b.name b.e (u b) n).1++(letsF B u r (B b.name b.e (u b) n).2).1,(letsF B u r (B b.name b.e (u b) n).2).2)
def altN (E:Ex→Nat→Sg×Nat) (a:Al) (n:Nat):Sl×Nat:=(.mk a.kind a.name a.n a.names (E a.body n).1,(E a.body n).2)
def exprB (E:Ex→Nat→Sg×Nat) (B:Str→Ex→Bool→Nat→List Sb×Nat):Ex→Nat→Sg×Nat
 | .mk kd nm nn op names subs binds alts,n=>
  if kd=1∨kd=2 then (.mk 1 [] 0 [⟨nm,nn⟩] [] [] [],n)
  else if kd=3 then (wrapF [.bs (B (itT itsL n) (.mk kd nm nn op names subs binds alts) true (n+1)).1] (.mk 1 [] 0 [⟨itT itsL n,0⟩] [] [] []),(B (itT itsL n) (.mk kd nm nn op names subs binds alts) true (n+1)).2)
  else if kd=7 then (wrapF (cellsF B subs n).1.2 (.mk 3 nm 0 (cellsF B subs n).1.1 [] [] []),(cellsF B subs n).2)
  else if kd=8 then (wrapF (valsF E subs n).1.2 (.mk 4 [] op (valsF E subs n).1.1 [] [] []),(valsF E subs n).2)
  else if kd=4 then
   if (subs.headD noEx).kind=1 then (wrapF (cellsF B (subs.drop 1) n).1.2 (.mk 2 (subs.headD noEx).name 0 (cellsF B (subs.drop 1) n).1.1 [] [] []),(cellsF B (subs.drop 1) n).2)
   else (wrapF (.look (itT itsL n) (E (subs.headD noEx) (n+1)).1::(cellsF B (subs.drop 1) (E (subs.headD noEx) (n+1)).2).1.2) (.mk 2 (itT itsL n) 0 (cellsF B (subs.drop 1) (E (subs.headD noEx) (n+1)).2).1.1 [] [] []),(cellsF B (subs.drop 1) (E (subs.headD noEx) (n+1)).2).2)
  else if kd=5 then (.mk 6 [] 0 [] [(E (subs.headD noEx) (letsF B (upF binds (subs.headD noEx)) binds n).2).1] (letsF B (upF binds (subs.headD noEx)) binds n).1 [],(E (subs.headD noEx) (letsF B (upF binds (subs.headD noEx)) binds n).2).2)
  else (.mk 5 nm 0 [] [(E (subs.headD noEx) n).1] [] (mapN (altN E) alts (E (subs.headD noEx) n).2).1,(mapN (altN E) alts (E (subs.headD noEx) n).2).2)
def bindB (top:List Str) (E:Ex→Nat→Sg×Nat) (B:Str→Ex→Bool→Nat→List Sb×Nat) (s:Str) (e:Ex) (up:Bool) (n:Nat):List Sb×Nat:=
 if e.kind=3 then ([.mk s 1 (topF top e) e.names false [] [] [(E (e.subs.headD noEx) n).1]],(E (e.subs.headD noEx) n).2)
 else if e.kind=7 then (barsF (cellsF B e.subs n).1.2++[.mk s 3 [] [] false e.name (cellsF B e.subs n).1.1 []],(cellsF B e.subs n).2)
 else ([.mk s 2 (topF top e) [] up [] [] [(E e n).1]],(E e n).2)
def trF (top:List Str):Nat→(Ex→Nat→Sg×Nat)×(Str→Ex→Bool→Nat→List Sb×Nat)
 |0=>(fun _ n=>(.mk 1 [] 0 [] [] [] [],n),fun _ _ _ n=>([],n))
 |m+1=>(exprB (trF top m).1 (trF top m).2,bindB top (trF top m).1 (trF top m).2)
def rqE (e:Ex):Nat:=3*e.wt+(if e.kind=3 then 2 else 0)
def rqB (e:Ex):Nat:=3*e.wt+1

def shpP (kd nn op:Int) (nm nl sl bl al:Nat) (ar:Int):Prop:=
 (1≤kd∧kd≤8)∧(nm=0∨kd=1∨kd=6∨kd=7)∧(nn=0∨kd=2)∧(op=0∨kd=8)∧(nl=0∨kd=3)∧(bl=0∨kd=5)∧(al=0∨kd=6)∧(sl=1∨¬ (kd=3∨kd=5∨kd=6))∧(sl=0∨¬ (kd=1∨kd=2))∧(0≤ar∨¬ kd=8)
theorem nil_len {α:Type} (l:List α):(l=[])=(l.length=0):=by rw[List.length_eq_zero_iff]
theorem shpC_iff (kd:Int) (nm:Str) (nn op:Int) (names:List Str) (subs:List Ex) (binds:List Bd) (alts:List Al):
 (shpC (.mk kd nm nn op names subs binds alts)=true)↔(shpP kd nn op nm.length names.length subs.length binds.length alts.length (argS op)∧alts.any badAl=false):=by
 generalize hq:alts.any badAl=q
 have h0:shpC (.mk kd nm nn op names subs binds alts)=if kd=1 then !oddS true false false false false false 0 (.mk kd nm nn op names subs binds alts)&&!q
  else if kd=2 then !oddS false false false false false true 0 (.mk kd nm nn op names subs binds alts)&&!q
  else if kd=3 then !oddS false true false false false false 1 (.mk kd nm nn op names subs binds alts)&&!q
  else if kd=4 then !oddS false false false false false false (-1) (.mk kd nm nn op names subs binds alts)&&!q
  else if kd=5 then !oddS false false true false false false 1 (.mk kd nm nn op names subs binds alts)&&!q
  else if kd=6 then !oddS true false false true false false 1 (.mk kd nm nn op names subs binds alts)&&!q
  else if kd=7 then !oddS true false false false false false (-1) (.mk kd nm nn op names subs binds alts)&&!q
  else if kd=8 then !oddS false false false false true false (-1) (.mk kd nm nn op names subs binds alts)&&!q
  else false:=by rw[← hq];rfl
 rw[h0]
 clear h0 hq
 simp only[oddS,nil_len]
 generalize argS op=ar
 generalize nm.length=nml
 generalize names.length=nal
 generalize subs.length=sul
 generalize binds.length=bil
 generalize alts.length=all
 unfold shpP
 cases q
 ·simp only[Bool.not_false,Bool.and_true,and_true]
  by_cases h1:kd=1
  ·subst h1;simp;omega
  by_cases h2:kd=2
  ·subst h2;simp;omega
  by_cases h3:kd=3
  ·subst h3;simp;omega
  by_cases h4:kd=4
  ·subst h4;simp;omega
  by_cases h5:kd=5
  ·subst h5;simp;omega
  by_cases h6:kd=6
  ·subst h6;simp;omega
  by_cases h7:kd=7
  ·subst h7;simp;omega
  by_cases h8:kd=8
  ·subst h8;simp;omega
  simp only[h1,h2,h3,h4,h5,h6,h7,h8,if_false,Bool.false_eq_true,false_iff]
  omega
 ·simp
section
structure Sh (cs:List Cn) (e:Ex):Prop where
 shp:allS shpC e=true
 ful:allS (fulS cs) e=true
theorem Sh.part {cs:List Cn} {e p:Ex} (h:Sh cs e) (hp:p∈e.parts):Sh cs p:=by
 obtain⟨h1,h2⟩:=h
 rw[allS_eq,Bool.and_eq_true,List.all_eq_true] at h1 h2
 exact⟨h1.2 p hp,h2.2 p hp⟩
section
variable {cs:List Cn} {kd nn op:Int} {nm:Str} {names:List Str} {subs:List Ex} {binds:List Bd} {alts:List Al}
theorem Sh.sub (h:Sh cs (.mk kd nm nn op names subs binds alts)) {x:Ex} (hx:x∈subs):Sh cs x:=h.part (List.mem_append_left _ hx)
theorem Sh.bind (h:Sh cs (.mk kd nm nn op names subs binds alts)) {x:Bd} (hx:x∈binds):Sh cs x.e:=h.part (List.mem_append_right _ (List.mem_append_left _ (List.mem_map_of_mem hx)))
theorem Sh.alt (h:Sh cs (.mk kd nm nn op names subs binds alts)) {x:Al} (hx:x∈alts):Sh cs x.body:=h.part (List.mem_append_right _ (List.mem_append_right _ (List.mem_map_of_mem hx)))
theorem Sh.node (h:Sh cs (.mk kd nm nn op names subs binds alts)):shpP kd nn op nm.length names.length subs.length binds.length alts.length (argS op):=by
 have h1:=h.shp
 rw[allS_eq,Bool.and_eq_true] at h1
 exact((shpC_iff ..).1 h1.1).1
theorem Sh.app (h:Sh cs (.mk 4 nm nn op names subs binds alts)):1<subs.length:=by
 have h1:=h.ful
 rw[allS_eq,Bool.and_eq_true] at h1
 have h2:=h1.1
 simp only[fulS,Ex.kind,Ex.subs] at h2
 rw[if_neg (by omega),if_pos trivial] at h2
 exact of_decide_eq_true h2
end
def CntE (cs:List Cn) (E:Ex→Nat→Sg×Nat):Prop:=∀ e n,Sh cs e→(E e n).2+1≤n+e.wt
def CntB (cs:List Cn) (B:Str→Ex→Bool→Nat→List Sb×Nat):Prop:=∀ s e u n,Sh cs e→(B s e u n).2+1≤n+e.wt∧(B s e u n).1.length≤e.wt
theorem cellsF_cnt {cs:List Cn} {B:Str→Ex→Bool→Nat→List Sb×Nat} (hB:CntB cs B):∀ (l:List Ex) (n:Nat),(∀ x∈l,Sh cs x)→
 (cellsF B l n).2≤n+exsWt l∧(cellsF B l n).1.1.length=l.length∧(cellsF B l n).1.2.length≤l.length∧(barsF (cellsF B l n).1.2).length≤exsWt l
 |[],n,_=>by simp[cellsF,exsWt,barsF]
 |e::r,n,h=>by
  have hr:=fun n=>cellsF_cnt hB r n fun x hx=>h x (List.mem_cons_of_mem _ hx)
  have he:=fun s u n=>hB s e u n (h e (List.mem_cons_self ..))
  have hp:=e.wt_pos
  rw[cellsF]
  split
  ·have h1:=hr n
   simp only[exsWt,List.length_cons]
   omega
  ·have h1:=he (itT itsL n) true (n+1)
   have h2:=hr (B (itT itsL n) e true (n+1)).2
   simp only[exsWt,List.length_cons,barsF,List.length_append]
   omega
theorem valsF_cnt {cs:List Cn} {E:Ex→Nat→Sg×Nat} (hE:CntE cs E):∀ (l:List Ex) (n:Nat),(∀ x∈l,Sh cs x)→
 (valsF E l n).2≤n+exsWt l∧(valsF E l n).1.1.length=l.length∧(valsF E l n).1.2.length≤l.length
 |[],n,_=>by simp[valsF,exsWt]
 |e::r,n,h=>by
  have hr:=fun n=>valsF_cnt hE r n fun x hx=>h x (List.mem_cons_of_mem _ hx)
  have he:=fun n=>hE e n (h e (List.mem_cons_self ..))
  have hp:=e.wt_pos
  rw[valsF]
  split
  ·have h1:=hr n
   simp only[exsWt,List.length_cons]
   omega
  ·have h1:=he (n+1)
   have h2:=hr (E e (n+1)).2
   simp only[exsWt,List.length_cons]
   omega
theorem letsF_cnt {cs:List Cn} {B:Str→Ex→Bool→Nat→List Sb×Nat} (hB:CntB cs B) (u:Bd→Bool):∀ (l:List Bd) (n:Nat),(∀ x∈l,Sh cs x.e)→
 (letsF B u l n).2≤n+bdsWt l∧(letsF B u l n).1.length≤bdsWt l
 |[],n,_=>by simp[letsF,bdsWt]
 |b::r,n,h=>by
  have h1:=hB b.name b.e (u b) n (h b (List.mem_cons_self ..))
  have h2:=letsF_cnt hB u r (B b.name b.e (u b) n).2 fun x hx=>h x (List.mem_cons_of_mem _ hx)
  have hp:=b.wt_gt
  simp only[letsF,bdsWt,List.length_append]
  omega
theorem altN_cnt {cs:List Cn} {E:Ex→Nat→Sg×Nat} (hE:CntE cs E):∀ (l:List Al) (n:Nat),(∀ x∈l,Sh cs x.body)→(mapN (altN E) l n).2≤n+alsWt l
 |[],n,_=>by simp[mapN,alsWt]
 |a::r,n,h=>by
  have h1:=hE a.body n (h a (List.mem_cons_self ..))
  have h2:=altN_cnt hE r (E a.body n).2 fun x hx=>h x (List.mem_cons_of_mem _ hx)
  have hp:=a.wt_gt
  simp only[mapN,altN,alsWt]
  omega
theorem headD_mem {l:List Ex} (h:0<l.length):l.headD noEx∈l:=by
 cases l with
 |nil=>simp at h
 |cons x r=>exact List.mem_cons_self ..
theorem exsWt_drop1 {l:List Ex} (h:0<l.length):exsWt l=(l.headD noEx).wt+exsWt (l.drop 1):=by
 cases l with
 |nil=>simp at h
 |cons x r=>rfl
theorem exprB_cnt {cs:List Cn} {E:Ex→Nat→Sg×Nat} {B:Str→Ex→Bool→Nat→List Sb×Nat} (hE:CntE cs E) (hB:CntB cs B)
 (hL:∀ s e u n,Sh cs e→e.kind=3→(B s e u n).2+2≤n+e.wt):CntE cs (exprB E B):=by
 intro e n h
 have hp:=e.wt_pos
 obtain⟨kd,nm,nn,op,names,subs,binds,alts⟩:=e
 have hnode:=h.node
 have hw:(Ex.mk kd nm nn op names subs binds alts).wt=1+nm.length+strsWt names+exsWt subs+bdsWt binds+alsWt alts:=by simp only[Ex.wt]
 rw[exprB]
 split
 ·simp only;omega
 split
 ·rename_i h3
  have:=hL (itT itsL n) _ true (n+1) h h3
  simp only;omega
 split
 ·have:=(cellsF_cnt hB subs n fun x hx=>h.sub hx).1
  simp only;omega
 split
 ·have:=(valsF_cnt hE subs n fun x hx=>h.sub hx).1
  simp only;omega
 split
 ·rename_i h4
  subst h4
  have hs:=h.app
  have h0:=exsWt_drop1 (l:=subs) (by omega)
  have hc:=fun n=>(cellsF_cnt hB (subs.drop 1) n fun x hx=>h.sub (List.mem_of_mem_drop hx)).1
  have he:=fun n=>hE (subs.headD noEx) n (h.sub (headD_mem (by omega)))
  have hpe:=(subs.headD noEx).wt_pos
  split
  ·have:=hc n
   simp only;omega
  ·have h1:=he (n+1)
   have h2:=hc (E (subs.headD noEx) (n+1)).2
   simp only;omega
 split
 ·rename_i h5
  subst h5
  have hs:subs.length=1:=by unfold shpP at hnode;omega
  have h0:=exsWt_drop1 (l:=subs) (by omega)
  have h1:=(letsF_cnt hB (upF binds (subs.headD noEx)) binds n fun x hx=>h.bind hx).1
  have h2:=hE (subs.headD noEx) (letsF B (upF binds (subs.headD noEx)) binds n).2 (h.sub (headD_mem (by omega)))
  simp only;omega
 ·have hs:subs.length=1:=by unfold shpP at hnode;omega
  have h0:=exsWt_drop1 (l:=subs) (by omega)
  have h1:=hE (subs.headD noEx) n (h.sub (headD_mem (by omega)))
  have h2:=altN_cnt hE alts (E (subs.headD noEx) n).2 fun x hx=>h.alt hx
  simp only;omega
theorem bindB_cnt {cs:List Cn} {top:List Str} {E:Ex→Nat→Sg×Nat} {B:Str→Ex→Bool→Nat→List Sb×Nat} (hE:CntE cs E) (hB:CntB cs B):
 CntB cs (bindB top E B)∧∀ s e u n,Sh cs e→e.kind=3→(bindB top E B s e u n).2+2≤n+e.wt:=by
 have h3:∀ s e u n,Sh cs e→e.kind=3→(bindB top E B s e u n).2+2≤n+e.wt∧(bindB top E B s e u n).1.length≤e.wt:=by
  intro s e u n h hk
  have hp:=e.wt_pos
  obtain⟨kd,nm,nn,op,names,subs,binds,alts⟩:=e
  have hnode:=h.node
  have hw:(Ex.mk kd nm nn op names subs binds alts).wt=1+nm.length+strsWt names+exsWt subs+bdsWt binds+alsWt alts:=by simp only[Ex.wt]
  obtain rfl:kd=3:=hk
  have hs:subs.length=1:=by unfold shpP at hnode;omega
  have h0:=exsWt_drop1 (l:=subs) (by omega)
  have h1:=hE (subs.headD noEx) n (h.sub (headD_mem (by omega)))
  unfold bindB
  rw[if_pos (show(Ex.mk 3 nm nn op names subs binds alts).kind=3 from rfl)]
  simp only[Ex.subs,List.length_cons,List.length_nil]
  omega
 refine⟨fun s e u n h=>?_,fun s e u n h hk=>(h3 s e u n h hk).1⟩
 by_cases hk:e.kind=3
 ·have:=h3 s e u n h hk;omega
 have hp:=e.wt_pos
 obtain⟨kd,nm,nn,op,names,subs,binds,alts⟩:=e
 have hw:(Ex.mk kd nm nn op names subs binds alts).wt=1+nm.length+strsWt names+exsWt subs+bdsWt binds+alsWt alts:=by simp only[Ex.wt]
 have h1:=hE _ n h
 have h2:=cellsF_cnt hB subs n fun x hx=>h.sub hx
 unfold bindB
 rw[if_neg hk]
 split
 ·simp only[Ex.subs,List.length_append,List.length_cons,List.length_nil]
  omega
 ·simp only[List.length_cons,List.length_nil]
  omega
theorem trF_cnt (cs:List Cn) (top:List Str):∀ m,CntE cs (trF top m).1∧CntB cs (trF top m).2∧∀ s e u n,Sh cs e→e.kind=3→((trF top m).2 s e u n).2+2≤n+e.wt
 |0=>by
  refine⟨fun e n h=>?_,fun s e u n h=>?_,fun s e u n h hk=>?_⟩
  ·have:=e.wt_pos;simp only[trF];omega
  ·have:=e.wt_pos;simp only[trF,List.length_nil];omega
  ·obtain⟨kd,nm,nn,op,names,subs,binds,alts⟩:=e
   have hnode:=h.node
   obtain rfl:kd=3:=hk
   have hs:subs.length=1:=by unfold shpP at hnode;omega
   have h0:=exsWt_drop1 (l:=subs) (by omega)
   have:=(subs.headD noEx).wt_pos
   simp only[trF,Ex.wt];omega
 |m+1=>by
  obtain⟨h1,h2,h3⟩:=trF_cnt cs top m
  obtain⟨h4,h5⟩:=bindB_cnt (top:=top) h1 h2
  exact⟨exprB_cnt h1 h2 h3,h4,h5⟩
theorem bindB_ne (top:List Str) (E:Ex→Nat→Sg×Nat) (B:Str→Ex→Bool→Nat→List Sb×Nat) (s:Str) (e:Ex) (u:Bool) (n:Nat):(bindB top E B s e u n).1≠[]:=by
 unfold bindB
 split
 ·simp
 split
 ·simp
 ·simp
theorem trB_ne (top:List Str) {m:Nat} (hm:0<m) (s:Str) (e:Ex) (u:Bool) (n:Nat):((trF top m).2 s e u n).1≠[]:=by
 cases m with
 |zero=>omega
 |succ m=>exact bindB_ne top (trF top m).1 (trF top m).2 s e u n
theorem cellsF_ok {B:Str→Ex→Bool→Nat→List Sb×Nat}:∀ (l:List Ex) (n:Nat),(∀ s x u n,(B s x u n).1≠[])→∀ a∈(cellsF B l n).1.2,a.ok
 |[],n,_,a,ha=>by simp[cellsF] at ha
 |e::r,n,h,a,ha=>by
  rw[cellsF] at ha
  split at ha
  ·exact cellsF_ok r _ h a ha
  ·simp only[List.mem_cons] at ha
   rcases ha with rfl|ha
   ·exact h _ _ _ _
   ·exact cellsF_ok r _ h a ha
theorem valsF_ok {E:Ex→Nat→Sg×Nat}:∀ (l:List Ex) (n:Nat),∀ a∈(valsF E l n).1.2,a.ok
 |[],n,a,ha=>by simp[valsF] at ha
 |e::r,n,a,ha=>by
  rw[valsF] at ha
  split at ha
  ·exact valsF_ok r _ a ha
  ·simp only[List.mem_cons] at ha
   rcases ha with rfl|ha
   ·trivial
   ·exact valsF_ok r _ a ha
theorem rq_sub {e x:Ex} (h:x.wt<e.wt):rqE x+1≤3*e.wt∧rqB x+1≤3*e.wt:=by
 unfold rqE rqB
 split<;>omega
theorem cellsF_cut {B:Str→Ex→Bool→Nat→List Sb×Nat} {l:List Ex} {n0 n i:Nat} {A:List At} {W:List Ar} (h:i<l.length)
 (hm:cellsF B l n0=((A++(cellsF B (l.drop i) n).1.1,W++(cellsF B (l.drop i) n).1.2),(cellsF B (l.drop i) n).2)):
 (isAt l[i]=true→cellsF B l n0=((A++[atE l[i]]++(cellsF B (l.drop (i+1)) n).1.1,W++(cellsF B (l.drop (i+1)) n).1.2),(cellsF B (l.drop (i+1)) n).2))∧
 (isAt l[i]=false→cellsF B l n0=((A++[⟨itT itsL n,0⟩]++(cellsF B (l.drop (i+1)) (B (itT itsL n) l[i] true (n+1)).2).1.1,W++[.bs (B (itT itsL n) l[i] true (n+1)).1]++(cellsF B (l.drop (i+1)) (B (itT itsL n) l[i] true (n+1)).2).1.2),(cellsF B (l.drop (i+1)) (B (itT itsL n) l[i] true (n+1)).2).2)):=by
 rw[List.drop_eq_getElem_cons h] at hm
 rw[cellsF] at hm
 constructor
 ·intro hb
  rw[if_pos hb] at hm
  rw[hm];simp
 ·intro hb
  rw[if_neg (by rw[hb];exact Bool.false_ne_true)] at hm
  rw[hm];simp
theorem valsF_cut {E:Ex→Nat→Sg×Nat} {l:List Ex} {n0 n i:Nat} {A:List At} {W:List Ar} (h:i<l.length)
 (hm:valsF E l n0=((A++(valsF E (l.drop i) n).1.1,W++(valsF E (l.drop i) n).1.2),(valsF E (l.drop i) n).2)):
 (l[i].kind=2→valsF E l n0=((A++[atE l[i]]++(valsF E (l.drop (i+1)) n).1.1,W++(valsF E (l.drop (i+1)) n).1.2),(valsF E (l.drop (i+1)) n).2))∧
 (¬ l[i].kind=2→valsF E l n0=((A++[⟨itT itsL n,0⟩]++(valsF E (l.drop (i+1)) (E l[i] (n+1)).2).1.1,W++[.look (itT itsL n) (E l[i] (n+1)).1]++(valsF E (l.drop (i+1)) (E l[i] (n+1)).2).1.2),(valsF E (l.drop (i+1)) (E l[i] (n+1)).2).2)):=by
 rw[List.drop_eq_getElem_cons h] at hm
 rw[valsF] at hm
 constructor
 ·intro hb
  rw[if_pos hb] at hm
  rw[hm];simp
 ·intro hb
  rw[if_neg hb] at hm
  rw[hm];simp
theorem letsF_cut {B:Str→Ex→Bool→Nat→List Sb×Nat} {u:Bd→Bool} {l:List Bd} {n0 n i:Nat} {D:List Sb} (h:i<l.length) (hm:letsF B u l n0=(D++(letsF B u (l.drop i) n).1,(letsF B u (l.drop i) n).2)):
 letsF B u l n0=(D++(B l[i].name l[i].e (u l[i]) n).1++(letsF B u (l.drop (i+1)) (B l[i].name l[i].e (u l[i]) n).2).1,(letsF B u (l.drop (i+1)) (B l[i].name l[i].e (u l[i]) n).2).2):=by
 rw[List.drop_eq_getElem_cons h] at hm
 rw[letsF] at hm
 rw[hm];simp
end
def MtC (G:Gl) (cs:List Cn) (m:Nat):Prop:=∀ (e:Ex) (s:Str) (H:List Blk),e.wt≤m→e.wt<4294967296→Sh cs e→ACall Tryz.prog G 51 [e.sv,.str s] H (fun r H'=>H'=H∧r= .bool (meetF m e s))
theorem meets2_ok (G:Gl) (hG:GClosed G) {cs:List Cn} {m:Nat} (hrec:MtC G cs m) (x:Ex) (s:Str) (H:List Blk) (hx:x.wt≤m) (hw:x.wt<4294967296) (hs:Sh cs x):
 ACall Tryz.prog G 98 [x.sv,.pto (.str s)] H (fun r H'=>H'=H∧r= .bool (meetF m x s)):=by
 have c1:=fun H=>hrec x s H hx hw hs
 generalize meetF m x s=b0 at*
 obtain⟨k2,n2,nn2,op2,ns2,ss2,bs2,as2⟩:=x
 refine ACall.of_go TB [] tabOK _ Tryz.func98 rfl (by decide) Tryz.ntmps98 (by simp) rfl (by simp only[initEnv,Nat.reduceAdd];rfl) fun C R' hR hC hcl hB=>?_;have X:=noX;have hC':=congrArg List.length hC
 (refine run ?_;with_reducible repeat' first|exact trivial|(apply Fork.mk<;>intro hb)|apply Two.mk)
 exact finS (n0:=H.length) hR hC' hcl (.same _ rfl) ⟨rfl,rfl⟩
theorem meets1_ok (G:Gl) (hG:GClosed G) (x:Bd) (s:Str) (H:List Blk):ACall Tryz.prog G 96 [x.sv,.pto (.str s)] H (fun r H'=>H'=H∧r= .bool (decide (x.name=s))):=by
 obtain⟨n,e⟩:=x
 obtain⟨k2,n2,nn2,op2,ns2,ss2,bs2,as2⟩:=e
 rw[show(Bd.mk n (.mk k2 n2 nn2 op2 ns2 ss2 bs2 as2)).name=n from rfl]
 refine ACall.of_go TB [] tabOK _ Tryz.func96 rfl (by decide) Tryz.ntmps96 (by simp) rfl (by simp only[initEnv,Nat.reduceAdd];rfl) fun C R' hR hC hcl hB=>?_;have X:=noX;have hC':=congrArg List.length hC
 (refine run ?_;with_reducible repeat' first|exact trivial|(apply Fork.mk<;>intro hb)|apply Two.mk)
 exact finS (n0:=H.length) hR hC' hcl (.same _ rfl) ⟨rfl,rfl⟩
theorem wayE {alts:List Al} {i:Nat} (h:i<alts.length) (p:Al→Bool) (S:List Ex):
 S++((alts.take (i+1)).filter p).map Al.body=if p alts[i] then (S++((alts.take i).filter p).map Al.body)++[alts[i].body] else S++((alts.take i).filter p).map Al.body:=by
 rw[List.take_succ_eq_append_getElem h,List.filter_append,List.map_append]
 cases hp:p alts[i]<;>simp[hp]
theorem exCells_take' (l:List Ex) (n:Nat):exCells (l.take n)=(exCells l).take n:=by simp[exCells_map,List.map_take]
theorem meets_ok (G:Gl) (hG:GClosed G) (hB0:Based G 0) (cs:List Cn):∀ m,MtC G cs m
 |0,e,_,_,h,_,_=>absurd e.wt_pos (by omega)
 |m+1,e,s,H,hm,hw,hs=>by
  have hrec:=meets_ok G hG hB0 cs m
  obtain⟨kd,nm,nn,op,names,subs,binds,alts⟩:=e
  have hlen:=Ex.wt_lens kd nm nn op names subs binds alts
  have hww:(Ex.mk kd nm nn op names subs binds alts).wt=1+nm.length+strsWt names+exsWt subs+bdsWt binds+alsWt alts:=by simp only[Ex.wt]
  have hnode:=hs.node
  have hany:=fun(V:List Ex) (hV:∀ x∈V,x.wt≤m∧x.wt<4294967296∧Sh cs x) (hl:V.length<1125899906842624) (H2:List Blk) (args:List SV) (hf:FrzL H2 0 [] args [.list 8 (exCells V),.fn (.func 98) [] [.pto (.str s)]])=>
   ACall.loan (y:= .bool (V.any fun x=>meetF m x s)) hG hB0 hf (fun c c' v h=>by simpa only[Rep] using h) ((anyEx_ok G hG (.fn (.func 98) [] [.pto (.str s)]) (fun x=>meetF m x s) V [] hl (by rfl) (fun x hx=>ACallV.of (first:=[]) (args:=[x.sv]) (cap:=[.pto (.str s)]) (meets2_ok G hG hrec x s [] (hV x hx).1 (hV x hx).2.1 (hV x hx).2.2))).mono fun r H' h=>h.2)
  have hsub:∀ x∈subs,x.wt≤m∧x.wt<4294967296∧Sh cs x:=fun x hx=>⟨by have:=exsWt_mem hx;omega,by have:=exsWt_mem hx;omega,hs.sub hx⟩
  have halt:∀ x∈alts,x.body.wt≤m∧x.body.wt<4294967296∧Sh cs x.body:=fun x hx=>⟨by have:=alsWt_mem hx;have:=x.wt_gt;omega,by have:=alsWt_mem hx;have:=x.wt_gt;omega,hs.alt hx⟩
  by_cases h1:kd=1
  ·rw[show meetF (m+1) (.mk kd nm nn op names subs binds alts) s=decide (nm=s) by simp only[meetF];rw[if_pos h1]]
   subst h1
   refine ACall.of_go TB [] tabOK _ Tryz.func51 rfl (by decide) Tryz.ntmps51 (by simp) rfl (by simp only[initEnv,Nat.reduceAdd];rfl) fun C R' hR hC hcl hB=>?_;have X:=noX;have hC':=congrArg List.length hC
   (refine run ?_;with_reducible repeat' first|exact trivial|(apply Fork.mk<;>intro hb)|apply Two.mk)
   exact finS (n0:=H.length) hR hC' hcl (.same _ rfl) ⟨rfl,rfl⟩
  by_cases h8:kd=8
  ·rw[show meetF (m+1) (.mk kd nm nn op names subs binds alts) s=subs.any (fun x=>meetF m x s) by simp only[meetF];rw[if_neg h1,if_pos h8]]
   subst h8
   refine ACall.of_go TB [] tabOK _ Tryz.func51 rfl (by decide) Tryz.ntmps51 (by simp) rfl (by simp only[initEnv,Nat.reduceAdd];rfl) fun C R' hR hC hcl hB=>?_;have X:=noX;have hC':=congrArg List.length hC
   (refine run ?_;with_reducible repeat' first|exact trivial|(apply Fork.mk<;>intro hb)|apply Two.mk)
   refine callS (hany subs hsub (by omega) _ [.list 8 (exCells subs),.fn (.func 98) [] [.ptr (H.length+1) 0 0 0]] (.cons _ _ _ _ (.same _ undS) (.cons _ _ _ _ (.fn _ _ _ _ _ .nil (.cons _ _ _ _ (.ptr _ _ _ _ _ _ _ (by rw[get_app];rfl) (Nat.zero_le _) (by simp) rfl (.same _ rfl)) .nil)) .nil))) ?_
   rintro r H' ⟨rfl,rfl⟩
   (refine run ?_;with_reducible repeat' first|exact trivial|(apply Fork.mk<;>intro hb)|apply Two.mk)
   exact finS (n0:=H.length) hR hC' hcl (.same _ rfl) ⟨rfl,rfl⟩
  by_cases h4:kd=4
  ·rw[show meetF (m+1) (.mk kd nm nn op names subs binds alts) s=(subs.take 1).any (fun x=>meetF m x s) by simp only[meetF];rw[if_neg h1,if_neg h8,if_pos h4]]
   subst h4
   have hsl:1<subs.length:=hs.app
   have hal:alts.length=0:=by unfold shpP at hnode;omega
   have i1:¬ (subs.length:Int)<1:=by omega
   have i2:(1:Int)≤(subs.length:Int):=by omega
   have i3:IntKind.i64.min≤(subs.length:Int)∧(subs.length:Int)≤IntKind.i64.max:=⟨by show(-9223372036854775808:Int)≤_;omega,by show _≤(9223372036854775807:Int);omega⟩
   have hcl1:=fun H=>clone_exs G hG (subs.take 1) H (by rw[List.length_take];omega)
   rw[exCells_take',List.length_take,Nat.min_eq_left (by omega:1≤subs.length)] at hcl1
   refine ACall.of_go TB [5] tabOK _ Tryz.func51 rfl (by decide) Tryz.ntmps51 (by simp) rfl (by simp only[initEnv,Nat.reduceAdd];rfl) fun C R' hR hC hcl hB=>?_;have X:=noX;have hC':=congrArg List.length hC
   have X:=And.intro noX (And.intro i1 (And.intro i2 i3))
   (refine run ?_;with_reducible repeat' first|exact trivial|(apply Fork.mk<;>intro hb)|apply Two.mk)
   refine callS (hcl1 _) ?_
   rintro r H' ⟨rfl,rfl⟩
   simp only[List.append_assoc,List.cons_append,List.nil_append,List.length_append,List.length_cons,List.length_nil,List.length_set,X,Nat.reduceAdd]
   have X:=And.intro noX (And.intro hal (Int.lt_irrefl 0))
   (refine run ?_;with_reducible repeat' first|exact trivial|(apply Fork.mk<;>intro hb)|apply Two.mk)
   refine go_loop (fun _:Unit=>[(2,.ptr H.length 0 0 0),(3,.ptr (H.length+1) 0 0 0),(5,.sl (H.length+3) 0 0 1),(33,.int .i64 0),(34,.int .i64 0)])
    (fun _=>H++[.cells 0 8 [.agg [.int .i64 4,.str nm,.int .i64 nn,.int .i64 op,.list 1 (names.map .str),.list 8 (exCells subs),.list 9 (bdCells binds),.list 12 (alCells alts)]],.cells 0 1 [.str s],.cells 0 8 [],.cells 0 8 ((exCells subs).take 1)]) (fun _=>0) (fun _=>True) () trivial (Wk.sub (by simp[subEnv,look])) ?_
   rintro K _ _ hK
   clear hK
   have X:=And.intro noX (Int.lt_irrefl 0)
   (refine run ?_;with_reducible repeat' first|exact trivial|(apply Fork.mk<;>intro hb)|apply Two.mk)
   refine callS (hany (subs.take 1) (fun x hx=>hsub x (List.mem_of_mem_take hx)) (by rw[List.length_take];omega) _ [.sl (H.length+3) 0 0 1,.fn (.func 98) [] [.ptr (H.length+1) 0 0 0]] (.cons _ _ _ _ (Frz.sf (g:=0) (sz:=8) (vals:=(exCells subs).take 1) (by rw[get_app];rfl) (Nat.zero_le _) (by simp) (by rw[exCells_take',List.drop_zero];first|done|rfl|(rw[List.take_take];rfl)|(rw[List.take_take];done)) (exCells_under _ _)) (.cons _ _ _ _ (.fn _ _ _ _ _ .nil (.cons _ _ _ _ (.ptr _ _ _ _ _ _ _ (by rw[get_app];rfl) (Nat.zero_le _) (by simp) rfl (.same _ rfl)) .nil)) .nil))) ?_
   rintro r H' ⟨rfl,rfl⟩
   (refine run ?_;with_reducible repeat' first|exact trivial|(apply Fork.mk<;>intro hb)|apply Two.mk)
   exact finS (n0:=H.length) hR hC' hcl (.same _ rfl) ⟨rfl,rfl⟩
  by_cases h6:kd=6
  ·rw[show meetF (m+1) (.mk kd nm nn op names subs binds alts) s=((subs.take 1).any (fun x=>meetF m x s)||(!decide (nm=s)&&alts.any (fun a=>!decide (s∈a.names)&&meetF m a.body s))) by simp only[meetF];rw[if_neg h1,if_neg h8,if_neg h4,if_pos h6]]
   subst h6
   have hsl:subs.length=1:=by unfold shpP at hnode;omega
   have hst:subs.take 1=subs:=List.take_of_length_le (by omega)
   rw[hst]
   have i1:¬ (subs.length:Int)<1:=by omega
   have i2:(1:Int)≤(subs.length:Int):=by omega
   have i3:IntKind.i64.min≤(subs.length:Int)∧(subs.length:Int)≤IntKind.i64.max:=⟨by show(-9223372036854775808:Int)≤_;omega,by show _≤(9223372036854775807:Int);omega⟩
   have hcl1:=fun H=>clone_exs G hG (subs.take 1) H (by rw[List.length_take];omega)
   rw[exCells_take',List.length_take,Nat.min_eq_left (by omega:1≤subs.length)] at hcl1
   have hex:(exCells subs).take 1=exCells subs:=by rw[← exCells_take',hst]
   rw[hex] at hcl1
   have hways:∀ V,V=subs++(alts.filter fun a=>!decide (nm=s)&&!decide (s∈a.names)).map Al.body→(V.any fun x=>meetF m x s)=(subs.any (fun x=>meetF m x s)||(!decide (nm=s)&&alts.any (fun a=>!decide (s∈a.names)&&meetF m a.body s))):=by
    rintro V rfl
    rw[List.any_append,List.any_map,List.any_filter]
    congr 1
    cases decide (nm=s)<;>simp
   have hvm:∀ x∈subs++(alts.filter fun a=>!decide (nm=s)&&!decide (s∈a.names)).map Al.body,x.wt≤m∧x.wt<4294967296∧Sh cs x:=fun x hx=>by
    rcases List.mem_append.1 hx with hx|hx
    ·exact hsub x hx
    ·obtain⟨a,ha,rfl⟩:=List.mem_map.1 hx
     exact halt a (List.mem_filter.1 ha).1
   have hvl:∀ i,(subs++((alts.take i).filter fun a=>!decide (nm=s)&&!decide (s∈a.names)).map Al.body).length≤1+alts.length:=fun i=>by
    rw[List.length_append,List.length_map]
    have h1:=List.length_filter_le (fun a:Al=>!decide (nm=s)&&!decide (s∈a.names)) (alts.take i)
    have h2:(alts.take i).length≤alts.length:=by rw[List.length_take];omega
    omega
   have hstep:=fun i (h:i<alts.length)=>wayE h (fun a=>!decide (nm=s)&&!decide (s∈a.names)) subs
   have hall:subs++((alts.take alts.length).filter fun a=>!decide (nm=s)&&!decide (s∈a.names)).map Al.body=subs++(alts.filter fun a=>!decide (nm=s)&&!decide (s∈a.names)).map Al.body:=by rw[List.take_length]
   have h00:subs=subs++((alts.take 0).filter fun a=>!decide (nm=s)&&!decide (s∈a.names)).map Al.body:=by simp
   obtain⟨V,hV⟩:∃ V:Nat→List Ex,∀ i,V i=subs++((alts.take i).filter fun a=>!decide (nm=s)&&!decide (s∈a.names)).map Al.body:=⟨fun i=>_,fun i=>rfl⟩
   simp only[← hV] at hvl hstep h00 hall
   refine ACall.of_go TB [5] tabOK _ Tryz.func51 rfl (by decide) Tryz.ntmps51 (by simp) rfl (by simp only[initEnv,Nat.reduceAdd];rfl) fun C R' hR hC hcl hB=>?_;have X:=noX;have hC':=congrArg List.length hC
   have X:=And.intro noX (And.intro i1 (And.intro i2 (And.intro i3 hex)))
   (refine run ?_;with_reducible repeat' first|exact trivial|(apply Fork.mk<;>intro hb)|apply Two.mk)
   refine callS (hcl1 _) ?_
   rintro r H' ⟨rfl,rfl⟩
   simp only[List.append_assoc,List.cons_append,List.nil_append,List.length_append,List.length_cons,List.length_nil,List.length_set,X,Nat.reduceAdd]
   (refine run ?_;with_reducible repeat' first|exact trivial|(apply Fork.mk<;>intro hb)|apply Two.mk)
   refine go_loop (fun i:Nat=>[(2,.ptr H.length 0 0 0),(3,.ptr (H.length+1) 0 0 0),(5,.sl (H.length+2) 0 0 (V i).length),(32,.list 12 (alCells alts)),(33,.int .i64 alts.length),(34,.int .i64 (i:Int))])
    (fun i=>H++[.cells 0 8 [.agg [.int .i64 6,.str nm,.int .i64 nn,.int .i64 op,.list 1 (names.map .str),.list 8 (exCells subs),.list 9 (bdCells binds),.list 12 (alCells alts)]],.cells 0 1 [.str s],.cells 0 8 (exCells (V i))]) (fun i=>alts.length - i) (fun i=>i≤alts.length) 0 (Nat.zero_le _) ?_ ?_
   ·rw[← h00,hsl]
    exact wkS (n0:=H.length) [(H.length,0),(H.length+1,0),(H.length+3,0)] hG hB hC' hcl
   rintro K i hi hK
   rcases Nat.lt_or_ge i alts.length with hlt|hge
   ·have hst2:=hstep i hlt
    have hvi:=hvl i
    have hw1:=alts[i].wt_names
    have hw2:=alsWt_mem (List.getElem_mem hlt)
    have hcg:(alCells alts)[i]? =some (.agg (.int .i64 alts[i].kind:: .str alts[i].name:: .int .i64 alts[i].n:: .list 1 (alts[i].names.map .str)::alts[i].body.cells)):=by rw[alCells_get,List.getElem?_eq_getElem hlt];rfl
    have c1:=fun H=>contains_list G alts[i].names s H (by omega)
    have hsn:∀ e:Ex,exCells (V i)++[.agg e.cells]=exCells (V i++[e]):=fun e=>by simp[exCells_map];rfl
    generalize V i=Vi at*
    generalize alts[i].names=ns at*
    generalize alts[i].body=bd at*
    obtain⟨k2,n2,nn2,op2,ns2,ss2,bs2,as2⟩:=bd
    have hsn:exCells Vi++[.agg [.int .i64 k2,.str n2,.int .i64 nn2,.int .i64 op2,.list 1 (ns2.map .str),.list 8 (exCells ss2),.list 9 (bdCells bs2),.list 12 (alCells as2)]]=exCells (Vi++[.mk k2 n2 nn2 op2 ns2 ss2 bs2 as2]):=hsn (.mk k2 n2 nn2 op2 ns2 ss2 bs2 as2)
    have hxl:(exCells Vi).length=Vi.length:=exCells_len _
    by_cases hns:nm=s
    ·rw[decide_eq_true hns,Bool.not_true,Bool.false_and,if_neg Bool.false_ne_true] at hst2
     subst hns
     have X:=And.intro noX (And.intro hcg (And.intro hxl (And.intro hsn (eq_self nm))))
     (refine run ?_;with_reducible repeat' first|exact trivial|(apply Fork.mk<;>intro hb)|apply Two.mk)
     refine hK _ _ (i+1) (by omega) (by omega) ?_
     rw[hst2]
     exact wkS (n0:=H.length) [(H.length,0),(H.length+1,0),(H.length+2,0)] hG hB hC' hcl
    rw[decide_eq_false hns,Bool.not_false,Bool.true_and] at hst2
    by_cases hin:s∈ns
    ·rw[decide_eq_true hin,Bool.not_true,if_neg Bool.false_ne_true] at hst2
     rw[decide_eq_true hin] at c1
     have X:=And.intro noX (And.intro hcg (And.intro hxl (And.intro hsn hns)))
     (refine run ?_;with_reducible repeat' first|exact trivial|(apply Fork.mk<;>intro hb)|apply Two.mk)
     refine hK _ _ (i+1) (by omega) (by omega) ?_
     rw[hst2]
     exact wkS (n0:=H.length) [(H.length,0),(H.length+1,0),(H.length+2,0)] hG hB hC' hcl
    ·rw[decide_eq_false hin,Bool.not_false,if_pos rfl] at hst2
     rw[decide_eq_false hin] at c1
     have X:=And.intro noX (And.intro hcg (And.intro hxl (And.intro hsn hns)))
     (refine run ?_;with_reducible repeat' first|exact trivial|(apply Fork.mk<;>intro hb)|apply Two.mk)
     refine hK _ _ (i+1) (by omega) (by omega) ?_
     rw[hst2,List.length_append,List.length_singleton]
     exact wkS (n0:=H.length) [(H.length,0),(H.length+1,0),(H.length+2,0)] hG hB hC' hcl
   clear hK
   obtain rfl:i=alts.length:=by omega
   have hvi:=hvl alts.length
   rw[hall] at*
   have X:=And.intro noX (Int.lt_irrefl (alts.length:Int))
   (refine run ?_;with_reducible repeat' first|exact trivial|(apply Fork.mk<;>intro hb)|apply Two.mk)
   refine callS (hany _ hvm (by omega) _ [.sl (H.length+2) 0 0 _,.fn (.func 98) [] [.ptr (H.length+1) 0 0 0]] (.cons _ _ _ _ (Frz.sf (g:=0) (sz:=8) (by rw[get_app];rfl) (Nat.zero_le _) (by simp) (by rw[List.drop_zero,exCells_takeAll]) (exCells_under _ _)) (.cons _ _ _ _ (.fn _ _ _ _ _ .nil (.cons _ _ _ _ (.ptr _ _ _ _ _ _ _ (by rw[get_app];rfl) (Nat.zero_le _) (by simp) rfl (.same _ rfl)) .nil)) .nil))) ?_
   rintro r H' ⟨rfl,rfl⟩
   have hwy:=hways _ rfl
   (refine run ?_;with_reducible repeat' first|exact trivial|(apply Fork.mk<;>intro hb)|apply Two.mk)
   exact finS (n0:=H.length) hR hC' hcl (.same _ rfl) ⟨rfl,congrArg SV.bool (by simpa using hwy)⟩
  by_cases h5:kd=5
  ·rw[show meetF (m+1) (.mk kd nm nn op names subs binds alts) s=(!(binds.any fun b=>decide (b.name=s))&&subs.any (fun x=>meetF m x s)) by simp only[meetF];rw[if_neg h1,if_neg h8,if_neg h4,if_neg h6,if_pos h5]]
   subst h5
   have hbd:=fun(H2:List Blk) (args:List SV) (hf:FrzL H2 0 [] args [.list 9 (bdCells binds),.fn (.func 96) [] [.pto (.str s)]])=>
    ACall.loan (y:= .bool (binds.any fun b=>decide (b.name=s))) hG hB0 hf (fun c c' v h=>by simpa only[Rep] using h) ((anyBd_ok G hG (.fn (.func 96) [] [.pto (.str s)]) (fun b=>decide (b.name=s)) binds [] (by omega) (by rfl) (fun x hx=>ACallV.of (first:=[]) (args:=[x.sv]) (cap:=[.pto (.str s)]) (meets1_ok G hG x s []))).mono fun r H' h=>h.2)
   generalize (binds.any fun b=>decide (b.name=s))=bb at*
   refine ACall.of_go TB [] tabOK _ Tryz.func51 rfl (by decide) Tryz.ntmps51 (by simp) rfl (by simp only[initEnv,Nat.reduceAdd];rfl) fun C R' hR hC hcl hB=>?_;have X:=noX;have hC':=congrArg List.length hC
   (refine run ?_;with_reducible repeat' first|exact trivial|(apply Fork.mk<;>intro hb)|apply Two.mk)
   refine callS (hbd _ [.list 9 (bdCells binds),.fn (.func 96) [] [.ptr (H.length+1) 0 0 0]] (.cons _ _ _ _ (.same _ undS) (.cons _ _ _ _ (.fn _ _ _ _ _ .nil (.cons _ _ _ _ (.ptr _ _ _ _ _ _ _ (by rw[get_app];rfl) (Nat.zero_le _) (by simp) rfl (.same _ rfl)) .nil)) .nil))) ?_
   rintro r H' ⟨rfl,rfl⟩
   cases bb
   ·(refine run ?_;with_reducible repeat' first|exact trivial|(apply Fork.mk<;>intro hb)|apply Two.mk)
    refine callS (hany subs hsub (by omega) _ [.list 8 (exCells subs),.fn (.func 98) [] [.ptr (H.length+1) 0 0 0]] (.cons _ _ _ _ (.same _ undS) (.cons _ _ _ _ (.fn _ _ _ _ _ .nil (.cons _ _ _ _ (.ptr _ _ _ _ _ _ _ (by rw[get_app];rfl) (Nat.zero_le _) (by simp) rfl (.same _ rfl)) .nil)) .nil))) ?_
    rintro r H' ⟨rfl,rfl⟩
    (refine run ?_;with_reducible repeat' first|exact trivial|(apply Fork.mk<;>intro hb)|apply Two.mk)
    exact finS (n0:=H.length) hR hC' hcl (.same _ rfl) ⟨rfl,rfl⟩
   ·(refine run ?_;with_reducible repeat' first|exact trivial|(apply Fork.mk<;>intro hb)|apply Two.mk)
    refine callS (hany [] (fun x hx=>by cases hx) (by simp) _ [.nil,.fn (.func 98) [] [.ptr (H.length+1) 0 0 0]] (.cons _ _ _ _ (.nil _) (.cons _ _ _ _ (.fn _ _ _ _ _ .nil (.cons _ _ _ _ (.ptr _ _ _ _ _ _ _ (by rw[get_app];rfl) (Nat.zero_le _) (by simp) rfl (.same _ rfl)) .nil)) .nil))) ?_
    rintro r H' ⟨rfl,rfl⟩
    (refine run ?_;with_reducible repeat' first|exact trivial|(apply Fork.mk<;>intro hb)|apply Two.mk)
    exact finS (n0:=H.length) hR hC' hcl (.same _ rfl) ⟨rfl,rfl⟩
  ·rw[show meetF (m+1) (.mk kd nm nn op names subs binds alts) s=false by simp only[meetF];rw[if_neg h1,if_neg h8,if_neg h4,if_neg h6,if_neg h5]]
   refine ACall.of_go TB [] tabOK _ Tryz.func51 rfl (by decide) Tryz.ntmps51 (by simp) rfl (by simp only[initEnv,Nat.reduceAdd];rfl) fun C R' hR hC hcl hB=>?_;have X:=noX;have hC':=congrArg List.length hC
   have X:=And.intro noX (And.intro h1 (And.intro h8 (And.intro h4 (And.intro h6 h5))))
   (refine run ?_;with_reducible repeat' first|exact trivial|(apply Fork.mk<;>intro hb)|apply Two.mk)
   refine callS (hany [] (fun x hx=>by cases hx) (by simp) _ [.nil,.fn (.func 98) [] [.ptr (H.length+1) 0 0 0]] (.cons _ _ _ _ (.nil _) (.cons _ _ _ _ (.fn _ _ _ _ _ .nil (.cons _ _ _ _ (.ptr _ _ _ _ _ _ _ (by rw[get_app];rfl) (Nat.zero_le _) (by simp) rfl (.same _ rfl)) .nil)) .nil))) ?_
   rintro r H' ⟨rfl,rfl⟩
   (refine run ?_;with_reducible repeat' first|exact trivial|(apply Fork.mk<;>intro hb)|apply Two.mk)
   exact finS (n0:=H.length) hR hC' hcl (.same _ rfl) ⟨rfl,rfl⟩
theorem look_ok (G:Gl) (hG:GClosed G):∀ (m:Nat) (e:Ex) (H:List Blk) (id g:Nat) (s:Str) (n lams:Int) (b:Bool),e.wt≤m→H[id]? =some (.cells g 3 [tl s n b])→0≤n→n+e.wt<1099511627776→0≤lams→lams+e.wt<1099511627776→
 ACall Tryz.prog G 93 [.ptr id g 0 0,e.sv,.int .i64 lams] H (fun r H'=>H'=H.set id (.cells g 3 [tl s (n+occ s e) (b||insd s (decide (0<lams)) e)]))
 |0,e,H,id,g,s,n,lams,b,hw,_,_,_,_,_=>by have:=e.wt_pos;omega
 |m+1,e,H,id,g,s,n,lams,b,hw,hid,hn0,hn1,hl0,hl1=>by
  obtain⟨kd,nm,nn,op,names,subs,binds,alts⟩:=e
  have hlen:=Ex.wt_lens kd nm nn op names subs binds alts
  have hwt:(Ex.mk kd nm nn op names subs binds alts).wt=1+nm.length+strsWt names+exsWt subs+bdsWt binds+alsWt alts:=rfl
  have hlt:id<H.length:=(List.getElem?_eq_some_iff.1 hid).1
  have hlm:0≤(lams+if kd=3 then 1 else 0)∧(lams+if kd=3 then 1 else 0)≤lams+1:=by split<;>omega
  refine ACall.of_go TB [6] tabOK _ Tryz.func93 rfl (by decide) Tryz.ntmps93 (by simp) rfl (by simp only[initEnv,Nat.reduceAdd];rfl) fun C R' hR hC hcl hB=>?_;have X:=noX;have hC':=congrArg List.length hC
  have hC':C.H.length=H.length:=by rw[hC]
  (have X:=And.intro X (And.intro hid @tl.eq_1);refine runB ?_;with_reducible repeat' first|exact trivial|(apply Fork.mk<;>intro hb)|apply Two.mk)
  refine go_cut (fun _:Unit=>[(0,.ptr id g 0 0),(2,.int .i64 (lams+if kd=3 then 1 else 0)),(4,.ptr H.length 0 0 0),(6,.list 1 ((ownOf kd names binds).map .str))])
   (fun _=>H++[.cells 0 8 [.agg [.int .i64 kd,.str nm,.int .i64 nn,.int .i64 op,.list 1 (names.map .str),.list 8 (exCells subs),.list 9 (bdCells binds),.list 12 (alCells alts)]]]) (fun _=>kd≠1) (fun K hK=>?_) (fun _ hkd=>?_)
  ·(have X:=And.intro X (And.intro hid @tl.eq_1);refine runO ?_;with_reducible repeat' first|exact trivial|(apply Fork.mk<;>intro hb)|apply Two.mk)
   ·rename_i h1 h2
    refine Fin.tellN (n0:=H.length) hR (by simp) hC' (hcl.set rfl) (.same _ rfl) ?_
    simp[occ,insd,tl,h1,h2,hb]
   ·rename_i h1 h2
    refine Fin.tellN (n0:=H.length) hR (by simp) hC' (hcl.set rfl) (.same _ rfl) ?_
    simp[occ,insd,tl,h1,h2,hb]
   ·rename_i h1
    refine Fin.tellN (n0:=H.length) hR (by simp) hC' hcl (.same _ rfl) ?_
    simp[occ,insd,h1,hb,set_same hid]
   ·refine hK _ _ () (by omega) ?_
    simp only[hb,if_true,ownOf]
    exact wkS (n0:=H.length) [(H.length,0)] hG hB (by rw[hC]) hcl
   ·refine go_loop (fun i:Nat=>[(0,.ptr id g 0 0),(2,.int .i64 lams),(4,.ptr H.length 0 0 0),(53,.list 9 (bdCells binds)),(54,.int .i64 binds.length),(55,.int .i64 i),(6,.sl (H.length+1) 0 0 i)])
     (fun i=>H++[.cells 0 8 [.agg [.int .i64 kd,.str nm,.int .i64 nn,.int .i64 op,.list 1 (names.map .str),.list 8 (exCells subs),.list 9 (bdCells binds),.list 12 (alCells alts)]],.cells 0 1 ((binds.take i).map fun b=> .str b.name)])
     (fun i=>binds.length - i) (fun i=>i≤binds.length) 0 (Nat.zero_le _) ?_ ?_
    ·exact wkS (n0:=H.length) [(H.length,0),(H.length+1,0)] hG hB (by rw[hC]) hcl
    ·intro K2 i hi hK2
     (have X:=And.intro X (And.intro hid @tl.eq_1);refine runO ?_;with_reducible repeat' first|exact trivial|(apply Fork.mk<;>intro hb)|apply Two.mk)
     ·refine hK2 _ _ (i+1) (by omega) (by omega) ?_
      simp only[List.take_succ_eq_append_getElem (show i<binds.length by omega),List.map_append,List.map_cons,List.map_nil]
      exact wkS (n0:=H.length) [(H.length,0),(H.length+1,0)] hG hB (by rw[hC]) hcl
     ·refine hK _ _ () (by omega) ?_
      have hi':i=binds.length:=by omega
      subst hi'
      rename_i h1 h2 h3
      have e1:ownOf kd names binds=binds.map Bd.name:=by simp[ownOf,h3]
      have e2:((lams+if kd=3 then 1 else 0):Int)=lams:=by simp[h2]
      simp only[e1,e2,List.take_length,List.map_map]
      exact wkS (n0:=H.length) [(H.length,0)] hG hB (by rw[hC]) hcl
   ·refine hK _ _ () (by omega) ?_
    rename_i h1 h2
    simp only[h2,hb,if_false,ownOf,Int.add_zero]
    exact wkS (n0:=H.length) [(H.length,0)] hG hB (by rw[hC]) hcl
  ·have hol:(ownOf kd names binds).length<4611686018427387904:=by unfold ownOf;split;omega;split;simp;omega;simp
   (have X:=And.intro X (And.intro hid @tl.eq_1);refine runB ?_;with_reducible repeat' first|exact trivial|(apply Fork.mk<;>intro hb)|apply Two.mk)
   refine go_call ?_ rfl (contains_list G (ownOf kd names binds) s _ hol) ?_
   ·exact evS
   rintro r H' ⟨rfl,rfl⟩
   (have X:=And.intro X (And.intro hid @tl.eq_1);refine runB ?_;with_reducible repeat' first|exact trivial|(apply Fork.mk<;>intro hb)|apply Two.mk)
   ·refine Fin.tellN (n0:=H.length) hR (by simp) hC' hcl (.same _ rfl) ?_
    simp[occ,insd,hkd,hb,set_same hid]
   have hno:=hb
   
   refine go_cut (fun a:Int×Bool=>[(0,.ptr id g 0 0),(2,.int .i64 (lams+if kd=3 then 1 else 0)),(4,.ptr H.length 0 0 0)])
    (fun a=>H.set id (.cells g 3 [.agg [.str s,.int .i64 a.1,.bool a.2]])++[.cells 0 8 [.agg [.int .i64 kd,.str nm,.int .i64 nn,.int .i64 op,.list 1 (names.map .str),.list 8 (exCells subs),.list 9 (bdCells binds),.list 12 (alCells alts)]]]) (fun a=>a=(n+occL s subs,b||insdL s (decide (0<lams)||decide (kd=3)) subs)) (fun K hK=>?_) ?_
   ·(refine runO ?_;with_reducible repeat' first|exact trivial|(apply Fork.mk<;>intro hb)|apply Two.mk)
    refine go_loop (fun a:Nat×Int×Bool=>[(0,.ptr id g 0 0),(2,.int .i64 (lams+if kd=3 then 1 else 0)),(4,.ptr H.length 0 0 0),(72,.list 8 (exCells subs)),(73,.int .i64 subs.length),(74,.int .i64 a.1)])
     (fun a=>H.set id (.cells g 3 [.agg [.str s,.int .i64 a.2.1,.bool a.2.2]])++[.cells 0 8 [.agg [.int .i64 kd,.str nm,.int .i64 nn,.int .i64 op,.list 1 (names.map .str),.list 8 (exCells subs),.list 9 (bdCells binds),.list 12 (alCells alts)]]]) (fun a=>subs.length - a.1)
     (fun a=>a.1≤subs.length∧0≤a.2.1∧a.2.1+exsWt (subs.drop a.1)≤n+exsWt subs∧a.2.1+occL s (subs.drop a.1)=n+occL s subs∧(a.2.2||insdL s (decide (0<lams)||decide (kd=3)) (subs.drop a.1))=(b||insdL s (decide (0<lams)||decide (kd=3)) subs))
     (0,n,b) ⟨Nat.zero_le _,hn0,Int.le_refl _,rfl,rfl⟩ ?_ ?_
    ·rw[show H.set id (.cells g 3 [.agg [.str s,.int .i64 n,.bool b]])=H from set_same hid]
     exact wkS (n0:=H.length) [(H.length,0)] hG hB (by rw[hC]) hcl
    ·rintro K2 ⟨i,n',b'⟩ ⟨hi,h1,h2,h3,h4⟩ hK2
     simp only at hi h1 h2 h3 h4
     (refine runO ?_;with_reducible repeat' first|exact trivial|(apply Fork.mk<;>intro hb)|apply Two.mk)
     ·have hi':i<subs.length:=by omega
      rw[List.drop_eq_getElem_cons hi'] at h2 h3 h4
      simp only[exsWt,occL,insdL] at h2 h3 h4
      have hm:=exsWt_mem (List.getElem_mem hi')
      have ho:=occ_le s subs[i]
      refine go_call ?_ rfl (look_ok G hG m subs[i] _ id g s n' (lams+if kd=3 then 1 else 0) b' (by omega) (get_oldS hlt) h1 (by omega) hlm.1 (by omega)) ?_
      ·exact evS
      intro r H' hH
      rw[set_oldS hlt] at hH
      subst hH
      (refine runO ?_;with_reducible repeat' first|exact trivial|(apply Fork.mk<;>intro hb)|apply Two.mk)
      refine hK2 _ _ (i+1,n'+occ s subs[i],b'||insd s (decide (0<lams)||decide (kd=3)) subs[i]) (by simp only;omega) ⟨by simp only;omega,by simp only;omega,by simp only;omega,by simp only;omega,?_⟩ ?_
      ·simp only;rw[← h4,Bool.or_assoc]
      ·have e:decide (0<(lams+if kd=3 then 1 else 0))=(decide (0<lams)||decide (kd=3)):=by
        by_cases h:kd=3<;>simp[h]<;>omega
       rw[e]
       exact wkS (n0:=H.length) [(H.length,0)] hG hB (by rw[hC]) (hcl.set rfl)
     ·have hi':i=subs.length:=by omega
      subst hi'
      rw[List.drop_length] at h3 h4
      simp only[occL,insdL,Bool.or_false] at h3 h4
      refine hK _ _ (n',b') (by rw[← h4,← h3];simp) ?_
      exact wkS (n0:=H.length) [(H.length,0)] hG hB (by rw[hC]) (hcl.set rfl)
   rintro _ rfl
   generalize hn1':n+(occL s subs:Int)=n1
   generalize hb1':(b||insdL s (decide (0<lams)||decide (kd=3)) subs)=b1
   have ho1:=occL_le s subs
   (refine runB ?_;with_reducible repeat' first|exact trivial|(apply Fork.mk<;>intro hb)|apply Two.mk)
   refine go_cut (fun a:Int×Bool=>[(0,.ptr id g 0 0),(2,.int .i64 (lams+if kd=3 then 1 else 0)),(4,.ptr H.length 0 0 0)])
    (fun a=>H.set id (.cells g 3 [.agg [.str s,.int .i64 a.1,.bool a.2]])++[.cells 0 8 [.agg [.int .i64 kd,.str nm,.int .i64 nn,.int .i64 op,.list 1 (names.map .str),.list 8 (exCells subs),.list 9 (bdCells binds),.list 12 (alCells alts)]]]) (fun a=>a=(n1+occB s binds,b1||insdB s (decide (0<lams)||decide (kd=3)) binds)) (fun K hK=>?_) ?_
   ·(refine runO ?_;with_reducible repeat' first|exact trivial|(apply Fork.mk<;>intro hb)|apply Two.mk)
    refine go_loop (fun a:Nat×Int×Bool=>[(0,.ptr id g 0 0),(2,.int .i64 (lams+if kd=3 then 1 else 0)),(4,.ptr H.length 0 0 0),(84,.list 9 (bdCells binds)),(85,.int .i64 binds.length),(86,.int .i64 a.1)])
     (fun a=>H.set id (.cells g 3 [.agg [.str s,.int .i64 a.2.1,.bool a.2.2]])++[.cells 0 8 [.agg [.int .i64 kd,.str nm,.int .i64 nn,.int .i64 op,.list 1 (names.map .str),.list 8 (exCells subs),.list 9 (bdCells binds),.list 12 (alCells alts)]]]) (fun a=>binds.length - a.1)
     (fun a=>a.1≤binds.length∧0≤a.2.1∧a.2.1+bdsWt (binds.drop a.1)≤n1+bdsWt binds∧a.2.1+occB s (binds.drop a.1)=n1+occB s binds∧(a.2.2||insdB s (decide (0<lams)||decide (kd=3)) (binds.drop a.1))=(b1||insdB s (decide (0<lams)||decide (kd=3)) binds))
     (0,n1,b1) ⟨Nat.zero_le _,by simp only;omega,Int.le_refl _,rfl,rfl⟩ ?_ ?_
    ·exact wkS (n0:=H.length) [(H.length,0)] hG hB (by rw[hC]) (hcl.set rfl)
    ·rintro K2 ⟨i,n',b'⟩ ⟨hi,h1,h2,h3,h4⟩ hK2
     simp only at hi h1 h2 h3 h4
     (refine runO ?_;with_reducible repeat' first|exact trivial|(apply Fork.mk<;>intro hb)|apply Two.mk)
     ·have hi':i<binds.length:=by omega
      rw[List.drop_eq_getElem_cons hi'] at h2 h3 h4
      simp only[bdsWt,occB,insdB,occBd_eq,insdBd_eq] at h2 h3 h4
      have hm:=bdsWt_mem (List.getElem_mem hi')
      have hm2:=binds[i].wt_gt
      have ho:=occ_le s binds[i].e
      refine go_call ?_ rfl (look_ok G hG m binds[i].e _ id g s n' (lams+if kd=3 then 1 else 0) b' (by omega) (get_oldS hlt) h1 (by omega) hlm.1 (by omega)) ?_
      ·exact evS
      intro r H' hH
      rw[set_oldS hlt] at hH
      subst hH
      (refine runO ?_;with_reducible repeat' first|exact trivial|(apply Fork.mk<;>intro hb)|apply Two.mk)
      refine hK2 _ _ (i+1,n'+occ s binds[i].e,b'||insd s (decide (0<lams)||decide (kd=3)) binds[i].e) (by simp only;omega) ⟨by simp only;omega,by simp only;omega,by simp only;omega,by simp only;omega,?_⟩ ?_
      ·simp only;rw[← h4,Bool.or_assoc]
      ·have e:decide (0<(lams+if kd=3 then 1 else 0))=(decide (0<lams)||decide (kd=3)):=by
        by_cases h:kd=3<;>simp[h]<;>omega
       rw[e]
       exact wkS (n0:=H.length) [(H.length,0)] hG hB (by rw[hC]) (hcl.set rfl)
     ·have hi':i=binds.length:=by omega
      subst hi'
      rw[List.drop_length] at h3 h4
      simp only[occB,insdB,Bool.or_false] at h3 h4
      refine hK _ _ (n',b') (by rw[← h4,← h3];simp) ?_
      exact wkS (n0:=H.length) [(H.length,0)] hG hB (by rw[hC]) (hcl.set rfl)
   rintro _ rfl
   generalize hn2':n1+(occB s binds:Int)=n2
   generalize hb2':(b1||insdB s (decide (0<lams)||decide (kd=3)) binds)=b2
   have ho2:=occB_le s binds
   (refine runB ?_;with_reducible repeat' first|exact trivial|(apply Fork.mk<;>intro hb)|apply Two.mk)
   refine go_cut (fun a:Int×Bool=>[(0,.ptr id g 0 0),(2,.int .i64 (lams+if kd=3 then 1 else 0)),(4,.ptr H.length 0 0 0)])
    (fun a=>H.set id (.cells g 3 [.agg [.str s,.int .i64 a.1,.bool a.2]])++[.cells 0 8 [.agg [.int .i64 kd,.str nm,.int .i64 nn,.int .i64 op,.list 1 (names.map .str),.list 8 (exCells subs),.list 9 (bdCells binds),.list 12 (alCells alts)]]]) (fun a=>a=(n2+occA s (kd=6∧nm=s) alts,b2||insdA s (decide (0<lams)||decide (kd=3)) (kd=6∧nm=s) alts)) (fun K hK=>?_) ?_
   ·(refine runO ?_;with_reducible repeat' first|exact trivial|(apply Fork.mk<;>intro hb)|apply Two.mk)
    refine go_loop (fun a:Nat×Int×Bool=>[(0,.ptr id g 0 0),(2,.int .i64 (lams+if kd=3 then 1 else 0)),(4,.ptr H.length 0 0 0),(97,.list 12 (alCells alts)),(98,.int .i64 alts.length),(99,.int .i64 a.1)])
     (fun a=>H.set id (.cells g 3 [.agg [.str s,.int .i64 a.2.1,.bool a.2.2]])++[.cells 0 8 [.agg [.int .i64 kd,.str nm,.int .i64 nn,.int .i64 op,.list 1 (names.map .str),.list 8 (exCells subs),.list 9 (bdCells binds),.list 12 (alCells alts)]]]) (fun a=>alts.length - a.1)
     (fun a=>a.1≤alts.length∧0≤a.2.1∧a.2.1+alsWt (alts.drop a.1)≤n2+alsWt alts∧a.2.1+occA s (kd=6∧nm=s) (alts.drop a.1)=n2+occA s (kd=6∧nm=s) alts∧(a.2.2||insdA s (decide (0<lams)||decide (kd=3)) (kd=6∧nm=s) (alts.drop a.1))=(b2||insdA s (decide (0<lams)||decide (kd=3)) (kd=6∧nm=s) alts))
     (0,n2,b2) ⟨Nat.zero_le _,by simp only;omega,Int.le_refl _,rfl,rfl⟩ ?_ ?_
    ·exact wkS (n0:=H.length) [(H.length,0)] hG hB (by rw[hC]) (hcl.set rfl)
    ·rintro K2 ⟨i,n',b'⟩ ⟨hi,h1,h2,h3,h4⟩ hK2
     simp only at hi h1 h2 h3 h4
     (refine runO ?_;with_reducible repeat' first|exact trivial|(apply Fork.mk<;>intro hb)|apply Two.mk)
     ·have hi':i<alts.length:=by omega
      rw[List.drop_eq_getElem_cons hi'] at h2 h3 h4
      simp only[alsWt,occA,insdA,occAl_eq,insdAl_eq] at h2 h3 h4
      have hm:=alsWt_mem (List.getElem_mem hi')
      have hm2:=alts[i].wt_gt
      have hm3:=alts[i].wt_names
      have ho:=occ_le s alts[i].body
      refine xg_call ?_ (contains_list G alts[i].names s _ (by omega)) ?_
      ·exact evS
      rintro r H' ⟨rfl,rfl⟩
      have hc6:∀ (h:¬ s∈alts[i].names) (h2:¬ (kd=6∧nm=s)),(s∈alts[i].names∨kd=6∧nm=s)=False:=fun h h2=>by simp only[h,h2,or_self]
      have go:∀ (hf:(s∈alts[i].names∨kd=6∧nm=s)=False),n'+occ s alts[i].body+alsWt (alts.drop (i+1))≤n2+alsWt alts∧n'+occ s alts[i].body+occA s (kd=6∧nm=s) (alts.drop (i+1))=n2+occA s (kd=6∧nm=s) alts∧(b'||insd s (decide (0<lams)||decide (kd=3)) alts[i].body||insdA s (decide (0<lams)||decide (kd=3)) (kd=6∧nm=s) (alts.drop (i+1)))=(b2||insdA s (decide (0<lams)||decide (kd=3)) (kd=6∧nm=s) alts):=fun hf=>by
       simp only[hf,if_false] at h3 h4
       refine⟨by omega,by omega,?_⟩
       rw[← h4,Bool.or_assoc]
      have stay:∀ (hf:(s∈alts[i].names∨kd=6∧nm=s)=True),n'+alsWt (alts.drop (i+1))≤n2+alsWt alts∧n'+occA s (kd=6∧nm=s) (alts.drop (i+1))=n2+occA s (kd=6∧nm=s) alts∧(b'||insdA s (decide (0<lams)||decide (kd=3)) (kd=6∧nm=s) (alts.drop (i+1)))=(b2||insdA s (decide (0<lams)||decide (kd=3)) (kd=6∧nm=s) alts):=fun hf=>by
       simp only[hf,if_true] at h3 h4
       refine⟨by omega,by omega,?_⟩
       rw[← h4];simp
      have e:decide (0<(lams+if kd=3 then 1 else 0))=(decide (0<lams)||decide (kd=3)):=by
       by_cases h:kd=3<;>simp[h]<;>omega
      (refine runO ?_;with_reducible repeat' first|exact trivial|(apply Fork.mk<;>intro hb)|apply Two.mk)
      ·obtain⟨g1,g2,g3⟩:=go (hc6 ‹_› fun h=>hb h.1)
       refine go_call ?_ rfl (look_ok G hG m alts[i].body _ id g s n' (lams+if kd=3 then 1 else 0) b' (by omega) (get_oldS hlt) h1 (by omega) hlm.1 (by omega)) ?_
       ·exact evS
       intro r H' hH
       rw[set_oldS hlt,e] at hH
       subst hH
       (refine runO ?_;with_reducible repeat' first|exact trivial|(apply Fork.mk<;>intro hb)|apply Two.mk)
       refine hK2 _ _ (i+1,n'+occ s alts[i].body,b'||insd s (decide (0<lams)||decide (kd=3)) alts[i].body) (by simp only;omega) ⟨by simp only;omega,by simp only;omega,g1,g2,g3⟩ ?_
       exact wkS (n0:=H.length) [(H.length,0)] hG hB (by rw[hC]) (hcl.set rfl)
      ·obtain⟨g1,g2,g3⟩:=go (hc6 ‹_› fun h=>hb h.2)
       refine go_call ?_ rfl (look_ok G hG m alts[i].body _ id g s n' (lams+if kd=3 then 1 else 0) b' (by omega) (get_oldS hlt) h1 (by omega) hlm.1 (by omega)) ?_
       ·exact evS
       intro r H' hH
       rw[set_oldS hlt,e] at hH
       subst hH
       (refine runO ?_;with_reducible repeat' first|exact trivial|(apply Fork.mk<;>intro hb)|apply Two.mk)
       refine hK2 _ _ (i+1,n'+occ s alts[i].body,b'||insd s (decide (0<lams)||decide (kd=3)) alts[i].body) (by simp only;omega) ⟨by simp only;omega,by simp only;omega,g1,g2,g3⟩ ?_
       exact wkS (n0:=H.length) [(H.length,0)] hG hB (by rw[hC]) (hcl.set rfl)
      ·rename_i q1 q2
       obtain⟨g1,g2,g3⟩:=stay (eq_true (.inr ⟨Decidable.of_not_not q2,Decidable.of_not_not hb⟩))
       refine hK2 _ _ (i+1,n',b') (by simp only;omega) ⟨by simp only;omega,h1,g1,g2,g3⟩ ?_
       exact wkS (n0:=H.length) [(H.length,0)] hG hB (by rw[hC]) (hcl.set rfl)
      ·obtain⟨g1,g2,g3⟩:=stay (eq_true (.inl (Decidable.of_not_not hb)))
       refine hK2 _ _ (i+1,n',b') (by simp only;omega) ⟨by simp only;omega,h1,g1,g2,g3⟩ ?_
       exact wkS (n0:=H.length) [(H.length,0)] hG hB (by rw[hC]) (hcl.set rfl)
     ·have hi':i=alts.length:=by omega
      subst hi'
      rw[List.drop_length] at h3 h4
      simp only[occA,insdA,Bool.or_false] at h3 h4
      refine hK _ _ (n',b') (by rw[← h4,← h3];simp) ?_
      exact wkS (n0:=H.length) [(H.length,0)] hG hB (by rw[hC]) (hcl.set rfl)
   rintro _ rfl
   (refine runO ?_;with_reducible repeat' first|exact trivial|(apply Fork.mk<;>intro hb)|apply Two.mk)
   refine Fin.tellN (n0:=H.length) hR (by simp) hC' (hcl.set rfl) (.same _ rfl) ?_
   simp only[occ,insd,if_neg hkd,if_neg hno,tl]
   rw[← hn2',← hn1',← hb2',← hb1']
   simp only[Int.natCast_add,Int.add_assoc,Bool.or_assoc]
theorem uses_ok (G:Gl) (hG:GClosed G) (e:Ex) (s:Str) (H:List Blk) (hw0:e.wt<4294967296):ACall Tryz.prog G 50 [e.sv,.str s] H (fun r H'=>H'=H∧r= .tuple [.int .i64 (occ s e),.bool (insd s false e)]):=by
 refine ACall.of_go TB [] tabOK _ Tryz.func50 rfl (by decide) Tryz.ntmps50 (by simp) rfl (by simp only[initEnv,Nat.reduceAdd];rfl) fun C R' hR hC hcl hB=>?_;have X:=noX;have hC':=congrArg List.length hC
 have hC':C.H.length=H.length:=by rw[hC]
 (refine run ?_;with_reducible repeat' first|exact trivial|(apply Fork.mk<;>intro hb)|apply Two.mk)
 refine go_call ?_ rfl (look_ok G hG _ e _ (H.length+1) 0 s 0 0 false (Nat.le_refl _) (by simp[tl]) (by omega) (by omega) (by omega) (by omega)) ?_
 ·exact evS
 rintro r H' rfl
 simp only[set_appS,set_app0S,set_app,set_app0,List.set_cons_succ,List.set_cons_zero,tl,Int.zero_add,Bool.false_or,show decide ((0:Int)<0)=false from rfl]
 (refine run ?_;with_reducible repeat' first|exact trivial|(apply Fork.mk<;>intro hb)|apply Two.mk)
 exact Fin.tellN (n0:=H.length) hR (by simp) hC' hcl (.same _ rfl) ⟨rfl,rfl⟩
theorem straight_ok (G:Gl) (hG:GClosed G) (hB0:Based G 0) (cs:List Cn) (e:Ex) (s:Str) (H:List Blk) (hw:e.wt<4294967296) (hs:Sh cs e):
 ACall Tryz.prog G 16 [e.sv,.str s] H (fun r H'=>H'=H∧r= .bool (straS e s)):=by
 have c1:=fun H=>uses_ok G hG e s H hw
 have c2:=fun H=>meets_ok G hG hB0 cs e.wt e s H (Nat.le_refl _) hw hs
 unfold straS meetS
 generalize occ s e=n at*
 generalize insd s false e=b0 at*
 generalize meetF e.wt e s=b1 at*
 obtain⟨k2,n2,nn2,op2,ns2,ss2,bs2,as2⟩:=e
 refine ACall.of_go TB [] tabOK _ Tryz.func16 rfl (by decide) Tryz.ntmps16 (by simp) rfl (by simp only[initEnv,Nat.reduceAdd];rfl) fun C R' hR hC hcl hB=>?_;have X:=noX;have hC':=congrArg List.length hC
 by_cases hn:n=1
 ·have hn':(n:Int)=1:=by omega
  have X:=And.intro noX hn'
  (refine run ?_;with_reducible repeat' first|exact trivial|(apply Fork.mk<;>intro hb)|apply Two.mk)
  exact finS (n0:=H.length) hR hC' hcl (.same _ rfl) ⟨rfl,by simp[hn,resSV]⟩
 ·have hn':¬ (n:Int)=1:=by omega
  have X:=And.intro noX hn'
  (refine run ?_;with_reducible repeat' first|exact trivial|(apply Fork.mk<;>intro hb)|apply Two.mk)
  exact finS (n0:=H.length) hR hC' hcl (.same _ rfl) ⟨rfl,by simp[hn,resSV,pk]⟩
theorem plain_ok (G:Gl) (hG:GClosed G) (e:Ex) (H:List Blk):ACall Tryz.prog G 108 [e.sv] H (fun r H'=>H'=H∧r= .tuple [.agg [.str e.name,.int .i64 e.n],.bool (isAt e)]):=by
 have h1:isAt e=(decide (e.kind=1)||decide (e.kind=2)):=rfl
 rw[h1]
 obtain⟨k2,n2,nn2,op2,ns2,ss2,bs2,as2⟩:=e
 simp only[Ex.name,Ex.n,Ex.kind]
 refine ACall.of_go TB [] tabOK _ Tryz.func108 rfl (by decide) Tryz.ntmps108 (by simp) rfl (by simp only[initEnv,Nat.reduceAdd];rfl) fun C R' hR hC hcl hB=>?_;have X:=noX;have hC':=congrArg List.length hC
 by_cases hk:k2=1
 ·have X:=And.intro noX hk
  (refine run ?_;with_reducible repeat' first|exact trivial|(apply Fork.mk<;>intro hb)|apply Two.mk)
  exact finS (n0:=H.length) hR hC' hcl (.same _ rfl) ⟨rfl,by first|(simp[hk,pk,resSV];done)|(simp[hk,pk,resSV];congr)⟩
 ·have X:=And.intro noX hk
  (refine run ?_;with_reducible repeat' first|exact trivial|(apply Fork.mk<;>intro hb)|apply Two.mk)
  exact finS (n0:=H.length) hR hC' hcl (.same _ rfl) ⟨rfl,by first|(simp[hk,pk,resSV];done)|(simp[hk,pk,resSV];congr)⟩
theorem fresh_ok (G:Gl) (hG:GClosed G) (C0:Cx) (hb0:G.base=some C0) (hl0:LibAt C0) (mb g0 nx:Nat) (kb:SV) (H:List Blk) (h2:H[mb]? =some (.cells g0 2 [.agg [.int .i64 (nx:Int),kb]])) (hn:nx<4294967295):
 ACall Tryz.prog G 109 [.ptr mb g0 0 0] H (fun r H'=>H'=H.set mb (.cells g0 2 [.agg [.int .i64 ((nx+1:Nat):Int),kb]])∧r= .str (itT itsL nx)):=by
 obtain⟨hil,c1⟩:=itsL_ok G C0 hb0 hl0 nx (by omega)
 have lm:=(List.getElem?_eq_some_iff.1 h2).1
 have hmx:2+(itsL nx).length≤maxLen:=by unfold maxLen;omega
 unfold itT
 generalize itsL nx=s at*
 refine ACall.of_go TB [] tabOK _ Tryz.func109 rfl (by decide) Tryz.ntmps109 (by simp) rfl (by simp only[initEnv,Nat.reduceAdd];rfl) fun C R' hR hC hcl hB=>?_;have X:=noX;have hC':=congrArg List.length hC
 have hww:=wrap_i64 ((nx+1:Nat):Int) (by omega)
 have e1:(nx:Int)+1=((nx+1:Nat):Int):=by omega
 have hx:=fun L=>(show(H++L)[mb]? =some (.cells g0 2 [.agg [.int .i64 (nx:Int),kb]]) by rw[get_old lm];exact h2)
 have X:=And.intro noX (And.intro h2 (And.intro hmx (And.intro e1 hww)))
 (refine run ?_;with_reducible repeat' first|exact trivial|(apply Fork.mk<;>intro hb)|apply Two.mk)
 exact Fin.out hR ⟨rfl,rfl⟩
theorem backwardA_ok (G:Gl) (hG:GClosed G) (l:List Ar) (H:List Blk):ACall Tryz.prog G 146 [.list 9 (arCells l)] H (fun r H'=>H'=H∧r= .fn (.func 166) [] [.pto (.list 9 (arCells l))]):=by
 refine ACall.of_go TB [] tabOK _ Tryz.func146 rfl (by decide) Tryz.ntmps146 (by simp) rfl (by simp only[initEnv,Nat.reduceAdd];rfl) fun C R' hR hC hcl hB=>?_;have X:=noX;have hC':=congrArg List.length hC
 (refine runO ?_;with_reducible repeat' first|exact trivial|(apply Fork.mk<;>intro hb)|apply Two.mk)
 refine Fin.tellN (n0:=H.length) hR (by simp) (by rw[hC]) hcl (.fn _ _ _ _ _ .nil (.cons _ _ _ _ ?_ .nil)) ⟨rfl,rfl⟩
 refine .ptr _ _ _ _ _ _ _ (by exact hbS) (Nat.le_refl _) (by simp) rfl (.same _ ?_)
 exact arCells_under _ _
theorem arCells_get {l:List Ar} {b:Nat} (h:b<l.length):(arCells l)[b]? =some (.agg l[b].cells):=by simp[arCells,h]
theorem Ar.cells_len (a:Ar):a.cells.length=9:=by
 cases a with
 |bs l=>rfl
 |look s x=>simp[Ar.cells,Sg.cells_len]
theorem backwardA1_ok (G:Gl) (l:List Ar) (hl:l.length<1099511627776) (n1:Nat) (Hs:Nat→List Blk)
 (hy:∀ i (h:i<l.length) X,ACallV Tryz.prog G (.it n1) [.int .i64 i,.agg l[i].cells] (Hs (i+1)++X) (fun r H'=>H'=Hs i++X∧r= .bool true)):
 ACall Tryz.prog G 166 [.it n1,.pto (.list 9 (arCells l))] (Hs l.length) (fun r H'=>H'=Hs 0):=by
 have hlm:=arCells_len l
 refine ACall.of_go TB [] tabOK _ Tryz.func166 rfl (by decide) Tryz.ntmps166 (by simp) rfl (by simp only[initEnv,Nat.reduceAdd];rfl) fun C R' hR hC hcl hB=>?_;have X:=noX;have hC':=congrArg List.length hC
 have X:=And.intro X hlm
 (refine runO ?_;with_reducible repeat' first|exact trivial|(apply Fork.mk<;>intro hb)|apply Two.mk)
 refine go_loop (fun a:Nat=>[(0,.it n1),(1,.pto (.list 9 (arCells l))),(3,.int .i64 ((a:Int) - 1))]) (fun a=>Hs a) (fun a=>a) (fun a=>a≤l.length) l.length (Nat.le_refl _) (Wk.sub (by simp[subEnv,look])) ?_
 intro K a ha hK
 rcases Nat.eq_zero_or_pos a with h0|hpos
 ·subst h0
  have hn:¬ (0:Int)≤((0:Nat):Int) - 1:=by omega
  have X:=And.intro noX hn
  clear hK
  (refine runO ?_;with_reducible repeat' first|exact trivial|(apply Fork.mk<;>intro hb)|apply Two.mk)
  exact Fin.out hR rfl
 ·obtain⟨b,rfl⟩:∃ b,a=b+1:=⟨a - 1,by omega⟩
  have hlt:b<l.length:=by omega
  have e:(((b+1:Nat):Int) - 1)=(b:Int):=by omega
  have hge:(0:Int)≤(b:Int):=by omega
  have g1:=arCells_get hlt
  have hcall:=hy b hlt []
  rw[List.append_nil,List.append_nil] at hcall
  have hx9:=l[b].cells_len
  have hxd:l[b].cells.drop 9=[]:=List.drop_eq_nil_of_le (by omega)
  generalize l[b]=x at*
  have X:=And.intro noX (And.intro e (And.intro hge (And.intro g1 (And.intro hx9 hxd))))
  rw[e]
  (refine runO ?_;with_reducible repeat' first|exact trivial|(apply Fork.mk<;>intro hb)|apply Two.mk)
  refine go_callV rfl ?_ rfl hcall ?_
  ·exact evS
  rintro r H' ⟨rfl,rfl⟩
  (refine runO ?_;with_reducible repeat' first|exact trivial|(apply Fork.mk<;>intro hb)|apply Two.mk)
  refine hK _ _ b (by omega) (by omega) ?_
  exact Wk.sub (by simp[subEnv,look])
theorem ahead_ok (G:Gl) (hG:GClosed G) (x:Sg) (s:Str) (e:Sg) (H:List Blk):ACall Tryz.prog G 147 [.agg x.cells,.str s,.agg e.cells] H (fun r H'=>H'=H∧r=(arF (.look s x) e).sv):=by
 obtain⟨k1,n1,o1,a1,s1,b1,l1⟩:=x
 obtain⟨k2,n2,o2,a2,s2,b2,l2⟩:=e
 have hu:=fun n=>Sg.cells_under n (arF (.look s (.mk k1 n1 o1 a1 s1 b1 l1)) (.mk k2 n2 o2 a2 s2 b2 l2))
 refine ACall.of_go TB [] tabOK _ Tryz.func147 rfl (by decide) Tryz.ntmps147 (by simp) rfl (by simp only[initEnv,Nat.reduceAdd];rfl) fun C R' hR hC hcl hB=>?_;have X:=noX;have hC':=congrArg List.length hC
 (refine run ?_;with_reducible repeat' first|exact trivial|(apply Fork.mk<;>intro hb)|apply Two.mk)
 exact finS (n0:=H.length) hR hC' hcl (.same _ (by simp only[resSV,SV.under];exact hu _)) ⟨rfl,rfl⟩
theorem wrapF_drop {l:List Ar} {j:Nat} (h:j<l.length) (e:Sg):arF l[j] (wrapF (l.drop (j+1)) e)=wrapF (l.drop j) e:=by rw[List.drop_eq_getElem_cons h];rfl
theorem wrapped_ok (G:Gl) (hG:GClosed G) (l:List Ar) (hok:∀ a∈l,a.ok) (hl:l.length<1099511627776) (e:Sg) (H:List Blk):ACall Tryz.prog G 111 [.agg e.cells,.list 9 (arCells l)] H (fun r H'=>H'=H∧r=(wrapF l e).sv):=by
 obtain⟨W,hW⟩:∃ W:Nat→Sg,∀ j,W j=wrapF (l.drop j) e:=⟨fun j=>_,fun j=>rfl⟩
 have hWn:e=W l.length:=by rw[hW,List.drop_length];rfl
 have hW0:wrapF l e=W 0:=by rw[hW,List.drop_zero]
 have hWs:∀ j (h:j<l.length),arF l[j] (W (j+1))=W j:=fun j h=>by rw[hW,hW];exact wrapF_drop h e
 have hWu:=fun n j=>Sg.cells_under n (W j)
 have hW7:=fun j=>(W j).cells_len
 rw[hW0]
 clear hW hW0
 have he7:=e.cells_len
 have heu:=fun n=>Sg.cells_under n e
 refine ACall.of_go TB [] tabOK _ Tryz.func111 rfl (by decide) Tryz.ntmps111 (by simp) rfl (by simp only[initEnv,Nat.reduceAdd];rfl) fun C R' hR hC hcl hB=>?_;have X:=noX;have hC':=congrArg List.length hC
 have X:=And.intro noX he7
 (refine run ?_;with_reducible repeat' first|exact trivial|(apply Fork.mk<;>intro hb)|apply Two.mk)
 refine callS (backwardA_ok G hG l _) ?_
 rintro r H' ⟨rfl,rfl⟩
 rw[hWn]
 (refine run ?_;with_reducible repeat' first|exact trivial|(apply Fork.mk<;>intro hb)|apply Two.mk)
 refine go_rangeFunc tabOK (σ:=Nat) (ξ:=Nat×Ar) (fun j=>H++[.cells 0 7 [.agg (W j).cells],.cells 0 7 [.agg [.int .i64 0,.str [],.int .i64 0,.list 2 [],.list 7 [],.list 8 [],.list 11 []]]]) (H.length+2) (fun s=>by simp) l.length
  [(2,.ptr H.length 0 0 0),(4,.ptr (H.length+1) 0 0 0),(8,.fn (.func 166) [] [.pto (.list 9 (arCells l))])] (fun x=>[.int .i64 x.1,.agg x.2.cells]) (fun s x=>s=x.1+1∧l[x.1]? =some x.2) (fun s x=>x.1) (fun s=>s=0)
  (fun x=>[(10,.agg x.2.cells),(9,.int .i64 x.1),(2,.ptr H.length 0 0 0),(4,.ptr (H.length+1) 0 0 0),(8,.fn (.func 166) [] [.pto (.list 9 (arCells l))])]) rfl rfl (fun x=>rfl) (fun x=>rfl) ?_ ?_ ?_ ?_
 ·exact Wk.sub (by simp[subEnv,look])
 ·intro G' LO hGl hLO hy
  have:=backwardA1_ok G' l hl (H.length+2) (fun i=>(H++[.cells 0 7 [.agg (W i).cells],.cells 0 7 [.agg [.int .i64 0,.str [],.int .i64 0,.list 2 [],.list 7 [],.list 8 [],.list 11 []]]])++[LO]) (fun i hi Y=>by
   have:=hy (i+1) (i,l[i]) Y ⟨rfl,List.getElem?_eq_getElem _⟩
   simpa only[List.append_assoc,List.cons_append,List.nil_append] using this)
  exact this.mono fun r H' h=>⟨0,rfl,h⟩
 ·rintro G' C' ρ' s ⟨j,x⟩ Y LO LB K1 K hGl hB' hCH hcl' hLO hLB ⟨hs,hb⟩ hK1 hK
  subst hs
  have hj:j<l.length:=(List.getElem?_eq_some_iff.1 hb).1
  have hbe:l[j]=x:=(List.getElem?_eq_some_iff.1 hb).2
  have hw:=hWs j hj
  have hx:=hok _ (List.getElem_mem hj)
  rw[hbe] at hw hx
  have hG':GClosed G':=by unfold GClosed;rw[hGl];exact hG
  have hclj:closed (H++ .cells 0 7 [.agg (W j).cells]:: .cells 0 7 [.agg [.int .i64 0,.str [],.int .i64 0,.list 2 [],.list 7 [],.list 8 [],.list 11 []]]::LB::Y):=by
   simp only[List.append_assoc,List.cons_append,List.nil_append] at hcl'
   refine closed_swap hcl' (by simp) (fun q hq=>?_)
   simp only[List.mem_cons] at hq
   rcases hq with rfl|rfl|rfl|hq
   ·simp only[Blk.under,SV.underL,SV.under,hWu,Bool.and_self]
   ·rfl
   ·exact Blk.under_mono (Nat.zero_le _) hLB
   ·have:=hcl' q (by simp[hq])
    simpa using this
  have h8:=hW7 (j+1)
  have h8j:=hW7 j
  cases x with
  |bs bs=>
   rw[← hw] at h8j hclj hK
   have hbn:bs≠[]:=hx
   simp only[Ar.cells,sgZ,arF] at*
   simp only[List.append_assoc,List.cons_append,List.nil_append] at hcl' hCH ⊢
   have X:=And.intro noX h8
   (refine run ?_;with_reducible repeat' first|exact trivial|(apply Fork.mk<;>intro hb)|apply Two.mk)
   refine hK1 _ _ (by rw[get_app];rfl) ?_
   simp only[set_app,List.set_cons_succ,List.set_cons_zero]
   (refine run ?_;with_reducible repeat' first|exact trivial|(apply Fork.mk<;>intro hb)|apply Two.mk)
   ·rw[sbCells_len] at hb
    exact absurd (List.length_eq_zero_iff.1 hb) hbn
   ·refine hK _ _ ?_
    simp only[List.append_assoc,List.cons_append,List.nil_append]
    rw[show ∀ (x1 x2 x3 x4:Blk),H++x1::x2::x3::(Y++[x4])=(H++x1::x2::x3::Y)++[x4] from fun _ _ _ _=>by simp]
    exact Wk.tell hG' (fun C0 h0=>by have:=hB' C0 h0;rw[hCH] at this;simpa using this) (by rw[hCH];simp) hclj trivial
  |look n s=>
   simp only[Ar.cells] at*
   simp only[List.append_assoc,List.cons_append,List.nil_append] at hcl' hCH ⊢
   have h7s:=s.cells_len
   have X:=And.intro noX (And.intro h8 (And.intro h7s s.cells_take))
   (refine run ?_;with_reducible repeat' first|exact trivial|(apply Fork.mk<;>intro hb)|apply Two.mk)
   refine hK1 _ _ (by rw[get_app];rfl) ?_
   simp only[set_app,List.set_cons_succ,List.set_cons_zero]
   (refine run ?_;with_reducible repeat' first|exact trivial|(apply Fork.mk<;>intro hb)|apply Two.mk)
   refine callS (ahead_ok G' hG' s n (W (j+1)) _) ?_
   rintro r H' ⟨rfl,rfl⟩
   rw[hw,show(W j).sv= .agg (W j).cells from rfl]
   have hd7:(W (j+1)).cells.drop 7=[]:=List.drop_eq_nil_of_le (by omega)
   have X:=And.intro noX (And.intro h8j (And.intro (W j).cells_take (And.intro h8 hd7)))
   (refine run ?_;with_reducible repeat' first|exact trivial|(apply Fork.mk<;>intro hb)|apply Two.mk)
   ·refine hK _ _ ?_
    simp only[List.append_assoc,List.cons_append,List.nil_append]
    rw[show ∀ (x1 x2 x3 x4:Blk),H++x1::x2::x3::(Y++[x4])=(H++x1::x2::x3::Y)++[x4] from fun _ _ _ _=>by simp]
    exact Wk.tell hG' (fun C0 h0=>by have:=hB' C0 h0;rw[hCH] at this;simpa using this) (by rw[hCH];simp) hclj trivial
 ·intro s LO hs hLO
  subst hs
  simp only[List.append_assoc,List.cons_append,List.nil_append]
  have h80:=hW7 0
  have X:=And.intro noX h80
  (refine run ?_;with_reducible repeat' first|exact trivial|(apply Fork.mk<;>intro hb)|apply Two.mk)
  exact finS (n0:=H.length) hR hC' hcl (.same _ (by simp only[resSV,SV.under];exact hWu _ _)) ⟨rfl,rfl⟩
theorem mkQ {H:List Blk} {tb mb g0 nx0:Nat} {T:List Str} (h1:H[tb]? =some (.map none (esO T))) (h2:H[mb]? =some (.cells g0 2 [.agg [.int .i64 (nx0:Int),.map tb]])):
 ∃ Q:Nat→List Blk,Q nx0=H∧(∀ nx:Nat,H.set mb (.cells g0 2 [.agg [.int .i64 (nx:Int),.map tb]])=Q nx)∧(∀ nx,(Q nx).length=H.length)∧
  ((∀ (nx:Nat) L,(Q nx++L)[mb]? =some (.cells g0 2 [.agg [.int .i64 (nx:Int),.map tb]]))∧(∀ (nx:Nat) L,(Q nx++L)[tb]? =some (.map none (esO T)))∧(∀ (nx nx':Nat) L,(Q nx++L).set mb (.cells g0 2 [.agg [.int .i64 (nx':Int),.map tb]])=Q nx'++L))∧(closed H→∀ nx,closed (Q nx)):=by
 have l1:=(List.getElem?_eq_some_iff.1 h1).1
 have l2:=(List.getElem?_eq_some_iff.1 h2).1
 have hne:tb≠mb:=fun e=>by
  rw[e,h2] at h1
  cases h1
 refine⟨fun nx=>H.set mb (.cells g0 2 [.agg [.int .i64 (nx:Int),.map tb]]),set_same h2,fun _=>rfl,fun nx=>by simp,⟨fun nx L=>?_,fun nx L=>?_,fun nx nx' L=>?_⟩,fun hc nx=>hc.set ?_⟩
 ·rw[List.getElem?_append_left (by simpa using l2),List.getElem?_set_self (by simpa using l2)]
 ·rw[List.getElem?_append_left (by simpa using l1),List.getElem?_set_ne (fun e=>hne e.symm),h1]
 ·rw[set_old (by simpa using l2),List.set_set]
 ·simp only[Blk.under,SV.underL,SV.under,l1,decide_true,Bool.and_self]
def BdC16 (G:Gl) (cs:List Cn) (T:List Str) (P:Ex→Prop) (B:Str→Ex→Bool→Nat→List Sb×Nat):Prop:=
 ∀ (s:Str) (e:Ex) (u:Bool) (H:List Blk) (tb mb g0 nx:Nat),P e→e.wt<67108864→Sh cs e→nx+e.wt≤4294967290+(if e.kind=3 then 1 else 0)→H[tb]? =some (.map none (esO T))→H[mb]? =some (.cells g0 2 [.agg [.int .i64 (nx:Int),.map tb]])→
  ACall Tryz.prog G 21 [.ptr mb g0 0 0,.str s,e.sv,.bool u] H (fun r H'=>H'=H.set mb (.cells g0 2 [.agg [.int .i64 ((B s e u nx).2:Int),.map tb]])∧r= .list 8 (sbCells (B s e u nx).1))
def ExC16 (G:Gl) (cs:List Cn) (T:List Str) (P:Ex→Prop) (E:Ex→Nat→Sg×Nat):Prop:=
 ∀ (e:Ex) (H:List Blk) (tb mb g0 nx:Nat),P e→e.wt<67108864→Sh cs e→nx+e.wt≤4294967290→H[tb]? =some (.map none (esO T))→H[mb]? =some (.cells g0 2 [.agg [.int .i64 (nx:Int),.map tb]])→
  ACall Tryz.prog G 59 [.ptr mb g0 0 0,e.sv] H (fun r H'=>H'=H.set mb (.cells g0 2 [.agg [.int .i64 ((E e nx).2:Int),.map tb]])∧r=(E e nx).1.sv)
theorem Ex.cells_drop8 (e:Ex):List.drop 8 e.cells=[]:=List.drop_eq_nil_of_le (by rw[e.cells_len];exact Nat.le_refl _)
theorem cells_ok (G:Gl) (hG:GClosed G) (C0:Cx) (hb0:G.base=some C0) (hl0:LibAt C0) (cs:List Cn) (T:List Str) (P:Ex→Prop) (B:Str→Ex→Bool→Nat→List Sb×Nat) (hBd:BdC16 G cs T P B) (hcnt:CntB cs B)
 (l:List Ex) (H:List Blk) (tb mb g0 nx0:Nat) (hl:∀ x∈l,P x∧Sh cs x) (hw:exsWt l<67108864) (hnx:nx0+exsWt l+1≤4294967290) (h1:H[tb]? =some (.map none (esO T))) (h2:H[mb]? =some (.cells g0 2 [.agg [.int .i64 (nx0:Int),.map tb]])):
 ACall Tryz.prog G 60 [.ptr mb g0 0 0,.list 8 (exCells l)] H (fun r H'=>H'=H.set mb (.cells g0 2 [.agg [.int .i64 ((cellsF B l nx0).2:Int),.map tb]])∧r= .tuple [.list 2 (atCells (cellsF B l nx0).1.1),.list 9 (arCells (cellsF B l nx0).1.2)]):=by
 have hle:=exsWt_len l
 have l2:=(List.getElem?_eq_some_iff.1 h2).1
 have under_ints:=atCells_under
 have under_bools:=arCells_under
 obtain⟨Q,q0,qd,hlenQ,qx,qc⟩:=mkQ h1 h2
 simp only[qd]
 rw[← q0]
 refine ACall.of_go TB [6,7] tabOK _ Tryz.func60 rfl (by decide) Tryz.ntmps60 (by simp) rfl (by simp only[initEnv,Nat.reduceAdd];rfl) fun C R' hR hC hcl hB=>?_;have X:=noX;have hC':=congrArg List.length hC
 have hC':=hC'.trans (hlenQ _)
 have hcls:∀ nx,closed (Q nx):=fun nx=>qc (q0 ▸ hcl) nx
 clear q0 h1 h2
 generalize hn0:H.length=n0 at*
 have hx21:=hlenQ
 have hx22:∀ nx L,(Q nx++L)[n0]? =L[0]? :=fun nx L=>by rw[← hlenQ nx];exact get_app0 _ _
 have hx23:∀ nx L k,(Q nx++L)[n0+k]? =L[k]? :=fun nx L k=>by rw[← hlenQ nx];exact get_app _ _ _
 have hx24:∀ nx L x,(Q nx++L).set n0 x=Q nx++L.set 0 x:=fun nx L x=>by rw[← hlenQ nx];exact set_app0 _ _ _
 have hx25:∀ nx L k x,(Q nx++L).set (n0+k) x=Q nx++L.set k x:=fun nx L k x=>by rw[← hlenQ nx];exact set_app _ _ _ _
 have d2:=ndK n0 [0,1] (by decide)
 have X:=And.intro noX (And.intro qx (And.intro hx21 (And.intro hx22 (And.intro hx23 (And.intro hx24 hx25)))))
 (refine run ?_;with_reducible repeat' first|exact trivial|(apply Fork.mk<;>intro hb)|apply Two.mk)
 refine go_loop (fun a:Nat×List At×List Ar×Nat=>[(0,.ptr mb g0 0 0),(6,.sl n0 0 0 a.2.1.length),(7,.sl (n0+1) 0 0 a.2.2.1.length),(12,.list 8 (exCells l)),(13,.int .i64 l.length),(14,.int .i64 (a.1:Int))])
  (fun a=>Q a.2.2.2++[.cells 0 2 (atCells a.2.1),.cells 0 9 (arCells a.2.2.1)]) (fun a=>l.length - a.1)
  (fun a=>(a.1≤l.length∧a.2.1.length=a.1∧a.2.2.1.length≤a.1∧a.2.2.2+exsWt (l.drop a.1)≤nx0+exsWt l)∧cellsF B l nx0=((a.2.1++(cellsF B (l.drop a.1) a.2.2.2).1.1,a.2.2.1++(cellsF B (l.drop a.1) a.2.2.2).1.2),(cellsF B (l.drop a.1) a.2.2.2).2)) (0,[],[],nx0) ⟨⟨Nat.zero_le _,rfl,Nat.le_refl _,Nat.le_refl _⟩,rfl⟩ ?_ ?_
 ·simp only[show atCells []=[] from rfl,show arCells []=[] from rfl,List.length_nil]
  exact wkS (n0:=n0) [(n0,0),(n0+1,0)] hG hB hC' (hcls _) (hn:=hlenQ _) (hd:=d2)
 rintro K ⟨i,A,W,nx⟩ ⟨⟨hi,hA,hW,hnw⟩,hmp⟩ hK
 simp only at hi hA hW hnw hmp
 dsimp only
 rcases Nat.lt_or_ge i l.length with hlt|hge
 ·have hmem:=List.getElem_mem hlt
  have hxw:=exsWt_mem hmem
  have hdr:=exsWt_drop hlt
  obtain⟨hP,hsh⟩:=hl _ hmem
  obtain⟨cut1,cut2⟩:=cellsF_cut hlt hmp
  have hcg:(exCells l)[i]? =some (.agg l[i].cells):=exCells_at hlt
  have c1:=fun H=>plain_ok G hG l[i] H
  have hcb:=fun L=>hBd (itT itsL nx) l[i] true (Q (nx+1)++L) tb mb g0 (nx+1) hP (by omega) hsh (by split<;>omega) (qx.2.1 _ _) (qx.1 _ _)
  have hcn:=hcnt (itT itsL nx) l[i] true (nx+1) hsh
  have hx8:=l[i].cells_len
  have hx8d:=l[i].cells_drop8
  have hx8t:=l[i].cells_take
  have hpos:=l[i].wt_pos
  have hat:atE l[i]=⟨l[i].name,l[i].n⟩:=rfl
  rw[hat] at cut1
  clear hat
  rw[show l[i].sv= .agg l[i].cells from rfl] at*
  generalize isAt l[i]=b at*
  generalize l[i].name=xn at*
  generalize l[i].n=xv at*
  generalize B (itT itsL nx) l[i] true (nx+1)=r0 at*
  obtain⟨bs,nx2⟩:=r0
  simp only at cut2 hcb hcn
  generalize l[i].wt=xw at*
  generalize l[i].cells=xc at*
  have hAl:=atCells_len A
  have hWl:=arCells_len W
  have hsn:=atCells_snoc A ⟨xn,xv⟩
  have hsn2:=atCells_snoc A ⟨itT itsL nx,0⟩
  have hsn3:=arCells_snoc W (.bs bs)
  simp only[Ar.cells,sgZ] at hsn hsn2 hsn3
  cases b
  ·have cut2:=cut2 rfl
   have X:=And.intro (And.intro noX (And.intro qx (And.intro hx21 (And.intro hx22 (And.intro hx23 (And.intro hx24 hx25)))))) (And.intro hcg (And.intro hx8 (And.intro hx8d (And.intro hx8t (And.intro hAl (And.intro hWl (And.intro hsn2 hsn3)))))))
   (refine run ?_;with_reducible repeat' first|exact trivial|(apply Fork.mk<;>intro hb)|apply Two.mk)
   refine callS (fresh_ok G hG C0 hb0 hl0 mb g0 nx (.map tb) _ (qx.1 _ _) (by omega)) ?_
   rintro r H' ⟨rfl,rfl⟩
   rw[qx.2.2]
   generalize itT itsL nx=tt at*
   (refine run ?_;with_reducible repeat' first|exact trivial|(apply Fork.mk<;>intro hb)|apply Two.mk)
   refine callS (hcb _) ?_
   rintro r H' ⟨rfl,rfl⟩
   rw[qx.2.2]
   (refine run ?_;with_reducible repeat' first|exact trivial|(apply Fork.mk<;>intro hb)|apply Two.mk)
   refine hK _ _ (i+1,A++[⟨tt,0⟩],W++[.bs bs],nx2) (by simp only;omega) ⟨⟨by simp only;omega,by simp only[List.length_append,List.length_cons,List.length_nil];omega,by simp only[List.length_append,List.length_cons,List.length_nil];omega,by simp only;omega⟩,cut2⟩ ?_
   simp only[List.length_append,List.length_cons,List.length_nil]
   exact wkS (n0:=n0) [(n0,0),(n0+1,0)] hG hB hC' (hcls _) (hn:=hlenQ _) (hd:=d2)
  ·have cut1:=cut1 rfl
   have X:=And.intro (And.intro noX (And.intro qx (And.intro hx21 (And.intro hx22 (And.intro hx23 (And.intro hx24 hx25)))))) (And.intro hcg (And.intro hx8 (And.intro hx8d (And.intro hx8t (And.intro hAl (And.intro hWl hsn))))))
   (refine run ?_;with_reducible repeat' first|exact trivial|(apply Fork.mk<;>intro hb)|apply Two.mk)
   refine hK _ _ (i+1,A++[⟨xn,xv⟩],W,nx) (by simp only;omega) ⟨⟨by simp only;omega,by simp only[List.length_append,List.length_cons,List.length_nil];omega,by simp only;omega,by simp only;omega⟩,cut1⟩ ?_
   simp only[List.length_append,List.length_cons,List.length_nil]
   exact wkS (n0:=n0) [(n0,0),(n0+1,0)] hG hB hC' (hcls _) (hn:=hlenQ _) (hd:=d2)
 clear hK
 have hni:¬ (i:Int)<(l.length:Int):=by omega
 rw[List.drop_eq_nil_of_le hge] at hmp
 simp only[cellsF,List.append_nil] at hmp
 rw[hmp] at hR
 simp only at hR
 have X:=And.intro (And.intro noX (And.intro qx (And.intro hx21 (And.intro hx22 (And.intro hx23 (And.intro hx24 hx25)))))) hni
 (refine run ?_;with_reducible repeat' first|exact trivial|(apply Fork.mk<;>intro hb)|apply Two.mk)
 exact finS (n0:=n0) hR hC' (hcls _) (.tuple _ _ (.cons _ _ _ _ (Frz.sf (g:=0) (sz:=2) (vals:=atCells A) (by rw[hx22];rfl) (by omega) (by simp) (by simp) (atCells_under _ _)) (.cons _ _ _ _ (Frz.sf (g:=0) (sz:=9) (vals:=arCells W) (by rw[hx23];rfl) (by omega) (by simp) (by simp) (arCells_under _ _)) .nil))) ⟨rfl,rfl⟩ (hn:=hlenQ _)
theorem values_ok (G:Gl) (hG:GClosed G) (C0:Cx) (hb0:G.base=some C0) (hl0:LibAt C0) (cs:List Cn) (T:List Str) (P:Ex→Prop) (E:Ex→Nat→Sg×Nat) (hEx:ExC16 G cs T P E) (hcnt:CntE cs E)
 (l:List Ex) (H:List Blk) (tb mb g0 nx0:Nat) (hl:∀ x∈l,P x∧Sh cs x) (hw:exsWt l<67108864) (hnx:nx0+exsWt l+1≤4294967290) (h1:H[tb]? =some (.map none (esO T))) (h2:H[mb]? =some (.cells g0 2 [.agg [.int .i64 (nx0:Int),.map tb]])):
 ACall Tryz.prog G 110 [.ptr mb g0 0 0,.list 8 (exCells l)] H (fun r H'=>H'=H.set mb (.cells g0 2 [.agg [.int .i64 ((valsF E l nx0).2:Int),.map tb]])∧r= .tuple [.list 2 (atCells (valsF E l nx0).1.1),.list 9 (arCells (valsF E l nx0).1.2)]):=by
 have hle:=exsWt_len l
 have l2:=(List.getElem?_eq_some_iff.1 h2).1
 have under_ints:=atCells_under
 have under_bools:=arCells_under
 obtain⟨Q,q0,qd,hlenQ,qx,qc⟩:=mkQ h1 h2
 simp only[qd]
 rw[← q0]
 refine ACall.of_go TB [6,7] tabOK _ Tryz.func110 rfl (by decide) Tryz.ntmps110 (by simp) rfl (by simp only[initEnv,Nat.reduceAdd];rfl) fun C R' hR hC hcl hB=>?_;have X:=noX;have hC':=congrArg List.length hC
 have hC':=hC'.trans (hlenQ _)
 have hcls:∀ nx,closed (Q nx):=fun nx=>qc (q0 ▸ hcl) nx
 clear q0 h1 h2
 generalize hn0:H.length=n0 at*
 have hx21:=hlenQ
 have hx22:∀ nx L,(Q nx++L)[n0]? =L[0]? :=fun nx L=>by rw[← hlenQ nx];exact get_app0 _ _
 have hx23:∀ nx L k,(Q nx++L)[n0+k]? =L[k]? :=fun nx L k=>by rw[← hlenQ nx];exact get_app _ _ _
 have hx24:∀ nx L x,(Q nx++L).set n0 x=Q nx++L.set 0 x:=fun nx L x=>by rw[← hlenQ nx];exact set_app0 _ _ _
 have hx25:∀ nx L k x,(Q nx++L).set (n0+k) x=Q nx++L.set k x:=fun nx L k x=>by rw[← hlenQ nx];exact set_app _ _ _ _
 have d2:=ndK n0 [0,1] (by decide)
 have X:=And.intro noX (And.intro qx (And.intro hx21 (And.intro hx22 (And.intro hx23 (And.intro hx24 hx25)))))
 (refine run ?_;with_reducible repeat' first|exact trivial|(apply Fork.mk<;>intro hb)|apply Two.mk)
 refine go_loop (fun a:Nat×List At×List Ar×Nat=>[(0,.ptr mb g0 0 0),(6,.sl n0 0 0 a.2.1.length),(7,.sl (n0+1) 0 0 a.2.2.1.length),(12,.list 8 (exCells l)),(13,.int .i64 l.length),(14,.int .i64 (a.1:Int))])
  (fun a=>Q a.2.2.2++[.cells 0 2 (atCells a.2.1),.cells 0 9 (arCells a.2.2.1)]) (fun a=>l.length - a.1)
  (fun a=>(a.1≤l.length∧a.2.1.length=a.1∧a.2.2.1.length≤a.1∧a.2.2.2+exsWt (l.drop a.1)≤nx0+exsWt l)∧valsF E l nx0=((a.2.1++(valsF E (l.drop a.1) a.2.2.2).1.1,a.2.2.1++(valsF E (l.drop a.1) a.2.2.2).1.2),(valsF E (l.drop a.1) a.2.2.2).2)) (0,[],[],nx0) ⟨⟨Nat.zero_le _,rfl,Nat.le_refl _,Nat.le_refl _⟩,rfl⟩ ?_ ?_
 ·simp only[show atCells []=[] from rfl,show arCells []=[] from rfl,List.length_nil]
  exact wkS (n0:=n0) [(n0,0),(n0+1,0)] hG hB hC' (hcls _) (hn:=hlenQ _) (hd:=d2)
 rintro K ⟨i,A,W,nx⟩ ⟨⟨hi,hA,hW,hnw⟩,hmp⟩ hK
 simp only at hi hA hW hnw hmp
 dsimp only
 rcases Nat.lt_or_ge i l.length with hlt|hge
 ·have hmem:=List.getElem_mem hlt
  have hxw:=exsWt_mem hmem
  have hdr:=exsWt_drop hlt
  obtain⟨hP,hsh⟩:=hl _ hmem
  obtain⟨cut1,cut2⟩:=valsF_cut hlt hmp
  have hcg:(exCells l)[i]? =some (.agg l[i].cells):=exCells_at hlt
  have hcb:=fun L=>hEx l[i] (Q (nx+1)++L) tb mb g0 (nx+1) hP (by omega) hsh (by omega) (qx.2.1 _ _) (qx.1 _ _)
  have hcn:=hcnt l[i] (nx+1) hsh
  have hpos:=l[i].wt_pos
  generalize hE:E l[i] (nx+1)=r0 at*
  clear hE
  obtain⟨y,nx2⟩:=r0
  simp only at cut2 hcb hcn
  generalize l[i].wt=xw at*
  clear hP hsh hmem
  generalize l[i]=x at*
  obtain⟨k2,n2,nn2,op2,ns2,ss2,bs2,as2⟩:=x
  have c1:=fun H=>plain_ok G hG (.mk k2 n2 nn2 op2 ns2 ss2 bs2 as2) H
  simp only[Ex.name,Ex.n,Ex.kind,atE] at c1 cut1 cut2
  rw[show(Ex.mk k2 n2 nn2 op2 ns2 ss2 bs2 as2).cells=[.int .i64 k2,.str n2,.int .i64 nn2,.int .i64 op2,.list 1 (ns2.map .str),.list 8 (exCells ss2),.list 9 (bdCells bs2),.list 12 (alCells as2)] from rfl] at hcg
  rw[show(Ex.mk k2 n2 nn2 op2 ns2 ss2 bs2 as2).sv= .agg [.int .i64 k2,.str n2,.int .i64 nn2,.int .i64 op2,.list 1 (ns2.map .str),.list 8 (exCells ss2),.list 9 (bdCells bs2),.list 12 (alCells as2)] from rfl] at*
  have hAl:=atCells_len A
  have hWl:=arCells_len W
  have hsn:=atCells_snoc A ⟨n2,nn2⟩
  have hsn2:=atCells_snoc A ⟨itT itsL nx,0⟩
  have hsn3:arCells W++[.agg (.nil:: .str (itT itsL nx)::(y.cells++[]))]=arCells (W++[.look (itT itsL nx) y]):=by rw[List.append_nil];exact arCells_snoc W (.look (itT itsL nx) y)
  have hy7:=y.cells_len
  have hy7t:=y.cells_take
  have hy7d:y.cells.drop 7=[]:=List.drop_eq_nil_of_le (by omega)
  by_cases hk:k2=2
  rotate_left
  ·have cut2:=cut2 hk
   have X:=And.intro (And.intro noX (And.intro qx (And.intro hx21 (And.intro hx22 (And.intro hx23 (And.intro hx24 hx25)))))) (And.intro hcg (And.intro hk (And.intro hAl (And.intro hWl (And.intro hsn2 (And.intro hsn3 (And.intro hy7 (And.intro hy7t hy7d))))))))
   (refine run ?_;with_reducible repeat' first|exact trivial|(apply Fork.mk<;>intro hb)|apply Two.mk)
   refine callS (fresh_ok G hG C0 hb0 hl0 mb g0 nx (.map tb) _ (qx.1 _ _) (by omega)) ?_
   rintro r H' ⟨rfl,rfl⟩
   rw[qx.2.2]
   generalize itT itsL nx=tt at*
   (refine run ?_;with_reducible repeat' first|exact trivial|(apply Fork.mk<;>intro hb)|apply Two.mk)
   refine xcallS (hcb _) ?_
   rintro r H' ⟨rfl,rfl⟩
   rw[qx.2.2,show y.sv= .agg y.cells from rfl]
   (refine run ?_;with_reducible repeat' first|exact trivial|(apply Fork.mk<;>intro hb)|apply Two.mk)
   refine hK _ _ (i+1,A++[⟨tt,0⟩],W++[.look tt y],nx2) (by simp only;omega) ⟨⟨by simp only;omega,by simp only[List.length_append,List.length_cons,List.length_nil];omega,by simp only[List.length_append,List.length_cons,List.length_nil];omega,by simp only;omega⟩,cut2⟩ ?_
   simp only[List.length_append,List.length_cons,List.length_nil]
   exact wkS (n0:=n0) [(n0,0),(n0+1,0)] hG hB hC' (hcls _) (hn:=hlenQ _) (hd:=d2)
  ·have cut1:=cut1 hk
   have X:=And.intro (And.intro noX (And.intro qx (And.intro hx21 (And.intro hx22 (And.intro hx23 (And.intro hx24 hx25)))))) (And.intro hcg (And.intro hk (And.intro hAl (And.intro hWl hsn))))
   (refine run ?_;with_reducible repeat' first|exact trivial|(apply Fork.mk<;>intro hb)|apply Two.mk)
   refine hK _ _ (i+1,A++[⟨n2,nn2⟩],W,nx) (by simp only;omega) ⟨⟨by simp only;omega,by simp only[List.length_append,List.length_cons,List.length_nil];omega,by simp only;omega,by simp only;omega⟩,cut1⟩ ?_
   simp only[List.length_append,List.length_cons,List.length_nil]
   exact wkS (n0:=n0) [(n0,0),(n0+1,0)] hG hB hC' (hcls _) (hn:=hlenQ _) (hd:=d2)
 clear hK
 have hni:¬ (i:Int)<(l.length:Int):=by omega
 rw[List.drop_eq_nil_of_le hge] at hmp
 simp only[valsF,List.append_nil] at hmp
 rw[hmp] at hR
 simp only at hR
 have X:=And.intro (And.intro noX (And.intro qx (And.intro hx21 (And.intro hx22 (And.intro hx23 (And.intro hx24 hx25)))))) hni
 (refine run ?_;with_reducible repeat' first|exact trivial|(apply Fork.mk<;>intro hb)|apply Two.mk)
 exact finS (n0:=n0) hR hC' (hcls _) (.tuple _ _ (.cons _ _ _ _ (Frz.sf (g:=0) (sz:=2) (vals:=atCells A) (by rw[hx22];rfl) (by omega) (by simp) (by simp) (atCells_under _ _)) (.cons _ _ _ _ (Frz.sf (g:=0) (sz:=9) (vals:=arCells W) (by rw[hx23];rfl) (by omega) (by simp) (by simp) (arCells_under _ _)) .nil))) ⟨rfl,rfl⟩ (hn:=hlenQ _)
end Go.Proofs.YtedejleokilohaaGreatDoor
