/- A part of the proof: L0, L1, S5, L2, S8, P12, M1, E1, N4, N5, M2, M3, M4, S7. Names and spaces are cut short by program. -/
import Derived.Test.YtehfihnfeakmaaaGreatDoorMl
set_option linter.unusedSimpArgs false
set_option linter.unusedVariables false
set_option maxRecDepth 10000
set_option maxHeartbeats 4000000
namespace Go.Proofs.YtehfihnfeakmaaaGreatDoor
open Go
def No (G:Gl) (m:Nat):Prop:=∀ (e:Ex) (H:List ax) (at_:Nat),e.wt≤m→e.wt<4294967296→af Tryz.prog G 37 [e.sv,.int .i64 (at_:Int)] H (fun r H'=>∃ (n:Nat) (b:Bool),(H'=H∧r= .tuple [.int .i64 n,.bool b])∧n≤e.wt)
theorem ql (G:Gl) (hG:au G):∀ m,No G m
 |0,e,H,at_,h,_=>absurd e.b9 (by omega)
 |m+1,e,H,at_,hm,hw0=>by
  have hrec:=ql G hG m
  have hep:=e.b9
  by_cases hat:(300:Int)<(at_:Int)
  ·refine af.aD TB [] aA _ Tryz.func37 rfl (by decide) Tryz.ntmps37 (by simp) rfl (by simp only[ap,Nat.reduceAdd];rfl) fun C R' hR hC hcl hB=>?_;have X:=aF;have hC':=congrArg List.length hC
   (refine dW ?_;with_reducible repeat' first|exact trivial|(apply ad.mk<;>intro hb)|apply av.mk)
   refine dP rfl hat ?_
   (refine run ?_;with_reducible repeat' first|exact trivial|(apply ad.mk<;>intro hb)|apply av.mk)
   exact aS (n0:=H.length) hR hC' hcl (.same _ rfl) ⟨1,false,⟨rfl,rfl⟩,by omega⟩
  have hpt:=fun i (h:i<e.parts.length)=>Ex.bT (List.getElem_mem h)
  have hpo:=fun H i (h:i<e.parts.length)=>F9 G hG e hw0 i h H
  have hpw:=rO e
  have hsum:∀ i (h:i<e.parts.length),((e.parts.take (i+1)).map Ex.wt).sum=((e.parts.take i).map Ex.wt).sum+e.parts[i].wt:=fun i h=>by rw[List.take_succ_eq_append_getElem h,List.map_append,List.sum_append,List.map_singleton,List.sum_singleton]
  have hsml:∀ i,((e.parts.take i).map Ex.wt).sum≤(e.parts.map Ex.wt).sum:=fun i=>by rw[List.map_take];exact lG i
  have hat2:(at_:Int)+1=((at_+1:Nat):Int):=by omega
  obtain⟨kd,nm,nn,op,names,ae,binds,alts⟩:=e
  have hle:=Ex.cm kd nm nn op names ae binds alts
  have hpl:(Ex.mk kd nm nn op names ae binds alts).parts.length=ae.length+binds.length+alts.length:=by rw[Ex.bM];simp;omega
  generalize hP:(Ex.mk kd nm nn op names ae binds alts).parts=P at*
  generalize hW:(Ex.mk kd nm nn op names ae binds alts).wt=W at*
  refine af.aD TB [] aA _ Tryz.func37 rfl (by decide) Tryz.ntmps37 (by simp) rfl (by simp only[ap,Nat.reduceAdd];rfl) fun C R' hR hC hcl hB=>?_;have X:=aF;have hC':=congrArg List.length hC
  (refine dW ?_;with_reducible repeat' first|exact trivial|(apply ad.mk<;>intro hb)|apply av.mk)
  refine cP rfl hat ?_
  (refine run ?_;with_reducible repeat' first|exact trivial|(apply ad.mk<;>intro hb)|apply av.mk)
  refine az (fun a:Nat×Nat=>[(1,.int .i64 (at_:Int)),(2,.ptr H.length 0 0 0),(6,.int .i64 (a.2:Int)),(7,.int .i64 (a.1:Int))]) (fun _=>H++[.cells 0 8 [.agg [.int .i64 kd,.str nm,.int .i64 nn,.int .i64 op,.list 1 (names.map .str),.list 8 (ag ae),.list 9 (ah binds),.list 12 (aw alts)]]]) (fun a=>P.length - a.1) (fun a=>a.1≤P.length∧a.2≤1+((P.take a.1).map Ex.wt).sum) (0,1) ⟨Nat.zero_le _,by simp⟩ ?_ ?_
  ·exact aY (n0:=H.length) [(H.length,0)] hG hB hC' hcl
  rintro K ⟨i,n⟩ ⟨hi,hn⟩ hK
  simp only at hi hn
  dsimp only
  have hs2:=hsml i
  rcases Nat.lt_or_ge i P.length with hlt|hge
  ·have hp1:=hpt i hlt
   have c1:=fun H=>hpo H i hlt
   have hs1:=hsum i hlt
   have hs3:=hsml (i+1)
   have hgd:(i:Int)<(ae.length:Int)+(binds.length:Int)+(alts.length:Int):=by omega
   have hcall:=fun H=>hrec P[i] H (at_+1) (by omega) (by omega)
   generalize P[i]=x at*
   have X:=And.intro aF (And.intro hat2 hgd)
   (refine run ?_;with_reducible repeat' first|exact trivial|(apply ad.mk<;>intro hb)|apply av.mk)
   refine bt (hcall _) ?_
   rintro r H' ⟨n2,b2,⟨rfl,rfl⟩,hn2⟩
   have hnn:(n:Int)+(n2:Int)=((n+n2:Nat):Int):=by omega
   have X:=And.intro aF hnn
   (refine run ?_;with_reducible repeat' first|exact trivial|(apply ad.mk<;>intro hb)|apply av.mk)
   ·exact aS (n0:=H.length) hR hC' hcl (.same _ rfl) ⟨n+n2,false,⟨rfl,rfl⟩,by omega⟩
   ·refine hK _ _ (i+1,n+n2) (by simp only;omega) ⟨by simp only;omega,by simp only;omega⟩ ?_
    dsimp only
    exact aY (n0:=H.length) [(H.length,0)] hG hB hC' hcl
  ·have hgd:¬ (i:Int)<(ae.length:Int)+(binds.length:Int)+(alts.length:Int):=by omega
   have X:=And.intro aF hgd
   clear hK
   (refine run ?_;with_reducible repeat' first|exact trivial|(apply ad.mk<;>intro hb)|apply av.mk)
   exact aS (n0:=H.length) hR hC' hcl (.same _ rfl) ⟨n,true,⟨rfl,rfl⟩,by omega⟩
theorem yE (G:Gl) (hG:au G) (e:Ex) (hw:e.wt<4294967296) (H:List ax):af Tryz.prog G 14 [e.sv] H (fun r H'=>∃ (n:Nat) (b:Bool),(H'=H∧r= .tuple [.int .i64 n,.bool b])∧n≤e.wt):=by
 refine af.aD TB [] aA _ Tryz.func14 rfl (by decide) Tryz.ntmps14 (by simp) rfl (by simp only[ap,Nat.reduceAdd];rfl) fun C R' hR hC hcl hB=>?_;have X:=aF;have hC':=congrArg List.length hC
 (refine run ?_;with_reducible repeat' first|exact trivial|(apply ad.mk<;>intro hb)|apply av.mk)
 refine bt (ql G hG e.wt e _ 0 (Nat.le_refl _) hw) ?_
 rintro r H' ⟨n,b,⟨rfl,rfl⟩,hn⟩
 (refine run ?_;with_reducible repeat' first|exact trivial|(apply ad.mk<;>intro hb)|apply av.mk)
 exact aS (n0:=H.length) hR hC' hcl (.same _ rfl) ⟨n,b,⟨rfl,rfl⟩,hn⟩
theorem ET (G:Gl) (hG:au G) (cons:List Cn) (binds:List Bd) (H:List ax) (hw:aM binds<4294967296):
 af Tryz.prog G 22 [.agg [.list 4 (aH cons),.list 9 (ah binds)]] H (fun r H'=>H'=H++[.cells 0 1 ((aP binds).map .str)]∧r= .sl H.length 0 0 (aP binds).length):=by
 have hle:=cC binds
 obtain⟨L2,b1,b2,b3,b4⟩:=fT (fun b:Bd=>b.name::pC b.e) [] binds
 have e0:aP binds=L2 binds.length:=by rw[b4,List.nil_append];rfl
 have hln:=dy binds
 rw[e0] at hln ⊢
 rw[← b4] at b3
 have bK:=fun n=>bf n cons
 refine af.aD TB [3] aA _ Tryz.func22 rfl (by decide) Tryz.ntmps22 (by simp) rfl (by simp only[ap,Nat.reduceAdd];rfl) fun C R' hR hC hcl hB=>?_;have X:=aF;have hC':=congrArg List.length hC
 (refine run ?_;with_reducible repeat' first|exact trivial|(apply ad.mk<;>intro hb)|apply av.mk)
 refine az (fun i:Nat=>[(1,.ptr H.length 0 0 0),(3,.sl (H.length+1) 0 0 (L2 i).length),(4,.int .i64 i)])
  (fun i=>H++[.cells 0 2 [.agg [.list 4 (aH cons),.list 9 (ah binds)]],.cells 0 1 ((L2 i).map .str)]) (fun i=>binds.length - i) (fun i=>i≤binds.length) 0 (Nat.zero_le _) ?_ ?_
 ·simp only[b1,List.length_nil,List.map_nil]
  exact aY (n0:=H.length) [(H.length,0),(H.length+1,0)] hG hB hC' hcl
 rintro K i hi hK
 rcases Nat.lt_or_ge i binds.length with hlt|hge
 ·have hpb:=kn (List.getElem_mem hlt)
  have c1:=fun H=>pn G hG binds[i].e.wt binds[i].e H (Nat.le_refl _) (by omega)
  have e1:=b2 i hlt
  have e2:=b3 (i+1)
  have e3:=b3 i
  have e4:=dz binds[i].e.wt binds[i].e
  rw[e1,List.length_append] at e2
  simp only[List.length_cons,pC] at e2 e1
  generalize dL binds[i].e.wt binds[i].e=l at*
  generalize L2 i=l1 at*
  have X:=And.intro aF (show(l1.map SV.str).length=l1.length∧(l.map SV.str).length=l.length from⟨List.length_map ..,List.length_map ..⟩)
  (refine run ?_;with_reducible repeat' first|exact trivial|(apply ad.mk<;>intro hb)|apply av.mk)
  refine hK _ _ (i+1) (by omega) (by omega) ?_
  rw[e1,List.map_append,List.map_cons,show(l1++binds[i].name::l).length=l1.length+(1+l.length) from by simp;omega]
  exact aY (n0:=H.length) [(H.length,0),(H.length+1,0)] hG hB hC' hcl
 obtain rfl:i=binds.length:=by omega
 clear hK
 have X:=And.intro aF (Int.lt_irrefl (binds.length:Int))
 (refine run ?_;with_reducible repeat' first|exact trivial|(apply ad.mk<;>intro hb)|apply av.mk)
 exact dp [(H.length+1,0)] (.sl H.length 0 0 (L2 binds.length).length) [.cells 0 1 ((L2 binds.length).map .str)] hR hC' hcl ⟨rfl,rfl⟩
theorem uv (G:Gl) (hG:au G) (cons:List Cn) (binds:List Bd) (H:List ax) (hw:aM binds<4294967296):
 af Tryz.prog G 22 [.agg [.list 4 (aH cons),.list 9 (ah binds)]] H (fun r H'=>H'=H∧r= .list 1 ((aP binds).map .str)):=
 af.Lw (bp _ _) (List.length_map ..) (ET G hG cons binds H hw)
theorem wrap_u8 {n:Nat} (h:n<256):IntKind.u8.wrap (n:Int)=(n:Int):=by
 simp only[IntKind.wrap,IntKind.bits,IntKind.signed]
 simp
 omega
theorem BE (G:Gl) (hG:au G) (s:aE) (hs:s.length<4294967296) (H:List ax):af Tryz.prog G 62 [.str s] H (fun r H'=>∃ n:Nat,(H'=H∧r= .int .i64 n)∧n<10000000000):=by
 refine af.aD TB [] aA _ Tryz.func62 rfl (by decide) Tryz.ntmps62 (by simp) rfl (by simp only[ap,Nat.reduceAdd];rfl) fun C R' hR hC hcl hB=>?_;have X:=aF;have hC':=congrArg List.length hC
 (refine run ?_;with_reducible repeat' first|exact trivial|(apply ad.mk<;>intro hb)|apply av.mk)
 ·exact Fin.out hR ⟨0,⟨rfl,rfl⟩,by omega⟩
 have hl3:¬ (List.length s:Int)<3:=fun h=>by rw[decide_eq_true h] at hb;simp at hb
 have hl11:¬ (11:Int)<(List.length s:Int):=fun h=>by rw[decide_eq_true h] at hb;simp at hb
 have h2l:2<s.length:=by omega
 have h2:s[2]? =some s[2]:=List.getElem?_eq_getElem h2l
 have X:=And.intro aF h2
 (refine run ?_;with_reducible repeat' first|exact trivial|(apply ad.mk<;>intro hb)|apply av.mk)
 ·exact Fin.out hR ⟨0,⟨rfl,rfl⟩,by omega⟩
 have hpw:∀ i,2≤i→10 ^ (i+1 - 2)=10*10 ^ (i - 2):=fun i hi=>by rw[show i+1 - 2=(i - 2)+1 by omega,Nat.pow_succ];omega
 have hpm:∀ i,i≤11→10 ^ (i - 2)≤1000000000:=fun i hi=>Nat.le_trans (Nat.pow_le_pow_right (by omega) (show i - 2≤9 by omega)) (by omega)
 refine az (fun a:Nat×Nat=>[(0,.str s),(3,.int .i64 (a.2:Int)),(4,.int .i64 (a.1:Int))]) (fun _=>H) (fun a=>s.length - a.1) (fun a=>(2≤a.1∧a.1≤s.length)∧a.2<10 ^ (a.1 - 2)) (2,0) ⟨⟨Nat.le_refl _,by simp only;omega⟩,by simp⟩ (Wk.sub (by simp[bg,look])) ?_
 rintro K ⟨i,n⟩ ⟨⟨hi1,hi2⟩,hn⟩ hK
 simp only at hi1 hi2 hn
 dsimp only
 have hp1:=hpw i hi1
 have hp2:=hpm i (by omega)
 generalize hPP:10 ^ (i - 2)=pp at*
 rcases Nat.lt_or_ge i s.length with hlt|hge
 ·have hg:s[i]? =some s[i]:=List.getElem?_eq_getElem hlt
  have hb8:s[i].toNat<256:=s[i].toNat_lt
  generalize s[i]=b at*
  generalize hbn:b.toNat=bn at*
  have X:=And.intro aF (And.intro hg hbn)
  (refine run ?_;with_reducible repeat' first|exact trivial|(apply ad.mk<;>intro hb)|apply av.mk)
  ·exact Fin.out hR ⟨0,⟨rfl,rfl⟩,by omega⟩
  ·simp only[Bool.or_eq_false_iff,decide_eq_false_iff_not] at hb
   have hw8:IntKind.u8.wrap ((bn:Int) - 48)=((bn - 48:Nat):Int):=by rw[show(bn:Int) - 48=((bn - 48:Nat):Int) by omega];exact wrap_u8 (by omega)
   rw[hw8,wrap_i64 ((bn - 48:Nat):Int) (by omega),wrap_i64 _ (by omega),show 10*(n:Int)+((bn - 48:Nat):Int)=((10*n+(bn - 48):Nat):Int) by omega]
   exact hK _ _ (i+1,10*n+(bn - 48)) (by simp only;omega) ⟨⟨by simp only;omega,by simp only;omega⟩,by simp only[hp1];omega⟩ (Wk.sub (by simp[bg,look]))
 ·have hni:¬ (i:Int)<(List.length s:Int):=by omega
  clear hK
  have X:=aF
  (refine run ?_;with_reducible repeat' first|exact trivial|(apply ad.mk<;>intro hb)|apply av.mk)
  exact Fin.out hR ⟨n,⟨rfl,rfl⟩,by omega⟩
theorem EY (G:Gl) (hG:au G) (cons:List Cn) (binds:List Bd) (H:List ax) (hw:aM binds<4294967295) (hns:∀ s∈aP binds,s.length<4294967296):
 af Tryz.prog G 21 [.agg [.list 4 (aH cons),.list 9 (ah binds)]] H (fun r H'=>∃ n:Nat,(H'=H∧r= .int .i64 n)∧n<10000000001):=by
 have hln:=dy binds
 refine af.aD TB [] aA _ Tryz.func21 rfl (by decide) Tryz.ntmps21 (by simp) rfl (by simp only[ap,Nat.reduceAdd];rfl) fun C R' hR hC hcl hB=>?_;have X:=aF;have hC':=congrArg List.length hC
 (refine run ?_;with_reducible repeat' first|exact trivial|(apply ad.mk<;>intro hb)|apply av.mk)
 refine bt (uv G hG cons binds _ (by omega)) ?_
 rintro r H' ⟨rfl,rfl⟩
 generalize aP binds=l at*
 (refine run ?_;with_reducible repeat' first|exact trivial|(apply ad.mk<;>intro hb)|apply av.mk)
 refine az (fun a:Nat×Nat=>[(3,.int .i64 (a.2:Int)),(4,.list 1 (l.map .str)),(5,.int .i64 (a.1:Int))]) (fun a=>H++[]) (fun a=>l.length - a.1) (fun a=>a.1≤l.length∧a.2<10000000000) (0,0) ⟨Nat.zero_le _,by omega⟩ ?_ ?_
 ·exact aY (n0:=H.length) [] hG hB hC' hcl
 rintro K ⟨i,n⟩ ⟨hi,hn⟩ hK
 simp only at hi hn
 dsimp only
 rcases Nat.lt_or_ge i l.length with hlt|hge
 ·have g1:(l.map SV.str)[i]? =some (.str l[i]):=by simp[hlt]
  have hnum:=fun H=>BE G hG l[i] (hns _ (List.getElem_mem hlt)) H
  generalize l[i]=s at*
  have X:=And.intro aF g1
  (refine run ?_;with_reducible repeat' first|exact trivial|(apply ad.mk<;>intro hb)|apply av.mk)
  refine bt (hnum _) ?_
  rintro r H' ⟨n2,⟨rfl,rfl⟩,hn2⟩
  have hmm:=lT n n2
  have X:=And.intro aF (And.intro hmm (show IntKind.i64.min≤(n2:Int)∧(n2:Int)≤IntKind.i64.max from⟨by show(-9223372036854775808:Int)≤_;omega,by show _≤(9223372036854775807:Int);omega⟩))
  (refine run ?_;with_reducible repeat' first|exact trivial|(apply ad.mk<;>intro hb)|apply av.mk)
  refine hK _ _ (i+1,max n n2) (by simp only;omega) ⟨by simp only;omega,by simp only;omega⟩ ?_
  dsimp only
  exact aY (n0:=H.length) [] hG hB hC' hcl
 ·have hni:¬ (i:Int)<(l.length:Int):=by omega
  clear hK
  have X:=aF
  (refine run ?_;with_reducible repeat' first|exact trivial|(apply ad.mk<;>intro hb)|apply av.mk)
  refine aS (n0:=H.length) hR hC' hcl (.same _ rfl) ⟨n+1,⟨rfl,?_⟩,by omega⟩
  simp only[bq,Int.natCast_add,Int.natCast_one]
theorem Ck (G:Gl) (hG:au G) (cons:List Cn) (binds:List Bd) (H:List ax) (hw:aM binds<1073741824) (hcn:cons.length<1099511627776) (hns:∀ s∈aP binds,s.length<4294967296):
 af Tryz.prog G 6 [.agg [.list 4 (aH cons),.list 9 (ah binds)]] H (La H):=by
 have hln:=dy binds
 have hle:=cC binds
 have bK:=fun n=>bf n cons
 have hlm:((aP binds).map SV.str).length=(aP binds).length:=List.length_map ..
 refine af.aD TB [] aA _ Tryz.func6 rfl (by decide) Tryz.ntmps6 (by simp) rfl (by simp only[ap,Nat.reduceAdd];rfl) fun C R' hR hC hcl hB=>?_;have X:=aF;have hC':=congrArg List.length hC
 (refine run ?_;with_reducible repeat' first|exact trivial|(apply ad.mk<;>intro hb)|apply av.mk)
 ·exact aS (n0:=H.length) hR hC' hcl (.same _ rfl) ⟨rfl,_,rfl⟩
 refine az (fun a:Nat×Nat=>[(1,.ptr H.length 0 0 0),(3,.int .i64 (a.2:Int)),(4,.int .i64 (a.1:Int))]) (fun _=>H++[.cells 0 2 [.agg [.list 4 (aH cons),.list 9 (ah binds)]]]) (fun a=>binds.length - a.1) (fun a=>a.1≤binds.length∧a.2≤aM (binds.take a.1)) (0,0) ⟨Nat.zero_le _,Nat.zero_le _⟩ ?_ ?_
 ·exact aY (n0:=H.length) [(H.length,0)] hG hB hC' hcl
 rintro K ⟨i,n⟩ ⟨hi,hn⟩ hK
 simp only at hi hn
 dsimp only
 have hbt:=jM binds i
 rcases Nat.lt_or_ge i binds.length with hlt|hge
 ·have hpb:=kn (List.getElem_mem hlt)
  have hbd:=fun H=>yE G hG binds[i].e (by omega) H
  have hbt2:aM (binds.take (i+1))=aM (binds.take i)+binds[i].wt:=by
   rw[List.take_succ_eq_append_getElem hlt]
   have:∀ (l:List Bd) (b:Bd),aM (l++[b])=aM l+b.wt:=fun l b=>by
    induction l with
    |nil=>simp[aM]
    |cons x r ih=>simp only[List.cons_append,aM,ih];omega
   exact this _ _
  have hbg:=binds[i].di
  have hX:=aF
  have X:=aF
  (refine run ?_;with_reducible repeat' first|exact trivial|(apply ad.mk<;>intro hb)|apply av.mk)
  refine bt (hbd _) ?_
  rintro r H' ⟨n2,b2,⟨rfl,rfl⟩,hn2⟩
  have hnn:(n:Int)+(n2:Int)=((n+n2:Nat):Int):=by omega
  have X:=And.intro aF hnn
  (refine run ?_;with_reducible repeat' first|exact trivial|(apply ad.mk<;>intro hb)|apply av.mk)
  ·exact aS (n0:=H.length) hR hC' hcl (.same _ rfl) ⟨rfl,_,rfl⟩
  ·refine hK _ _ (i+1,n+n2) (by simp only;omega) ⟨by simp only;omega,by simp only;omega⟩ ?_
   dsimp only
   exact aY (n0:=H.length) [(H.length,0)] hG hB hC' hcl
 ·have hni:¬ (i:Int)<(binds.length:Int):=by omega
  clear hK
  have c1:=fun H=>uv G hG cons binds H (by omega)
  have X:=And.intro aF (And.intro hni hlm)
  (refine run ?_;with_reducible repeat' first|exact trivial|(apply ad.mk<;>intro hb)|apply av.mk)
  refine bt (EY G hG cons binds _ (by omega) hns) ?_
  rintro r H' ⟨n2,⟨rfl,rfl⟩,hn2⟩
  clear hn2
  generalize (n2:Int)=z
  (refine run ?_;with_reducible repeat' first|exact trivial|(apply ad.mk<;>intro hb)|apply av.mk)
  all_goals exact aS (n0:=H.length) hR hC' hcl (.same _ rfl) ⟨rfl,_,rfl⟩
theorem Ad (s:aE): -9223372036854775808≤(gI s).1∧(gI s).1≤9223372036854775807:=by
 unfold gI
 rcases h:Lib.atoiAll s with v|_|_
 ·exact Lib.atoiAll_bounds h
 ·exact⟨show(-9223372036854775808:Int)≤0 by decide,show(0:Int)≤9223372036854775807 by decide⟩
 ·exact Lib.atoiSat_bounds s
theorem AN (s:aE):s.take 2=[116,35]↔2≤s.length∧s.take 2=[116,35]:=⟨fun h=>⟨by have:=congrArg List.length h;rw[List.length_take] at this;simp at this;omega,h⟩,fun h=>h.2⟩
theorem vg (G:Gl) (s:aE) (hs:s.length<4294967296) (H:List ax):af Tryz.prog G 147 [.str s,.str [116,35]] H (fun r H'=>H'=H∧r= .bool (decide (s.take 2=[116,35]))):=by
 by_cases h2:(2:Int)≤(s.length:Int)
 ·have h2n:2≤s.length:=by omega
  refine af.aD TB [] aA _ Tryz.func147 rfl (by decide) Tryz.ntmps147 (by simp) rfl (by simp only[ap,Nat.reduceAdd];rfl) fun C R' hR hC hcl hB=>?_;have X:=aF;have hC':=congrArg List.length hC
  have X:=And.intro X h2
  (refine run ?_;with_reducible repeat' first|exact trivial|(apply ad.mk<;>intro hb)|apply av.mk)
  exact Fin.out hR ⟨rfl,rfl⟩
 ·have h2n2:¬ 2≤s.length:=by omega
  have e:decide (s.take 2=[116,35])=false:=decide_eq_false fun h=>by have:=((AN s).1 h).1;omega
  rw[e]
  refine af.aD TB [] aA _ Tryz.func147 rfl (by decide) Tryz.ntmps147 (by simp) rfl (by simp only[ap,Nat.reduceAdd];rfl) fun C R' hR hC hcl hB=>?_;have X:=aF;have hC':=congrArg List.length hC
  have X:=And.intro X h2
  (refine run ?_;with_reducible repeat' first|exact trivial|(apply ad.mk<;>intro hb)|apply av.mk)
  refine Fin.out hR ⟨rfl,?_⟩
  simp only[bq]
  rw[show decide (((2:Nat):Int)≤(s.length:Int))=false from decide_eq_false (by omega),Bool.false_and]
theorem CQ (G:Gl) (s:aE) (hs:s.length<4294967296) (H:List ax):af Tryz.prog G 123 [.str s,.str [116,35]] H (fun r H'=>H'=H∧r= .tuple [.str (if s.take 2=[116,35] then s.drop 2 else s),.bool (decide (s.take 2=[116,35]))]):=by
 have c1:=fun H=>vg G s hs H
 by_cases h:s.take 2=[116,35]
 ·have h2:=((AN s).1 h).1
  rw[decide_eq_true h] at*
  rw[if_pos h]
  refine af.aD TB [] aA _ Tryz.func123 rfl (by decide) Tryz.ntmps123 (by simp) rfl (by simp only[ap,Nat.reduceAdd];rfl) fun C R' hR hC hcl hB=>?_;have X:=aF;have hC':=congrArg List.length hC
  (refine run ?_;with_reducible repeat' first|exact trivial|(apply ad.mk<;>intro hb)|apply av.mk)
  exact Fin.out hR ⟨rfl,by rw[List.take_of_length_le (by rw[List.length_drop];exact Nat.le_refl _)];rfl⟩
 ·rw[decide_eq_false h] at*
  rw[if_neg h]
  refine af.aD TB [] aA _ Tryz.func123 rfl (by decide) Tryz.ntmps123 (by simp) rfl (by simp only[ap,Nat.reduceAdd];rfl) fun C R' hR hC hcl hB=>?_;have X:=aF;have hC':=congrArg List.length hC
  (refine run ?_;with_reducible repeat' first|exact trivial|(apply ad.mk<;>intro hb)|apply av.mk)
  exact Fin.out hR ⟨rfl,rfl⟩
theorem uO (G:Gl) (s:aE) (hs:s.length<4294967296) (H:List ax):af Tryz.prog G 80 [.str s,.str [116,35]] H (fun r H'=>H'=H∧r= .tuple [.str (if s.take 2=[116,35] then s.drop 2 else s),.bool (decide (s.take 2=[116,35]))]):=by
 have c1:=fun H=>CQ G s hs H
 refine af.aD TB [] aA _ Tryz.func80 rfl (by decide) Tryz.ntmps80 (by simp) rfl (by simp only[ap,Nat.reduceAdd];rfl) fun C R' hR hC hcl hB=>?_;have X:=aF;have hC':=congrArg List.length hC
 (refine run ?_;with_reducible repeat' first|exact trivial|(apply ad.mk<;>intro hb)|apply av.mk)
 exact Fin.out hR ⟨rfl,rfl⟩
theorem Bg (l:List aE) (s:aE) (n:Nat):(l++[s]).foldl (fun n s=>max n (dM s)) n=max (l.foldl (fun n s=>max n (dM s)) n) (dM s):=by rw[List.foldl_append];rfl
theorem I2 {z nb:Bool} {k:Int} {ds:aE} (hnu:nb=(true&&z&&decide (0<k)&&decide (ds.length≤9)&&decide (Lib.itoa k=ds))) (h1:(z&&decide (0<k)&&decide ((ds.length:Int)≤9))=true) (h2:Lib.itoa k=ds):nb=true:=by
 rw[hnu]
 simp only[Bool.and_eq_true,decide_eq_true_eq] at h1 ⊢
 exact⟨⟨⟨⟨trivial,h1.1.1⟩,h1.1.2⟩,by omega⟩,h2⟩
theorem HR {z nb:Bool} {k:Int} {ds:aE} (hnu:nb=(true&&z&&decide (0<k)&&decide (ds.length≤9)&&decide (Lib.itoa k=ds))) (h2:¬ Lib.itoa k=ds):nb=false:=by
 rw[hnu,decide_eq_false h2,Bool.and_false]
theorem HS {z nb:Bool} {k:Int} {ds:aE} (hnu:nb=(true&&z&&decide (0<k)&&decide (ds.length≤9)&&decide (Lib.itoa k=ds))) (h1:(z&&decide (0<k)&&decide ((ds.length:Int)≤9))=false):nb=false:=by
 rw[hnu]
 simp only[show decide ((ds.length:Int)≤9)=decide (ds.length≤9) from decide_eq_decide.2 (by omega)] at h1
 rw[Bool.true_and,h1,Bool.false_and]
theorem CN (G:Gl) (hG:au G) (C0:Cx) (hb0:G.base=some C0) (hl0:p6 C0) (cons:List Cn) (binds:List Bd) (H:List ax) (hw:aM binds<4294967295) (hns:∀ s∈aP binds,s.length<4294967296):
 af Tryz.prog G 32 [.agg [.list 4 (aH cons),.list 9 (ah binds)]] H (fun r H'=>H'=H∧r= .int .i64 (lx binds)):=by
 have hln:=dy binds
 have c1:=fun H=>af.Lw (bp _ _) (List.length_map ..) (oX G hG cons binds H (by omega))
 have hnx:lx binds=(aP binds).foldl (fun n s=>max n (dM s)) 0+1:=rfl
 rw[hnx]
 clear hnx
 have hflt:=fun i=>pN ((aP binds).take i) 0 (by decide)
 refine af.aD TB [] aA _ Tryz.func32 rfl (by decide) Tryz.ntmps32 (by simp) rfl (by simp only[ap,Nat.reduceAdd];rfl) fun C R' hR hC hcl hB=>?_;have X:=aF;have hC':=congrArg List.length hC
 generalize aP binds=l at*
 (refine run ?_;with_reducible repeat' first|exact trivial|(apply ad.mk<;>intro hb)|apply av.mk)
 refine az (fun i:Nat=>[(3,.int .i64 (((l.take i).foldl (fun n s=>max n (dM s)) 0:Nat):Int)),(11,.list 1 (l.map .str)),(12,.int .i64 l.length),(13,.int .i64 (i:Int))]) (fun a=>H++[]) (fun i=>l.length - i) (fun i=>i≤l.length) 0 (Nat.zero_le _) ?_ ?_
 ·exact aY (n0:=H.length) [] hG hB hC' hcl
 rintro K i hi hK
 have hfi:=hflt i
 rcases Nat.lt_or_ge i l.length with hlt|hge
 ·have g1:(l.map SV.str)[i]? =some (.str l[i]):=by simp[hlt]
  have hsl:=hns _ (List.getElem_mem hlt)
  have hsn:=Bg (l.take i) l[i] 0
  rw[← List.take_succ_eq_append_getElem hlt] at hsn
  have hfi2:=hflt (i+1)
  rw[hsn] at hfi2
  have hnc:=F5 l[i]
  have hnu:vu l[i]=(decide (l[i].take 2=[116,35])&&(gI (l[i].drop 2)).2&&decide (0<(gI (l[i].drop 2)).1)&&decide ((l[i].drop 2).length≤9)&&decide (Lib.itoa (gI (l[i].drop 2)).1=l[i].drop 2)):=rfl
  generalize l[i]=s at*
  generalize hFF:(l.take i).foldl (fun n s=>max n (dM s)) 0=n at*
  have c2:=fun H=>uO G s hsl H
  by_cases hp:s.take 2=[116,35]
  ·rw[decide_eq_true hp] at c2 hnu
   rw[if_pos hp] at c2
   have hdl:(s.drop 2).length<4294967296:=by rw[List.length_drop];omega
   generalize s.drop 2=ds at*
   have c3:=fun H=>Ae G C0 hb0 hl0 ds hdl H
   obtain⟨hr1,hr2⟩:=Ad ds
   generalize (gI ds).2=z at*
   generalize (gI ds).1=k at*
   have c4:=fun H=>Aw G C0 hb0 hl0 k hr1 hr2 H
   have X:=And.intro aF g1
   (refine run ?_;with_reducible repeat' first|exact trivial|(apply ad.mk<;>intro hb)|apply av.mk)
   ·have hnt:=I2 hnu (by assumption) (by assumption)
    rw[hnt,if_pos rfl] at hnc
    subst hnc
    have hnl:=vt s
    have hmm:=lT n (dM s)
    have X:=And.intro aF (And.intro hmm (show IntKind.i64.min≤(dM s:Int)∧(dM s:Int)≤IntKind.i64.max from⟨by show(-9223372036854775808:Int)≤_;omega,by show _≤(9223372036854775807:Int);omega⟩))
    (refine run ?_;with_reducible repeat' first|exact trivial|(apply ad.mk<;>intro hb)|apply av.mk)
    refine hK _ _ (i+1) (by omega) (by omega) ?_
    rw[hsn]
    exact aY (n0:=H.length) [] hG hB hC' hcl
   ·have hnt:=HR hnu (by assumption)
    rw[hnt,if_neg Bool.false_ne_true] at hnc
    rw[show dM s=0 by omega,Nat.max_zero] at hsn
    refine hK _ _ (i+1) (by omega) (by omega) ?_
    rw[hsn]
    exact aY (n0:=H.length) [] hG hB hC' hcl
   ·have hnt:=HS hnu (by assumption)
    rw[hnt,if_neg Bool.false_ne_true] at hnc
    rw[show dM s=0 by omega,Nat.max_zero] at hsn
    refine hK _ _ (i+1) (by omega) (by omega) ?_
    rw[hsn]
    exact aY (n0:=H.length) [] hG hB hC' hcl
  ·rw[decide_eq_false hp] at c2 hnu
   rw[if_neg hp] at c2
   have c3:=fun H=>Ae G C0 hb0 hl0 s hsl H
   obtain⟨hr1,hr2⟩:=Ad s
   generalize (gI s).2=z at*
   generalize (gI s).1=k at*
   have X:=And.intro aF g1
   (refine run ?_;with_reducible repeat' first|exact trivial|(apply ad.mk<;>intro hb)|apply av.mk)
   rw[show vu s=false by rw[hnu];simp only[Bool.false_and],if_neg Bool.false_ne_true] at hnc
   rw[show dM s=0 by omega,Nat.max_zero] at hsn
   refine hK _ _ (i+1) (by omega) (by omega) ?_
   rw[hsn]
   exact aY (n0:=H.length) [] hG hB hC' hcl
 ·have hni:¬ (i:Int)<(l.length:Int):=by omega
  clear hK
  rw[List.take_of_length_le hge] at hfi ⊢
  generalize l.foldl (fun n s=>max n (dM s)) 0=n at*
  have X:=And.intro aF hni
  (refine run ?_;with_reducible repeat' first|exact trivial|(apply ad.mk<;>intro hb)|apply av.mk)
  refine aS (n0:=H.length) hR hC' hcl (.same _ rfl) ⟨rfl,?_⟩
  simp only[bq,Int.natCast_add,Int.natCast_one]
theorem Fc (e:Ex):(kJ e).wt≤e.wt+1:=by
 obtain⟨kd,nm,nn,op,names,ae,binds,alts⟩:=e
 cases ae with
 |nil=>
  show iO.wt≤_
  have:iO.wt=1:=by decide
  omega
 |cons x r=>
  have:=Ex.bT (e:= .mk kd nm nn op names (x::r) binds alts) (p:=x) (by rw[Ex.bM];simp)
  show x.wt≤_;omega
theorem nM (p:Pg):(fo p).length≤p.binds.length∧∀ o∈fo p,o.bN.length≤aM p.binds+1:=by
 refine⟨by rw[fo,ly];exact List.length_filter_le ..,fun o ho=>?_⟩
 rw[fo,dh,sZ] at ho
 obtain⟨b,hb,rfl⟩:=List.mem_map.1 ho
 have h1:=kn (List.mem_filter.1 hb).1
 have h2:=Fc b.e
 have h3:=fq aU (bc [] (dh (cx p.binds) 19)) (kJ b.e).wt (kJ b.e)
 have h4:=jz b.e.names (jX (bc [] (dh (cx p.binds) 19)) (kJ b.e))
 unfold jX at h4
 simp only[kH,jX]
 omega
theorem mE {Pr:Od→Prop} {l:List Od} (h:∀ o∈l,Pr o) (h0:Pr oK) (s:aE):Pr (cN l s):=by
 induction l with
 |nil=>exact h0
 |cons o r ih=>
  unfold cN bH
  split
  ·exact h o (List.mem_cons_self ..)
  ·exact ih fun x hx=>h x (List.mem_cons_of_mem _ hx)
theorem F3:vT oK:=by
 unfold vT oK
 exact⟨by simp,List.nodup_nil⟩
def cf (n:Nat):aE:=Lib.itoa (n:Int)
theorem FM (G:Gl) (C0:Cx) (hb0:G.base=some C0) (hl0:p6 C0) (n:Nat) (h:n<4294967296):(cf n).length≤20∧∀ H,af Tryz.prog G 82 [.int .i64 (n:Int)] H (fun r H'=>H'=H∧r= .str (cf n)):=
 ⟨fW _ (by omega) (by omega),fun H=>Aw G C0 hb0 hl0 n (by omega) (by omega) H⟩
def AB (p:Pg):List Od:=bc [] (fo p)
def kI (p:Pg):Pg:=⟨p.cons,(bJ (kl (bF cf (AB p) (aM p.binds))) p.binds (lx p.binds)).1⟩
def rZ (p:Pg):Pg:=if bA (kI p)=0 then kI p else p
theorem zt (p:Pg) (s:aE):vT (cN (AB p) s):=mE (fun o ho=>F7 p o ((lm (fo p) [] ho).elim (fun h=>by cases h) id)) F3 s
theorem FT (p:Pg) (hw:aM p.binds<67108864) (s:aE):(cN (AB p) s).bN.length<4294967296:=
 mE (Pr:=fun o=>o.bN.length<4294967296) (fun o ho=>by have:=(nM p).2 o ((lm (fo p) [] ho).elim (fun h=>by cases h) id);omega) (by decide) s
theorem vE (p:Pg) (hw:aM p.binds<67108864) (h0:bA p=0):aM (kI p).binds≤51*aM p.binds:=by
 have hn:=vv p.binds
 have h:=(gw (kl (bF cf (AB p) (aM p.binds))) Bd.wt p.binds (lx p.binds) (fun x hx n' hn'=>by
  have h1:=df hx
  rw[cg] at h1 hw
  have h2:=x.di
  have:=l6 cf (fun n h=>fW _ (by omega) (by omega)) (AB p) (zt p) (aM p.binds) x.e n' (by rw[cg];omega) ((ry h0).ER x hx) (by omega)
  obtain⟨s,e⟩:=x
  simp only[kl,Bd.wt,Bd.e,Bd.name] at this h2 ⊢
  omega)).1
 unfold kI
 simp only
 rw[cg,cg] at*
 omega
theorem E0 (G:Gl) (hG:au G) (p:Pg) (H:List ax) (hw:aM p.binds<67108864) (hcn:p.cons.length<1099511627776) (hne:¬ bA p=0):
 af Tryz.prog G 10 [p.sv] H (fun r H'=>H'=H∧r= .tuple [.agg [.list 4 [],.list 9 []],.int .i64 (bA p)]):=by
 have c1:=fun H=>p7 G hG p H (by omega) hcn hne
 generalize bA p=S at*
 obtain⟨cons,binds⟩:=p
 rw[show(Pg.mk cons binds).sv= .agg [.list 4 (aH cons),.list 9 (ah binds)] from rfl] at*
 refine af.aD TB [] aA _ Tryz.func10 rfl (by decide) Tryz.ntmps10 (by simp) rfl (by simp only[ap,Nat.reduceAdd];rfl) fun C R' hR hC hcl hB=>?_;have X:=aF;have hC':=congrArg List.length hC
 have X:=And.intro aF hne
 (refine run ?_;with_reducible repeat' first|exact trivial|(apply ad.mk<;>intro hb)|apply av.mk)
 exact Fin.bY (n0:=H.length) hR rfl hC' hcl (.tuple _ _ (.cons _ _ _ _ (.agg _ _ (.cons _ _ _ _ (.nil _) (.cons _ _ _ _ (.nil _) .nil))) (.cons _ _ _ _ (.same _ rfl) .nil))) ⟨rfl,rfl⟩
theorem G3 (G:Gl) (hG:au G) (hB0:eS G 0) (C0:Cx) (hb0:G.base=some C0) (hl0:p6 C0) (p:Pg) (H:List ax) (hw:aM p.binds<67108864) (hcn:p.cons.length<1073741824) (hns:∀ s∈aP p.binds,s.length<4294967296) (h0:bA p=0):
 af Tryz.prog G 10 [p.sv] H (fun r H'=>H'=H∧r= .tuple [(rZ p).sv,.int .i64 0]):=by
 have c1:=fun H=>oe G hG p H (by omega) (by omega) h0
 have hlint:=pQ G hG (kI p) [] (by have:=vE p hw h0;omega) (by unfold kI;simp only;omega)
 have hks:=zt p
 have hkl:=FT p hw
 have hth:=sG G hG cf (fun n h=>FM G C0 hb0 hl0 n h) (AB p) hks hkl (aM p.binds)
 have hthw:=l6 cf (fun n h=>fW _ (by omega) (by omega)) (AB p) hks (aM p.binds)
 have hshp:=(ry h0).ER
 have hrs:(rZ p).sv=if bA (kI p)=0 then (kI p).sv else p.sv:=by unfold rZ;split<;>rfl
 have hrq:kI p=⟨p.cons,(bJ (kl (bF cf (AB p) (aM p.binds))) p.binds (lx p.binds)).1⟩:=rfl
 have hnl:=vv p.binds
 have hol:=(nM p).1
 have hknd:AB p=bc [] (fo p):=rfl
 rw[hrs]
 clear hrs
 generalize hkk:AB p=kk at*
 generalize fo p=O at*
 generalize hLQ:bA (kI p)=LQ at*
 clear h0 hLQ hkk hks hkl
 obtain⟨cons,binds⟩:=p
 simp only at*
 have hle:=cC binds
 have c2:=fun H=>CN G hG C0 hb0 hl0 cons binds H (by omega) hns
 have hcc:=fun H=>oZ G hG (aH cons) (fun n=>bf n cons) H (by rw[eE];omega)
 rw[eE] at hcc
 have hkn:=fun H=>zu G hG O (by omega) H
 rw[← hknd] at hkn
 clear hknd
 rw[show(Pg.mk cons binds).sv= .agg [.list 4 (aH cons),.list 9 (ah binds)] from rfl] at*
 have bK:=fun n=>bf n cons
 have gA:=iZ
 generalize kI ⟨cons,binds⟩=RQ at*
 subst hrq
 rw[show(Pg.mk cons (bJ (kl (bF cf kk (aM binds))) binds (lx binds)).1).sv= .agg [.list 4 (aH cons),.list 9 (ah (bJ (kl (bF cf kk (aM binds))) binds (lx binds)).1)] from rfl] at*
 generalize hf:kl (bF cf kk (aM binds))=f at*
 have hfx:∀ b n,f b n=(.mk b.name (bF cf kk (aM binds) b.e n).1,(bF cf kk (aM binds) b.e n).2):=fun b n=>by rw[← hf];rfl
 clear hf
 generalize lx binds=nx0 at*
 refine af.aD TB [] aA _ Tryz.func10 rfl (by decide) Tryz.ntmps10 (by simp) rfl (by simp only[ap,Nat.reduceAdd];rfl) fun C R' hR hC hcl hB=>?_;have X:=aF;have hC':=congrArg List.length hC
 (refine run ?_;with_reducible repeat' first|exact trivial|(apply ad.mk<;>intro hb)|apply av.mk)
 refine du (hkn _) ?_
 rintro r H' ⟨rfl,rfl⟩
 simp only[List.append_assoc,List.cons_append,List.nil_append,List.length_append,List.length_cons,List.length_nil,List.length_set,X,Nat.reduceAdd]
 (refine run ?_;with_reducible repeat' first|exact trivial|(apply ad.mk<;>intro hb)|apply av.mk)
 refine bt (hcc _) ?_
 rintro r H' ⟨rfl,rfl⟩
 simp only[List.append_assoc,List.cons_append,List.nil_append,List.length_append,List.length_cons,List.length_nil,List.length_set,X,Nat.reduceAdd]
 (refine run ?_;with_reducible repeat' first|exact trivial|(apply ad.mk<;>intro hb)|apply av.mk)
 refine az (fun a:Nat×List Bd×Nat=>[(1,.ptr H.length 0 0 0),(2,.ptr (H.length+1) 0 0 0),(6,.ptr (H.length+3) 0 0 0),(7,.ptr (H.length+5) 0 0 0),(30,.list 9 (ah binds)),(31,.int .i64 binds.length),(32,.int .i64 (a.1:Int))])
  (fun a=>H++[.cells 0 2 [.agg [.list 4 (aH cons),.list 9 (ah binds)]],.cells 0 2 [.agg [.nil,.nil]],.map none (ky kk),.cells 0 2 [.agg [.map (H.length+2),.int .i64 (a.2.2:Int)]],.cells 0 4 (aH cons),.cells 0 2 [.agg [.sl (H.length+4) 0 0 cons.length,.sl (H.length+6) 0 0 a.1]],.cells 0 9 (ah a.2.1)]) (fun a=>binds.length - a.1)
  (fun a=>(a.1≤binds.length∧a.2.1.length=a.1∧a.2.2+aM (binds.drop a.1)≤nx0+aM binds)∧bJ f binds nx0=(a.2.1++(bJ f (binds.drop a.1) a.2.2).1,(bJ f (binds.drop a.1) a.2.2).2)) (0,[],nx0) ⟨⟨Nat.zero_le _,rfl,Nat.le_refl _⟩,rfl⟩ ?_ ?_
 ·refine Wk.trans (sK (id:=H.length+5) (i:=0) (j:=1) 9 ((bZ ..).trans rfl) rfl rfl) ?_
  simp only[cB,List.set_cons_succ,List.set_cons_zero,List.append_assoc,List.cons_append,List.nil_append,List.length_append,List.length_cons,List.length_nil,Nat.reduceAdd]
  exact aY (n0:=H.length) [(H.length,0),(H.length+1,0),(H.length+2,0),(H.length+3,0),(H.length+4,0),(H.length+5,0),(H.length+6,0)] hG hB hC' hcl
 rintro K ⟨i,D,nx⟩ ⟨⟨hi1,hD,hnw⟩,hmp⟩ hK
 simp only at hi1 hD hnw hmp
 dsimp only
 rcases Nat.lt_or_ge i binds.length with hlt|hge
 ·have hmem:=List.getElem_mem hlt
  have hxw:=df hmem
  have hxg:=binds[i].di
  have hdr:=jL hlt
  have hxs:=hshp _ hmem
  have hcall:=fun L=>hth binds[i].e (H++(.cells 0 2 [.agg [.list 4 (aH cons),.list 9 (ah binds)]]:: .cells 0 2 [.agg [.nil,.nil]]:: .map none (ky kk):: .cells 0 2 [.agg [.map (H.length+2),.int .i64 (nx:Int)]]::L)) (H.length+2) (H.length+3) 0 nx (by omega) (by omega) hxs (by omega) (by rw[bZ];rfl) (by rw[bZ];rfl)
  obtain⟨hw1,hw2⟩:=hthw binds[i].e nx (by omega) hxs (by omega)
  have hmp2:=fX hlt hmp
  have hgb:(ah binds)[i]? =some (.agg (.str binds[i].name::binds[i].e.cells)):=by rw[aV,List.getElem?_map,List.getElem?_eq_getElem hlt,Option.map_some,Bd.sv,Bd.cM]
  simp only[hfx] at hmp2
  generalize binds[i].wt=wb at*
  generalize binds[i].e=x at*
  generalize binds[i].name=xn at*
  generalize bF cf kk (aM binds) x nx=yy at*
  obtain⟨y,nx2⟩:=yy
  simp only at hw1 hw2 hmp2 hcall
  have hsn:ah D++[.agg (.str xn::(y.cells++[]))]=ah (D++[.mk xn y]):=by rw[List.append_nil];simp only[aV,List.map_append,List.map_cons,List.map_nil];rfl
  have hDl:(ah D).length=i:=by rw[aV,List.length_map,hD]
  have X:=And.intro aF hgb
  (refine run ?_;with_reducible repeat' first|exact trivial|(apply ad.mk<;>intro hb)|apply av.mk)
  refine du (hcall _) ?_
  rintro v H' ⟨rfl,rfl⟩
  rw[cB]
  simp only[List.set_cons_succ,List.set_cons_zero]
  have X:=And.intro aF (And.intro hgb (And.intro hsn hDl))
  (refine run ?_;with_reducible repeat' first|exact trivial|(apply ad.mk<;>intro hb)|apply av.mk)
  refine hK _ _ (i+1,D++[.mk xn y],nx2) (by simp only;omega) ⟨⟨by simp only;omega,by simp only[List.length_append,List.length_cons,List.length_nil];omega,by simp only;omega⟩,hmp2⟩ ?_
  dsimp only
  exact aY (n0:=H.length) [(H.length,0),(H.length+1,0),(H.length+2,0),(H.length+3,0),(H.length+4,0),(H.length+5,0),(H.length+6,0)] hG hB hC' hcl
 clear hK
 have hni:¬ (i:Int)<(binds.length:Int):=by omega
 rw[List.drop_eq_nil_of_le hge] at hmp
 simp only[bJ,List.append_nil] at hmp
 rw[hmp] at hlint hR
 simp only at hlint hR
 have hDl:(ah D).length=i:=by rw[aV,List.length_map,hD]
 have X:=And.intro aF hni
 (refine run ?_;with_reducible repeat' first|exact trivial|(apply ad.mk<;>intro hb)|apply av.mk)
 refine bt (af.FX hG hB0 (args2:=[.agg [.list 4 (aH cons),.list 9 (ah D)]]) (y:= .int .i64 LQ) ?_ (fun c c' v h=>by simpa only[aG] using h) (hlint.mono fun r H' h=>h.2)) ?_
 ·refine .cons _ _ _ _ (.agg _ _ (.cons _ _ _ _ ?_ (.cons _ _ _ _ ?_ .nil))) .nil
  ·exact bE.sf (g:=0) (sz:=4) (vals:=aH cons) (by rw[bZ];rfl) (Nat.zero_le _) (by simp) (by rw[List.drop_zero,List.take_of_length_le (by rw[eE];exact Nat.le_refl _)]) (bf _ _)
  ·exact bE.sf (g:=0) (sz:=9) (vals:=ah D) (by rw[bZ];rfl) (Nat.zero_le _) (by simp) (by rw[List.drop_zero,List.take_of_length_le (by rw[hDl];exact Nat.le_refl _)]) (cI _ _)
 rintro r H' ⟨rfl,rfl⟩
 by_cases hL:LQ=0
 ·rw[if_pos hL] at hR
  have X:=And.intro aF hL
  (refine run ?_;with_reducible repeat' first|exact trivial|(apply ad.mk<;>intro hb)|apply av.mk)
  refine Fin.bY (n0:=H.length) hR rfl hC' hcl (.tuple _ _ (.cons _ _ _ _ (.agg _ _ (.cons _ _ _ _ ?_ (.cons _ _ _ _ ?_ .nil))) (.cons _ _ _ _ (.same _ rfl) .nil))) ⟨rfl,rfl⟩
  ·exact bE.sf (g:=0) (sz:=4) (vals:=aH cons) (by rw[bZ];rfl) (by omega) (by simp) (by rw[List.drop_zero,List.take_of_length_le (by rw[eE];exact Nat.le_refl _)]) (bf _ _)
  ·exact bE.sf (g:=0) (sz:=9) (vals:=ah D) (by rw[bZ];rfl) (by omega) (by simp) (by rw[List.drop_zero,List.take_of_length_le (by rw[hDl];exact Nat.le_refl _)]) (cI _ _)
 ·rw[if_neg hL] at hR
  have X:=And.intro aF hL
  (refine run ?_;with_reducible repeat' first|exact trivial|(apply ad.mk<;>intro hb)|apply av.mk)
  exact Fin.bY (n0:=H.length) hR rfl hC' hcl (.same _ (by simp only[bq,SV.under,SV.aB,bf,cI,Bool.and_self])) ⟨rfl,rfl⟩
theorem xy (n:Nat):cf n=Lib.decDigits n:=by
 unfold cf Lib.itoa
 rw[if_neg (by omega)];rfl
def Np (G:Gl) (m:Nat):Prop:=∀ (n:Nat) (H:List ax),n<m→n<4294967296→af Tryz.prog G 128 [.int .i64 (n:Int)] H (fun r H'=>H'=H∧r= .str (Lib.decDigits n))
theorem rR (G:Gl) (hG:au G):∀ m,Np G m
 |0,n,H,h,_=>absurd h (by omega)
 |m+1,n,H,h,hn=>by
  have hrec:=rR G hG m
  by_cases h10:n<10
  ·rw[Lib.decDigits_one h10]
   have hi:(n:Int)<10:=by omega
   have hwr:IntKind.wrap .u8 (48+(n:Int))=48+(n:Int):=by
    rw[show(48:Int)+(n:Int)=((48+n:Nat):Int) by omega];exact wrap_u8 (by omega)
   have ht:(48+(n:Int)).toNat=48+n:=by omega
   clear hrec
   refine af.aD TB [] aA _ Tryz.func128 rfl (by decide) Tryz.ntmps128 (by simp) rfl (by simp only[ap,Nat.reduceAdd];rfl) fun C R' hR hC hcl hB=>?_;have X:=aF;have hC':=congrArg List.length hC
   have X:=And.intro aF (And.intro hi (And.intro hwr ht))
   (refine run ?_;with_reducible repeat' first|exact trivial|(apply ad.mk<;>intro hb)|apply av.mk)
   exact Fin.out hR ⟨rfl,rfl⟩
  ·rw[Lib.decDigits,dif_neg h10]
   have hi:¬ (n:Int)<10:=by omega
   have c1:=fun H=>hrec (n / 10) H (by omega) (by omega)
   have hq:(n:Int).tdiv 10=((n / 10:Nat):Int):=(Int.ofNat_tdiv n 10).symm
   have hr:(n:Int).tmod 10=((n % 10:Nat):Int):=(Int.ofNat_tmod n 10).symm
   have hlt:n % 10<10:=by omega
   have hqd:n / 10≤n:=by omega
   have hwr:IntKind.wrap .u8 (48+((n % 10:Nat):Int))=48+((n % 10:Nat):Int):=by
    rw[show(48:Int)+((n % 10:Nat):Int)=((48+n % 10:Nat):Int) by omega];exact wrap_u8 (by omega)
   have ht:(48+((n % 10:Nat):Int)).toNat=48+n % 10:=by omega
   have hll:(Lib.decDigits (n / 10)).length≤20:=by rw[← xy];exact fW _ (by omega) (by omega)
   have hmx:(Lib.decDigits (n / 10)).length+1≤maxLen:=by unfold maxLen;omega
   generalize n % 10=r at*
   generalize n / 10=q at*
   refine af.aD TB [] aA _ Tryz.func128 rfl (by decide) Tryz.ntmps128 (by simp) rfl (by simp only[ap,Nat.reduceAdd];rfl) fun C R' hR hC hcl hB=>?_;have X:=aF;have hC':=congrArg List.length hC
   have X:=And.intro aF (And.intro hi (And.intro hq (And.intro hr (And.intro hwr (And.intro ht hmx)))))
   (refine run ?_;with_reducible repeat' first|exact trivial|(apply ad.mk<;>intro hb)|apply av.mk)
   exact Fin.out hR ⟨rfl,rfl⟩
theorem Ci (G:Gl) (hG:au G) (n:Nat) (hn:n<4294967296) (H:List ax):
 af Tryz.prog G 90 [.int .i64 (n:Int)] H (fun r H'=>H'=H∧r= .str (Bp cf n)):=by
 have c1:=fun H=>rR G hG (n+1) n H (by omega) hn
 rw[← xy] at c1
 have hil:(cf n).length≤20:=fW _ (by omega) (by omega)
 have hmx:2+(cf n).length≤maxLen:=by unfold maxLen;omega
 unfold Bp
 generalize cf n=s at*
 refine af.aD TB [] aA _ Tryz.func90 rfl (by decide) Tryz.ntmps90 (by simp) rfl (by simp only[ap,Nat.reduceAdd];rfl) fun C R' hR hC hcl hB=>?_;have X:=aF;have hC':=congrArg List.length hC
 have X:=And.intro aF hmx
 (refine run ?_;with_reducible repeat' first|exact trivial|(apply ad.mk<;>intro hb)|apply av.mk)
 exact Fin.out hR ⟨rfl,rfl⟩
theorem rV (G:Gl) (hG:au G) (a:Ex) (t:aE) (b:List SV) (hb8:b.length=8) (H:List ax) (hbu:SV.aB H.length b=true):
 af Tryz.prog G 89 [.agg a.cells,.str t,.agg b] H (fun r H'=>H'=H∧r= .agg (Cr a t b)):=by
 have hau:=iW H.length a t hbu
 obtain⟨k2,n2,nn2,op2,ns2,ss2,bs2,as2⟩:=a
 match b,hb8 with
 |[b0,b1,b2,b3,b4,b5,b6,b7],_=>
  refine af.aD TB [] aA _ Tryz.func89 rfl (by decide) Tryz.ntmps89 (by simp) rfl (by simp only[ap,Nat.reduceAdd];rfl) fun C R' hR hC hcl hB=>?_;have X:=aF;have hC':=congrArg List.length hC
  (refine run ?_;with_reducible repeat' first|exact trivial|(apply ad.mk<;>intro hb)|apply av.mk)
  exact aS (n0:=H.length) hR hC' hcl (.same _ (by simp only[bq,SV.under];exact hau)) ⟨rfl,rfl⟩
def j3:List aE→aE→List aE
 |[],s=>[s]
 |x::r,s=>if x<s then x::j3 r s else s::x::r
abbrev yG (l:List aE):Prop:=l.Pairwise (fun x y=>x<y)
theorem rj {s t:aE}:∀ {o:List aE},t∈j3 o s↔t=s∨t∈o
 |[]=>by simp[j3]
 |x::r=>by
  rw[j3]
  split
  ·rw[List.mem_cons,rj,List.mem_cons]
   constructor
   ·rintro (h|h|h)
    ·exact .inr (.inl h)
    ·exact .inl h
    ·exact .inr (.inr h)
   ·rintro (h|h|h)
    ·exact .inr (.inl h)
    ·exact .inl h
    ·exact .inr (.inr h)
  ·simp only[List.mem_cons]
theorem xt (s:aE):∀ o:List aE,(j3 o s).length=o.length+1
 |[]=>rfl
 |x::r=>by
  rw[j3]
  split
  ·rw[List.length_cons,xt s r,List.length_cons]
  ·rfl
theorem Gp {a b:aE} (h:¬ a<b) (hn:a≠b):b<a:=by
 rcases Classical.em (b<a) with h3|h3
 ·exact h3
 ·exact(hn (List.le_antisymm h3 h)).elim
theorem tG {s:aE}:∀ {o:List aE},yG o→s∉o→yG (j3 o s)
 |[],_,_=>by simp[j3,yG]
 |x::r,h,hs=>by
  have h1:=List.pairwise_cons.1 h
  have hne:x≠s:=fun e=>hs (e ▸ List.mem_cons_self ..)
  rw[j3]
  split
  ·rename_i hlt
   refine List.pairwise_cons.2 ⟨fun t ht=>?_,tG h1.2 (fun h=>hs (List.mem_cons_of_mem _ h))⟩
   rcases rj.1 ht with rfl|ht
   ·exact hlt
   ·exact h1.1 t ht
  ·rename_i hlt
   have hsx:=Gp hlt hne
   refine List.pairwise_cons.2 ⟨fun t ht=>?_,h⟩
   rcases List.mem_cons.1 ht with rfl|ht
   ·exact hsx
   ·exact List.lt_trans hsx (h1.1 t ht)
theorem yb:∀ {a b:List aE},yG a→yG b→(∀ s,s∈a↔s∈b)→a=b
 |[],[],_,_,_=>rfl
 |[],y::t,_,_,h=>by simpa using (h y).2 (List.mem_cons_self ..)
 |x::r,[],_,_,h=>by simpa using (h x).1 (List.mem_cons_self ..)
 |x::r,y::t,ha,hb,h=>by
  have h1:=List.pairwise_cons.1 ha
  have h2:=List.pairwise_cons.1 hb
  have hxy:x=y:=by
   rcases List.mem_cons.1 ((h x).1 (List.mem_cons_self ..)) with e|e
   ·exact e
   rcases List.mem_cons.1 ((h y).2 (List.mem_cons_self ..)) with e2|e2
   ·exact e2.symm
   exact(List.lt_irrefl (α:=UInt8) _ (List.lt_trans (h1.1 y e2) (h2.1 x e))).elim
  subst hxy
  refine congrArg (x:: ·) (yb h1.2 h2.2 fun s=>⟨fun hs=>?_,fun hs=>?_⟩)
  ·rcases List.mem_cons.1 ((h s).1 (List.mem_cons_of_mem _ hs)) with e|e
   ·subst e;exact(List.lt_irrefl (α:=UInt8) _ (h1.1 s hs)).elim
   ·exact e
  ·rcases List.mem_cons.1 ((h s).2 (List.mem_cons_of_mem _ hs)) with e|e
   ·subst e;exact(List.lt_irrefl (α:=UInt8) _ (h2.1 s hs)).elim
   ·exact e
def iR:Nat→Ex→List aE→List aE→List aE
 |0,_,_,out=>out
 |m+1,e,fO,out=>if e.kind=1 then (if e.name∈fO∨e.name∈out then out else j3 out e.name) else (aN e).foldl (fun o p=>iR m p.1 (fO++p.2) o) out
theorem x9:∀ (m:Nat) (e:Ex) (fO out:List aE),yG out→yG (iR m e fO out)
 |0,_,_,_,h=>h
 |m+1,e,fO,out,h=>by
  rw[iR]
  split
  ·split
   ·exact h
   ·rename_i hn
    exact tG h (fun h2=>hn (.inr h2))
  ·generalize aN e=l
   induction l generalizing out with
   |nil=>exact h
   |cons p l ih=>exact ih _ (x9 m p.1 _ _ h)
theorem AQ:∀ (m:Nat) (e:Ex) (fO out:List aE),(iR m e fO out).length≤out.length+e.wt
 |0,_,_,_=>by simp[iR]
 |m+1,e,fO,out=>by
  rw[iR]
  have hp:=e.b9
  split
  ·split
   ·omega
   ·rw[xt];omega
  ·have hs:=oQ e
   generalize aN e=l at hs
   have key:∀ (l:List (Ex×List aE)) (o:List aE),(l.foldl (fun o p=>iR m p.1 (fO++p.2) o) o).length≤o.length+(l.map fun p=>p.1.wt).sum:=fun l=>by
    induction l with
    |nil=>intro o;exact Nat.le_refl _
    |cons p l ih=>
     intro o
     rw[List.foldl_cons]
     have h1:=ih (iR m p.1 (fO++p.2) o)
     have h2:=AQ m p.1 (fO++p.2) o
     simp only[List.map_cons,List.sum_cons]
     omega
   have:=key l out
   omega
theorem AR:∀ (m:Nat) (e:Ex) (fO out:List aE) (st:BO),(∀ t,cv st.1 t=(fO.count t:Int))→(∀ t,t∈out↔t∈st.2)→∀ t,t∈iR m e fO out↔t∈(dr m e st).2
 |0,_,_,_,_,_,ho,t=>ho t
 |m+1,e,fO,out,st,hb,ho,t=>by
  rw[iR,dr]
  split
  ·have hz:cv st.1 e.name=0↔e.name∉fO:=by
    rw[hb]
    constructor
    ·intro h hm
     have:=List.count_pos_iff.2 hm
     omega
    ·intro h
     rw[List.count_eq_zero.2 h];rfl
   by_cases h1:e.name∈fO
   ·rw[if_pos (.inl h1),if_neg (fun h=>hz.1 h h1)]
    exact ho t
   ·rw[if_pos (hz.2 h1)]
    simp only[h1,false_or,fz]
    by_cases h2:e.name∈out
    ·rw[if_pos h2,if_pos ((ho _).1 h2)];exact ho t
    ·rw[if_neg h2,if_neg (fun h=>h2 ((ho _).2 h)),rj,List.mem_append,List.mem_singleton,ho]
     exact Or.comm
  ·generalize aN e=l
   induction l generalizing out st with
   |nil=>exact ho t
   |cons p l ih=>
    rw[List.foldl_cons,List.foldl_cons]
    refine ih (iR m p.1 (fO++p.2) out) (eO (dr m) st p) (fun t=>?_) (fun t=>?_)
    ·rw[lN,hb]
    ·exact AR m p.1 (fO++p.2) out (iL st.1 p.2,st.2) (fun t=>by simp only[gl,hb,List.count_append];omega) ho t
theorem Eg (e:Ex):iR e.wt e [] []=cX e:=
 yb (x9 _ _ _ _ List.Pairwise.nil) (C6 e) fun s=>by
  rw[AR e.wt e [] [] ([],[]) (fun t=>by simp[cv]) (fun t=>Iff.rfl),cX,(fM _).mem_iff]
theorem Au {s:aE}:∀ {o:List aE} {i:Nat},i≤o.length→(∀ (k:Nat) (h:k<o.length),k<i→o[k]<s)→j3 o s=o.take i++j3 (o.drop i) s
 |o,0,_,_=>by simp
 |[],i+1,h,_=>by simp at h
 |x::r,i+1,h,hl=>by
  have h0:x<s:=hl 0 (by simp) (by omega)
  rw[j3,if_pos h0,List.take_succ_cons,List.drop_succ_cons,List.cons_append,Au (by simpa using h) (fun k hk hki=>hl (k+1) (by simpa using hk) (by omega))]
theorem Dw {s:aE} {o:List aE} {i:Nat} (hi:i≤o.length) (hl:∀ (k:Nat) (h:k<o.length),k<i→o[k]<s) (he:∀ h:i<o.length,¬ o[i]<s):j3 o s=o.take i++s::o.drop i:=by
 rw[Au hi hl]
 rcases Nat.lt_or_ge i o.length with h|h
 ·rw[List.drop_eq_getElem_cons h,j3,if_neg (he h)]
 ·rw[List.drop_of_length_le h];rfl
theorem Gg (m:Nat) (e:Ex) (hk:e.kind≠1) (fO out:List aE):∃ O:Nat→List aE,O 0=out∧(∀ j p,(aN e)[j]? =some p→O (j+1)=iR m p.1 (fO++p.2) (O j)∧(O j).length+p.1.wt≤out.length+e.wt)∧O (aN e).length=iR (m+1) e fO out:=by
 have hs:=oQ e
 have key:∀ (l:List (Ex×List aE)) (o:List aE),(l.foldl (fun o p=>iR m p.1 (fO++p.2) o) o).length≤o.length+(l.map fun p=>p.1.wt).sum:=fun l=>by
  induction l with
  |nil=>intro o;exact Nat.le_refl _
  |cons p l ih=>
   intro o
   rw[List.foldl_cons]
   have h1:=ih (iR m p.1 (fO++p.2) o)
   have h2:=AQ m p.1 (fO++p.2) o
   simp only[List.map_cons,List.sum_cons]
   omega
 refine⟨fun j=>((aN e).take j).foldl (fun o p=>iR m p.1 (fO++p.2) o) out,by simp,fun j p hp=>?_,by rw[iR,if_neg hk];simp only[List.take_length]⟩
 obtain⟨hj,rfl⟩:=List.getElem?_eq_some_iff.1 hp
 refine⟨by simp only;rw[List.take_succ_eq_append_getElem hj,List.foldl_append];rfl,?_⟩
 have h1:=key ((aN e).take j) out
 have h2:(((aN e).take j).map fun p=>p.1.wt).sum+(aN e)[j].1.wt≤((aN e).map fun p=>p.1.wt).sum:=by
  conv=>rhs;rw[← List.take_append_drop j (aN e),List.drop_eq_getElem_cons hj]
  simp only[List.map_append,List.map_cons,List.sum_append,List.sum_cons]
  omega
 simp only
 omega
def ku {α:Type} (p:α→α→Bool):List α→List α→Bool
 |[],[]=>true
 |x::a,y::b=>p x y&&ku p a b
 |_,_=>false
theorem jS {α:Type} (p:α→α→Bool):∀ (a b:List α),ku p a b=true↔a.length=b.length∧∀ i (h:i<a.length) (h':i<b.length),p a[i] b[i]=true
 |[],[]=>by simp[ku]
 |[],y::b=>by simp[ku]
 |x::a,[]=>by simp[ku]
 |x::a,y::b=>by
  simp only[ku,Bool.and_eq_true,jS p a b,List.length_cons,Nat.add_right_cancel_iff]
  constructor
  ·rintro⟨h1,h2,h3⟩
   refine⟨h2,fun i h h'=>?_⟩
   cases i with
   |zero=>exact h1
   |succ i=>exact h3 i (by omega) (by omega)
  ·rintro⟨h1,h2⟩
   exact⟨h2 0 (by omega) (by omega),h1,fun i h h'=>h2 (i+1) (by omega) (by omega)⟩
theorem uV {α:Type} {p:α→α→Bool} {a b:List α} (h:a.length≠b.length):ku p a b=false:=by
 rw[← Bool.not_eq_true,jS];exact fun k=>h k.1
theorem uU {α:Type} {p:α→α→Bool} {a b:List α} {i:Nat} (h:i<a.length) (h':i<b.length) (k:p a[i] b[i]=false):ku p a b=false:=by
 rw[← Bool.not_eq_true,jS];exact fun q=>by have:=q.2 i h h';rw[k] at this;cases this
def nZ (x y:aE):Bool:=decide (x=y)
def IB (s1 s2:aE) (z:Bool):Bool:=decide (s1=s2)&&z
def EJ (k1 k2:Int) (s1 s2:aE) (n1 n2:Int) (z2 z:Bool):Bool:=(((decide (k1=k2)&&decide (s1=s2))&&decide (n1=n2))&&z2)&&z
def H8 (k1 k2:Int) (s1 s2:aE) (n1 n2 o1 o2:Int) (z1 z2 z3 z4:Bool):Bool:=((((((decide (k1=k2)&&decide (s1=s2))&&decide (n1=n2))&&decide (o1=o2))&&z1)&&z2)&&z3)&&z4
def Af (p:Ex→Ex→Bool) (x y:Bd):Bool:=IB x.name y.name (p x.e y.e)
def z8 (p:Ex→Ex→Bool) (x y:Al):Bool:=EJ x.kind y.kind x.name y.name x.n y.n (ku nZ x.names y.names) (p x.body y.body)
def iG:Nat→Ex→Ex→Bool
 |0,_,_=>false
 |m+1,.mk k1 s1 n1 o1 l1 u1 b1 a1,.mk k2 s2 n2 o2 l2 u2 b2 a2=>
  H8 k1 k2 s1 s2 n1 n2 o1 o2 (ku nZ l1 l2) (ku (iG m) u1 u2) (ku (Af (iG m)) b1 b2) (ku (z8 (iG m)) a1 a2)
theorem kP {α:Type} {p:α→α→Bool}:∀ {l:List α},(∀ x∈l,p x x=true)→ku p l l=true
 |[],_=>rfl
 |x::r,h=>by
  rw[ku,h x (List.mem_cons_self ..),kP fun y hy=>h y (List.mem_cons_of_mem _ hy)];rfl
theorem uk (l:List aE):ku nZ l l=true:=kP fun x _=>by simp[nZ]
theorem yi:∀ (m:Nat) (e:Ex),e.wt≤m→iG m e e=true
 |0,e,h=>absurd e.b9 (by omega)
 |m+1,e,h=>by
  have hp:∀ p∈e.parts,iG m p p=true:=fun p hp=>yi m p (by have:=Ex.bT hp;omega)
  obtain⟨kd,nm,nn,op,names,ae,binds,alts⟩:=e
  rw[Ex.bM] at hp
  have h1:ku (iG m) ae ae=true:=kP fun x hx=>hp x (by simp[hx])
  have h2:ku (Af (iG m)) binds binds=true:=kP fun b hb=>by
   have:=hp b.e (by simp;exact .inr (.inl ⟨b,hb,rfl⟩))
   simp[Af,IB,this]
  have h3:ku (z8 (iG m)) alts alts=true:=kP fun a ha=>by
   have:=hp a.body (by simp;exact .inr (.inr ⟨a,ha,rfl⟩))
   simp[z8,EJ,this,uk]
  rw[iG,h1,h2,h3,uk]
  simp[H8]
theorem ua (G:Gl) (hG:au G) (a b:List (aE)) (ha:a.length<1125899906842624) (hb0:b.length<1125899906842624) (H:List ax):
 af Tryz.prog G 91 [.list 1 (a.map SV.str),.list 1 (b.map SV.str)] H (fun r H'=>H'=H∧r= .bool (ku nZ a b)):=by
 have h1:(a.map SV.str).length=a.length:=by simp
 have h2:(b.map SV.str).length=b.length:=by simp
 have hA1:∀ k:Nat,(a.map SV.str)[k]? =a[k]?.map SV.str:=fun k=>List.getElem?_map ..
 have hB1:∀ k:Nat,(b.map SV.str)[k]? =b[k]?.map SV.str:=fun k=>List.getElem?_map ..
 have hu1:SV.aB H.length (a.map SV.str)=true:=SV.bC fun _ _=>rfl
 have hu2:SV.aB H.length (b.map SV.str)=true:=SV.bC fun _ _=>rfl
 generalize a.map SV.str=A at*
 generalize b.map SV.str=B at*
 refine af.aD TB [] aA _ Tryz.func91 rfl (by decide) Tryz.ntmps91 (by simp) rfl (by simp only[ap,Nat.reduceAdd];rfl) fun C R' hR hC hcl hB=>?_;have X:=aF;have hC':=congrArg List.length hC
 have X:=And.intro X (And.intro h1 h2)
 by_cases hl:a.length=b.length
 ·have hln:((a.length:Int)=(b.length:Int))=True:=by simp[hl]
  have X:=And.intro X hln
  (refine run ?_;with_reducible repeat' first|exact trivial|(apply ad.mk<;>intro hb)|apply av.mk)
  clear X
  refine az (fun k:Nat=>[(0,.list 1 A),(1,.list 1 B),(5,.int .i64 k)]) (fun _=>H) (fun k=>a.length - k) (fun k=>k≤a.length∧∀ i (h:i<a.length) (h':i<b.length),i<k→nZ a[i] b[i]=true) 0 ⟨Nat.zero_le _,fun i _ _ h=>by omega⟩ (Wk.sub (by simp[bg,look])) ?_
  rintro K k ⟨hk,hall⟩ hK
  rcases Nat.lt_or_ge k a.length with hlt|hge
  ·have hlt2:k<b.length:=by omega
   have e1:A[k]? =some (SV.str a[k]):=by rw[hA1,List.getElem?_eq_getElem hlt];rfl
   have e2:B[k]? =some (SV.str b[k]):=by rw[hB1,List.getElem?_eq_getElem hlt2];rfl
   have hno:=uU (p:=nZ) hlt hlt2
   have hyes:nZ a[k] b[k]=true→∀ i (h:i<a.length) (h':i<b.length),i<k+1→nZ a[i] b[i]=true:=fun h i hi hi' hik=>by
    rcases Nat.lt_or_ge i k with h3|h3
    ·exact hall i hi hi' h3
    ·have:i=k:=by omega
     subst this;exact h
   generalize a[k]=x at*
   generalize b[k]=y at*
   simp only[nZ] at hno hyes
   have X:=And.intro aF (And.intro h1 (And.intro h2 (And.intro e1 e2)))
   (refine run ?_;with_reducible repeat' first|exact trivial|(apply ad.mk<;>intro hb)|apply av.mk)
   ·refine Fin.out hR ⟨rfl,?_⟩
    rw[hno (by first|(simpa using hb)|(revert hb;simp;done)|(cases h1:decide (x1=y1)<;>cases h2:decide (x2=y2)<;>simp_all;done)|(cases h1:decide (x1=y1)<;>cases h2:decide (x2=y2)<;>cases h3:decide (x3=y3)<;>cases h4:decide (x4=y4)<;>simp_all))];rfl
   ·exact hK _ _ (k+1) (by omega) ⟨by omega,hyes (by first|(simpa using hb)|(revert hb;simp;done)|(cases h1:decide (x1=y1)<;>cases h2:decide (x2=y2)<;>simp_all;done)|(cases h1:decide (x1=y1)<;>cases h2:decide (x2=y2)<;>cases h3:decide (x3=y3)<;>cases h4:decide (x4=y4)<;>simp_all))⟩ (Wk.sub (by simp[bg,look]))
  ·have:k=a.length:=by omega
   subst this
   have X:=And.intro aF (Int.lt_irrefl (a.length:Int))
   (refine run ?_;with_reducible repeat' first|exact trivial|(apply ad.mk<;>intro hb)|apply av.mk)
   refine Fin.out hR ⟨rfl,?_⟩
   rw[(jS nZ a b).2 ⟨hl,fun i h h'=>hall i h h' h⟩];rfl
 ·have hln:((a.length:Int)=(b.length:Int))=False:=by simp;omega
  have X:=And.intro X hln
  (refine run ?_;with_reducible repeat' first|exact trivial|(apply ad.mk<;>intro hb)|apply av.mk)
  refine Fin.out hR ⟨rfl,?_⟩
  rw[uV hl];rfl
theorem Ha {k1 k2:Int} {s1 s2:aE} {n1 n2:Int} {z2 z:Bool} (h:(decide (¬ k1=k2)||decide (¬ s1=s2)||decide (¬ n1=n2))=true):EJ k1 k2 s1 s2 n1 n2 z2 z=false:=by
 revert h;unfold EJ;by_cases a:k1=k2<;>by_cases b:s1=s2<;>by_cases c:n1=n2<;>simp[a,b,c]
theorem Iz {k1 k2:Int} {s1 s2:aE} {n1 n2:Int} {z2 z:Bool} (h:(decide (¬ k1=k2)||decide (¬ s1=s2)||decide (¬ n1=n2))=false) (h2:(!z2)=false) (h3:(!z)=false):EJ k1 k2 s1 s2 n1 n2 z2 z=true:=by
 revert h;unfold EJ;by_cases a:k1=k2<;>by_cases b:s1=s2<;>by_cases c:n1=n2<;>simp_all
theorem Hd {k1 k2:Int} {s1 s2:aE} {n1 n2:Int} {z2 z:Bool} (h:(!z2)=true):EJ k1 k2 s1 s2 n1 n2 z2 z=false:=by
 unfold EJ;simp_all
theorem He {k1 k2:Int} {s1 s2:aE} {n1 n2:Int} {z2 z:Bool} (h:(!z)=true):EJ k1 k2 s1 s2 n1 n2 z2 z=false:=by
 unfold EJ;simp_all
def Lo (G:Gl) (m:Nat):Prop:=∀ (a b:Ex) (H:List ax),a.wt≤m→a.wt<549755813888→b.wt<549755813888→af Tryz.prog G 36 [a.sv,b.sv] H (fun r H'=>H'=H∧r= .bool (iG m a b))
theorem yc (G:Gl) (hG:au G):∀ m,Lo G m
 |0,a,b,H,h,_,_=>absurd a.b9 (by omega)
 |m+1,a,b,H,hm,ha,hb=>by
  have hrec:=yc G hG m
  obtain⟨k1,s1,n1,o1,l1,u1,b1,a1⟩:=a
  obtain⟨k2,s2,n2,o2,l2,u2,b2,a2⟩:=b
  have hle1:=Ex.cm k1 s1 n1 o1 l1 u1 b1 a1
  have hle2:=Ex.cm k2 s2 n2 o2 l2 u2 b2 a2
  have hw1:(Ex.mk k1 s1 n1 o1 l1 u1 b1 a1).wt=1+s1.length+db l1+cw u1+aM b1+cU a1:=by simp only[Ex.wt]
  have hw2:(Ex.mk k2 s2 n2 o2 l2 u2 b2 a2).wt=1+s2.length+db l2+cw u2+aM b2+cU a2:=by simp only[Ex.wt]
  have c1:=fun H=>ua G hG l1 l2 (by omega) (by omega) H
  have e0:iG (m+1) (.mk k1 s1 n1 o1 l1 u1 b1 a1) (.mk k2 s2 n2 o2 l2 u2 b2 a2)=H8 k1 k2 s1 s2 n1 n2 o1 o2 (ku nZ l1 l2) (ku (iG m) u1 u2) (ku (Af (iG m)) b1 b2) (ku (z8 (iG m)) a1 a2):=rfl
  rw[e0]
  clear e0
  generalize ku nZ l1 l2=z1 at*
  by_cases hd:(decide (k1=k2)&&decide (s1=s2)&&decide (n1=n2)&&decide (o1=o2)&&z1&&decide (u1.length=u2.length)&&decide (b1.length=b2.length)&&decide (a1.length=a2.length))=true
  ·simp only[Bool.and_eq_true,decide_eq_true_eq] at hd
   obtain⟨⟨⟨⟨⟨⟨⟨h1,h2⟩,h3⟩,h4⟩,h5⟩,h6⟩,h7⟩,h8⟩:=hd
   subst h1 h2 h3 h4 h5
   have hgoal:H8 k1 k1 s1 s1 n1 n1 o1 o1 true (ku (iG m) u1 u2) (ku (Af (iG m)) b1 b2) (ku (z8 (iG m)) a1 a2)=((ku (iG m) u1 u2&&ku (Af (iG m)) b1 b2)&&ku (z8 (iG m)) a1 a2):=by simp[H8]
   rw[hgoal]
   clear hgoal
   have hn1:∀ {i:Nat} (h:i<u1.length) (h':i<u2.length),iG m u1[i] u2[i]=false→ku (iG m) u1 u2=false:=uU
   have hn2:∀ {i:Nat} (h:i<b1.length) (h':i<b2.length),Af (iG m) b1[i] b2[i]=false→ku (Af (iG m)) b1 b2=false:=uU
   have hn3:∀ {i:Nat} (h:i<a1.length) (h':i<a2.length),z8 (iG m) a1[i] a2[i]=false→ku (z8 (iG m)) a1 a2=false:=uU
   have hy1:=(jS (iG m) u1 u2).2
   have hy2:=(jS (Af (iG m)) b1 b2).2
   have hy3:=(jS (z8 (iG m)) a1 a2).2
   generalize ku (iG m) u1 u2=z1 at*
   generalize ku (Af (iG m)) b1 b2=z2 at*
   generalize ku (z8 (iG m)) a1 a2=z3 at*
   refine af.aD TB [] aA _ Tryz.func36 rfl (by decide) Tryz.ntmps36 (by simp) rfl (by simp only[ap,Nat.reduceAdd];rfl) fun C R' hR hC hcl hB=>?_;have X:=aF;have hC':=congrArg List.length hC
   have X:=And.intro X (And.intro (show((k1:Int)=k1)=True from by simp) (And.intro (show(s1=s1)=True from by simp) (And.intro (show((u1.length:Int)=(u2.length:Int))=True from by simp[h6]) (And.intro (show((b1.length:Int)=(b2.length:Int))=True from by simp[h7]) (show((a1.length:Int)=(a2.length:Int))=True from by simp[h8])))))
   (refine dW ?_;with_reducible repeat' first|exact trivial|(apply ad.mk<;>intro hb)|apply av.mk)
   refine kY rfl ?_
   clear X
   (refine bL ?_;with_reducible repeat' first|exact trivial|(apply ad.mk<;>intro hb)|apply av.mk)
   refine az (fun k:Nat=>[(2,.ptr H.length 0 0 0),(3,.ptr (H.length+1) 0 0 0),(5,.int .i64 k)]) (fun _=>H++[.cells 0 8 [.agg [.int .i64 k1,.str s1,.int .i64 n1,.int .i64 o1,.list 1 (l1.map .str),.list 8 (ag u1),.list 9 (ah b1),.list 12 (aw a1)]],.cells 0 8 [.agg [.int .i64 k1,.str s1,.int .i64 n1,.int .i64 o1,.list 1 (l2.map .str),.list 8 (ag u2),.list 9 (ah b2),.list 12 (aw a2)]]]) (fun k=>u1.length - k) (fun k=>k≤u1.length∧∀ i (h:i<u1.length) (h':i<u2.length),i<k→iG m u1[i] u2[i]=true) 0 ⟨Nat.zero_le _,fun i _ _ h=>by omega⟩ (aY (n0:=H.length) [(H.length,0),(H.length+1,0)] hG hB hC' hcl) ?_
   rintro K k ⟨hk,hall⟩ hK
   rcases Nat.lt_or_ge k u1.length with hlt|hge
   ·have hlt2:k<u2.length:=by omega
    have hm1:=eo (List.getElem_mem hlt)
    have hm2:=eo (List.getElem_mem hlt2)
    have hno:=hn1 hlt hlt2
    have c2:=fun H=>hrec u1[k] u2[k] H (by omega) (by omega) (by omega)
    have hyes:iG m u1[k] u2[k]=true→∀ i (h:i<u1.length) (h':i<u2.length),i<k+1→iG m u1[i] u2[i]=true:=fun h i hi hi' hik=>by
     rcases Nat.lt_or_ge i k with h3|h3
     ·exact hall i hi hi' h3
     ·have:i=k:=by omega
      subst this;exact h
    generalize iG m u1[k] u2[k]=z at*
    (refine run ?_;with_reducible repeat' first|exact trivial|(apply ad.mk<;>intro hb)|apply av.mk)
    ·refine aS (n0:=H.length) hR hC' hcl (.same _ rfl) ⟨rfl,?_⟩
     rw[hno (by simpa using hb)];rfl
    ·exact hK _ _ (k+1) (by omega) ⟨by omega,hyes (by simpa using hb)⟩ (aY (n0:=H.length) [(H.length,0),(H.length+1,0)] hG hB hC' hcl)
   obtain rfl:k=u1.length:=by omega
   clear hK
   have q1:=hy1 ⟨h6,fun i h h'=>hall i h h' h⟩
   subst q1
   clear hall hn1 hy1
   (refine bL ?_;with_reducible repeat' first|exact trivial|(apply ad.mk<;>intro hb)|apply av.mk)
   refine az (fun k:Nat=>[(2,.ptr H.length 0 0 0),(3,.ptr (H.length+1) 0 0 0),(6,.int .i64 k)]) (fun _=>H++[.cells 0 8 [.agg [.int .i64 k1,.str s1,.int .i64 n1,.int .i64 o1,.list 1 (l1.map .str),.list 8 (ag u1),.list 9 (ah b1),.list 12 (aw a1)]],.cells 0 8 [.agg [.int .i64 k1,.str s1,.int .i64 n1,.int .i64 o1,.list 1 (l2.map .str),.list 8 (ag u2),.list 9 (ah b2),.list 12 (aw a2)]]]) (fun k=>b1.length - k) (fun k=>k≤b1.length∧∀ i (h:i<b1.length) (h':i<b2.length),i<k→Af (iG m) b1[i] b2[i]=true) 0 ⟨Nat.zero_le _,fun i _ _ h=>by omega⟩ (aY (n0:=H.length) [(H.length,0),(H.length+1,0)] hG hB hC' hcl) ?_
   rintro K k ⟨hk,hall⟩ hK
   rcases Nat.lt_or_ge k b1.length with hlt|hge
   ·have hlt2:k<b2.length:=by omega
    have hm1:=df (List.getElem_mem hlt)
    have hm2:=df (List.getElem_mem hlt2)
    have hm3:=b1[k].di
    have hm4:=b2[k].di
    have hno:=hn2 hlt hlt2
    have c2:=fun H=>hrec b1[k].e b2[k].e H (by omega) (by omega) (by omega)
    have hyes:Af (iG m) b1[k] b2[k]=true→∀ i (h:i<b1.length) (h':i<b2.length),i<k+1→Af (iG m) b1[i] b2[i]=true:=fun h i hi hi' hik=>by
     rcases Nat.lt_or_ge i k with h3|h3
     ·exact hall i hi hi' h3
     ·have:i=k:=by omega
      subst this;exact h
    simp only[Af] at hno hyes
    generalize iG m b1[k].e b2[k].e=z at*
    (refine run ?_;with_reducible repeat' first|exact trivial|(apply ad.mk<;>intro hb)|apply av.mk)
    ·refine aS (n0:=H.length) hR hC' hcl (.same _ rfl) ⟨rfl,?_⟩
     rw[hno (by simp[IB,hb])];rfl
    ·refine aS (n0:=H.length) hR hC' hcl (.same _ rfl) ⟨rfl,?_⟩
     rw[hno (by simp_all [IB])];rfl
    ·exact hK _ _ (k+1) (by omega) ⟨by omega,hyes (by simp_all [IB])⟩ (aY (n0:=H.length) [(H.length,0),(H.length+1,0)] hG hB hC' hcl)
   obtain rfl:k=b1.length:=by omega
   clear hK
   have q2:=hy2 ⟨h7,fun i h h'=>hall i h h' h⟩
   subst q2
   clear hall hn2 hy2
   (refine bL ?_;with_reducible repeat' first|exact trivial|(apply ad.mk<;>intro hb)|apply av.mk)
   refine az (fun k:Nat=>[(2,.ptr H.length 0 0 0),(3,.ptr (H.length+1) 0 0 0),(7,.int .i64 k)]) (fun _=>H++[.cells 0 8 [.agg [.int .i64 k1,.str s1,.int .i64 n1,.int .i64 o1,.list 1 (l1.map .str),.list 8 (ag u1),.list 9 (ah b1),.list 12 (aw a1)]],.cells 0 8 [.agg [.int .i64 k1,.str s1,.int .i64 n1,.int .i64 o1,.list 1 (l2.map .str),.list 8 (ag u2),.list 9 (ah b2),.list 12 (aw a2)]]]) (fun k=>a1.length - k) (fun k=>k≤a1.length∧∀ i (h:i<a1.length) (h':i<a2.length),i<k→z8 (iG m) a1[i] a2[i]=true) 0 ⟨Nat.zero_le _,fun i _ _ h=>by omega⟩ (aY (n0:=H.length) [(H.length,0),(H.length+1,0)] hG hB hC' hcl) ?_
   rintro K k ⟨hk,hall⟩ hK
   rcases Nat.lt_or_ge k a1.length with hlt|hge
   ·have hlt2:k<a2.length:=by omega
    have hm1:=ek (List.getElem_mem hlt)
    have hm2:=ek (List.getElem_mem hlt2)
    have hm3:=a1[k].di
    have hm4:=a2[k].di
    have hm5:=a1[k].sO
    have hm6:=a2[k].sO
    have hno:=hn3 hlt hlt2
    have c2:=fun H=>hrec a1[k].body a2[k].body H (by omega) (by omega) (by omega)
    have c3:=fun H=>ua G hG a1[k].names a2[k].names (by omega) (by omega) H
    have hyes:z8 (iG m) a1[k] a2[k]=true→∀ i (h:i<a1.length) (h':i<a2.length),i<k+1→z8 (iG m) a1[i] a2[i]=true:=fun h i hi hi' hik=>by
     rcases Nat.lt_or_ge i k with h3|h3
     ·exact hall i hi hi' h3
     ·have:i=k:=by omega
      subst this;exact h
    simp only[z8] at hno hyes
    generalize iG m a1[k].body a2[k].body=z at*
    generalize ku nZ a1[k].names a2[k].names=z4 at*
    (refine run ?_;with_reducible repeat' first|exact trivial|(apply ad.mk<;>intro hb)|apply av.mk)
    ·refine aS (n0:=H.length) hR hC' hcl (.same _ rfl) ⟨rfl,?_⟩
     rw[hno (Ha hb)];rfl
    ·refine aS (n0:=H.length) hR hC' hcl (.same _ rfl) ⟨rfl,?_⟩
     rw[hno (Hd hb)];rfl
    ·refine aS (n0:=H.length) hR hC' hcl (.same _ rfl) ⟨rfl,?_⟩
     rw[hno (He hb)];rfl
    ·exact hK _ _ (k+1) (by omega) ⟨by omega,hyes (Iz (by assumption) (by assumption) (by assumption))⟩ (aY (n0:=H.length) [(H.length,0),(H.length+1,0)] hG hB hC' hcl)
   obtain rfl:k=a1.length:=by omega
   clear hK
   have q3:=hy3 ⟨h8,fun i h h'=>hall i h h' h⟩
   subst q3
   clear hall hn3 hy3
   (refine bL ?_;with_reducible repeat' first|exact trivial|(apply ad.mk<;>intro hb)|apply av.mk)
   exact aS (n0:=H.length) hR hC' hcl (.same _ rfl) ⟨rfl,rfl⟩
  ·have hno:∀ y1 y2 y3,(u1.length≠u2.length→y1=false)→(b1.length≠b2.length→y2=false)→(a1.length≠a2.length→y3=false)→H8 k1 k2 s1 s2 n1 n2 o1 o2 z1 y1 y2 y3=false:=by
    intro y1 y2 y3 h1 h2 h3
    rw[← Bool.not_eq_true]
    intro h
    apply hd
    unfold H8 at h
    simp only[Bool.and_eq_true,decide_eq_true_eq] at h ⊢
    obtain⟨⟨⟨⟨⟨⟨⟨q1,q2⟩,q3⟩,q4⟩,q5⟩,q6⟩,q7⟩,q8⟩:=h
    refine⟨⟨⟨⟨⟨⟨⟨q1,q2⟩,q3⟩,q4⟩,q5⟩,?_⟩,?_⟩,?_⟩
    ·exact Classical.byContradiction fun h=>by rw[h1 h] at q6;cases q6
    ·exact Classical.byContradiction fun h=>by rw[h2 h] at q7;cases q7
    ·exact Classical.byContradiction fun h=>by rw[h3 h] at q8;cases q8
   rw[hno _ _ _ uV uV uV]
   refine af.aD TB [] aA _ Tryz.func36 rfl (by decide) Tryz.ntmps36 (by simp) rfl (by simp only[ap,Nat.reduceAdd];rfl) fun C R' hR hC hcl hB=>?_;have X:=aF;have hC':=congrArg List.length hC
   (refine dW ?_;with_reducible repeat' first|exact trivial|(apply ad.mk<;>intro hb)|apply av.mk)
   ·refine np rfl ?_
    (refine bL ?_;with_reducible repeat' first|exact trivial|(apply ad.mk<;>intro hb)|apply av.mk)
    exact aS (n0:=H.length) hR hC' hcl (.same _ rfl) ⟨rfl,rfl⟩
   ·refine qT rfl (fun hx=>?_) (fun hx=>?_)
    ·(refine bL ?_;with_reducible repeat' first|exact trivial|(apply ad.mk<;>intro hb)|apply av.mk)
     exact aS (n0:=H.length) hR hC' hcl (.same _ rfl) ⟨rfl,rfl⟩
    ·exact absurd (by simp at hb hx ⊢;simp[hb,hx];omega) hd
theorem nS (G:Gl) (hG:au G) (a b:List aE) (ha:a.length<549755813888) (hb0:b.length<549755813888) (H:List ax):
 af Tryz.prog G 146 [.list 1 (a.map .str),.list 1 (b.map .str)] H (fun r H'=>H'=H∧r= .list 1 ((a++b).map .str)):=by
 have h1:(a.map SV.str).length=a.length:=by simp
 have h2:(b.map SV.str).length=b.length:=by simp
 have hu:SV.aB H.length ((a++b).map SV.str)=true:=SV.bC fun _ _=>rfl
 rw[List.map_append] at hu ⊢
 generalize a.map SV.str=A at*
 generalize b.map SV.str=B at*
 refine af.aD TB [5] aA _ Tryz.func146 rfl (by decide) Tryz.ntmps146 (by simp) rfl (by simp only[ap,Nat.reduceAdd];rfl) fun C R' hR hC hcl hB=>?_;have X:=aF;have hC':=congrArg List.length hC
 have X:=And.intro X (And.intro h1 h2)
 (refine run ?_;with_reducible repeat' first|exact trivial|(apply ad.mk<;>intro hb)|apply av.mk)
 exact aS (n0:=H.length) (y:= .list 1 (A++B)) hR hC' hcl (bE.sf (by rw[cS];rfl) (by omega) (by simp) (by rw[List.drop_zero,List.take_of_length_le (by simp;omega)]) hu) ⟨rfl,rfl⟩
theorem tX (G:Gl) (hG:au G) (binds:List Bd) (hb:binds.length<549755813888) (H:List ax):
 af Tryz.prog G 70 [.list 9 (ah binds)] H (fun r H'=>H'=H∧r= .list 1 ((binds.map Bd.name).map .str)):=by
 refine af.aD TB [3] aA _ Tryz.func70 rfl (by decide) Tryz.ntmps70 (by simp) rfl (by simp only[ap,Nat.reduceAdd];rfl) fun C R' hR hC hcl hB=>?_;have X:=aF;have hC':=congrArg List.length hC
 (refine run ?_;with_reducible repeat' first|exact trivial|(apply ad.mk<;>intro hb)|apply av.mk)
 refine az (fun i:Nat=>[(0,.list 9 (ah binds)),(3,.sl H.length 0 0 i),(4,.int .i64 i)])
  (fun i=>H++[.cells 0 1 ((binds.take i).map fun b=> .str b.name)]) (fun i=>binds.length - i) (fun i=>i≤binds.length) 0 (Nat.zero_le _) ?_ ?_
 ·exact aY (n0:=H.length) [(H.length,0)] hG hB hC' hcl
 rintro K i hi hK
 rcases Nat.lt_or_ge i binds.length with hlt|hge
 ·(refine bL ?_;with_reducible repeat' first|exact trivial|(apply ad.mk<;>intro hb)|apply av.mk)
  refine hK _ _ (i+1) (by omega) (by omega) ?_
  simp only[List.take_succ_eq_append_getElem hlt,List.map_append,List.map_cons,List.map_nil]
  exact aY (n0:=H.length) [(H.length,0)] hG hB hC' hcl
 obtain rfl:i=binds.length:=by omega
 clear hK
 have X:=And.intro aF (Int.lt_irrefl (binds.length:Int))
 (refine run ?_;with_reducible repeat' first|exact trivial|(apply ad.mk<;>intro hb)|apply av.mk)
 refine aS (n0:=H.length) (y:= .list 1 ((binds.map Bd.name).map .str)) hR hC' hcl (bE.sf (by rw[cS];rfl) (by omega) (by simp) ?_ (SV.bC fun _ _=>rfl)) ⟨rfl,rfl⟩
 rw[List.take_length,List.drop_zero,List.take_of_length_le (by simp),List.map_map];rfl
def Ll (G:Gl) (m:Nat):Prop:=∀ (e:Ex) (fO out:List aE) (H:List ax),e.wt≤m→fO.length+e.wt<549755813888→out.length+e.wt<549755813888→
 af Tryz.prog G 122 [e.sv,.list 1 (fO.map .str),.list 1 (out.map .str)] H (fun r H'=>H'=H∧r= .list 1 ((iR m e fO out).map .str))
theorem ym {a b:aE}:dm a b=decide (a<b):=by unfold dm;rw[bytesLess_eq]
theorem xu {out:List aE} {nm:aE} {i:Nat} (hi:i≤out.length):List.take (min (i - 0) out.length+(1+min (out.length - i) (List.drop i (out.map SV.str)).length)) (List.drop 0 (List.take (i - 0) (out.map SV.str)++SV.str nm::List.take (out.length - i) (List.drop i (out.map SV.str))))=(out.take i++nm::out.drop i).map SV.str:=by
 simp only[List.drop_zero,Nat.sub_zero]
 rw[List.take_of_length_le (l:=List.drop i _) (by simp),List.take_of_length_le (by simp;omega)]
 simp[List.map_take,List.map_drop]
theorem ya (G:Gl) (hG:au G):∀ m,Ll G m
 |0,e,fO,out,H,h,_,_=>absurd e.b9 (by omega)
 |m+1,e,fO,out,H,hm,hwb,hwo=>by
  have hrec:=ya G hG m
  obtain⟨kd,nm,nn,op,names,ae,binds,alts⟩:=e
  have hle:=Ex.cm kd nm nn op names ae binds alts
  by_cases hk:kd=1
  ·subst hk
   have er:iR (m+1) (.mk 1 nm nn op names ae binds alts) fO out=if nm∈fO∨nm∈out then out else j3 out nm:=by rw[iR];rfl
   rw[er]
   clear er
   have c1:=fun H=>ji G fO nm H (by omega)
   have c2:=fun H=>ji G out nm H (by omega)
   by_cases h1:nm∈fO
   ·rw[if_pos (.inl h1)]
    simp only[h1,decide_true] at c1
    clear c2
    refine af.aD TB [9] aA _ Tryz.func122 rfl (by decide) Tryz.ntmps122 (by simp) rfl (by simp only[ap,Nat.reduceAdd];rfl) fun C R' hR hC hcl hB=>?_;have X:=aF;have hC':=congrArg List.length hC
    (refine dW ?_;with_reducible repeat' first|exact trivial|(apply ad.mk<;>intro hb)|apply av.mk)
    refine dP rfl trivial ?_
    (refine bL ?_;with_reducible repeat' first|exact trivial|(apply ad.mk<;>intro hb)|apply av.mk)
    exact aS (n0:=H.length) hR hC' hcl (.same _ jF) ⟨rfl,rfl⟩
   simp only[h1,decide_false] at c1
   by_cases hout:nm∈out
   ·rw[if_pos (.inr hout)]
    simp only[hout,decide_true] at c2
    refine af.aD TB [9] aA _ Tryz.func122 rfl (by decide) Tryz.ntmps122 (by simp) rfl (by simp only[ap,Nat.reduceAdd];rfl) fun C R' hR hC hcl hB=>?_;have X:=aF;have hC':=congrArg List.length hC
    (refine dW ?_;with_reducible repeat' first|exact trivial|(apply ad.mk<;>intro hb)|apply av.mk)
    refine dP rfl trivial ?_
    (refine bL ?_;with_reducible repeat' first|exact trivial|(apply ad.mk<;>intro hb)|apply av.mk)
    exact aS (n0:=H.length) hR hC' hcl (.same _ jF) ⟨rfl,rfl⟩
   ·simp only[hout,decide_false] at c2
    rw[if_neg (by rintro (h|h);exact h1 h;exact hout h)]
    refine af.aD TB [9] aA _ Tryz.func122 rfl (by decide) Tryz.ntmps122 (by simp) rfl (by simp only[ap,Nat.reduceAdd];rfl) fun C R' hR hC hcl hB=>?_;have X:=aF;have hC':=congrArg List.length hC
    (refine dW ?_;with_reducible repeat' first|exact trivial|(apply ad.mk<;>intro hb)|apply av.mk)
    refine dP rfl trivial ?_
    (refine dW ?_;with_reducible repeat' first|exact trivial|(apply ad.mk<;>intro hb)|apply av.mk)
    refine kY rfl ?_
    clear c1 c2
    (refine bL ?_;with_reducible repeat' first|exact trivial|(apply ad.mk<;>intro hb)|apply av.mk)
    refine az (fun i:Nat=>[(2,.list 1 (out.map .str)),(3,.ptr H.length 0 0 0),(8,.int .i64 i)]) (fun _=>H++[.cells 0 8 [.agg [.int .i64 1,.str nm,.int .i64 nn,.int .i64 op,.list 1 (names.map .str),.list 8 (ag ae),.list 9 (ah binds),.list 12 (aw alts)]]]) (fun i=>out.length - i) (fun i=>i≤out.length∧∀ (k:Nat) (h:k<out.length),k<i→out[k]<nm) 0 ⟨Nat.zero_le _,fun k _ h=>by omega⟩ (aY (n0:=H.length) [(H.length,0)] hG hB hC' hcl) ?_
    rintro K i ⟨hi,hall⟩ hK
    have hfin:(∀ h:i<out.length,¬ out[i]<nm)→j3 out nm=out.take i++nm::out.drop i:=fun h=>Dw hi hall h
    rcases Nat.lt_or_ge i out.length with hlt|hge
    ·by_cases hl:out[i]<nm
     ·have X:=And.intro aF (show dm out[i] nm=true by rw[ym];exact decide_eq_true hl)
      (refine run ?_;with_reducible repeat' first|exact trivial|(apply ad.mk<;>intro hb)|apply av.mk)
      exact hK _ _ (i+1) (by omega) ⟨by omega,fun k hk hki=>by
       rcases Nat.lt_or_ge k i with h|h
       ·exact hall k hk h
       ·have:k=i:=by omega
        subst this;exact hl⟩ (aY (n0:=H.length) [(H.length,0)] hG hB hC' hcl)
     ·have e0:=hfin fun _=>hl
      have X:=And.intro aF (show dm out[i] nm=false by rw[ym];exact decide_eq_false hl)
      (refine run ?_;with_reducible repeat' first|exact trivial|(apply ad.mk<;>intro hb)|apply av.mk)
      refine aS (n0:=H.length) (y:= .list 1 ((j3 out nm).map .str)) hR hC' hcl (bE.sf (by rw[bZ];rfl) (by omega) (by simp) (by rw[e0];exact xu hi) (SV.bC fun _ _=>rfl)) ⟨rfl,rfl⟩
    ·have e0:=hfin fun h=>by omega
     have X:=And.intro aF (show ¬ ((i:Int)<(out.length:Int)) from by omega)
     (refine run ?_;with_reducible repeat' first|exact trivial|(apply ad.mk<;>intro hb)|apply av.mk)
     refine aS (n0:=H.length) (y:= .list 1 ((j3 out nm).map .str)) hR hC' hcl (bE.sf (by rw[bZ];rfl) (by omega) (by simp) (by rw[e0];exact xu hi) (SV.bC fun _ _=>rfl)) ⟨rfl,rfl⟩
  ·obtain⟨O,o1,o2,o3⟩:=Gg m (.mk kd nm nn op names ae binds alts) hk fO out
   rw[← o3]
   clear o3
   have hpl:(aN (Ex.mk kd nm nn op names ae binds alts)).length=ae.length+binds.length+alts.length:=by simp[aN];omega
   rw[hpl]
   have hpw:∀ {j:Nat} {p:Ex×List aE},(aN (Ex.mk kd nm nn op names ae binds alts))[j]? =some p→p.1.wt+p.2.length<(Ex.mk kd nm nn op names ae binds alts).wt:=fun h=>sk (List.mem_of_getElem? h)
   have hstep:∀ {j:Nat} {p:Ex×List aE},(aN (Ex.mk kd nm nn op names ae binds alts))[j]? =some p→∀ H,af Tryz.prog G 122 [p.1.sv,.list 1 ((fO++p.2).map .str),.list 1 ((O j).map .str)] H (fun r H'=>H'=H∧r= .list 1 ((O (j+1)).map .str)):=fun {j p} h H=>by
    have h1:=hpw h
    have h2:=o2 j p h
    rw[h2.1]
    exact hrec p.1 (fO++p.2) (O j) H (by omega) (by rw[List.length_append];omega) (by omega)
   have hs1:=fun(i:Nat) (h:i<ae.length)=>hstep (ud (nm:=nm) (nn:=nn) (op:=op) (kd:=kd) (names:=names) (binds:=binds) (alts:=alts) h)
   have hs2:=fun(i:Nat) (h:i<binds.length)=>hstep (sj (nm:=nm) (nn:=nn) (op:=op) (kd:=kd) (names:=names) (ae:=ae) (alts:=alts) h)
   have hs3:=fun(i:Nat) (h:i<alts.length)=>hstep (uc (nm:=nm) (nn:=nn) (op:=op) (kd:=kd) (names:=names) (ae:=ae) (binds:=binds) h)
   have hnl:=fun(i:Nat) (h:i<alts.length)=>Al.hY (kd:=kd) (nm:=nm) (nn:=nn) (op:=op) (names:=names) (ae:=ae) (binds:=binds) h
   clear hstep o2
   subst o1
   simp only at hs1 hs2 hs3
   refine af.aD TB [9] aA _ Tryz.func122 rfl (by decide) Tryz.ntmps122 (by simp) rfl (by simp only[ap,Nat.reduceAdd];rfl) fun C R' hR hC hcl hB=>?_;have X:=aF;have hC':=congrArg List.length hC
   have X:=And.intro X (decide_eq_false hk)
   (refine dW ?_;with_reducible repeat' first|exact trivial|(apply ad.mk<;>intro hb)|apply av.mk)
   refine kY rfl ?_
   clear X
   refine dQ (fun _:Unit=>[(1,.list 1 (fO.map .str)),(2,.list 1 ((O 0).map .str)),(3,.ptr H.length 0 0 0),(7,.list 1 ((fO++dR kd names binds).map .str))]) (fun _=>H++[.cells 0 8 [.agg [.int .i64 kd,.str nm,.int .i64 nn,.int .i64 op,.list 1 (names.map .str),.list 8 (ag ae),.list 9 (ah binds),.list 12 (aw alts)]]]) (fun _=>True) (fun K hK=>?_) (fun _ _=>?_)
   ·have c1:=fun H=>nS G hG fO names (by omega) (by omega) H
    have c2:=fun H=>tX G hG binds (by omega) H
    have c3:=fun H=>nS G hG fO (binds.map Bd.name) (by omega) (by simp;omega) H
    (refine bL ?_;with_reducible repeat' first|exact trivial|(apply ad.mk<;>intro hb)|apply av.mk)
    ·refine hK _ _ () trivial ?_
     simp only[dR,if_pos hb]
     exact aY (n0:=H.length) [(H.length,0)] hG hB hC' hcl
    ·refine hK _ _ () trivial ?_
     have hb3:¬ kd=3:=by omega
     simp only[dR,if_neg hb3,if_pos hb]
     exact aY (n0:=H.length) [(H.length,0)] hG hB hC' hcl
    ·refine hK _ _ () trivial ?_
     have hb3:¬ kd=3:=by assumption
     simp only[dR,if_neg hb3,if_neg hb,List.append_nil]
     exact aY (n0:=H.length) [(H.length,0)] hG hB hC' hcl
   (refine bL ?_;with_reducible repeat' first|exact trivial|(apply ad.mk<;>intro hb)|apply av.mk)
   refine az (fun i:Nat=>[(1,.list 1 (fO.map .str)),(2,.list 1 ((O i).map .str)),(3,.ptr H.length 0 0 0),(7,.list 1 ((fO++dR kd names binds).map .str)),(10,.int .i64 i)])
    (fun _=>H++[.cells 0 8 [.agg [.int .i64 kd,.str nm,.int .i64 nn,.int .i64 op,.list 1 (names.map .str),.list 8 (ag ae),.list 9 (ah binds),.list 12 (aw alts)]]]) (fun i=>ae.length - i) (fun i=>i≤ae.length) 0 (Nat.zero_le _) (aY (n0:=H.length) [(H.length,0)] hG hB hC' hcl) ?_
   rintro K i hi hK
   rcases Nat.lt_or_ge i ae.length with hlt|hge
   ·have c1:=hs1 i hlt
    (refine run ?_;with_reducible repeat' first|exact trivial|(apply ad.mk<;>intro hb)|apply av.mk)
    exact hK _ _ (i+1) (by omega) (by omega) (aY (n0:=H.length) [(H.length,0)] hG hB hC' hcl)
   obtain rfl:i=ae.length:=by omega
   clear hK hs1
   (refine bL ?_;with_reducible repeat' first|exact trivial|(apply ad.mk<;>intro hb)|apply av.mk)
   refine az (fun i:Nat=>[(1,.list 1 (fO.map .str)),(2,.list 1 ((O (ae.length+i)).map .str)),(3,.ptr H.length 0 0 0),(7,.list 1 ((fO++dR kd names binds).map .str)),(11,.int .i64 i)])
    (fun _=>H++[.cells 0 8 [.agg [.int .i64 kd,.str nm,.int .i64 nn,.int .i64 op,.list 1 (names.map .str),.list 8 (ag ae),.list 9 (ah binds),.list 12 (aw alts)]]]) (fun i=>binds.length - i) (fun i=>i≤binds.length) 0 (Nat.zero_le _) (aY (n0:=H.length) [(H.length,0)] hG hB hC' hcl) ?_
   rintro K i hi hK
   rcases Nat.lt_or_ge i binds.length with hlt|hge
   ·have c1:=hs2 i hlt
    (refine run ?_;with_reducible repeat' first|exact trivial|(apply ad.mk<;>intro hb)|apply av.mk)
    exact hK _ _ (i+1) (by omega) (by omega) (aY (n0:=H.length) [(H.length,0)] hG hB hC' hcl)
   obtain rfl:i=binds.length:=by omega
   clear hK hs2
   (refine bL ?_;with_reducible repeat' first|exact trivial|(apply ad.mk<;>intro hb)|apply av.mk)
   refine az (fun i:Nat=>[(1,.list 1 (fO.map .str)),(2,.list 1 ((O (ae.length+binds.length+i)).map .str)),(3,.ptr H.length 0 0 0),(12,.int .i64 i)])
    (fun _=>H++[.cells 0 8 [.agg [.int .i64 kd,.str nm,.int .i64 nn,.int .i64 op,.list 1 (names.map .str),.list 8 (ag ae),.list 9 (ah binds),.list 12 (aw alts)]]]) (fun i=>alts.length - i) (fun i=>i≤alts.length) 0 (Nat.zero_le _) (aY (n0:=H.length) [(H.length,0)] hG hB hC' hcl) ?_
   rintro K i hi hK
   rcases Nat.lt_or_ge i alts.length with hlt|hge
   ·have c1:=fun H=>nS G hG fO alts[i].names (by omega) (by have:=hnl i hlt;omega) H
    (refine dW ?_;with_reducible repeat' first|exact trivial|(apply ad.mk<;>intro hb)|apply av.mk)
    refine dP rfl (by omega) ?_
    (refine dW ?_;with_reducible repeat' first|exact trivial|(apply ad.mk<;>intro hb)|apply av.mk)
    refine dQ (fun _:Unit=>[(1,.list 1 (fO.map .str)),(2,.list 1 ((O (ae.length+binds.length+i)).map .str)),(3,.ptr H.length 0 0 0),(12,.int .i64 i),(13,.list 1 ((fO++(alts[i].names++if kd=6 then [nm] else [])).map .str))]) (fun _=>H++[.cells 0 8 [.agg [.int .i64 kd,.str nm,.int .i64 nn,.int .i64 op,.list 1 (names.map .str),.list 8 (ag ae),.list 9 (ah binds),.list 12 (aw alts)]]]) (fun _=>True) (fun K2 hK2=>?_) (fun _ _=>?_)
    ·have c2:=fun H=>nS G hG (fO++alts[i].names) [nm] (by have:=hnl i hlt;rw[List.length_append];omega) (by simp) H
     simp only[List.append_assoc,List.map_cons,List.map_nil] at c2
     (refine run ?_;with_reducible repeat' first|exact trivial|(apply ad.mk<;>intro hb)|apply av.mk)
     ·refine hK2 _ _ () trivial ?_
      simp only[if_pos hb]
      exact aY (n0:=H.length) [(H.length,0)] hG hB hC' hcl
     ·refine hK2 _ _ () trivial ?_
      simp only[if_neg hb,List.append_nil]
      exact aY (n0:=H.length) [(H.length,0)] hG hB hC' hcl
    have c2:=hs3 i hlt
    (refine run ?_;with_reducible repeat' first|exact trivial|(apply ad.mk<;>intro hb)|apply av.mk)
    refine hK _ _ (i+1) (by omega) (by omega) ?_
    rw[← Nat.add_assoc ae.length binds.length (i+1)]
    exact(aY (n0:=H.length) [(H.length,0)] hG hB hC' hcl)
   obtain rfl:i=alts.length:=by omega
   clear hK hs3
   (refine bL ?_;with_reducible repeat' first|exact trivial|(apply ad.mk<;>intro hb)|apply av.mk)
   exact aS (n0:=H.length) hR hC' hcl (.same _ jF) ⟨rfl,by rw[← Nat.add_assoc];rfl⟩
theorem tU (G:Gl) (hG:au G) (e:Ex) (hw:e.wt<549755813888) (H:List ax):af Tryz.prog G 71 [e.sv] H (fun r H'=>H'=H∧r= .list 1 ((cX e).map .str)):=by
 have c1:∀ H,af Tryz.prog G 122 [e.sv,.nil,.nil] H (fun r H'=>H'=H∧r= .list 1 ((cX e).map .str)):=fun H=>by
  have h:=ya G hG e.wt e [] [] H (Nat.le_refl _) (by simpa using hw) (by simpa using hw)
  rw[Eg] at h
  refine h.oh fun c vs hv=>?_
  obtain⟨v0,r0,q0,h0,rfl⟩:=aC.ba.1 hv
  obtain⟨v1,r1,q1,h1,rfl⟩:=aC.ba.1 h0
  obtain⟨v2,r2,q2,h2,rfl⟩:=aC.ba.1 h1
  exact aC.bB q0 (aC.bB q1.xO (aC.bB q2.xO h2))
 refine af.aD TB [] aA _ Tryz.func71 rfl (by decide) Tryz.ntmps71 (by simp) rfl (by simp only[ap,Nat.reduceAdd];rfl) fun C R' hR hC hcl hB=>?_;have X:=aF;have hC':=congrArg List.length hC
 (refine bL ?_;with_reducible repeat' first|exact trivial|(apply ad.mk<;>intro hb)|apply av.mk)
 exact aS (n0:=H.length) hR hC' hcl (.same _ jF) ⟨rfl,rfl⟩
@[simp] theorem EP (l:List Ex):List.take l.length (ag l)=ag l:=List.take_of_length_le (by rw[cR];exact Nat.le_refl _)
@[simp] theorem EN (l:List Bd):List.take l.length (ah l)=ah l:=List.take_of_length_le (by rw[aV,List.length_map];exact Nat.le_refl _)
@[simp] theorem EK (l:List Al):List.take l.length (aw l)=aw l:=List.take_of_length_le (by rw[bG,List.length_map];exact Nat.le_refl _)
end Go.Proofs.YtehfihnfeakmaaaGreatDoor
