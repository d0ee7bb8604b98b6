/- A part of the proof: L0, L1, S5, Z0, A20a, A20, E1, QS, A21, A22, LD, SwP, SwQ, K1, K4, K3. Names and spaces are cut short by program. -/
import Derived.Test.YtjdfoonhnmpkdaaGreatDoorMk
set_option linter.unusedSimpArgs false
set_option linter.unusedVariables false
set_option maxRecDepth 10000
set_option maxHeartbeats 4000000
namespace Go.Proofs.YtjdfoonhnmpkdaaGreatDoor
open Go
def RY (G:Gl) (m:Nat):Prop:=∀ (e:Ex) (H:List av) (at_:Nat),e.wt≤m→e.wt<4294967296→aq Tryz.prog G 63 [e.sv,.int .i64 (at_:Int)] H (fun r H'=>∃ (n:Nat) (b:Bool),(H'=H∧r= .tuple [.int .i64 n,.bool b])∧n≤e.wt)
theorem tR (G:Gl) (hG:ah G):∀ m,RY G m
 |0,e,H,at_,h,_=>absurd e.bZ (by omega)
 |m+1,e,H,at_,hm,hw0=>by
  have hrec:=tR G hG m
  have hep:=e.bZ
  by_cases hat:(300:Int)<(at_:Int)
  ·refine bP [] Tryz.func63 Tryz.ntmps63 fun C R' hR hC hcl hB hC' X=>?_
   (refine iu ?_)
   refine kN rfl hat ?_
   (refine run ?_)
   exact aZ (n0:=H.length) hR hC' hcl (.same _ rfl) ⟨1,false,⟨rfl,rfl⟩,by omega⟩
  have hpt:=fun i (h:i<e.parts.length)=>Ex.cm (List.getElem_mem h)
  have hpo:=fun H i (h:i<e.parts.length)=>FB G hG e (by omega) i h H
  have hpw:=vo e
  have hsum:∀ i (h:i<e.parts.length),((e.parts.take (i+1)).map Ex.wt).sum=((e.parts.take i).map Ex.wt).sum+e.parts[i].wt:=fun i h=>by rw[List.take_succ_eq_append_getElem h,List.map_append,List.sum_append,List.map_singleton,List.sum_singleton]
  have hsml:∀ i,((e.parts.take i).map Ex.wt).sum≤(e.parts.map Ex.wt).sum:=fun i=>by rw[List.map_take];exact nv i
  have hat2:(at_:Int)+1=((at_+1:Nat):Int):=by omega
  obtain⟨kd,nm,nn,op,names,ae,binds,alts⟩:=e
  have hle:=Ex.dn kd nm nn op names ae binds alts
  have hpl:(Ex.mk kd nm nn op names ae binds alts).parts.length=ae.length+binds.length+alts.length:=by rw[Ex.ck];simp;omega
  generalize hP:(Ex.mk kd nm nn op names ae binds alts).parts=P at*
  generalize hW:(Ex.mk kd nm nn op names ae binds alts).wt=W at*
  refine bP [] Tryz.func63 Tryz.ntmps63 fun C R' hR hC hcl hB hC' X=>?_
  (refine iu ?_)
  refine eh rfl hat ?_
  (refine run ?_)
  refine aA (fun a:Nat×Nat=>[(1,.int .i64 (at_:Int)),(2,.ptr H.length 0 0 0),(6,.int .i64 (a.2:Int)),(7,.int .i64 (a.1:Int))]) (fun _=>H++[.cells 0 8 [.agg [.int .i64 kd,.str nm,.int .i64 nn,.int .i64 op,.list 1 (names.map .str),.list 8 (ag ae),.list 9 (ad binds),.list 12 (af alts)]]]) (fun a=>P.length - a.1) (fun a=>a.1≤P.length∧a.2≤1+((P.take a.1).map Ex.wt).sum) (0,1) ⟨Nat.zero_le _,by simp⟩ ?_ ?_
  ·exact bI (n0:=H.length) [(H.length,0)] hG hB hC' hcl
  rintro K ⟨i,n⟩ ⟨hi,hn⟩ hK
  simp only at hi hn
  dsimp only
  have hs2:=hsml i
  rcases Nat.lt_or_ge i P.length with hlt|hge
  ·have hp1:=hpt i hlt
   have c1:=fun H=>hpo H i hlt
   have hs1:=hsum i hlt
   have hs3:=hsml (i+1)
   have hgd:(i:Int)<(ae.length:Int)+(binds.length:Int)+(alts.length:Int):=by omega
   have hcall:=fun H=>hrec P[i] H (at_+1) (by omega) (by omega)
   generalize P[i]=x at*
   have X:=fc aO hat2 hgd
   (refine run ?_)
   refine br (hcall _) ?_
   rintro r H' ⟨n2,b2,⟨rfl,rfl⟩,hn2⟩
   have hnn:(n:Int)+(n2:Int)=((n+n2:Nat):Int):=by omega
   have X:=And.intro aO hnn
   (refine run ?_;with_reducible repeat' first|exact trivial|(apply aJ.mk<;>intro hb)|apply bN.mk)
   ·exact aZ (n0:=H.length) hR hC' hcl (.same _ rfl) ⟨n+n2,false,⟨rfl,rfl⟩,by omega⟩
   ·refine hK _ _ (i+1,n+n2) (by simp only;omega) ⟨by simp only;omega,by simp only;omega⟩ ?_
    dsimp only
    exact bI (n0:=H.length) [(H.length,0)] hG hB hC' hcl
  ·have hgd:¬ (i:Int)<(ae.length:Int)+(binds.length:Int)+(alts.length:Int):=by omega
   have X:=And.intro aO hgd
   clear hK
   (refine run ?_)
   exact aZ (n0:=H.length) hR hC' hcl (.same _ rfl) ⟨n,true,⟨rfl,rfl⟩,by omega⟩
theorem C4 (G:Gl) (hG:ah G) (e:Ex) (hw:e.wt<4294967296) (H:List av):aq Tryz.prog G 17 [e.sv] H (fun r H'=>∃ (n:Nat) (b:Bool),(H'=H∧r= .tuple [.int .i64 n,.bool b])∧n≤e.wt):=by
 refine bP [] Tryz.func17 Tryz.ntmps17 fun C R' hR hC hcl hB hC' X=>?_
 (refine run ?_)
 refine br (tR G hG e.wt e _ 0 (Nat.le_refl _) hw) ?_
 rintro r H' ⟨n,b,⟨rfl,rfl⟩,hn⟩
 (refine run ?_)
 exact aZ (n0:=H.length) hR hC' hcl (.same _ rfl) ⟨n,b,⟨rfl,rfl⟩,hn⟩
theorem KW (G:Gl) (hG:ah G) (cons:List Cn) (binds:List Bd) (H:List av) (hw:aV binds<4294967296):
 aq Tryz.prog G 14 [.agg [.list 4 (ay cons),.list 9 (ad binds)]] H (fun r H'=>H'=H++[.cells 0 1 ((aU binds).map .str)]∧r= .sl H.length 0 0 (aU binds).length):=by
 have hle:=cM binds
 obtain⟨L2,b1,b2,b3,b4⟩:=il (fun b:Bd=>b.name::iF b.e) [] binds
 have e0:aU binds=L2 binds.length:=by rw[b4,List.nil_append];rfl
 have hln:=dG binds
 rw[e0] at hln ⊢
 rw[← b4] at b3
 have cC:=fun n=>aX n cons
 refine bP [3] Tryz.func14 Tryz.ntmps14 fun C R' hR hC hcl hB hC' X=>?_
 (refine run ?_)
 refine aA (fun i:Nat=>[(1,.ptr H.length 0 0 0),(3,.sl (H.length+1) 0 0 (L2 i).length),(4,.int .i64 i)])
  (fun i=>H++[.cells 0 2 [.agg [.list 4 (ay cons),.list 9 (ad binds)]],.cells 0 1 ((L2 i).map .str)]) (fun i=>binds.length - i) (fun i=>i≤binds.length) 0 (Nat.zero_le _) ?_ ?_
 ·simp only[b1,List.length_nil,List.map_nil]
  exact bI (n0:=H.length) [(H.length,0),(H.length+1,0)] hG hB hC' hcl
 rintro K i hi hK
 rcases Nat.lt_or_ge i binds.length with hlt|hge
 ·have hpb:=tO (List.getElem_mem hlt)
  have c1:=fun H=>sG G hG binds[i].e.wt binds[i].e H (Nat.le_refl _) (by omega)
  have e1:=b2 i hlt
  have e2:=b3 (i+1)
  have e3:=b3 i
  have e4:=dH binds[i].e.wt binds[i].e
  rw[e1,List.length_append] at e2
  simp only[List.length_cons,iF] at e2 e1
  generalize cF binds[i].e.wt binds[i].e=l at*
  generalize L2 i=l1 at*
  have X:=And.intro aO (show(l1.map SV.str).length=l1.length∧(l.map SV.str).length=l.length from⟨List.length_map ..,List.length_map ..⟩)
  (refine run ?_;with_reducible repeat' first|exact trivial|(apply aJ.mk<;>intro hb)|apply bN.mk)
  refine hK _ _ (i+1) (by omega) (by omega) ?_
  rw[e1,List.map_append,List.map_cons,show(l1++binds[i].name::l).length=l1.length+(1+l.length) from by simp;omega]
  exact bI (n0:=H.length) [(H.length,0),(H.length+1,0)] hG hB hC' hcl
 obtain rfl:i=binds.length:=by omega
 clear hK
 have X:=And.intro aO (Int.lt_irrefl (binds.length:Int))
 (refine run ?_)
 exact gD [(H.length+1,0)] (.sl H.length 0 0 (L2 binds.length).length) [.cells 0 1 ((L2 binds.length).map .str)] hR hC' hcl ⟨rfl,rfl⟩
theorem yy (G:Gl) (hG:ah G) (cons:List Cn) (binds:List Bd) (H:List av) (hw:aV binds<4294967296):
 aq Tryz.prog G 14 [.agg [.list 4 (ay cons),.list 9 (ad binds)]] H (fun r H'=>H'=H∧r= .list 1 ((aU binds).map .str)):=
 aq.Qx (bj _ _) (List.length_map ..) (KW G hG cons binds H hw)
theorem wrap_u8 {n:Nat} (h:n<256):IntKind.u8.wrap (n:Int)=(n:Int):=by
 simp only[IntKind.wrap,IntKind.bits,IntKind.signed]
 simp
 omega
theorem GJ (G:Gl) (hG:ah G) (s:aD) (hs:s.length<4294967296) (H:List av):aq Tryz.prog G 69 [.str s] H (fun r H'=>∃ n:Nat,(H'=H∧r= .int .i64 n)∧n<10000000000):=by
 refine bP [] Tryz.func69 Tryz.ntmps69 fun C R' hR hC hcl hB hC' X=>?_
 (refine run ?_;with_reducible repeat' first|exact trivial|(apply aJ.mk<;>intro hb)|apply bN.mk)
 ·exact Fin.out hR ⟨0,⟨rfl,rfl⟩,by omega⟩
 have hl3:¬ (List.length s:Int)<3:=fun h=>by rw[decide_eq_true h] at hb;simp at hb
 have hl11:¬ (11:Int)<(List.length s:Int):=fun h=>by rw[decide_eq_true h] at hb;simp at hb
 have h2l:2<s.length:=by omega
 have h2:s[2]? =some s[2]:=List.getElem?_eq_getElem h2l
 have X:=And.intro aO h2
 (refine run ?_;with_reducible repeat' first|exact trivial|(apply aJ.mk<;>intro hb)|apply bN.mk)
 ·exact Fin.out hR ⟨0,⟨rfl,rfl⟩,by omega⟩
 have hpw:∀ i,2≤i→10 ^ (i+1 - 2)=10*10 ^ (i - 2):=fun i hi=>by rw[show i+1 - 2=(i - 2)+1 by omega,Nat.pow_succ];omega
 have hpm:∀ i,i≤11→10 ^ (i - 2)≤1000000000:=fun i hi=>Nat.le_trans (Nat.pow_le_pow_right (by omega) (show i - 2≤9 by omega)) (by omega)
 refine aA (fun a:Nat×Nat=>[(0,.str s),(3,.int .i64 (a.2:Int)),(4,.int .i64 (a.1:Int))]) (fun _=>H) (fun a=>s.length - a.1) (fun a=>(2≤a.1∧a.1≤s.length)∧a.2<10 ^ (a.1 - 2)) (2,0) ⟨⟨Nat.le_refl _,by simp only;omega⟩,by simp⟩ (Wk.sub (by simp[aW,look])) ?_
 rintro K ⟨i,n⟩ ⟨⟨hi1,hi2⟩,hn⟩ hK
 simp only at hi1 hi2 hn
 dsimp only
 have hp1:=hpw i hi1
 have hp2:=hpm i (by omega)
 generalize hPP:10 ^ (i - 2)=pp at*
 rcases Nat.lt_or_ge i s.length with hlt|hge
 ·have hg:s[i]? =some s[i]:=List.getElem?_eq_getElem hlt
  have hb8:s[i].toNat<256:=s[i].toNat_lt
  generalize s[i]=b at*
  generalize hbn:b.toNat=bn at*
  have X:=fc aO hg hbn
  (refine run ?_;with_reducible repeat' first|exact trivial|(apply aJ.mk<;>intro hb)|apply bN.mk)
  ·exact Fin.out hR ⟨0,⟨rfl,rfl⟩,by omega⟩
  ·simp only[Bool.or_eq_false_iff,decide_eq_false_iff_not] at hb
   have hw8:IntKind.u8.wrap ((bn:Int) - 48)=((bn - 48:Nat):Int):=by rw[show(bn:Int) - 48=((bn - 48:Nat):Int) by omega];exact wrap_u8 (by omega)
   rw[hw8,wrap_i64 ((bn - 48:Nat):Int) (by omega),wrap_i64 _ (by omega),show 10*(n:Int)+((bn - 48:Nat):Int)=((10*n+(bn - 48):Nat):Int) by omega]
   exact hK _ _ (i+1,10*n+(bn - 48)) (by simp only;omega) ⟨⟨by simp only;omega,by simp only;omega⟩,by simp only[hp1];omega⟩ (Wk.sub (by simp[aW,look]))
 ·have hni:¬ (i:Int)<(List.length s:Int):=by omega
  clear hK
  have X:=aO
  (refine run ?_)
  exact Fin.out hR ⟨n,⟨rfl,rfl⟩,by omega⟩
theorem K6 (G:Gl) (hG:ah G) (cons:List Cn) (binds:List Bd) (H:List av) (hw:aV binds<4294967295) (hns:∀ s∈aU binds,s.length<4294967296):
 aq Tryz.prog G 21 [.agg [.list 4 (ay cons),.list 9 (ad binds)]] H (fun r H'=>∃ n:Nat,(H'=H∧r= .int .i64 n)∧n<10000000001):=by
 have hln:=dG binds
 refine bP [] Tryz.func21 Tryz.ntmps21 fun C R' hR hC hcl hB hC' X=>?_
 (refine run ?_)
 refine br (yy G hG cons binds _ (by omega)) ?_
 rintro r H' ⟨rfl,rfl⟩
 generalize aU binds=l at*
 (refine run ?_)
 refine aA (fun a:Nat×Nat=>[(3,.int .i64 (a.2:Int)),(4,.list 1 (l.map .str)),(5,.int .i64 (a.1:Int))]) (fun a=>H++[]) (fun a=>l.length - a.1) (fun a=>a.1≤l.length∧a.2<10000000000) (0,0) ⟨Nat.zero_le _,by omega⟩ ?_ ?_
 ·exact bI (n0:=H.length) [] hG hB hC' hcl
 rintro K ⟨i,n⟩ ⟨hi,hn⟩ hK
 simp only at hi hn
 dsimp only
 rcases Nat.lt_or_ge i l.length with hlt|hge
 ·have g1:(l.map SV.str)[i]? =some (.str l[i]):=by simp[hlt]
  have hnum:=fun H=>GJ G hG l[i] (hns _ (List.getElem_mem hlt)) H
  generalize l[i]=s at*
  have X:=And.intro aO g1
  (refine run ?_;with_reducible repeat' first|exact trivial|(apply aJ.mk<;>intro hb)|apply bN.mk)
  refine br (hnum _) ?_
  rintro r H' ⟨n2,⟨rfl,rfl⟩,hn2⟩
  have hmm:=tq n n2
  have X:=fc aO hmm (show IntKind.i64.min≤(n2:Int)∧(n2:Int)≤IntKind.i64.max from⟨by show(-9223372036854775808:Int)≤_;omega,by show _≤(9223372036854775807:Int);omega⟩)
  (refine run ?_)
  refine hK _ _ (i+1,max n n2) (by simp only;omega) ⟨by simp only;omega,by simp only;omega⟩ ?_
  dsimp only
  exact bI (n0:=H.length) [] hG hB hC' hcl
 ·have hni:¬ (i:Int)<(l.length:Int):=by omega
  clear hK
  have X:=aO
  (refine run ?_)
  refine aZ (n0:=H.length) hR hC' hcl (.same _ rfl) ⟨n+1,⟨rfl,?_⟩,by omega⟩
  simp only[aC,Int.natCast_add,Int.natCast_one]
theorem tH (G:Gl) (hG:ah G) (cons:List Cn) (binds:List Bd) (H:List av) (hw:aV binds<1073741824) (hcn:cons.length<1099511627776) (hns:∀ s∈aU binds,s.length<4294967296):
 aq Tryz.prog G 7 [.agg [.list 4 (ay cons),.list 9 (ad binds)]] H (fun r H'=>H'=H∧∃ b,r= .bool b∧(b=true→cons.length≤1000)):=by
 have hln:=dG binds
 have hle:=cM binds
 have cC:=fun n=>aX n cons
 have hlm:((aU binds).map SV.str).length=(aU binds).length:=List.length_map ..
 refine bP [] Tryz.func7 Tryz.ntmps7 fun C R' hR hC hcl hB hC' X=>?_
 (refine run ?_;with_reducible repeat' first|exact trivial|(apply aJ.mk<;>intro hb)|apply bN.mk)
 ·exact aZ (n0:=H.length) hR hC' hcl (.same _ rfl) ⟨rfl,_,rfl,fun h=>by cases h⟩
 have hcl0:cons.length≤1000:=by simp only[Bool.or_eq_false_iff,decide_eq_false_iff_not] at hb;omega
 refine aA (fun a:Nat×Nat=>[(1,.ptr H.length 0 0 0),(3,.int .i64 (a.2:Int)),(4,.int .i64 (a.1:Int))]) (fun _=>H++[.cells 0 2 [.agg [.list 4 (ay cons),.list 9 (ad binds)]]]) (fun a=>binds.length - a.1) (fun a=>a.1≤binds.length∧a.2≤aV (binds.take a.1)) (0,0) ⟨Nat.zero_le _,Nat.zero_le _⟩ ?_ ?_
 ·exact bI (n0:=H.length) [(H.length,0)] hG hB hC' hcl
 rintro K ⟨i,n⟩ ⟨hi,hn⟩ hK
 simp only at hi hn
 dsimp only
 have hbt:=oV binds i
 rcases Nat.lt_or_ge i binds.length with hlt|hge
 ·have hpb:=tO (List.getElem_mem hlt)
  have hbd:=fun H=>C4 G hG binds[i].e (by omega) H
  have hbt2:aV (binds.take (i+1))=aV (binds.take i)+binds[i].wt:=by
   rw[List.take_succ_eq_append_getElem hlt]
   have:∀ (l:List Bd) (b:Bd),aV (l++[b])=aV l+b.wt:=fun l b=>by
    induction l with
    |nil=>simp[aV]
    |cons x r ih=>simp only[List.cons_append,aV,ih];omega
   exact this _ _
  have hbg:=binds[i].dw
  have hX:=aO
  have X:=aO
  (refine run ?_;with_reducible repeat' first|exact trivial|(apply aJ.mk<;>intro hb)|apply bN.mk)
  refine br (hbd _) ?_
  rintro r H' ⟨n2,b2,⟨rfl,rfl⟩,hn2⟩
  have hnn:(n:Int)+(n2:Int)=((n+n2:Nat):Int):=by omega
  have X:=And.intro aO hnn
  (refine run ?_;with_reducible repeat' first|exact trivial|(apply aJ.mk<;>intro hb)|apply bN.mk)
  ·exact aZ (n0:=H.length) hR hC' hcl (.same _ rfl) ⟨rfl,_,rfl,fun h=>by cases h⟩
  ·refine hK _ _ (i+1,n+n2) (by simp only;omega) ⟨by simp only;omega,by simp only;omega⟩ ?_
   dsimp only
   exact bI (n0:=H.length) [(H.length,0)] hG hB hC' hcl
 ·have hni:¬ (i:Int)<(binds.length:Int):=by omega
  clear hK
  have c1:=fun H=>yy G hG cons binds H (by omega)
  have X:=fc aO hni hlm
  (refine run ?_)
  refine br (K6 G hG cons binds _ (by omega) hns) ?_
  rintro r H' ⟨n2,⟨rfl,rfl⟩,hn2⟩
  clear hn2
  generalize (n2:Int)=z
  (refine run ?_;with_reducible repeat' first|exact trivial|(apply aJ.mk<;>intro hb)|apply bN.mk)
  all_goals exact aZ (n0:=H.length) hR hC' hcl (.same _ rfl) ⟨rfl,_,rfl,fun _=>hcl0⟩
theorem EA (s:aD): -9223372036854775808≤(ja s).1∧(ja s).1≤9223372036854775807:=by
 unfold ja
 rcases h:Lib.atoiAll s with v|_|_
 ·exact Lib.atoiAll_bounds h
 ·exact⟨show(-9223372036854775808:Int)≤0 by decide,show(0:Int)≤9223372036854775807 by decide⟩
 ·exact Lib.atoiSat_bounds s
theorem FD (s:aD):s.take 2=[116,35]↔2≤s.length∧s.take 2=[116,35]:=⟨fun h=>⟨by have:=congrArg List.length h;rw[List.length_take] at this;simp at this;omega,h⟩,fun h=>h.2⟩
theorem zk (G:Gl) (s:aD) (hs:s.length<4294967296) (H:List av):aq Tryz.prog G 142 [.str s,.str [116,35]] H (fun r H'=>H'=H∧r= .bool (decide (s.take 2=[116,35]))):=by
 by_cases h2:(2:Int)≤(s.length:Int)
 ·have h2n:2≤s.length:=by omega
  refine bP [] Tryz.func142 Tryz.ntmps142 fun C R' hR hC hcl hB hC' X=>?_
  have X:=And.intro X h2
  (refine run ?_)
  exact Fin.out hR ⟨rfl,rfl⟩
 ·have h2n2:¬ 2≤s.length:=by omega
  have e:decide (s.take 2=[116,35])=false:=decide_eq_false fun h=>by have:=((FD s).1 h).1;omega
  rw[e]
  refine bP [] Tryz.func142 Tryz.ntmps142 fun C R' hR hC hcl hB hC' X=>?_
  have X:=And.intro X h2
  (refine run ?_)
  refine Fin.out hR ⟨rfl,?_⟩
  simp only[aC]
  rw[show decide (((2:Nat):Int)≤(s.length:Int))=false from decide_eq_false (by omega),Bool.false_and]
theorem H6 (G:Gl) (s:aD) (hs:s.length<4294967296) (H:List av):aq Tryz.prog G 101 [.str s,.str [116,35]] H (fun r H'=>H'=H∧r= .tuple [.str (if s.take 2=[116,35] then s.drop 2 else s),.bool (decide (s.take 2=[116,35]))]):=by
 have c1:=fun H=>zk G s hs H
 by_cases h:s.take 2=[116,35]
 ·have h2:=((FD s).1 h).1
  rw[decide_eq_true h] at*
  rw[if_pos h]
  refine bP [] Tryz.func101 Tryz.ntmps101 fun C R' hR hC hcl hB hC' X=>?_
  (refine run ?_)
  exact Fin.out hR ⟨rfl,by rw[List.take_of_length_le (by rw[List.length_drop];exact Nat.le_refl _)];rfl⟩
 ·rw[decide_eq_false h] at*
  rw[if_neg h]
  refine bP [] Tryz.func101 Tryz.ntmps101 fun C R' hR hC hcl hB hC' X=>?_
  (refine run ?_)
  exact Fin.out hR ⟨rfl,rfl⟩
theorem yO (G:Gl) (s:aD) (hs:s.length<4294967296) (H:List av):aq Tryz.prog G 60 [.str s,.str [116,35]] H (fun r H'=>H'=H∧r= .tuple [.str (if s.take 2=[116,35] then s.drop 2 else s),.bool (decide (s.take 2=[116,35]))]):=by
 have c1:=fun H=>H6 G s hs H
 refine bP [] Tryz.func60 Tryz.ntmps60 fun C R' hR hC hcl hB hC' X=>?_
 (refine run ?_)
 exact Fin.out hR ⟨rfl,rfl⟩
theorem Gk (l:List aD) (s:aD) (n:Nat):(l++[s]).foldl (fun n s=>max n (gy s)) n=max (l.foldl (fun n s=>max n (gy s)) n) (gy s):=by rw[List.foldl_append];rfl
theorem PI {z nb:Bool} {k:Int} {ds:aD} (hnu:nb=(true&&z&&decide (0<k)&&decide (ds.length≤9)&&decide (Lib.itoa k=ds))) (h1:(z&&decide (0<k)&&decide ((ds.length:Int)≤9))=true) (h2:Lib.itoa k=ds):nb=true:=by
 rw[hnu]
 simp only[Bool.and_eq_true,decide_eq_true_eq] at h1 ⊢
 exact⟨⟨⟨⟨trivial,h1.1.1⟩,h1.1.2⟩,by omega⟩,h2⟩
theorem Oz {z nb:Bool} {k:Int} {ds:aD} (hnu:nb=(true&&z&&decide (0<k)&&decide (ds.length≤9)&&decide (Lib.itoa k=ds))) (h2:¬ Lib.itoa k=ds):nb=false:=by
 rw[hnu,decide_eq_false h2,Bool.and_false]
theorem OA {z nb:Bool} {k:Int} {ds:aD} (hnu:nb=(true&&z&&decide (0<k)&&decide (ds.length≤9)&&decide (Lib.itoa k=ds))) (h1:(z&&decide (0<k)&&decide ((ds.length:Int)≤9))=false):nb=false:=by
 rw[hnu]
 simp only[show decide ((ds.length:Int)≤9)=decide (ds.length≤9) from decide_eq_decide.2 (by omega)] at h1
 rw[Bool.true_and,h1,Bool.false_and]
theorem tY (G:Gl) (hG:ah G) (C0:Cx) (hb0:G.base=some C0) (hl0:lZ C0) (cons:List Cn) (binds:List Bd) (H:List av) (hw:aV binds<4294967295) (hns:∀ s∈aU binds,s.length<4294967296):
 aq Tryz.prog G 15 [.agg [.list 4 (ay cons),.list 9 (ad binds)]] H (fun r H'=>H'=H∧r= .int .i64 (ju binds)):=by
 have hln:=dG binds
 have c1:=fun H=>aq.Qx (bj _ _) (List.length_map ..) (sc G hG cons binds H (by omega))
 have hnx:ju binds=(aU binds).foldl (fun n s=>max n (gy s)) 0+1:=rfl
 rw[hnx]
 clear hnx
 have hflt:=fun i=>zc ((aU binds).take i) 0 (by decide)
 refine bP [] Tryz.func15 Tryz.ntmps15 fun C R' hR hC hcl hB hC' X=>?_
 generalize aU binds=l at*
 (refine run ?_)
 refine aA (fun i:Nat=>[(3,.int .i64 (((l.take i).foldl (fun n s=>max n (gy s)) 0:Nat):Int)),(11,.list 1 (l.map .str)),(12,.int .i64 l.length),(13,.int .i64 (i:Int))]) (fun a=>H++[]) (fun i=>l.length - i) (fun i=>i≤l.length) 0 (Nat.zero_le _) ?_ ?_
 ·exact bI (n0:=H.length) [] hG hB hC' hcl
 rintro K i hi hK
 have hfi:=hflt i
 rcases Nat.lt_or_ge i l.length with hlt|hge
 ·have g1:(l.map SV.str)[i]? =some (.str l[i]):=by simp[hlt]
  have hsl:=hns _ (List.getElem_mem hlt)
  have hsn:=Gk (l.take i) l[i] 0
  rw[← List.take_succ_eq_append_getElem hlt] at hsn
  have hfi2:=hflt (i+1)
  rw[hsn] at hfi2
  have hnc:=Mz l[i]
  have hnu:zM l[i]=(decide (l[i].take 2=[116,35])&&(ja (l[i].drop 2)).2&&decide (0<(ja (l[i].drop 2)).1)&&decide ((l[i].drop 2).length≤9)&&decide (Lib.itoa (ja (l[i].drop 2)).1=l[i].drop 2)):=rfl
  generalize l[i]=s at*
  generalize hFF:(l.take i).foldl (fun n s=>max n (gy s)) 0=n at*
  have c2:=fun H=>yO G s hsl H
  by_cases hp:s.take 2=[116,35]
  ·rw[decide_eq_true hp] at c2 hnu
   rw[if_pos hp] at c2
   have hdl:(s.drop 2).length<4294967296:=by rw[List.length_drop];omega
   generalize s.drop 2=ds at*
   have c3:=fun H=>EB G C0 hb0 hl0 ds hdl H
   obtain⟨hr1,hr2⟩:=EA ds
   generalize (ja ds).2=z at*
   generalize (ja ds).1=k at*
   have c4:=fun H=>E3 G C0 hb0 hl0 k hr1 hr2 H
   have X:=And.intro aO g1
   (refine run ?_;with_reducible repeat' first|exact trivial|(apply aJ.mk<;>intro hb)|apply bN.mk)
   ·have hnt:=PI hnu (by assumption) (by assumption)
    rw[hnt,if_pos rfl] at hnc
    subst hnc
    have hnl:=Fv s
    have hmm:=tq n (gy s)
    have X:=fc aO hmm (show IntKind.i64.min≤(gy s:Int)∧(gy s:Int)≤IntKind.i64.max from⟨by show(-9223372036854775808:Int)≤_;omega,by show _≤(9223372036854775807:Int);omega⟩)
    (refine run ?_)
    refine hK _ _ (i+1) (by omega) (by omega) ?_
    rw[hsn]
    exact bI (n0:=H.length) [] hG hB hC' hcl
   ·have hnt:=Oz hnu (by assumption)
    rw[hnt,if_neg Bool.false_ne_true] at hnc
    rw[show gy s=0 by omega,Nat.max_zero] at hsn
    refine hK _ _ (i+1) (by omega) (by omega) ?_
    rw[hsn]
    exact bI (n0:=H.length) [] hG hB hC' hcl
   ·have hnt:=OA hnu (by assumption)
    rw[hnt,if_neg Bool.false_ne_true] at hnc
    rw[show gy s=0 by omega,Nat.max_zero] at hsn
    refine hK _ _ (i+1) (by omega) (by omega) ?_
    rw[hsn]
    exact bI (n0:=H.length) [] hG hB hC' hcl
  ·rw[decide_eq_false hp] at c2 hnu
   rw[if_neg hp] at c2
   have c3:=fun H=>EB G C0 hb0 hl0 s hsl H
   obtain⟨hr1,hr2⟩:=EA s
   generalize (ja s).2=z at*
   generalize (ja s).1=k at*
   have X:=And.intro aO g1
   (refine run ?_;with_reducible repeat' first|exact trivial|(apply aJ.mk<;>intro hb)|apply bN.mk)
   rw[show zM s=false by rw[hnu];simp only[Bool.false_and],if_neg Bool.false_ne_true] at hnc
   rw[show gy s=0 by omega,Nat.max_zero] at hsn
   refine hK _ _ (i+1) (by omega) (by omega) ?_
   rw[hsn]
   exact bI (n0:=H.length) [] hG hB hC' hcl
 ·have hni:¬ (i:Int)<(l.length:Int):=by omega
  clear hK
  rw[List.take_of_length_le hge] at hfi ⊢
  generalize l.foldl (fun n s=>max n (gy s)) 0=n at*
  have X:=And.intro aO hni
  (refine run ?_)
  refine aZ (n0:=H.length) hR hC' hcl (.same _ rfl) ⟨rfl,?_⟩
  simp only[aC,Int.natCast_add,Int.natCast_one]
theorem AO (G:Gl) (hG:ah G) (xs:List SV) (hu0:∀ n,SV.aj n xs=true) (H:List av) (hl:xs.length<4294967296):aq Tryz.prog G 49 [.list 4 xs] H (fun r H'=>H'=H++[.cells 0 4 xs]∧r= .sl H.length 0 0 xs.length):=by
 have hu:SV.aj H.length (List.drop 0 xs)=true:=hu0 _
 refine bP [2,5] Tryz.func49 Tryz.ntmps49 fun C R' hR hC hcl hB hC' X=>?_
 (refine bK ?_;with_reducible repeat' first|exact trivial|(apply aJ.mk<;>intro hb)|apply bN.mk)
 ·obtain rfl:xs=[]:=List.length_eq_zero_iff.1 hb
  exact gD [(H.length+1,0)] (.sl H.length 0 0 0) [.cells 0 4 []] hR hC' hcl ⟨rfl,rfl⟩
 ·exact gD [(H.length+1,0)] (.sl H.length 0 0 xs.length) [.cells 0 4 xs] hR hC' hcl ⟨rfl,rfl⟩
theorem aq.PC {P:Program} {G:Gl} {f:FuncId} {args args2:List SV} {H:List av} {y:SV} (hG:ah G) (hB:dW G 0) (hf:b7 H 0 [] args args2) (hy:∀ c c' v,aB c y v→aB c' y v)
 (h:aq P G f args2 [] (fun r _=>r=y)):aq P G f args H (fun r H'=>H'=H∧r=y):=by
 refine⟨h.1,fun c vs hH hc hg hv=>?_⟩
 subst hH
 have hk:dY (H:=[]) (X:=c.H) [] []:=dY.nil
 have h00:=Cx.jq (θ:=c.θ) (H:=[]) (X:=c.H) (w:=c.w) hc hk (fun B hB=>by cases hB)
 have hv2:=(bF.rep (θ:=c.θ) (H:=[]) (X:=c.H) (w:=c.w) hc hk).2 hf vs hv
 have hg2:CY G ⟨nz c.θ ([]++c.H) 0 [],[],c.w⟩:=⟨fun p hp=>(aB.fW (θ:=c.θ) (H:=[]) (X:=c.H) (w:=c.w) hk).1 _ _ (hg.1 p hp) (hG p hp),fun C1 e=>h00.2 C1 (hB C1 e) (hg.2 C1 e)⟩
 refine(h.2 ⟨nz c.θ ([]++c.H) 0 [],[],c.w⟩ vs rfl h00.1 hg2 hv2).mono ?_
 rintro e w' ⟨v,x,c',e1,e2,e3,e4,e5,e6⟩
 subst e2
 have hold:∀ k,k<c.w.heap.size→c'.w.heap[k]? =c.w.heap[k]? :=fun k hk=>e6.Fz k hk (fun⟨id,o,⟨B,hB,_⟩,_⟩=>by cases hB)
 obtain⟨g1,g2⟩:=Cx.world hc (w':=c'.w) hold e6.size e6.os e6.tape e6.output
 exact⟨v,x,{ c with w:=c'.w},e1,rfl,⟨rfl,e3⟩,g2,by rw[e3] at e5 ⊢;exact hy _ _ _ e5,g1⟩
theorem aq.PD {P:Program} {G:Gl} {f:FuncId} {args args2:List SV} {H:List av} {sz n:Nat} {vals:List SV} (hG:ah G) (hB:dW G 0) (hf:b7 H 0 [] args args2) (hv0:∀ c c' us,ax c vals us→ax c' vals us)
 (h:aq P G f args2 [] (fun r H'=>H'=[.cells 0 sz vals]∧r= .sl 0 0 0 n)):aq P G f args H (fun r H'=>H'=H++[.cells 0 sz vals]∧r= .sl H.length 0 0 n):=by
 refine⟨h.1,fun c vs hH hc hg hv=>?_⟩
 subst hH
 have hk:dY (H:=[]) (X:=c.H) [] []:=dY.nil
 have h00:=Cx.jq (θ:=c.θ) (H:=[]) (X:=c.H) (w:=c.w) hc hk (fun B hB=>by cases hB)
 have hv2:=(bF.rep (θ:=c.θ) (H:=[]) (X:=c.H) (w:=c.w) hc hk).2 hf vs hv
 have hg2:CY G ⟨nz c.θ ([]++c.H) 0 [],[],c.w⟩:=⟨fun p hp=>(aB.fW (θ:=c.θ) (H:=[]) (X:=c.H) (w:=c.w) hk).1 _ _ (hg.1 p hp) (hG p hp),fun C1 e=>h00.2 C1 (hB C1 e) (hg.2 C1 e)⟩
 refine(h.2 ⟨nz c.θ ([]++c.H) 0 [],[],c.w⟩ vs rfl h00.1 hg2 hv2).mono ?_
 rintro e w' ⟨v,x,c',e1,e2,e3,e4,e5,e6⟩
 subst e2
 obtain⟨q1,q2⟩:=e3
 subst q2
 have hold:∀ k,k<c.w.heap.size→c'.w.heap[k]? =c.w.heap[k]? :=fun k hk=>e6.Fz k hk (fun⟨id,o,⟨B,hB,_⟩,_⟩=>by cases hB)
 have hb0:c'.H[0]? =some (.cells 0 sz vals):=by rw[q1];rfl
 have hbr:=e4.dQ 0 _ hb0
 have hlv:c'.live 0:=⟨_,hb0,rfl⟩
 obtain⟨b0,o0,k1,k2⟩:∃ b0 o0,c.w.heap.size≤b0∧(c'.θ 0=none∨c'.θ 0=some (b0,o0)):=by
  cases hth:c'.θ 0 with
  |none=>exact⟨_,0,Nat.le_refl _,.inl rfl⟩
  |some q=>
   obtain⟨b,o⟩:=q
   exact⟨b,o,e6.new 0 b o rfl hlv hth,.inr rfl⟩
 obtain⟨g1,g2⟩:=Cx.fresh hc (w':=c'.w) b0 k1 o0 (c'.θ 0) k2 (.cells 0 sz vals) hold e6.size e6.os e6.tape e6.output (fun hgr=>by
  unfold dX at hbr ⊢
  simp only[if_true]
  rcases hbr with hn|⟨b,o,cs,T,fr,us,a1,a2,a3,a4,a5,a6⟩
  ·exact .inl hn
  ·exact .inr ⟨b,o,cs,T,fr,us,a1,a2,a3,hv0 _ _ _ a4,a5,a6⟩)
 refine⟨v,.sl c.H.length 0 0 n,⟨fun i=>if i=c.H.length then c'.θ 0 else c.θ i,c.H++[.cells 0 sz vals],c'.w⟩,e1,rfl,⟨rfl,rfl⟩,g2,?_,g1⟩
 simp only[aB,hb0] at e5
 simp only[aB,List.getElem?_concat_length]
 obtain⟨f1,f2⟩:=e5
 refine⟨f1,?_⟩
 simp only[if_true]
 exact f2
theorem Kj (l:List aD):∀ (c c':Cx) (us:List Value),ax c (l.map .str) us→ax c' (l.map .str) us:=fun c c'=>by
 induction l with
 |nil=>intro us h;simpa only[List.map_nil,ax] using h
 |cons s r ih=>
  intro us h
  rw[List.map_cons] at h ⊢
  obtain⟨u,us,h1,h2,rfl⟩:=ax.bg.1 h
  exact ax.bG (by simpa only[aB] using h1) (ih us h2)
section
section
variable {P:Program} {G:Gl} {T:bX} {own:List Nat} {nt B:Nat} {ρ:Option Nat} {C:Cx} {rs:List ResultVar} {R:SV→List av→Prop} {env env2:Env} {H X KB:List av} {k:List Item}
theorem RX (ks:dP) {m0:Nat} (hG:ah G) (hB:dW G C.H.length) (hC:C.H.length≤m0) (hcl:closed H) (hn:H.length=m0) (hk:bH (H++X) m0 ks ks KB) (hd:(ks.map (·.1)).Nodup) (he:hY (H++X) m0 ks env2 env):Wk G nt C ⟨env,H++X⟩ ⟨env2,H++KB⟩:=by
 subst hn
 exact Wk.jq ks KB hG (fun C0 h0=>Nat.le_trans (hB C0 h0) hC) hC hcl ⟨hk,hd⟩ he
end
theorem HX {n:Nat} {P0:List av} (hn:P0.length=n):∀ (bs:List Bd) (L:List av) (kv:SV) (k:Kn),fy (P0++L) kv k→closed (P0++L)→closed (P0++(bs.foldl (Lq n) (L,kv)).1)
 |[],L,kv,k,h,hc=>hc
 |b::r,L,kv,k,h,hc=>by
  rw[List.foldl_cons]
  by_cases hs:cQ b.e=true
  ·rw[show Lq n (L,kv) b=(L++[.cells 0 10 [.agg (kv:: .str b.name::b.e.cells)]],.ptr (n+L.length) 0 0 0) from if_pos hs]
   refine HX hn r _ _ ((b.name,b.e)::k) ⟨n+L.length,kv,rfl,?_,?_⟩ ?_
   ·rw[← List.append_assoc,List.getElem?_append_right (by rw[List.length_append,hn];exact Nat.le_refl _),List.length_append,hn,Nat.sub_self];rfl
   ·rw[← List.append_assoc];exact h.app _
   ·rw[← List.append_assoc]
    refine hc.app fun x hx=>?_
    rw[List.mem_singleton.1 hx]
    have h1:=h.leaf.2
    have h2:kv.under ((P0++L).length+1)=true:=by
     rcases h.form with rfl|⟨b',rfl,hb'⟩
     ·rfl
     ·simp only[SV.under,decide_eq_true_eq];omega
    simp only[av.under,SV.aj,SV.under,List.length_singleton,h2,Ex.aw,Bool.and_self,Bool.true_and]
  ·rw[show Lq n (L,kv) b=(L,kv) from if_neg hs]
   exact HX hn r L kv k h hc
abbrev xg (k:Kn):Bd→Nat→Bd×Nat:=kW fun x n=>M0 x k n
section
variable {cs:List Cn} {P:aD→Prop} {L:Nat} {p:Pg}
theorem mf.part (h:mf cs P L p) (hcs:cs.length≤1000) (hPn:∀ i,i<NN L→P (cx i)):∀ i (hi:i<p.binds.length),mI 1 KK p.binds[i].e+fC (xg (E7 p.binds)) p.binds (ju p.binds) i≤NN L:=fun i hi=>by
 obtain⟨hsm,-⟩:=h.Qo
 have hst:=nu (fun b=>ms (wI 1 KK) (Bd.e b)) hi
 rw[← gT,← gT] at hst
 obtain⟨-,-,t3,-,-⟩:=oa (h.RW hPn (aV p.binds)) h.kn (p.binds.take i) (ju p.binds) (fun x hx=>⟨rW (List.mem_of_mem_take hx),(h.gd x (List.mem_of_mem_take hx)).1,(h.Lp hcs x (List.mem_of_mem_take hx)).1⟩) (by omega)
 unfold fC xg
 simp only[mI]
 omega
theorem mf.Si (G:Gl) (hG:ah G) (hit:yz G) (h:mf cs P L p) (hcs:cs.length≤1000) (hPn:∀ i,i<NN L→P (cx i)) (hL:L<1073741824):∀ i (hi:i<p.binds.length),RO G p.binds[i].e (E7 p.binds) (fC (xg (E7 p.binds)) p.binds (ju p.binds) i) (M0 p.binds[i].e (E7 p.binds) (fC (xg (E7 p.binds)) p.binds (ju p.binds) i)):=fun i hi=>by
 have hkh:=zp (sD h.lint).Og
 rw[h.cons] at hkh
 have hm:=List.getElem_mem hi
 exact vS (cs:=cs) (P:=P) (K:=KK) (N:=NN L) G hG hit hPn hkh.1 hkh.2 (by unfold NN;omega) _ _ _ _ (Nat.le_refl _) (h.gd _ hm).1 h.kn (h.Lp hcs _ hm).1 (h.Lp hcs _ hm).2 (h.part hcs hPn i hi)
end
end
theorem nD (G:Gl) (hG:ah G) (hB0:dW G 0) (C0:Cx) (hb0:G.base=some C0) (hl0:lZ C0) {cs:List Cn} {P:aD→Prop} {L:Nat} (p:Pg) (h:mf cs P L p) (hcs:cs.length≤1000) (hPn:∀ i,i<NN L→P (cx i))
 (hPl:∀ s,P s→s.length<4294967296) (hL:L<1073741824) (H:List av):
 aq Tryz.prog G 13 [p.sv] H (fun r H'=>H'=H∧r= .tuple [(cD p).sv,.int .i64 0]):=by
 have hit:yz G:=fun n hn=>⟨uS _ (by omega) (by omega),fun H=>E3 G C0 hb0 hl0 n (by omega) (by omega) H⟩
 obtain⟨hq1,hq2,hq3,hq4⟩:=h.Ql hcs hPn
 obtain⟨t1,t2,t3,t4⟩:=h.oB hcs hPn
 have hwt:=h.wt
 have hblw:=cM p.binds
 have hNN:NN L+p.binds.length<137438953472:=by unfold NN;omega
 have hT:=h.Si G hG hit hcs hPn hL
 have hcl0:p.cons.length≤1000:=by rw[h.cons];exact hcs
 have c1:=fun H=>iM G hG p H (by omega) (by omega)
 rw[h.lint] at c1
 have hwq:=KJ KK (iq p).binds
 have hlq:=fun H=>iM G hG (iq p) H (by omega) (by show p.cons.length<_;omega)
 have hwu:=KJ KK (fa p)
 have hlt0:(fa p).length=p.binds.length:=by have:=congrArg List.length t2;simpa using this
 have hre:=Cy G hG ⟨p.cons,fa p⟩ (by show aV (fa p)<_;omega) []
 have hns:=fun s hs=>hPl s (h.nm s hs)
 have hshp:∀ b∈p.binds,b.e.ae.length<1125899906842624:=fun b hb=>by
  have h1:=rW hb
  have h2:=iS b.e.ae
  have h3:cn b.e.ae<b.e.wt:=by cases b.e;simp only[Ex.wt,Ex.ae];omega
  omega
 have hrs:(cD p).sv=if bJ (iq p)=0 then (iq p).sv else p.sv:=by unfold cD;split<;>rfl
 rw[hrs]
 clear hrs
 have hpq:iq p=⟨p.cons,kT (pN (fa p))⟩:=rfl
 have htp:fa p=(aG (xg (E7 p.binds)) p.binds (ju p.binds)).1:=rfl
 obtain⟨cons,binds⟩:=p
 have c2:=fun H=>tY G hG C0 hb0 hl0 cons binds H (by dsimp only at hwt;omega) hns
 clear h hns
 dsimp only at*
 have hkd:E7 binds=BZ [] binds:=rfl
 generalize hkk:E7 binds=k at*
 generalize hnx:ju binds=nx0 at*
 have hcc:=fun H=>AO G hG (ay cons) (fun n=>aX n cons) H (by rw[cU];omega)
 rw[cU] at hcc
 rw[show(Pg.mk cons binds).sv= .agg [.list 4 (ay cons),.list 9 (ad binds)] from rfl] at*
 have cC:=fun n=>aX n cons
 have hBn:aG (xg k) binds nx0=(fa ⟨cons,binds⟩,(aG (xg k) binds nx0).2):=by rw[htp]
 clear htp
 generalize (aG (xg k) binds nx0).2=n1 at hBn
 generalize fa ⟨cons,binds⟩=B at*
 have hbc:=aR binds
 refine bP [] Tryz.func13 Tryz.ntmps13 fun C R' hR hC hcl hB hC' X=>?_
 have X:=And.intro aO hbc
 (refine run ?_)
 refine aA (fun i:Nat=>[(1,.ptr H.length 0 0 0),(2,.ptr (H.length+1) 0 0 0),(5,.ptr (H.length+2) 0 0 0),(3,.int .i64 0),(6,(pA (H.length+3) .bt (binds.take i)).2),(27,.list 9 (ad binds)),(28,.int .i64 binds.length),(29,.int .i64 i)])
  (fun i=>H++(.cells 0 2 [.agg [.list 4 (ay cons),.list 9 (ad binds)]]:: .cells 0 2 [.agg [.nil,.nil]]::NB 0 nx0::(pA (H.length+3) .bt (binds.take i)).1)) (fun i=>binds.length - i) (fun i=>i≤binds.length) 0 (Nat.zero_le _) ?_ ?_
 ·exact Wk.sub (by simp[aW,look,pA])
 rintro K i hi hK
 have hka:fy (H++(.cells 0 2 [.agg [.list 4 (ay cons),.list 9 (ad binds)]]:: .cells 0 2 [.agg [.nil,.nil]]::NB 0 nx0::(pA (H.length+3) .bt (binds.take i)).1)) (pA (H.length+3) .bt (binds.take i)).2 (BZ [] (binds.take i)):=by
  have h0:=EF (n:=H.length+3) (P0:=H++[.cells 0 2 [.agg [.list 4 (ay cons),.list 9 (ad binds)]],.cells 0 2 [.agg [.nil,.nil]],NB 0 nx0]) (by simp) (binds.take i) [] .bt [] (by rw[List.append_nil];rfl)
  rw[List.append_assoc] at h0
  exact h0
 have hkc:closed (H++(.cells 0 2 [.agg [.list 4 (ay cons),.list 9 (ad binds)]]:: .cells 0 2 [.agg [.nil,.nil]]::NB 0 nx0::(pA (H.length+3) .bt (binds.take i)).1)):=by
  have h0:=HX (n:=H.length+3) (P0:=H++[.cells 0 2 [.agg [.list 4 (ay cons),.list 9 (ad binds)]],.cells 0 2 [.agg [.nil,.nil]],NB 0 nx0]) (by simp) (binds.take i) [] .bt [] (by rw[List.append_nil];rfl) (by
   rw[List.append_nil]
   refine hcl.app fun x hx=>?_
   simp only[List.mem_cons,List.not_mem_nil,or_false] at hx
   rcases hx with rfl|rfl|rfl
   ·simp only[av.under,SV.aj,SV.under,aX,aK,Bool.and_self]
   ·rfl
   ·rfl)
  rw[List.append_assoc] at h0
  exact h0
 rcases Nat.lt_or_ge i binds.length with hlt|hge
 ·have hgi:(ad binds)[i]? =some (.agg (.str binds[i].name::binds[i].e.cells)):=by rw[az,List.getElem?_map,List.getElem?_eq_getElem hlt,Option.map_some,Bd.sv,Bd.bf]
  have hss:=hshp _ (List.getElem_mem hlt)
  have hts:=List.take_succ_eq_append_getElem hlt
  generalize hbd:binds[i]=b at*
  obtain⟨bn,be⟩:=b
  dsimp only[Bd.name,Bd.e] at hgi hss
  have c3:=fun H=>uQ G hG be hss H
  have hws:=fun kv' H hh=>ot G hG kv' bn be H hh
  have hx8:=be.au
  have hxT:=be.ao
  have hxu0:=be.aw
  by_cases hsh:cQ be=true
  ·have hch:=EE (n:=H.length+3) (kv:= .bt) (bs:=binds.take i) (t:=bn) hsh
   rw[← hts] at hch
   rw[hsh] at c3
   rw[show be.sv= .agg be.cells from rfl] at c3 hws
   generalize be.cells=xb at*
   generalize hch0:(pA (H.length+3) .bt (binds.take i)).1=ch at*
   generalize hiv:(pA (H.length+3) .bt (binds.take i)).2=kw at*
   have X:=j8 aO hbc hgi hx8 hxT
   (refine run ?_;with_reducible repeat' first|exact trivial|(apply aJ.mk<;>intro hb)|apply bN.mk)
   refine br (hws _ _ ?_) ?_
   ·rcases hka.form with h1|⟨b,h1,h2⟩
    ·exact .inl h1
    ·exact .inr ⟨b,h1,by simp only[List.length_append,List.length_cons,List.length_nil] at h2 ⊢;omega⟩
   rintro r H' ⟨rfl,rfl⟩
   (refine run ?_)
   refine hK _ _ (i+1) (by omega) (by omega) ?_
   rw[hch]
   dsimp only
   have e1:∀ Z,H++(.cells 0 2 [.agg [.list 4 (ay cons),.list 9 (ad binds)]]:: .cells 0 2 [.agg [.nil,.nil]]::NB 0 nx0::(ch++Z))=(H++(.cells 0 2 [.agg [.list 4 (ay cons),.list 9 (ad binds)]]:: .cells 0 2 [.agg [.nil,.nil]]::NB 0 nx0::ch))++Z:=fun Z=>by simp only[List.append_assoc,List.cons_append]
   have hlB:(H++(.cells 0 2 [.agg [.list 4 (ay cons),.list 9 (ad binds)]]:: .cells 0 2 [.agg [.nil,.nil]]::NB 0 nx0::ch)).length=H.length+(ch.length+3):=by simp
   have hku:kw.under (H.length+(ch.length+3))=true:=by rw[← hlB];exact hka.leaf.2
   have hxu:SV.aj (H.length+(ch.length+3)) xb=true:=hxu0 _
   rw[e1,e1,List.append_assoc (H++(.cells 0 2 [.agg [.list 4 (ay cons),.list 9 (ad binds)]]:: .cells 0 2 [.agg [.nil,.nil]]::NB 0 nx0::ch)) [.cells 0 9 [.agg (.str bn::xb)]] [.cells 0 10 [.agg (kw:: .str bn::xb)]]]
   have hg:=aH (H++(.cells 0 2 [.agg [.list 4 (ay cons),.list 9 (ad binds)]]:: .cells 0 2 [.agg [.nil,.nil]]::NB 0 nx0::ch)) ([.cells 0 9 [.agg (.str bn::xb)]]++[.cells 0 10 [.agg (kw:: .str bn::xb)]]) 1
   rw[hlB] at hg
   rw[show H.length+3+ch.length=H.length+(ch.length+3) by omega]
   have hg:(H++(.cells 0 2 [.agg [.list 4 (ay cons),.list 9 (ad binds)]]:: .cells 0 2 [.agg [.nil,.nil]]::NB 0 nx0::ch)++[.cells 0 9 [.agg (.str bn::xb)],.cells 0 10 [.agg (kw:: .str bn::xb)]])[H.length+(ch.length+4)]? =some (.cells 0 10 [.agg (kw:: .str bn::xb)]):=hg
   clear hka hws
   generalize H++(.cells 0 2 [.agg [.list 4 (ay cons),.list 9 (ad binds)]]:: .cells 0 2 [.agg [.nil,.nil]]::NB 0 nx0::ch)=BB at*
   have X:=And.intro aO hg
   refine RX [(H.length+(ch.length+4),0)] (X:=[.cells 0 9 [.agg (.str bn::xb)],.cells 0 10 [.agg (kw:: .str bn::xb)]]) (m0:=H.length+(ch.length+3)) hG hB (by omega) hkc hlB ?_ (by simp) ?_
   ·refine bH.c hg (by omega) (Nat.zero_le _) (b7.same ?_) .nil
    simp only[List.drop_zero,SV.aj,SV.under,hku,hxu,Bool.and_self]
   ·exact kc
  ·have hch:=HW (n:=H.length+3) (kv:= .bt) (bs:=binds.take i) (t:=bn) hsh
   rw[← hts] at hch
   rw[show cQ be=false by simpa using hsh] at c3
   rw[show be.sv= .agg be.cells from rfl] at c3
   generalize be.cells=xb at*
   generalize hch0:(pA (H.length+3) .bt (binds.take i)).1=ch at*
   generalize hiv:(pA (H.length+3) .bt (binds.take i)).2=kw at*
   have X:=j8 aO hbc hgi hx8 hxT
   (refine run ?_;with_reducible repeat' first|exact trivial|(apply aJ.mk<;>intro hb)|apply bN.mk)
   refine hK _ _ (i+1) (by omega) (by omega) ?_
   rw[hch,hch0,hiv]
   have e1:∀ Z,H++(.cells 0 2 [.agg [.list 4 (ay cons),.list 9 (ad binds)]]:: .cells 0 2 [.agg [.nil,.nil]]::NB 0 nx0::(ch++Z))=(H++(.cells 0 2 [.agg [.list 4 (ay cons),.list 9 (ad binds)]]:: .cells 0 2 [.agg [.nil,.nil]]::NB 0 nx0::ch))++Z:=fun Z=>by simp only[List.append_assoc,List.cons_append]
   have hlB:(H++(.cells 0 2 [.agg [.list 4 (ay cons),.list 9 (ad binds)]]:: .cells 0 2 [.agg [.nil,.nil]]::NB 0 nx0::ch)).length=H.length+(ch.length+3):=by simp
   have hku:kw.under (H.length+(ch.length+3))=true:=by rw[← hlB];exact hka.leaf.2
   rw[e1]
   clear hka
   generalize H++(.cells 0 2 [.agg [.list 4 (ay cons),.list 9 (ad binds)]]:: .cells 0 2 [.agg [.nil,.nil]]::NB 0 nx0::ch)=BB at*
   have X:=aO
   refine Wk.tell hG (fun C0 h0=>Nat.le_trans (hB C0 h0) (by omega)) (by omega) hkc ?_
   rw[hlB]
   exact kc
 obtain rfl:i=binds.length:=by omega
 clear hK
 rw[List.take_length] at hka hkc ⊢
 rw[← hkd] at hka
 generalize (pA (H.length+3) .bt binds).1=ch at*
 generalize (pA (H.length+3) .bt binds).2=kw at*
 obtain⟨m0,hm0⟩:∃ m0,m0=H.length+(ch.length+3):=⟨_,rfl⟩
 obtain⟨Q,hQd⟩:∃ Q:Nat→List av,∀ nx,Q nx=H++(.cells 0 2 [.agg [.list 4 (ay cons),.list 9 (ad binds)]]:: .cells 0 2 [.agg [.nil,.nil]]::NB 0 nx::ch):=⟨_,fun _=>rfl⟩
 rw[← hQd] at hka hkc ⊢
 have hlenQ:∀ nx,(Q nx).length=m0:=fun nx=>by rw[hQd,hm0];simp
 have hQ:QH Q (H.length+2) 0 m0:=by
  refine⟨hlenQ,by omega,fun nx L=>?_,fun nx nx' L=>?_⟩
  ·rw[hQd,List.append_assoc,aH];rfl
  ·rw[hQd,hQd,List.append_assoc,bW,List.append_assoc];rfl
 have hxP:∀ nx L,(Q nx++L)[H.length]? =some (.cells 0 2 [.agg [.list 4 (ay cons),.list 9 (ad binds)]]):=fun nx L=>by rw[hQd,List.append_assoc,bL];rfl
 have hxZ:∀ nx L,(Q nx++L)[H.length+1]? =some (.cells 0 2 [.agg [.nil,.nil]]):=fun nx L=>by rw[hQd,List.append_assoc,aH];rfl
 have hx20:=hQ.get
 have hx21:=hlenQ
 have hx22:∀ nx L,(Q nx++L)[m0]? =L[0]? :=fun nx L=>by rw[← hlenQ nx];exact bL _ _
 have hx23:∀ nx L k,(Q nx++L)[m0+k]? =L[k]? :=fun nx L k=>by rw[← hlenQ nx];exact aH _ _ _
 have hx24:∀ nx L x,(Q nx++L).set m0 x=Q nx++L.set 0 x:=fun nx L x=>by rw[← hlenQ nx];exact du _ _ _
 have hx25:∀ nx L k x,(Q nx++L).set (m0+k) x=Q nx++L.set k x:=fun nx L k x=>by rw[← hlenQ nx];exact bW _ _ _ _
 have hcls:∀ nx,closed (Q nx):=fun nx=>by
  have h0:=hQ.set nx0 nx []
  rw[List.append_nil,List.append_nil] at h0
  rw[← h0];exact hkc.set rfl
 have hkA:∀ nx L,fy (Q nx++L) kw k:=fun nx L=>by
  have h0:=hQ.Pz (n:=nx0) (L:=[]) (by rw[List.append_nil];exact hka) nx L
  rwa[List.append_nil] at h0
 have hmP:H.length+2<m0:=hQ.lt
 have hku:kw.under m0=true:=by have:=hka.leaf.2;rwa[hlenQ] at this
 have hirr:=Int.lt_irrefl (binds.length:Int)
 have hq00:Q nx0=Q nx0++[]:=(List.append_nil _).symm
 rw[hq00]
 have X:=fc (eu aO hx20 hx21 hx22 hx23 hx24 hx25) hxP hirr
 (refine run ?_)
 refine br (hcc _) ?_
 rintro r H' ⟨rfl,rfl⟩
 simp only[List.append_assoc,List.cons_append,List.nil_append,List.length_append,List.length_cons,List.length_nil,List.length_set,X,Nat.reduceAdd]
 have haz:m0+0=m0:=rfl
 have X:=And.intro X haz
 (refine run ?_)
 have hmd:∀ i,i≤binds.length→Fp (xg k) binds nx0 i=B.take i:=fun i hi=>zG hBn hi
 refine aA (fun i:Nat=>[(1,.ptr H.length 0 0 0),(2,.ptr (H.length+1) 0 0 0),(5,.ptr (H.length+2) 0 0 0),(3,.int .i64 0),(6,kw),(9,.ptr (m0+1) 0 0 0),(48,.list 9 (ad binds)),(49,.int .i64 binds.length),(50,.int .i64 i)])
  (fun i=>Q (fC (xg k) binds nx0 i)++[.cells 0 4 (ay cons),.cells 0 2 [.agg [.sl m0 0 0 cons.length,.sl (m0+2) 0 0 i]],.cells 0 9 (ad (B.take i))]) (fun i=>binds.length - i) (fun i=>i≤binds.length) 0 (Nat.zero_le _) ?_ ?_
 ·rw[qD.2,List.take_zero]
  refine Wk.trans (CU (id:=m0+1) (i:=0) (j:=1) 9 ((hx23 ..).trans rfl) rfl rfl) ?_
  rw[hx25]
  simp only[List.set_cons_succ,List.set_cons_zero,List.append_assoc,List.cons_append,List.nil_append,List.length_append,List.length_cons,List.length_nil,hlenQ,Nat.reduceAdd]
  exact Wk.sub (by simp[aW,look,ad])
 rintro K i hi hK
 have htl:(ad (B.take i)).length=i:=by rw[aR,List.length_take];omega
 rcases Nat.lt_or_ge i binds.length with hlt|hge
 ·have hgi:(ad binds)[i]? =some (.agg (.str binds[i].name::binds[i].e.cells)):=by rw[az,List.getElem?_map,List.getElem?_eq_getElem hlt,Option.map_some,Bd.sv,Bd.bf]
  obtain⟨hsD,hsN⟩:=tt (f:=xg k) (n:=nx0) hlt
  rw[hmd i hi,hmd (i+1) hlt] at hsD
  have hcall:=fun L=>hT i hlt Q (H.length+2) 0 m0 hQ kw L (hkA _ L)
  rw[show(xg k binds[i] (fC (xg k) binds nx0 i)).2=(M0 binds[i].e k (fC (xg k) binds nx0 i)).2 from rfl] at hsN
  rw[show(xg k binds[i] (fC (xg k) binds nx0 i)).1= .mk binds[i].name (M0 binds[i].e k (fC (xg k) binds nx0 i)).1 from rfl] at hsD
  generalize M0 binds[i].e k (fC (xg k) binds nx0 i)=TT at*
  obtain⟨y,nx3⟩:=TT
  dsimp only at hsN hsD hcall
  generalize fC (xg k) binds nx0 i=nx2 at*
  generalize hbd:binds[i]=b at*
  obtain⟨bn,be⟩:=b
  dsimp only[Bd.name,Bd.e] at hgi hsD hcall
  have hsn:ad (B.take i)++[.agg (.str bn::(y.cells++[]))]=ad (B.take (i+1)):=by rw[hsD,List.append_nil];simp only[az,List.map_append,List.map_cons,List.map_nil];rfl
  have hx8:=be.au
  have hxT:=be.ao
  rw[show be.sv= .agg be.cells from rfl,show y.sv= .agg y.cells from rfl] at hcall
  generalize be.cells=xb at*
  have X:=j8 (eu aO hx20 hx21 hx22 hx23 hx24 hx25) hgi hx8 hxT htl
  (refine run ?_;with_reducible repeat' first|exact trivial|(apply aJ.mk<;>intro hb)|apply bN.mk)
  refine nB (hcall _) ?_
  rintro v H' ⟨rfl,rfl⟩
  have hy8:=y.au
  have hyT:=y.ao
  have X:=j8 (eu aO hx20 hx21 hx22 hx23 hx24 hx25) hsn hy8 hyT htl
  (refine run ?_)
  refine hK _ _ (i+1) (by omega) (by omega) ?_
  rw[hsN]
  exact RX [(m0,0),(m0+1,0),(m0+2,0)] (m0:=m0) hG hB (by omega) (hcls nx3) (hlenQ nx3) kc (ra m0 [0,1,2] (by decide)) kc
 obtain rfl:i=binds.length:=by omega
 clear hK
 have hmn:fC (xg k) binds nx0 binds.length=n1:=by rw[ve.2,hBn]
 rw[hmn]
 have hBt:B.take binds.length=B:=List.take_of_length_le (by omega)
 rw[hBt] at htl ⊢
 have hE:Q n1++[.cells 0 4 (ay cons),.cells 0 2 [.agg [.sl m0 0 0 cons.length,.sl (m0+2) 0 0 binds.length]],.cells 0 9 (ad B)]=H++((.cells 0 2 [.agg [.list 4 (ay cons),.list 9 (ad binds)]]:: .cells 0 2 [.agg [.nil,.nil]]::NB 0 n1::ch)++[.cells 0 4 (ay cons),.cells 0 2 [.agg [.sl m0 0 0 cons.length,.sl (m0+2) 0 0 binds.length]],.cells 0 9 (ad B)]):=by rw[hQd,List.append_assoc]
 have g0:=hxP n1 [.cells 0 4 (ay cons),.cells 0 2 [.agg [.sl m0 0 0 cons.length,.sl (m0+2) 0 0 binds.length]],.cells 0 9 (ad B)]
 have g1:=hxZ n1 [.cells 0 4 (ay cons),.cells 0 2 [.agg [.sl m0 0 0 cons.length,.sl (m0+2) 0 0 binds.length]],.cells 0 9 (ad B)]
 have g2:=hx22 n1 [.cells 0 4 (ay cons),.cells 0 2 [.agg [.sl m0 0 0 cons.length,.sl (m0+2) 0 0 binds.length]],.cells 0 9 (ad B)]
 have g3:=hx23 n1 [.cells 0 4 (ay cons),.cells 0 2 [.agg [.sl m0 0 0 cons.length,.sl (m0+2) 0 0 binds.length]],.cells 0 9 (ad B)] 1
 have g4:=hx23 n1 [.cells 0 4 (ay cons),.cells 0 2 [.agg [.sl m0 0 0 cons.length,.sl (m0+2) 0 0 binds.length]],.cells 0 9 (ad B)] 2
 rw[hE] at g0 g1 g2 g3 g4 ⊢
 simp only[List.getElem?_cons_zero,List.getElem?_cons_succ] at g2 g3 g4
 generalize ((.cells 0 2 [.agg [.list 4 (ay cons),.list 9 (ad binds)]]:: .cells 0 2 [.agg [.nil,.nil]]::NB 0 n1::ch)++[.cells 0 4 (ay cons),.cells 0 2 [.agg [.sl m0 0 0 cons.length,.sl (m0+2) 0 0 binds.length]],.cells 0 9 (ad B)])=X0 at*
 clear hE hT hkA hkc hka hmd hmn hBn
 have hnd:([(H.length,0),(H.length+1,0),(m0,0),(m0+1,0),(m0+2,0)].map (·.1)).Nodup:=by simp;omega
 have X:=oD aO g0 g1 g2 g3 g4
 refine ke [(1,.ptr H.length 0 0 0),(2,.ptr (H.length+1) 0 0 0),(3,.int .i64 0),(9,.ptr (H.length+3) 0 0 0),(49,.int .i64 binds.length),(50,.int .i64 binds.length)]
  (H++[.cells 0 2 [.agg [.list 4 (ay cons),.list 9 (ad binds)]],.cells 0 2 [.agg [.nil,.nil]],.cells 0 4 (ay cons),.cells 0 2 [.agg [.sl (H.length+2) 0 0 cons.length,.sl (H.length+4) 0 0 binds.length]],.cells 0 9 (ad B)])
  (bI (n0:=H.length) [(H.length,0),(H.length+1,0),(m0,0),(m0+1,0),(m0+2,0)] hG hB hC' hcl (hd:=hnd)) ?_
 have X:=And.intro aO hirr
 (refine run ?_)
 have hBB:B.length=binds.length:=hlt0
 have hre2:aq Tryz.prog G 51 [.agg [.list 4 (ay cons),.list 9 (ad B)]] [] (fun r H'=>H'=[.cells 0 1 ((gr B).map .str)]∧r= .sl 0 0 0 (gr B).length):=hre
 refine br (aq.PD hG hB0 (args2:=[.agg [.list 4 (ay cons),.list 9 (ad B)]]) ?_ (Kj _) hre2) ?_
 ·refine .cons _ _ _ _ (.agg _ _ (.cons _ _ _ _ ?_ (.cons _ _ _ _ ?_ .nil))) .nil
  ·exact bF.sf (g:=0) (sz:=4) (vals:=ay cons) (by rw[aH];rfl) (Nat.zero_le _) (by simp) (by rw[List.drop_zero,List.take_of_length_le (by rw[cU];exact Nat.le_refl _)]) (aX _ _)
  ·exact bF.sf (g:=0) (sz:=9) (vals:=ad B) (by rw[aH];rfl) (Nat.zero_le _) (by simp) (by rw[List.drop_zero,List.take_of_length_le (by rw[htl];exact Nat.le_refl _)]) (aK _ _)
 rintro r H' ⟨rfl,rfl⟩
 have hrl:((gr B).map SV.str).length=(gr B).length:=List.length_map _
 have hrw:(gr B).length<1125899906842624:=by
  unfold gr
  rw[iV,List.length_map]
  have:=(mW (cX ct) B).2.2
  omega
 have hdp:pN B=B.filter fun b=>!(!decide (b.name∈gr B)):=by unfold pN;simp only[Bool.not_not]
 rw[hdp] at hpq
 generalize gr B=RN at*
 have hru:=bj H.length RN
 refine rB [(1,.ptr H.length 0 0 0),(2,.ptr (H.length+1) 0 0 0),(3,.int .i64 0),(9,.ptr (H.length+3) 0 0 0),(69,.list 1 (RN.map .str))]
  (H++[.cells 0 2 [.agg [.list 4 (ay cons),.list 9 (ad binds)]],.cells 0 2 [.agg [.nil,.nil]],.cells 0 4 (ay cons),.cells 0 2 [.agg [.sl (H.length+2) 0 0 cons.length,.sl (H.length+4) 0 0 binds.length]],.cells 0 9 (ad B)]) ?_ ?_
 ·rw[List.append_assoc]
  have hgs:=aH H ([.cells 0 2 [.agg [.list 4 (ay cons),.list 9 (ad binds)]],.cells 0 2 [.agg [.nil,.nil]],.cells 0 4 (ay cons),.cells 0 2 [.agg [.sl (H.length+2) 0 0 cons.length,.sl (H.length+4) 0 0 binds.length]],.cells 0 9 (ad B)]++[.cells 0 1 (RN.map .str)]) 5
  refine bI (n0:=H.length) [(H.length,0),(H.length+1,0),(H.length+2,0),(H.length+3,0),(H.length+4,0)] hG hB hC' hcl (he:=?_)
  simp only[List.length_append,List.length_cons,List.length_nil,Nat.reduceAdd]
  refine⟨⟨_,rfl,?_⟩,⟨_,rfl,?_⟩,⟨_,rfl,.same _ rfl⟩,⟨_,rfl,?_⟩,⟨_,rfl,bF.sf (g:=0) (sz:=1) (vals:=RN.map .str) hgs (by omega) (by simp) (by rw[List.drop_zero,List.take_of_length_le (by rw[hrl];exact Nat.le_refl _)]) hru⟩,trivial⟩
  all_goals exact kc
 have X:=aO
 (refine run ?_)
 rw[← hBB]
 refine br (Lu G hG (.fn (.func 53) [] [.ptr (H.length+5) 0 0 0]) (fun b=>!decide (b.name∈RN)) B _ (H.length+4) ?_ (by omega) (by simp[SV.under,SV.aj]) (fun x hx Y Z=>aY.of (first:=[]) (args:=[x.sv]) (cap:=[.ptr (H.length+5) 0 0 0]) (JW G hG RN hrw x _ (H.length+5) ?_))) ?_
 ·simp
 ·simp
 rintro r H' ⟨k1,rfl,rfl⟩
 simp only[bW,List.set_cons_succ,List.set_cons_zero]
 generalize hDd:B.filter (fun b=>!(!decide (b.name∈RN)))=D at*
 have hDl:D.length≤B.length:=by
  rw[← hDd];exact List.length_filter_le _ _
 have hcD:(ad D).length=D.length:=aR D
 have X:=And.intro aO hcD
 (refine run ?_)
 refine br (BJ G hG (.fn (.func 56) [] []) wj D _ (H.length+4) _ (by rw[aH];rfl) (by omega) (by simp[SV.under,SV.aj]) (fun x hx=>aY.of (first:=[]) (args:=[x.sv]) (cap:=[]) (JX G hG x _))) ?_
 rintro r H' ⟨rfl,rfl⟩
 generalize hZN:List.replicate k1 (SV.agg [.str [],.int .i64 0,.str [],.int .i64 0,.int .i64 0,.list 1 [],.list 8 [],.list 9 [],.list 12 []])=ZS at*
 have hlc:(ad D++ZS).length=D.length+ZS.length:=by rw[List.length_append,hcD]
 have hzu:∀ n,SV.aj n ZS=true:=fun n=>by rw[← hZN];exact SV.gP rfl
 cases hfi:D.findIdx? wj with
 |none=>
  have hsm:kT D=D:=by unfold kT;rw[hfi]
  rw[hsm] at hpq
  simp only
  (refine run ?_)
  rw[hpq] at hlq hR
  have hlq0:aq Tryz.prog G 12 [.agg [.list 4 (ay cons),.list 9 (ad D)]] [] (fun r H'=>H'=[]∧r= .int .i64 (bJ ⟨cons,D⟩)):=hlq []
  rw[show(Pg.mk cons D).sv= .agg [.list 4 (ay cons),.list 9 (ad D)] from rfl] at hR
  generalize bJ ⟨cons,D⟩=LQ at*
  refine br (aq.PC hG hB0 (args2:=[.agg [.list 4 (ay cons),.list 9 (ad D)]]) (y:= .int .i64 LQ) ?_ (fun c c' v h=>by simpa only[aB] using h) (hlq0.mono fun r H' h=>h.2)) ?_
  ·refine .cons _ _ _ _ (.agg _ _ (.cons _ _ _ _ ?_ (.cons _ _ _ _ ?_ .nil))) .nil
   ·exact bF.sf (g:=0) (sz:=4) (vals:=ay cons) (by rw[aH];rfl) (Nat.zero_le _) (by simp) (by rw[List.drop_zero,List.take_of_length_le (by rw[cU];exact Nat.le_refl _)]) (aX _ _)
   ·exact bF.sf (g:=0) (sz:=9) (vals:=ad D++ZS) (by rw[aH];rfl) (Nat.zero_le _) (by simp) (by rw[List.drop_zero];exact List.take_left' hcD) (aK _ _)
  rintro r H' ⟨rfl,rfl⟩
  by_cases hL0:LQ=0
  ·rw[if_pos hL0] at hR
   have X:=And.intro aO hL0
   (refine run ?_)
   refine Fin.aS (n0:=H.length) hR rfl hC' hcl (.tuple _ _ (.cons _ _ _ _ (.agg _ _ (.cons _ _ _ _ ?_ (.cons _ _ _ _ ?_ .nil))) (.cons _ _ _ _ (.same _ rfl) .nil))) ⟨rfl,rfl⟩
   ·exact bF.sf (g:=0) (sz:=4) (vals:=ay cons) (by rw[aH];rfl) (by omega) (by simp) (by rw[List.drop_zero,List.take_of_length_le (by rw[cU];exact Nat.le_refl _)]) (aX _ _)
   ·exact bF.sf (g:=0) (sz:=9) (vals:=ad D++ZS) (by rw[aH];rfl) (by omega) (by simp) (by rw[List.drop_zero];exact List.take_left' hcD) (aK _ _)
  ·rw[if_neg hL0] at hR
   have X:=And.intro aO hL0
   (refine run ?_)
   exact Fin.aS (n0:=H.length) hR rfl hC' hcl (.same _ (by simp only[aC,SV.under,SV.aj,aX,aK,Bool.and_self])) ⟨rfl,rfl⟩
 |some i0=>
  obtain⟨hi0,hpi,hpb⟩:=List.findIdx?_eq_some_iff_getElem.1 hfi
  simp only
  have hgi:(ad D++ZS)[i0]? =some (.agg (.str D[i0].name::D[i0].e.cells)):=by
   rw[List.getElem?_append_left (by rw[hcD];exact hi0),az,List.getElem?_map,List.getElem?_eq_getElem hi0,Option.map_some,Bd.sv,Bd.bf]
  have hge0:(0:Int)≤(i0:Int):=by omega
  have X:=oD aO hcD hlc hgi hi0 hge0
  (refine run ?_)
  refine br (NT G hG D ZS i0 hi0 (by omega) _ (H.length+4) (by rw[aH];rfl)) ?_
  rintro r H' ⟨zs,rfl,rfl⟩
  simp only[bW,List.set_cons_succ,List.set_cons_zero]
  have hD1l:D.length - 1=(D.eraseIdx i0).length:=by rw[List.length_eraseIdx,if_pos hi0]
  have hsm:kT D=(D.eraseIdx i0).map fun b=> .mk b.name (cS D[i0].name D[i0].e b.e):=by
   unfold kT
   rw[hfi]
   simp only[List.getD_eq_getElem?_getD,List.getElem?_eq_getElem hi0,Option.getD_some]
  have hDB:∀ b∈D.eraseIdx i0,b.e.wt<274877906944:=fun b hb=>by
   have h1:b∈D:=(List.eraseIdx_sublist D i0).subset hb
   rw[← hDd] at h1
   have h2:=rW (List.mem_filter.1 h1).1
   omega
  rw[hsm] at hpq
  rw[hD1l]
  clear hgi X hsm hpb hpi
  have hx9:=D[i0].e.au
  have hxR:=D[i0].e.ao
  generalize hsn:D[i0].name=sn at*
  generalize hre:D[i0].e=re at*
  generalize D.eraseIdx i0=D1 at*
  have hcD1:=aR D1
  have X:=And.intro aO hcD1
  (refine run ?_)
  generalize hff:(fun b:Bd=>Bd.mk b.name (cS sn re b.e))=ff at*
  have hlf:∀ i,i≤D1.length→((D1.take i).map ff).length=i:=fun i hi=>by rw[List.length_map,List.length_take];omega
  generalize hxr0:re.cells=xr at*
  refine aA (fun i:Nat=>[(1,.ptr H.length 0 0 0),(2,.ptr (H.length+1) 0 0 0),(3,.int .i64 0),(9,.ptr (H.length+3) 0 0 0),(14,.ptr (H.length+6) 0 0 0),(94,.int .i64 D1.length),(95,.int .i64 i)])
   (fun i=>H++[.cells 0 2 [.agg [.list 4 (ay cons),.list 9 (ad binds)]],.cells 0 2 [.agg [.nil,.nil]],.cells 0 4 (ay cons),.cells 0 2 [.agg [.sl (H.length+2) 0 0 cons.length,.sl (H.length+4) 0 0 D1.length]],.cells 0 9 (ad ((D1.take i).map ff++D1.drop i)++zs),.cells 0 1 [.list 1 (RN.map .str)],.cells 0 9 [.agg (.str sn::xr)]])
   (fun i=>D1.length - i) (fun i=>i≤D1.length) 0 (Nat.zero_le _) ?_ ?_
  ·rw[List.take_zero,List.map_nil,List.nil_append,List.drop_zero]
   exact Wk.sub (by simp[aW,look])
  rintro K i hi hK
  have hD:=hlf i hi
  have hlc2:(ad ((D1.take i).map ff++D1.drop i)++zs).length=D1.length+zs.length:=by rw[List.length_append,iE hD hi]
  rcases Nat.lt_or_ge i D1.length with hlt|hge
  ·have hgi:(ad ((D1.take i).map ff++D1.drop i)++zs)[i]? =some (.agg (.str D1[i].name::D1[i].e.cells)):=by
    rw[List.getElem?_append_left (by rw[iE hD hi];exact hlt)];exact r8 hD hlt
   have hst:(ad ((D1.take i).map ff++D1.drop i)++zs).set i (.agg (.str D1[i].name::((cS sn re D1[i].e).cells++List.drop 8 D1[i].e.cells)))=ad ((D1.take (i+1)).map ff++D1.drop (i+1))++zs:=by
    rw[List.set_append,if_pos (by rw[iE hD hi];exact hlt),pI hD hlt,List.take_succ_eq_append_getElem hlt,List.map_append,List.map_singleton,← hff]
   have hrp:=fun H=>gN G hG sn re D1[i].e.wt D1[i].e H (Nat.le_refl _) (hDB _ (List.getElem_mem hlt))
   rw[show dK sn re D1[i].e.wt D1[i].e=cS sn re D1[i].e from rfl] at hrp
   have hr8:=(cS sn re D1[i].e).au
   have hrT:=(cS sn re D1[i].e).ao
   have hx8:=D1[i].e.au
   have hxT:=D1[i].e.ao
   rw[show re.sv= .agg re.cells from rfl,show(cS sn re D1[i].e).sv= .agg (cS sn re D1[i].e).cells from rfl,show(D1[i].e).sv= .agg (D1[i].e).cells from rfl,hxr0] at hrp
   generalize (cS sn re D1[i].e).cells=yr at*
   generalize (D1[i].e).cells=xb at*
   generalize D1[i].name=bn at*
   have X:=wh aO hlc2 hgi hst hr8 hrT hx8 hxT hx9 hxR
   (refine run ?_;with_reducible repeat' first|exact trivial|(apply aJ.mk<;>intro hb)|apply bN.mk)
   refine nB (hrp _) ?_
   rintro v H' ⟨rfl,rfl⟩
   (refine run ?_)
   refine hK _ _ (i+1) (by omega) (by omega) ?_
   exact Wk.sub (by simp[aW,look])
  obtain rfl:i=D1.length:=by omega
  clear hK hlc hcD
  rw[List.take_length,List.drop_length,List.append_nil]
  have hcD:(ad (D1.map ff)).length=D1.length:=by rw[aR,List.length_map]
  have hirr2:=Int.lt_irrefl (D1.length:Int)
  have X:=fc aO hirr2 hcD
  (refine run ?_)
  generalize D1.map ff=D2 at*
  clear hZN hzu
  generalize zs=ZS at*
  rw[hpq] at hlq hR
  have hlq0:aq Tryz.prog G 12 [.agg [.list 4 (ay cons),.list 9 (ad D2)]] [] (fun r H'=>H'=[]∧r= .int .i64 (bJ ⟨cons,D2⟩)):=hlq []
  rw[show(Pg.mk cons D2).sv= .agg [.list 4 (ay cons),.list 9 (ad D2)] from rfl] at hR
  generalize bJ ⟨cons,D2⟩=LQ at*
  refine br (aq.PC hG hB0 (args2:=[.agg [.list 4 (ay cons),.list 9 (ad D2)]]) (y:= .int .i64 LQ) ?_ (fun c c' v h=>by simpa only[aB] using h) (hlq0.mono fun r H' h=>h.2)) ?_
  ·refine .cons _ _ _ _ (.agg _ _ (.cons _ _ _ _ ?_ (.cons _ _ _ _ ?_ .nil))) .nil
   ·exact bF.sf (g:=0) (sz:=4) (vals:=ay cons) (by rw[aH];rfl) (Nat.zero_le _) (by simp) (by rw[List.drop_zero,List.take_of_length_le (by rw[cU];exact Nat.le_refl _)]) (aX _ _)
   ·exact bF.sf (g:=0) (sz:=9) (vals:=ad D2++ZS) (by rw[aH];rfl) (Nat.zero_le _) (by simp) (by rw[List.drop_zero];exact List.take_left' hcD) (aK _ _)
  rintro r H' ⟨rfl,rfl⟩
  by_cases hL0:LQ=0
  ·rw[if_pos hL0] at hR
   have X:=And.intro aO hL0
   (refine run ?_)
   refine Fin.aS (n0:=H.length) hR rfl hC' hcl (.tuple _ _ (.cons _ _ _ _ (.agg _ _ (.cons _ _ _ _ ?_ (.cons _ _ _ _ ?_ .nil))) (.cons _ _ _ _ (.same _ rfl) .nil))) ⟨rfl,rfl⟩
   ·exact bF.sf (g:=0) (sz:=4) (vals:=ay cons) (by rw[aH];rfl) (by omega) (by simp) (by rw[List.drop_zero,List.take_of_length_le (by rw[cU];exact Nat.le_refl _)]) (aX _ _)
   ·exact bF.sf (g:=0) (sz:=9) (vals:=ad D2++ZS) (by rw[aH];rfl) (by omega) (by simp) (by rw[List.drop_zero];exact List.take_left' hcD) (aK _ _)
  ·rw[if_neg hL0] at hR
   have X:=And.intro aO hL0
   (refine run ?_)
   exact Fin.aS (n0:=H.length) hR rfl hC' hcl (.same _ (by simp only[aC,SV.under,SV.aj,aX,aK,Bool.and_self])) ⟨rfl,rfl⟩
def gg {α:Type} (p:α→α→Bool):List α→List α→Bool
 |[],[]=>true
 |x::a,y::b=>p x y&&gg p a b
 |_,_=>false
theorem gh {α:Type} (p:α→α→Bool):∀ (a b:List α),gg p a b=true↔a.length=b.length∧∀ i (h:i<a.length) (h':i<b.length),p a[i] b[i]=true
 |[],[]=>by simp[gg]
 |[],y::b=>by simp[gg]
 |x::a,[]=>by simp[gg]
 |x::a,y::b=>by
  simp only[gg,Bool.and_eq_true,gh p a b,List.length_cons,Nat.add_right_cancel_iff]
  constructor
  ·rintro⟨h1,h2,h3⟩
   refine⟨h2,fun i h h'=>?_⟩
   cases i with
   |zero=>exact h1
   |succ i=>exact h3 i (by omega) (by omega)
  ·rintro⟨h1,h2⟩
   exact⟨h2 0 (by omega) (by omega),h1,fun i h h'=>h2 (i+1) (by omega) (by omega)⟩
theorem mz {α:Type} {p:α→α→Bool} {a b:List α} (h:a.length≠b.length):gg p a b=false:=by
 rw[← Bool.not_eq_true,gh];exact fun k=>h k.1
theorem my {α:Type} {p:α→α→Bool} {a b:List α} {i:Nat} (h:i<a.length) (h':i<b.length) (k:p a[i] b[i]=false):gg p a b=false:=by
 rw[← Bool.not_eq_true,gh];exact fun q=>by have:=q.2 i h h';rw[k] at this;cases this
def iB (x y:aD):Bool:=decide (x=y)
def KQ (s1 s2:aD) (z:Bool):Bool:=decide (s1=s2)&&z
def Ho (k1 k2:Int) (s1 s2:aD) (n1 n2:Int) (z2 z:Bool):Bool:=(((decide (k1=k2)&&decide (s1=s2))&&decide (n1=n2))&&z2)&&z
def KU (k1 k2:Int) (s1 s2:aD) (n1 n2 o1 o2:Int) (z1 z2 z3 z4:Bool):Bool:=((((((decide (k1=k2)&&decide (s1=s2))&&decide (n1=n2))&&decide (o1=o2))&&z1)&&z2)&&z3)&&z4
def wN (p:Ex→Ex→Bool) (x y:Bd):Bool:=KQ x.name y.name (p x.e y.e)
def wG (p:Ex→Ex→Bool) (x y:Al):Bool:=Ho x.kind y.kind x.name y.name x.n y.n (gg iB x.names y.names) (p x.body y.body)
def fT:Nat→Ex→Ex→Bool
 |0,_,_=>false
 |m+1,.mk k1 s1 n1 o1 l1 u1 b1 a1,.mk k2 s2 n2 o2 l2 u2 b2 a2=>
  KU k1 k2 s1 s2 n1 n2 o1 o2 (gg iB l1 l2) (gg (fT m) u1 u2) (gg (wN (fT m)) b1 b2) (gg (wG (fT m)) a1 a2)
theorem mA {α:Type} {p:α→α→Bool}:∀ {l:List α},(∀ x∈l,p x x=true)→gg p l l=true
 |[],_=>rfl
 |x::r,h=>by
  rw[gg,h x (List.mem_cons_self ..),mA fun y hy=>h y (List.mem_cons_of_mem _ hy)];rfl
theorem yi (l:List aD):gg iB l l=true:=mA fun x _=>by simp[iB]
theorem vM:∀ (m:Nat) (e:Ex),e.wt≤m→fT m e e=true
 |0,e,h=>absurd e.bZ (by omega)
 |m+1,e,h=>by
  have hp:∀ p∈e.parts,fT m p p=true:=fun p hp=>vM m p (by have:=Ex.cm hp;omega)
  obtain⟨kd,nm,nn,op,names,ae,binds,alts⟩:=e
  rw[Ex.ck] at hp
  have h1:gg (fT m) ae ae=true:=mA fun x hx=>hp x (by simp[hx])
  have h2:gg (wN (fT m)) binds binds=true:=mA fun b hb=>by
   have:=hp b.e (by simp;exact .inr (.inl ⟨b,hb,rfl⟩))
   simp[wN,KQ,this]
  have h3:gg (wG (fT m)) alts alts=true:=mA fun a ha=>by
   have:=hp a.body (by simp;exact .inr (.inr ⟨a,ha,rfl⟩))
   simp[wG,Ho,this,yi]
  rw[fT,h1,h2,h3,yi]
  simp[KU]
theorem wX (G:Gl) (hG:ah G) (a b:List (aD)) (ha:a.length<1125899906842624) (hb0:b.length<1125899906842624) (H:List av):
 aq Tryz.prog G 64 [.list 1 (a.map SV.str),.list 1 (b.map SV.str)] H (fun r H'=>H'=H∧r= .bool (gg iB a b)):=by
 have h1:(a.map SV.str).length=a.length:=by simp
 have h2:(b.map SV.str).length=b.length:=by simp
 have hA1:∀ k:Nat,(a.map SV.str)[k]? =a[k]?.map SV.str:=fun k=>List.getElem?_map ..
 have hB1:∀ k:Nat,(b.map SV.str)[k]? =b[k]?.map SV.str:=fun k=>List.getElem?_map ..
 have hu1:SV.aj H.length (a.map SV.str)=true:=SV.aT fun _ _=>rfl
 have hu2:SV.aj H.length (b.map SV.str)=true:=SV.aT fun _ _=>rfl
 generalize a.map SV.str=A at*
 generalize b.map SV.str=B at*
 refine bP [] Tryz.func64 Tryz.ntmps64 fun C R' hR hC hcl hB hC' X=>?_
 have X:=fc X h1 h2
 by_cases hl:a.length=b.length
 ·have hln:((a.length:Int)=(b.length:Int))=True:=by simp[hl]
  have X:=And.intro X hln
  (refine run ?_)
  clear X
  refine aA (fun k:Nat=>[(0,.list 1 A),(1,.list 1 B),(12,.int .i64 a.length),(13,.int .i64 k)]) (fun _=>H) (fun k=>a.length - k) (fun k=>k≤a.length∧∀ i (h:i<a.length) (h':i<b.length),i<k→iB a[i] b[i]=true) 0 ⟨Nat.zero_le _,fun i _ _ h=>by omega⟩ (Wk.sub (by simp[aW,look])) ?_
  rintro K k ⟨hk,hall⟩ hK
  rcases Nat.lt_or_ge k a.length with hlt|hge
  ·have hlt2:k<b.length:=by omega
   have e1:A[k]? =some (SV.str a[k]):=by rw[hA1,List.getElem?_eq_getElem hlt];rfl
   have e2:B[k]? =some (SV.str b[k]):=by rw[hB1,List.getElem?_eq_getElem hlt2];rfl
   have hno:=my (p:=iB) hlt hlt2
   have hyes:iB a[k] b[k]=true→∀ i (h:i<a.length) (h':i<b.length),i<k+1→iB a[i] b[i]=true:=fun h i hi hi' hik=>by
    rcases Nat.lt_or_ge i k with h3|h3
    ·exact hall i hi hi' h3
    ·have:i=k:=by omega
     subst this;exact h
   generalize a[k]=x at*
   generalize b[k]=y at*
   simp only[iB] at hno hyes
   have X:=j8 aO h1 h2 e1 e2
   (refine run ?_;with_reducible repeat' first|exact trivial|(apply aJ.mk<;>intro hb)|apply bN.mk)
   ·refine Fin.out hR ⟨rfl,?_⟩
    rw[hno (by first|(simpa using hb)|(revert hb;simp;done)|(cases h1:decide (x1=y1)<;>cases h2:decide (x2=y2)<;>simp_all;done)|(cases h1:decide (x1=y1)<;>cases h2:decide (x2=y2)<;>cases h3:decide (x3=y3)<;>cases h4:decide (x4=y4)<;>simp_all))];rfl
   ·exact hK _ _ (k+1) (by omega) ⟨by omega,hyes (by first|(simpa using hb)|(revert hb;simp;done)|(cases h1:decide (x1=y1)<;>cases h2:decide (x2=y2)<;>simp_all;done)|(cases h1:decide (x1=y1)<;>cases h2:decide (x2=y2)<;>cases h3:decide (x3=y3)<;>cases h4:decide (x4=y4)<;>simp_all))⟩ (Wk.sub (by simp[aW,look]))
  ·have:k=a.length:=by omega
   subst this
   have X:=And.intro aO (Int.lt_irrefl (a.length:Int))
   (refine run ?_)
   refine Fin.out hR ⟨rfl,?_⟩
   rw[(gh iB a b).2 ⟨hl,fun i h h'=>hall i h h' h⟩];rfl
 ·have hln:((a.length:Int)=(b.length:Int))=False:=by simp;omega
  have X:=And.intro X hln
  (refine run ?_)
  refine Fin.out hR ⟨rfl,?_⟩
  rw[mz hl];rfl
theorem Ik (G:Gl) (hG:ah G) (f:SV) (p:Ex→Ex→Bool) (a b:List Ex) (ha:a.length<1125899906842624) (hb0:b.length<1125899906842624) (H:List av)
 (hfu:f.under H.length=true) (hf:∀ x∈a,∀ y∈b,∀ L,aY Tryz.prog G f [(fun e:Ex=>SV.agg e.cells) x,(fun e:Ex=>SV.agg e.cells) y] (H++L) (fun r H'=>H'=H++L∧r= .bool (p x y))):
 aq Tryz.prog G 65 [.list 8 (a.map (fun e:Ex=>SV.agg e.cells)),.list 8 (b.map (fun e:Ex=>SV.agg e.cells)),f] H (fun r H'=>H'=H∧r= .bool (gg p a b)):=by
 have h1:(a.map (fun e:Ex=>SV.agg e.cells)).length=a.length:=by simp
 have h2:(b.map (fun e:Ex=>SV.agg e.cells)).length=b.length:=by simp
 have hu1:SV.aj H.length (a.map (fun e:Ex=>SV.agg e.cells))=true:=SV.aT fun i _=>Ex.aw _ i
 have hu2:SV.aj H.length (b.map (fun e:Ex=>SV.agg e.cells))=true:=SV.aT fun i _=>Ex.aw _ i
 refine bP [] Tryz.func65 Tryz.ntmps65 fun C R' hR hC hcl hB hC' X=>?_
 have X:=fc X h1 h2
 by_cases hl:a.length=b.length
 ·have hln:((a.length:Int)=(b.length:Int))=True:=by simp[hl]
  have X:=And.intro X hln
  (refine run ?_)
  clear X
  refine aA (fun k:Nat=>[(0,.list 8 (a.map (fun e:Ex=>SV.agg e.cells))),(1,.list 8 (b.map (fun e:Ex=>SV.agg e.cells))),(2,f),(15,.list 8 (a.map (fun e:Ex=>SV.agg e.cells))),(16,.int .i64 a.length),(17,.int .i64 k)]) (fun _=>H++[]) (fun k=>a.length - k) (fun k=>k≤a.length∧∀ i (h:i<a.length) (h':i<b.length),i<k→p a[i] b[i]=true) 0 ⟨Nat.zero_le _,fun i _ _ h=>by omega⟩ (by rw[List.append_nil];exact Wk.sub (by simp[aW,look])) ?_
  rintro K k ⟨hk,hall⟩ hK
  rcases Nat.lt_or_ge k a.length with hlt|hge
  ·have hlt2:k<b.length:=by omega
   have e1:(a.map (fun e:Ex=>SV.agg e.cells))[k]? =some ((fun e:Ex=>SV.agg e.cells) a[k]):=by simp[hlt]
   have e2:(b.map (fun e:Ex=>SV.agg e.cells))[k]? =some ((fun e:Ex=>SV.agg e.cells) b[k]):=by simp[hlt2]
   have hno:=my (p:=p) hlt hlt2
   have hcall:=hf a[k] (List.getElem_mem hlt) b[k] (List.getElem_mem hlt2)
   have hyes:p a[k] b[k]=true→∀ i (h:i<a.length) (h':i<b.length),i<k+1→p a[i] b[i]=true:=fun h i hi hi' hik=>by
    rcases Nat.lt_or_ge i k with h3|h3
    ·exact hall i hi hi' h3
    ·have:i=k:=by omega
     subst this;exact h
   generalize a[k]=x at*
   generalize b[k]=y at*
   simp only at hcall e1 e2
   have X:=j8 aO h1 h2 e1 e2
   (refine run ?_;with_reducible repeat' first|exact trivial|(apply aJ.mk<;>intro hb)|apply bN.mk)
   refine eS (hcall _) ?_
   rintro r H' ⟨rfl,rfl⟩
   generalize p x y=pv at*
   (refine run ?_;with_reducible repeat' first|exact trivial|(apply aJ.mk<;>intro hb)|apply bN.mk)
   ·refine aZ hR hC' hcl (.same _ ?_) ⟨rfl,?_⟩
    ·rfl
    ·rw[hno (by simpa using hb)];rfl
   ·exact hK _ _ (k+1) (by omega) ⟨by omega,hyes (by simpa using hb)⟩ (bI (n0:=H.length) [] hG hB hC' hcl)
  ·have:k=a.length:=by omega
   subst this
   have X:=And.intro aO (Int.lt_irrefl (a.length:Int))
   (refine run ?_)
   refine Fin.out hR ⟨List.append_nil _,?_⟩
   rw[(gh p a b).2 ⟨hl,fun i h h'=>hall i h h' h⟩];rfl
 ·have hln:((a.length:Int)=(b.length:Int))=False:=by simp;omega
  have X:=And.intro X hln
  (refine run ?_)
  refine Fin.out hR ⟨rfl,?_⟩
  rw[mz hl];rfl
theorem Bh (G:Gl) (hG:ah G) (f:SV) (p:Bd→Bd→Bool) (a b:List Bd) (ha:a.length<1125899906842624) (hb0:b.length<1125899906842624) (H:List av)
 (hfu:f.under H.length=true) (hf:∀ x∈a,∀ y∈b,∀ L,aY Tryz.prog G f [(fun b:Bd=>SV.agg b.cells) x,(fun b:Bd=>SV.agg b.cells) y] (H++L) (fun r H'=>H'=H++L∧r= .bool (p x y))):
 aq Tryz.prog G 26 [.list 9 (a.map (fun b:Bd=>SV.agg b.cells)),.list 9 (b.map (fun b:Bd=>SV.agg b.cells)),f] H (fun r H'=>H'=H∧r= .bool (gg p a b)):=by
 have h1:(a.map (fun b:Bd=>SV.agg b.cells)).length=a.length:=by simp
 have h2:(b.map (fun b:Bd=>SV.agg b.cells)).length=b.length:=by simp
 have hu1:SV.aj H.length (a.map (fun b:Bd=>SV.agg b.cells))=true:=SV.aT fun i _=>Bd.aw _ i
 have hu2:SV.aj H.length (b.map (fun b:Bd=>SV.agg b.cells))=true:=SV.aT fun i _=>Bd.aw _ i
 refine bP [] Tryz.func26 Tryz.ntmps26 fun C R' hR hC hcl hB hC' X=>?_
 have X:=fc X h1 h2
 by_cases hl:a.length=b.length
 ·have hln:((a.length:Int)=(b.length:Int))=True:=by simp[hl]
  have X:=And.intro X hln
  (refine run ?_)
  clear X
  refine aA (fun k:Nat=>[(0,.list 9 (a.map (fun b:Bd=>SV.agg b.cells))),(1,.list 9 (b.map (fun b:Bd=>SV.agg b.cells))),(2,f),(15,.list 9 (a.map (fun b:Bd=>SV.agg b.cells))),(16,.int .i64 a.length),(17,.int .i64 k)]) (fun _=>H++[]) (fun k=>a.length - k) (fun k=>k≤a.length∧∀ i (h:i<a.length) (h':i<b.length),i<k→p a[i] b[i]=true) 0 ⟨Nat.zero_le _,fun i _ _ h=>by omega⟩ (by rw[List.append_nil];exact Wk.sub (by simp[aW,look])) ?_
  rintro K k ⟨hk,hall⟩ hK
  rcases Nat.lt_or_ge k a.length with hlt|hge
  ·have hlt2:k<b.length:=by omega
   have e1:(a.map (fun b:Bd=>SV.agg b.cells))[k]? =some ((fun b:Bd=>SV.agg b.cells) a[k]):=by simp[hlt]
   have e2:(b.map (fun b:Bd=>SV.agg b.cells))[k]? =some ((fun b:Bd=>SV.agg b.cells) b[k]):=by simp[hlt2]
   have hno:=my (p:=p) hlt hlt2
   have hcall:=hf a[k] (List.getElem_mem hlt) b[k] (List.getElem_mem hlt2)
   have hyes:p a[k] b[k]=true→∀ i (h:i<a.length) (h':i<b.length),i<k+1→p a[i] b[i]=true:=fun h i hi hi' hik=>by
    rcases Nat.lt_or_ge i k with h3|h3
    ·exact hall i hi hi' h3
    ·have:i=k:=by omega
     subst this;exact h
   generalize a[k]=x at*
   generalize b[k]=y at*
   simp only at hcall e1 e2
   have X:=j8 aO h1 h2 e1 e2
   (refine run ?_;with_reducible repeat' first|exact trivial|(apply aJ.mk<;>intro hb)|apply bN.mk)
   refine eS (hcall _) ?_
   rintro r H' ⟨rfl,rfl⟩
   generalize p x y=pv at*
   (refine run ?_;with_reducible repeat' first|exact trivial|(apply aJ.mk<;>intro hb)|apply bN.mk)
   ·refine aZ hR hC' hcl (.same _ ?_) ⟨rfl,?_⟩
    ·rfl
    ·rw[hno (by simpa using hb)];rfl
   ·exact hK _ _ (k+1) (by omega) ⟨by omega,hyes (by simpa using hb)⟩ (bI (n0:=H.length) [] hG hB hC' hcl)
  ·have:k=a.length:=by omega
   subst this
   have X:=And.intro aO (Int.lt_irrefl (a.length:Int))
   (refine run ?_)
   refine Fin.out hR ⟨List.append_nil _,?_⟩
   rw[(gh p a b).2 ⟨hl,fun i h h'=>hall i h h' h⟩];rfl
 ·have hln:((a.length:Int)=(b.length:Int))=False:=by simp;omega
  have X:=And.intro X hln
  (refine run ?_)
  refine Fin.out hR ⟨rfl,?_⟩
  rw[mz hl];rfl
theorem Ii (G:Gl) (hG:ah G) (f:SV) (p:Al→Al→Bool) (a b:List Al) (ha:a.length<1125899906842624) (hb0:b.length<1125899906842624) (H:List av)
 (hfu:f.under H.length=true) (hf:∀ x∈a,∀ y∈b,∀ L,aY Tryz.prog G f [(fun a:Al=>SV.agg a.cells) x,(fun a:Al=>SV.agg a.cells) y] (H++L) (fun r H'=>H'=H++L∧r= .bool (p x y))):
 aq Tryz.prog G 67 [.list 12 (a.map (fun a:Al=>SV.agg a.cells)),.list 12 (b.map (fun a:Al=>SV.agg a.cells)),f] H (fun r H'=>H'=H∧r= .bool (gg p a b)):=by
 have h1:(a.map (fun a:Al=>SV.agg a.cells)).length=a.length:=by simp
 have h2:(b.map (fun a:Al=>SV.agg a.cells)).length=b.length:=by simp
 have hu1:SV.aj H.length (a.map (fun a:Al=>SV.agg a.cells))=true:=SV.aT fun i _=>Al.aw _ i
 have hu2:SV.aj H.length (b.map (fun a:Al=>SV.agg a.cells))=true:=SV.aT fun i _=>Al.aw _ i
 refine bP [] Tryz.func67 Tryz.ntmps67 fun C R' hR hC hcl hB hC' X=>?_
 have X:=fc X h1 h2
 by_cases hl:a.length=b.length
 ·have hln:((a.length:Int)=(b.length:Int))=True:=by simp[hl]
  have X:=And.intro X hln
  (refine run ?_)
  clear X
  refine aA (fun k:Nat=>[(0,.list 12 (a.map (fun a:Al=>SV.agg a.cells))),(1,.list 12 (b.map (fun a:Al=>SV.agg a.cells))),(2,f),(15,.list 12 (a.map (fun a:Al=>SV.agg a.cells))),(16,.int .i64 a.length),(17,.int .i64 k)]) (fun _=>H++[]) (fun k=>a.length - k) (fun k=>k≤a.length∧∀ i (h:i<a.length) (h':i<b.length),i<k→p a[i] b[i]=true) 0 ⟨Nat.zero_le _,fun i _ _ h=>by omega⟩ (by rw[List.append_nil];exact Wk.sub (by simp[aW,look])) ?_
  rintro K k ⟨hk,hall⟩ hK
  rcases Nat.lt_or_ge k a.length with hlt|hge
  ·have hlt2:k<b.length:=by omega
   have e1:(a.map (fun a:Al=>SV.agg a.cells))[k]? =some ((fun a:Al=>SV.agg a.cells) a[k]):=by simp[hlt]
   have e2:(b.map (fun a:Al=>SV.agg a.cells))[k]? =some ((fun a:Al=>SV.agg a.cells) b[k]):=by simp[hlt2]
   have hno:=my (p:=p) hlt hlt2
   have hcall:=hf a[k] (List.getElem_mem hlt) b[k] (List.getElem_mem hlt2)
   have hyes:p a[k] b[k]=true→∀ i (h:i<a.length) (h':i<b.length),i<k+1→p a[i] b[i]=true:=fun h i hi hi' hik=>by
    rcases Nat.lt_or_ge i k with h3|h3
    ·exact hall i hi hi' h3
    ·have:i=k:=by omega
     subst this;exact h
   generalize a[k]=x at*
   generalize b[k]=y at*
   simp only at hcall e1 e2
   have X:=j8 aO h1 h2 e1 e2
   (refine run ?_;with_reducible repeat' first|exact trivial|(apply aJ.mk<;>intro hb)|apply bN.mk)
   refine eS (hcall _) ?_
   rintro r H' ⟨rfl,rfl⟩
   generalize p x y=pv at*
   (refine run ?_;with_reducible repeat' first|exact trivial|(apply aJ.mk<;>intro hb)|apply bN.mk)
   ·refine aZ hR hC' hcl (.same _ ?_) ⟨rfl,?_⟩
    ·rfl
    ·rw[hno (by simpa using hb)];rfl
   ·exact hK _ _ (k+1) (by omega) ⟨by omega,hyes (by simpa using hb)⟩ (bI (n0:=H.length) [] hG hB hC' hcl)
  ·have:k=a.length:=by omega
   subst this
   have X:=And.intro aO (Int.lt_irrefl (a.length:Int))
   (refine run ?_)
   refine Fin.out hR ⟨List.append_nil _,?_⟩
   rw[(gh p a b).2 ⟨hl,fun i h h'=>hall i h h' h⟩];rfl
 ·have hln:((a.length:Int)=(b.length:Int))=False:=by simp;omega
  have X:=And.intro X hln
  (refine run ?_)
  refine Fin.out hR ⟨rfl,?_⟩
  rw[mz hl];rfl
def QE (G:Gl) (m:Nat):Prop:=∀ (a b:Ex) (H:List av),a.wt≤m→a.wt<549755813888→b.wt<549755813888→aq Tryz.prog G 20 [a.sv,b.sv] H (fun r H'=>H'=H∧r= .bool (fT m a b))
theorem GX (G:Gl) (hG:ah G) (m:Nat) (hrec:QE G m) (x y:Bd) (hx:x.wt≤m) (hx2:x.wt<549755813888) (hy:y.wt<549755813888) (H:List av):aq Tryz.prog G 66 [.agg x.cells,.agg y.cells] H (fun r H'=>H'=H∧r= .bool (wN (fT m) x y)):=by
 have h1:=x.dw
 have h2:=y.dw
 have c1:=fun H=>hrec x.e y.e H (by omega) (by omega) (by omega)
 obtain⟨s1,e1⟩:=x
 obtain⟨s2,e2⟩:=y
 simp only[Bd.e,Bd.cells,wN,Bd.name] at*
 generalize fT m e1 e2=z at*
 refine bP [] Tryz.func66 Tryz.ntmps66 fun C R' hR hC hcl hB hC' X=>?_
 (refine run ?_;with_reducible repeat' first|exact trivial|(apply aJ.mk<;>intro hb)|apply bN.mk)
 all_goals
  refine aZ hR hC' hcl (.same _ rfl) ⟨rfl,?_⟩
  unfold KQ
  simp_all [aC]
theorem GW (G:Gl) (hG:ah G) (m:Nat) (hrec:QE G m) (x y:Al) (hx:x.wt≤m) (hx2:x.wt<549755813888) (hy:y.wt<549755813888) (H:List av):aq Tryz.prog G 68 [.agg x.cells,.agg y.cells] H (fun r H'=>H'=H∧r= .bool (wG (fT m) x y)):=by
 have h1:=x.dw
 have h2:=y.dw
 have h3:=x.jH
 have h4:=y.jH
 have c1:=fun H=>hrec x.body y.body H (by omega) (by omega) (by omega)
 have c2:=fun H=>wX G hG x.names y.names (by omega) (by omega) H
 obtain⟨k1,s1,n1,l1,e1⟩:=x
 obtain⟨k2,s2,n2,l2,e2⟩:=y
 simp only[Al.body,Al.cells,wG,Al.name,Al.kind,Al.n,Al.names] at*
 generalize fT m e1 e2=z at*
 generalize gg iB l1 l2=z2 at*
 refine bP [] Tryz.func68 Tryz.ntmps68 fun C R' hR hC hcl hB hC' X=>?_
 (refine run ?_;with_reducible repeat' first|exact trivial|(apply aJ.mk<;>intro hb)|apply bN.mk)
 all_goals
  refine aZ hR hC' hcl (.same _ rfl) ⟨rfl,?_⟩
  unfold Ho
  simp_all [aC]
theorem z8 (G:Gl) (hG:ah G):∀ m,QE G m
 |0,a,b,H,h,_,_=>absurd a.bZ (by omega)
 |m+1,a,b,H,hm,ha,hb=>by
  have hrec:=z8 G hG m
  obtain⟨k1,s1,n1,o1,l1,u1,b1,a1⟩:=a
  obtain⟨k2,s2,n2,o2,l2,u2,b2,a2⟩:=b
  have hle1:=Ex.dn k1 s1 n1 o1 l1 u1 b1 a1
  have hle2:=Ex.dn k2 s2 n2 o2 l2 u2 b2 a2
  have hw1:(Ex.mk k1 s1 n1 o1 l1 u1 b1 a1).wt=1+l1.length+cn u1+aV b1+cf a1:=by simp only[Ex.wt]
  have hw2:(Ex.mk k2 s2 n2 o2 l2 u2 b2 a2).wt=1+l2.length+cn u2+aV b2+cf a2:=by simp only[Ex.wt]
  have c1:=fun H=>wX G hG l1 l2 (by omega) (by omega) H
  have c2:=fun H=>Ik G hG (.fn (.func 20) [] []) (fT m) u1 u2 (by omega) (by omega) H rfl (fun x hx y hy L=>by
   have:=fg hx
   have:=fg hy
   exact aY.of (first:=[]) (args:=[SV.agg x.cells,SV.agg y.cells]) (cap:=[]) (hrec x y (H++L) (by omega) (by omega) (by omega)))
  have c3:=fun H=>Bh G hG (.fn (.func 66) [] []) (wN (fT m)) b1 b2 (by omega) (by omega) H rfl (fun x hx y hy L=>by
   have:=ea hx
   have:=ea hy
   exact aY.of (first:=[]) (args:=[SV.agg x.cells,SV.agg y.cells]) (cap:=[]) (GX G hG m hrec x y (by omega) (by omega) (by omega) (H++L)))
  have c4:=fun H=>Ii G hG (.fn (.func 68) [] []) (wG (fT m)) a1 a2 (by omega) (by omega) H rfl (fun x hx y hy L=>by
   have:=dZ hx
   have:=dZ hy
   exact aY.of (first:=[]) (args:=[SV.agg x.cells,SV.agg y.cells]) (cap:=[]) (GW G hG m hrec x y (by omega) (by omega) (by omega) (H++L)))
  have f1:∀ l:List Ex,l.map (fun e:Ex=>SV.agg e.cells)=ag l:=fun l=>(aL l).symm
  have f2:∀ l:List Bd,l.map (fun e:Bd=>SV.agg e.cells)=ad l:=fun l=>(az l).symm
  have f3:∀ l:List Al,l.map (fun e:Al=>SV.agg e.cells)=af l:=fun l=>(bh l).symm
  simp only[f1] at c2
  simp only[f2] at c3
  simp only[f3] at c4
  have e0:fT (m+1) (.mk k1 s1 n1 o1 l1 u1 b1 a1) (.mk k2 s2 n2 o2 l2 u2 b2 a2)=KU k1 k2 s1 s2 n1 n2 o1 o2 (gg iB l1 l2) (gg (fT m) u1 u2) (gg (wN (fT m)) b1 b2) (gg (wG (fT m)) a1 a2):=rfl
  rw[e0]
  clear e0 f1 f2 f3
  generalize gg iB l1 l2=z1 at*
  generalize gg (fT m) u1 u2=z2 at*
  generalize gg (wN (fT m)) b1 b2=z3 at*
  generalize gg (wG (fT m)) a1 a2=z4 at*
  refine bP [] Tryz.func20 Tryz.ntmps20 fun C R' hR hC hcl hB hC' X=>?_
  (refine run ?_;with_reducible repeat' first|exact trivial|(apply aJ.mk<;>intro hb)|apply bN.mk)
  all_goals
   refine aZ hR hC' hcl (.same _ rfl) ⟨rfl,?_⟩
   unfold KU
   simp_all [aC]
theorem K9 (G:Gl) (hG:ah G) (p:Pg) (k:Int) (H:List av) (hw:aV p.binds<549755813887) (hcn:p.cons.length<1099511627776) (hne:¬ bJ p=0):
 aq Tryz.prog G 10 [p.sv,.int .i64 k] H (fun r H'=>H'=H∧r= .tuple [.agg [.list 4 [],.list 9 []],.int .i64 (bJ p)]):=by
 have c1:=fun H=>iM G hG p H hw hcn
 generalize bJ p=S at*
 obtain⟨cons,binds⟩:=p
 rw[show(Pg.mk cons binds).sv= .agg [.list 4 (ay cons),.list 9 (ad binds)] from rfl] at*
 have cC:=fun n=>aX n cons
 refine bP [] Tryz.func10 Tryz.ntmps10 fun C R' hR hC hcl hB hC' X=>?_
 have X:=And.intro aO hne
 (refine run ?_)
 exact Fin.aS (n0:=H.length) hR rfl hC' hcl (.tuple _ _ (.cons _ _ _ _ (.agg _ _ (.cons _ _ _ _ (.nil _) (.cons _ _ _ _ (.nil _) .nil))) (.cons _ _ _ _ (.same _ rfl) .nil))) ⟨rfl,rfl⟩
def NL (x y:Bd):Bool:=KQ x.name y.name (fT x.e.wt x.e y.e)
def x7 (p q:Pg):Bool:=gg NL p.binds q.binds
theorem ML (G:Gl) (hG:ah G) (x y:Bd) (hx:x.e.wt<549755813888) (hy:y.e.wt<549755813888) (H:List av):aq Tryz.prog G 25 [.agg x.cells,.agg y.cells] H (fun r H'=>H'=H∧r= .bool (NL x y)):=by
 have c1:=fun H=>z8 G hG x.e.wt x.e y.e H (Nat.le_refl _) hx hy
 obtain⟨s1,e1⟩:=x
 obtain⟨s2,e2⟩:=y
 simp only[Bd.e,Bd.cells,NL,Bd.name] at*
 generalize fT e1.wt e1 e2=z at*
 refine bP [] Tryz.func25 Tryz.ntmps25 fun C R' hR hC hcl hB hC' X=>?_
 (refine run ?_;with_reducible repeat' first|exact trivial|(apply aJ.mk<;>intro hb)|apply bN.mk)
 all_goals
  refine aZ (n0:=H.length) hR hC' hcl (.same _ rfl) ⟨rfl,?_⟩
  unfold KQ
  simp_all [aC]
theorem Ij (G:Gl) (hG:ah G) (a b:List Bd) (ha:aV a<549755813888) (hb:aV b<549755813888) (H:List av):
 aq Tryz.prog G 26 [.list 9 (ad a),.list 9 (ad b),.fn (.func 25) [] []] H (fun r H'=>H'=H∧r= .bool (gg NL a b)):=by
 have hla:=cM a
 have hlb:=cM b
 have h:=Bh G hG (.fn (.func 25) [] []) NL a b (by omega) (by omega) H rfl (fun x hx y hy L=>by
  have:=rW hx
  have:=rW hy
  exact aY.of (first:=[]) (args:=[SV.agg x.cells,SV.agg y.cells]) (cap:=[]) (ML G hG x y (by omega) (by omega) (H++L)))
 have f2:∀ l:List Bd,l.map (fun e:Bd=>SV.agg e.cells)=ad l:=fun l=>(az l).symm
 simp only[f2] at h
 exact h
def gu:Nat→Pg→Pg
 |0,p=>p
 |n+1,p=>if x7 p (cD p) then p else gu n (cD p)
theorem C6 (G:Gl) (hG:ah G) (hB0:dW G 0) (C0:Cx) (hb0:G.base=some C0) (hl0:lZ C0) {cs:List Cn} {P:aD→Prop} {L:Nat} (p:Pg) (h:mf cs P L p) (hcs:cs.length≤1000) (hPn:∀ i,i<82400000000→P (cx i))
 (hPl:∀ s,P s→s.length<4294967296) (hL:L<536870912) (n:Nat) (hn:n≤20) (H:List av):
 aq Tryz.prog G 10 [p.sv,.int .i64 n] H (fun r H'=>H'=H∧r= .tuple [(gu n p).sv,.int .i64 0]):=by
 have hwt:=h.wt
 have hcl0:p.cons.length≤1000:=by rw[h.cons];exact hcs
 have c1:=fun H=>iM G hG p H (by omega) (by omega)
 rw[h.lint] at c1
 obtain⟨cons,binds⟩:=p
 rw[show(Pg.mk cons binds).sv= .agg [.list 4 (ay cons),.list 9 (ad binds)] from rfl] at*
 have cC:=fun n=>aX n cons
 have hn0:¬ (n:Int)<0:=by omega
 have hn20:¬ (20:Int)<(n:Int):=by omega
 refine bP [] Tryz.func10 Tryz.ntmps10 fun C R' hR hC hcl hB hC' X=>?_
 have X:=fc aO hn0 hn20
 (refine run ?_)
 refine aA (fun a:Nat×Pg=>[(2,.ptr H.length 0 0 0),(4,.ptr (H.length+1) 0 0 0),(5,.int .i64 0),(7,.fn (.func 25) [] []),(23,.int .i64 n),(24,.int .i64 (a.1:Nat))])
  (fun a=>H++[.cells 0 2 [.agg [.list 4 (ay a.2.cons),.list 9 (ad a.2.binds)]],.cells 0 2 [.agg [.nil,.nil]]]) (fun a=>n - a.1) (fun a=>a.1≤n∧mf cs P (L+a.1*10200000) a.2∧gu n ⟨cons,binds⟩=gu (n - a.1) a.2) (0,⟨cons,binds⟩) ⟨Nat.zero_le _,by rw[Nat.zero_mul];exact h,rfl⟩ ?_ ?_
 ·exact Wk.sub (by simp[aW,look])
 rintro K ⟨i,q⟩ ⟨hi,hq,hrun⟩ hK
 dsimp only at hi hq hrun ⊢
 rw[hrun] at hR
 clear c1 X
 have hqw:=hq.wt
 have hpq:=fun H=>nD G hG hB0 C0 hb0 hl0 q hq hcs (fun i hi=>hPn i (by unfold NN at hi;omega)) hPl (by omega) H
 obtain⟨hqn,hql⟩:=hq.pass hcs (fun i hi=>hPn i (by unfold NN at hi;omega))
 have hqw2:=hqn.wt
 have heq:=fun H=>Ij G hG q.binds (cD q).binds (by omega) (by omega) H
 rcases Nat.lt_or_ge i n with hlt|hge
 ·have hrn:gu (n - i) q=if x7 q (cD q) then q else gu (n - (i+1)) (cD q):=by
   rw[show n - i=(n - (i+1))+1 by omega,gu]
  rw[hrn] at hR
  rw[show q.sv= .agg [.list 4 (ay q.cons),.list 9 (ad q.binds)] from rfl,show(cD q).sv= .agg [.list 4 (ay (cD q).cons),.list 9 (ad (cD q).binds)] from rfl] at hpq
  rw[show gg NL q.binds (cD q).binds=x7 q (cD q) from rfl] at heq
  have hqn:mf cs P (L+(i+1)*10200000) (cD q):=by rw[show L+(i+1)*10200000=L+i*10200000+10200000 by omega];exact hqn
  generalize hQ2:cD q=q2 at*
  have hcc2:q2.cons=q.cons:=by rw[hqn.cons,hq.cons]
  have hil:(i:Int)<(n:Int):=by omega
  have X:=And.intro aO hil
  have c1:=hpq
  have c2:=heq
  cases hsb:x7 q q2 with
  |true=>
   rw[hsb] at c2 hR
   simp only[if_true] at hR
   clear hK
   (refine run ?_)
   exact Fin.aS (n0:=H.length) hR rfl hC' hcl (.same _ (by simp only[aC,SV.under,SV.aj,aX,aK,Bool.and_self])) ⟨rfl,rfl⟩
  |false=>
   rw[hsb] at c2 hR
   simp only[Bool.false_eq_true,if_false] at hR
   (refine run ?_)
   refine hK _ _ (i+1,q2) (by dsimp only;omega) ⟨by dsimp only;omega,hqn,by dsimp only;rw[hrun,hrn,hsb];rfl⟩ ?_
   have cC:=fun n=>aX n q2.cons
   exact bI (n0:=H.length) [(H.length,0),(H.length+1,0)] hG hB hC' hcl
 obtain rfl:i=n:=by omega
 clear hK
 rw[Nat.sub_self,gu] at hR
 have hirr:=Int.lt_irrefl (i:Int)
 have X:=And.intro aO hirr
 (refine run ?_)
 exact Fin.aS (n0:=H.length) hR rfl hC' hcl (.same _ (by simp only[aC,SV.under,SV.aj,aX,aK,Bool.and_self])) ⟨rfl,rfl⟩
section
theorem nJ {α:Type} {p:α→α→Bool}:∀ (a b:List α),(∀ x∈a,∀ y,p x y=true→x=y)→gg p a b=true→a=b
 |[],[],_,_=>rfl
 |[],y::b,_,h=>by simp[gg] at h
 |x::a,[],_,h=>by simp[gg] at h
 |x::a,y::b,hp,h=>by
  rw[gg,Bool.and_eq_true] at h
  rw[hp x (List.mem_cons_self ..) y h.1,nJ a b (fun z hz=>hp z (List.mem_cons_of_mem _ hz)) h.2]
theorem CN (a b:List aD) (h:gg iB a b=true):a=b:=nJ a b (fun x _ y h=>of_decide_eq_true h) h
theorem tA:∀ (m:Nat) (a b:Ex),fT m a b=true→a=b
 |0,_,_,h=>by cases h
 |m+1,.mk k1 s1 n1 o1 l1 u1 b1 a1,.mk k2 s2 n2 o2 l2 u2 b2 a2,h=>by
  simp only[fT,KU,Bool.and_eq_true,decide_eq_true_eq] at h
  obtain⟨⟨⟨⟨⟨⟨⟨rfl,rfl⟩,rfl⟩,rfl⟩,h1⟩,h2⟩,h3⟩,h4⟩:=h
  obtain rfl:=CN _ _ h1
  obtain rfl:=nJ _ _ (fun x _ y=>tA m x y) h2
  obtain rfl:=nJ _ _ (fun x _ y h=>by
   obtain⟨xn,xe⟩:=x
   obtain⟨yn,ye⟩:=y
   simp only[wN,KQ,Bd.name,Bd.e,Bool.and_eq_true] at h
   rw[of_decide_eq_true h.1,tA m _ _ h.2]) h3
  obtain rfl:=nJ _ _ (fun x _ y h=>by
   obtain⟨xk,xs,xn,xl,xe⟩:=x
   obtain⟨yk,ys,yn,yl,ye⟩:=y
   simp only[wG,Ho,Al.kind,Al.name,Al.n,Al.names,Al.body,Bool.and_eq_true] at h
   obtain⟨⟨⟨⟨q1,q2⟩,q3⟩,h5⟩,h6⟩:=h
   rw[of_decide_eq_true q1,of_decide_eq_true q2,of_decide_eq_true q3,CN _ _ h5,tA m _ _ h6]) h4
  rfl
theorem vA {p q:Pg} (hc:p.cons=q.cons) (h:x7 p q=true):p=q:=by
 obtain⟨c1,b1⟩:=p
 obtain⟨c2,b2⟩:=q
 have hb:b1=b2:=nJ _ _ (fun x _ y h=>by
  obtain⟨xn,xe⟩:=x
  obtain⟨yn,ye⟩:=y
  simp only[NL,KQ,Bd.name,Bd.e,Bool.and_eq_true] at h
  rw[of_decide_eq_true h.1,tA _ _ _ h.2]) h
 dsimp only at hc
 rw[hc,hb]
section
variable {cs:List Cn} {P:aD→Prop}
theorem mf.mono {L L':Nat} {p:Pg} (h:mf cs P L p) (hl:L≤L'):mf cs P L' p:=⟨h.cons,h.lint,h.nm,Nat.le_trans h.lam hl⟩
theorem nh (hcs:cs.length≤1000) (hPn:∀ i,i<82400000000→P (cx i)):∀ (n:Nat) (p:Pg) (L:Nat),mf cs P L p→L+n*10200000<1073741824→mf cs P (L+n*10200000) (gu n p)∧(gu n p).binds.length≤p.binds.length
 |0,p,L,h,_=>⟨h.mono (by omega),Nat.le_refl _⟩
 |n+1,p,L,h,hL=>by
  rw[gu]
  split
  ·exact⟨h.mono (by omega),Nat.le_refl _⟩
  ·obtain⟨h1,h2⟩:=h.pass hcs (fun i hi=>hPn i (by unfold NN at hi;omega))
   obtain⟨h3,h4⟩:=nh hcs hPn n (cD p) _ h1 (by omega)
   exact⟨h3.mono (by omega),Nat.le_trans h4 h2⟩
theorem pt (p:Pg):(cD p).cons=p.cons:=by unfold cD;split<;>rfl
theorem xV:∀ (n:Nat) (p:Pg),cD (gu n p)=gu (n+1) p
 |0,p=>by
  rw[gu,gu]
  split
  ·rename_i h
   exact(vA (pt p).symm h).symm
  ·rfl
 |n+1,p=>by
  rw[gu,gu]
  split
  ·rename_i h
   exact(vA (pt p).symm h).symm
  ·exact xV n (cD p)
end
mutual
theorem DO:∀ e:Ex,ms (wO 0 0) e≤e.wt
 | .mk k s n o ns ae binds alts=>by
  have h1:=E9 ae
  have h2:=zq binds
  have h3:=E8 alts
  simp only[Ce,wO,Ex.names,Ex.binds,Ex.alts,Ex.wt,Oq,Nat.zero_mul,Nat.zero_add,Nat.add_zero] at*
  omega
theorem E9:∀ l:List Ex,eF (wO 0 0) l≤cn l
 |[]=>Nat.le_refl _
 |e::r=>by
  have h1:=DO e
  have h2:=E9 r
  simp only[eF,cn] at*
  omega
theorem zq:∀ l:List Bd,dp (wO 0 0) l≤aV l
 |[]=>Nat.le_refl _
 | .mk t e::r=>by
  have h1:=DO e
  have h2:=zq r
  simp only[dp,Ou,aV,Bd.wt] at*
  omega
theorem E8:∀ l:List Al,eO (wO 0 0) l≤cf l
 |[]=>Nat.le_refl _
 | .mk k s n ns e::r=>by
  have h1:=DO e
  have h2:=E8 r
  simp only[eO,Ov,cf,Al.wt] at*
  omega
end
theorem fh (i:Nat) (h:i<82400000000):3≤(cx i).length∧(cx i).length<4294967296:=by
 have h1:=uS (i:Int) (by omega) (by omega)
 have h2:0<(Lib.itoa (i:Int)).length:=by
  have:=yS ((i:Int).toNat)
  have he:Lib.itoa (i:Int)=Lib.decDigits (i:Int).toNat:=by unfold Lib.itoa;rw[if_neg (by omega)]
  rw[he]
  exact List.length_pos_iff.2 this
 unfold cx
 rw[List.length_append]
 simp only[List.length_cons,List.length_nil]
 omega
def L0:Nat:=67108864
theorem vp {P:aD→Prop} {p:Pg} (h0:bJ p=0) (hw:aV p.binds<67108864) (hP:∀ s∈aU p.binds,P s):mf p.cons P L0 p:=
 ⟨rfl,h0,hP,by have:=zq p.binds;unfold L0;omega⟩
theorem GD {p:Pg} (h:bJ p=0):0<p.binds.length:=by
 obtain⟨cs,l⟩:=p
 cases l with
 |cons b r=>exact Nat.succ_pos _
 |nil=>
  exfalso
  unfold bJ at h
  dsimp only at h
  repeat' (split at h;· cases h)
  rename_i hm
  exact hm rfl
end
theorem rM (G:Gl) (hG:ah G) (hB0:dW G 0) (C0:Cx) (hb0:G.base=some C0) (hl0:lZ C0) (haw:∀ H,aq Tryz.prog G 8 [] H (fun r H'=>H'=H∧r= .bool true)) (p:Pg) (H:List av)
 (hpw:aV p.binds<67108864) (hcn:p.cons.length<1073741824) (hns:∀ s∈aU p.binds,s.length<4294967296):
 aq Tryz.prog G 6 [p.sv] H (fun r H'=>H'=H∧r= .bool true):=by
 have hlint:=fun H=>iM G hG p H (by omega) (by omega)
 have hpg:bJ p=0→mf p.cons (fun s=>s.length<4294967296) L0 p:=fun h0=>vp h0 hpw hns
 have hps:=fun h0 hcs H=>nD G hG hB0 C0 hb0 hl0 p (hpg h0) hcs (fun i hi=>(fh i (by unfold NN L0 at hi;omega)).2) (fun s h=>h) (by unfold L0;omega) H
 have hrn:=fun h0 hcs H=>C6 G hG hB0 C0 hb0 hl0 p (hpg h0) hcs (fun i hi=>(fh i hi).2) (fun s h=>h) (by unfold L0;omega) 20 (by omega) H
 have hq:bJ p=0→p.cons.length≤1000→(cD p).binds.length≤p.binds.length∧(gu 20 p).binds.length≤(cD p).binds.length∧0<(gu 20 p).binds.length:=fun h0 hcs=>by
  obtain⟨h1,h2⟩:=(hpg h0).pass hcs (fun i hi=>(fh i (by unfold NN L0 at hi;omega)).2)
  obtain⟨h5,h6⟩:=nh hcs (fun i hi=>(fh i hi).2) 20 p _ (hpg h0) (by unfold L0;omega)
  refine⟨h2,?_,GD h5.lint⟩
  show(if x7 p (cD p) then p else gu 19 (cD p)).binds.length≤_
  split
  ·rename_i hs
   rw[← vA (pt p).symm hs]
   exact Nat.le_refl _
  ·exact(nh hcs (fun i hi=>(fh i hi).2) 19 (cD p) _ h1 (by unfold L0;omega)).2
 generalize bJ p=S at*
 generalize gu 20 p=R at*
 generalize cD p=Q at*
 clear hpg
 obtain⟨cons,binds⟩:=p
 rw[show(Pg.mk cons binds).sv= .agg [.list 4 (ay cons),.list 9 (ad binds)] from rfl] at*
 dsimp only at*
 rw[show Q.sv= .agg [.list 4 (ay Q.cons),.list 9 (ad Q.binds)] from rfl] at hps
 rw[show R.sv= .agg [.list 4 (ay R.cons),.list 9 (ad R.binds)] from rfl] at hrn
 have cC:=fun n=>aX n cons
 have l1:=aR binds
 have l2:=aR Q.binds
 have l3:=aR R.binds
 have c1:=haw
 refine bP [] Tryz.func6 Tryz.ntmps6 fun C R' hR hC hcl hB hC' X=>?_
 (refine run ?_)
 refine br (tH G hG cons binds _ (by omega) (by omega) hns) ?_
 rintro r H' ⟨rfl,b,rfl,hsm⟩
 cases b
 ·(refine run ?_)
  exact aZ (n0:=H.length) hR hC' hcl (.same _ rfl) ⟨rfl,rfl⟩
 have hcs:=hsm rfl
 have c2:=hlint
 by_cases h0:S=0
 rotate_left
 ·have X:=And.intro aO h0
  (refine run ?_)
  exact aZ (n0:=H.length) hR hC' hcl (.same _ rfl) ⟨rfl,rfl⟩
 subst h0
 have c3:=hps rfl hcs
 have c4:=hrn rfl hcs
 obtain⟨q1,q2,q3⟩:=hq rfl hcs
 have m1:¬ (binds.length:Int)<(Q.binds.length:Int):=by omega
 have m2:(R.binds.length:Int)≤(Q.binds.length:Int):=by omega
 have m3:(0:Int)<(R.binds.length:Int):=by omega
 have X:=eu aO l1 l2 l3 m1 m2 m3
 (refine run ?_)
 exact aZ (n0:=H.length) hR hC' hcl (.same _ rfl) ⟨rfl,by simp[aC]⟩
section
def IY (all:List Oper) (p:Env×List av):List (Env×List av)→Bool
 |[]=>false
 |q::r=>bif vF p.1 q.1 (dstsOf all)&&qR p.2 q.2 then true else IY all p r
def pq (all:List Oper):List (Env×List av)→List (Env×List av)→List (Env×List av)
 |[],l2=>l2
 |p::r,l2=>bif IY all p l2 then pq all r l2 else pq all r (p::l2)
def yT (all:List Oper) (f:Nat→Option (List (Env×List av))):List Nat→Option (List (Env×List av))
 |[]=>some []
 |j::js=>match f j with
  |some l1=>(match yT all f js with
   |some l2=>some (pq all l1 l2)
   |none=>none)
  |none=>none
theorem EX {all:List Oper} {p:Env×List av}:∀ {l:List (Env×List av)},IY all p l=true→∃ q∈l,q.2=p.2∧∀ t∈dstsOf all,look p.1 t=look q.1 t
 |[],h=>by cases h
 |q::r,h=>by
  unfold IY at h
  cases hb:(vF p.1 q.1 (dstsOf all)&&qR p.2 q.2) with
  |true=>
   rw[Bool.and_eq_true] at hb
   exact⟨q,List.mem_cons_self ..,(vD hb.2).symm,sJ hb.1⟩
  |false=>
   rw[hb,cond_false] at h
   obtain⟨q',h1,h2⟩:=EX h
   exact⟨q',List.mem_cons_of_mem _ h1,h2⟩
theorem rH {all:List Oper}:∀ (l1 l2:List (Env×List av)),(∀ p∈l1,∃ q∈pq all l1 l2,q.2=p.2∧∀ t∈dstsOf all,look p.1 t=look q.1 t)∧(∀ p∈l2,p∈pq all l1 l2)∧(∀ q∈pq all l1 l2,q∈l1∨q∈l2)
 |[],l2=>⟨fun p hp=>(by cases hp),fun p hp=>hp,fun q hq=> .inr hq⟩
 |p::r,l2=>by
  unfold pq
  cases hb:IY all p l2 with
  |true=>
   rw[cond_true]
   obtain⟨i1,i2,i3⟩:=rH (all:=all) r l2
   refine⟨fun p' hp'=>?_,i2,fun q hq=>?_⟩
   ·rcases List.mem_cons.1 hp' with rfl|hp'
    ·obtain⟨q,h1,h2⟩:=EX hb
     exact⟨q,i2 q h1,h2⟩
    ·exact i1 p' hp'
   ·rcases i3 q hq with h|h
    ·exact .inl (List.mem_cons_of_mem _ h)
    ·exact .inr h
  |false=>
   rw[cond_false]
   obtain⟨i1,i2,i3⟩:=rH (all:=all) r (p::l2)
   refine⟨fun p' hp'=>?_,fun q hq=>i2 q (List.mem_cons_of_mem _ hq),fun q hq=>?_⟩
   ·rcases List.mem_cons.1 hp' with rfl|hp'
    ·exact⟨_,i2 _ (List.mem_cons_self ..),rfl,fun _ _=>rfl⟩
    ·exact i1 p' hp'
   ·rcases i3 q hq with h|h
    ·exact .inl (List.mem_cons_of_mem _ h)
    ·rcases List.mem_cons.1 h with rfl|h
     ·exact .inl (List.mem_cons_self ..)
     ·exact .inr h
theorem ui {all:List Oper} {f:Nat→Option (List (Env×List av))}:∀ {l:List Nat} {L:List (Env×List av)},yT all f l=some L→(∀ j∈l,∃ lj,f j=some lj∧∀ p∈lj,∃ q∈L,q.2=p.2∧∀ t∈dstsOf all,look p.1 t=look q.1 t)∧∀ q∈L,∃ j∈l,∃ lj,f j=some lj∧q∈lj
 |[],L,h=>by
  cases h
  exact⟨fun j hj=>(by cases hj),fun q hq=>(by cases hq)⟩
 |j::js,L,h=>by
  unfold yT at h
  split at h
  ·rename_i l1 hf
   split at h
   ·rename_i l2 hr
    cases h
    obtain⟨i1,i2⟩:=ui hr
    obtain⟨m1,m2,m3⟩:=rH (all:=all) l1 l2
    refine⟨fun j' hj'=>?_,fun q hq=>?_⟩
    ·rcases List.mem_cons.1 hj' with rfl|hj'
     ·exact⟨l1,hf,m1⟩
     ·obtain⟨lj,e1,e2⟩:=i1 j' hj'
      refine⟨lj,e1,fun p hp=>?_⟩
      obtain⟨q,h1,h2⟩:=e2 p hp
      exact⟨q,m2 q h1,h2⟩
    ·rcases m3 q hq with h|h
     ·exact⟨j,List.mem_cons_self ..,l1,hf,h⟩
     ·obtain⟨j',h1,h2⟩:=i2 q h
      exact⟨j',List.mem_cons_of_mem _ h1,h2⟩
   ·cases h
  ·cases h
section
variable (call:RC) (G:Gl) (T:bX) (own:List Nat) (nt:Nat)
def pQ (all:List Oper):Nat→Nat→List Nat→Env→List av→Option (List (Env×List av))
 |0,_,_,_,_=>none
 |n+1,m,ex,env,H=>
  bif Nat.ble all.length m then some [(env,H)] else
  bif fB m ex then pQ all n (m+1) ex env H else
  match CM own all m ex with
  |some o=>(match qg G T own all o env H with
   |some v=>pQ all n (m+1) ex (cE o.dst v env) H
   |none=>none)
  |none=>match eB own m ex 0 all with
   |some i=>(match all[i]? with
    |some o=>(match qg G T own all o env H with
     |some v=>pQ all n m (i::ex) (cE o.dst v env) H
     |none=>none)
    |none=>none)
   |none=>(match eY m ex 0 all with
    |[]=>none
    |js=>yT all (fun j=>match all[j]? with
     |some o=>(match N3 call G T own all o env H with
      |some (x,H')=>bif Nx G T own all (cE o.dst x env) H' (C2 own all (cT (kA all) j) m++CZ own all (cT (kA all) j) ex) then pQ all n m (j::ex) (cE o.dst x env) H' else none
      |none=>none)
     |none=>none) js)
end
section
variable {P:Program} {G:Gl} {T:bX} {own:List Nat} {nt:Nat} {C:Cx} {call:RC} {ρ:Option Nat}
theorem kH (hc:yA P G call) {all:List Oper}:∀ (n m:Nat) (ex:List Nat) (env:Env) (H:List av) {L:List (Env×List av)},pQ call G T own all n m ex env H=some L→(∃ N,fF P G T own all N m ex env H (fun e h=>∃ p∈L,h=p.2∧jJ e p.1))∧∀ p∈L,∀ t,t∉dstsOf all→look p.1 t=look env t
 |0,m,ex,env,H,L,h=>by cases h
 |n+1,m,ex,env,H,L,h=>by
  unfold pQ at h
  cases h1:Nat.ble all.length m with
  |true=>
   rw[h1,cond_true] at h
   cases h
   refine⟨⟨1,Ie h1 ⟨_,List.mem_singleton.2 rfl,rfl,jJ.refl _⟩⟩,fun p hp _ _=>?_⟩
   rw[List.mem_singleton.1 hp]
  |false=>
   rw[h1,cond_false] at h
   cases h2:fB m ex with
   |true=>
    rw[h2,cond_true] at h
    obtain⟨⟨N,hN⟩,hl⟩:=kH hc n (m+1) ex env H h
    exact⟨⟨N,Ic h2 hN⟩,hl⟩
   |false=>
    rw[h2,cond_false] at h
    split at h
    ·rename_i o hs
     split at h
     ·rename_i v hv
      obtain⟨⟨N,hN⟩,hl⟩:=kH hc n (m+1) ex _ H h
      obtain⟨g1,g2,g3,g4⟩:=vO hs
      refine⟨⟨N+1,fun L hL=>?_⟩,fun p hp t ht=>(hl p hp t ht).trans (og g1 ht)⟩
      exact .inl ⟨m,_,v,g1,qF hL g2,g3,sY hL g4,hv,hN (m::L) (Eu hL)⟩
     ·cases h
    ·split at h
     ·rename_i i hf
      split at h
      ·rename_i o ho
       split at h
       ·rename_i v hv
        obtain⟨⟨N,hN⟩,hl⟩:=kH hc n m (i::ex) _ H h
        refine⟨⟨N+1,fun L hL=>?_⟩,fun p hp t ht=>(hl p hp t ht).trans (og ho ht)⟩
        obtain⟨k,o',g1,g2,g3,g4,g5⟩:=lp hf
        rw[Nat.zero_add] at g1
        subst g1
        rw[ho] at g2
        cases g2
        exact .inl ⟨i,_,v,ho,DW hL g3,g4,sY hL g5,hv,hN (i::L) (C5 hL i)⟩
       ·cases h
      ·cases h
     ·rename_i hf
      split at h
      ·cases h
      ·rename_i js hne
       obtain⟨hall,hback⟩:=ui h
       have open_:∀ {j:Nat} {lj:List (Env×List av)},(match all[j]? with
        |some o=>(match N3 call G T own all o env H with
         |some (x,H')=>bif Nx G T own all (cE o.dst x env) H' (C2 own all (cT (kA all) j) m++CZ own all (cT (kA all) j) ex) then pQ call G T own all n m (j::ex) (cE o.dst x env) H' else none
         |none=>none)
        |none=>none)=some lj→∃ o x H1,all[j]? =some o∧N3 call G T own all o env H=some (x,H1)∧Nx G T own all (cE o.dst x env) H1 (C2 own all (cT (kA all) j) m++CZ own all (cT (kA all) j) ex)=true∧pQ call G T own all n m (j::ex) (cE o.dst x env) H1=some lj:=by
        intro j lj hfj
        split at hfj
        ·rename_i o ho
         split at hfj
         ·rename_i x H1 hg
          cases hb:Nx G T own all (cE o.dst x env) H1 (C2 own all (cT (kA all) j) m++CZ own all (cT (kA all) j) ex) with
          |false=>rw[hb] at hfj;cases hfj
          |true=>rw[hb,cond_true] at hfj;exact⟨o,x,H1,ho,hg,hb,hfj⟩
         ·cases hfj
        ·cases hfj
       have hrest:∀ p∈L,∀ t,t∉dstsOf all→look p.1 t=look env t:=by
        intro p hp t ht
        obtain⟨j,hj,lj,e1,e2⟩:=hback p hp
        obtain⟨o,x,H1,ho,hg,hb,he⟩:=open_ e1
        exact((kH hc n m (j::ex) _ H1 he).2 p e2 t ht).trans (og ho ht)
       obtain⟨N,hN⟩:=common (P:=fun N j=>∃ o,all[j]? =some o∧ll P G T own all o env H fun x H1=>yx G T own all j m ex (cE o.dst x env) H1∧(fF P G T own all) N m (j::ex) (cE o.dst x env) H1 (fun e h=>∃ p∈L,h=p.2∧jJ e p.1))
        (fun j n n' hn ⟨o,ho,hx⟩=>⟨o,ho,kK (fun x H1 hh=>⟨hh.1,fF.le hn hh.2⟩) hx⟩) (eY m ex 0 all) (fun j hj=>by
         obtain⟨lj,e1,e2⟩:=hall j hj
         obtain⟨o,x,H1,ho,hg,hb,he⟩:=open_ e1
         obtain⟨⟨N,hN⟩,hl2⟩:=kH hc n m (j::ex) _ H1 he
         refine⟨N,o,ho,LL hc hg ⟨Hw hb,fF.Nn (fun e h hh=>?_) hN⟩⟩
         obtain⟨p,hp,h3,h4⟩:=hh
         obtain⟨q,hq,h5,h6⟩:=e2 p hp
         refine⟨q,hq,h3.trans h5.symm,h4.trans fun t=>?_⟩
         by_cases ht:t∈dstsOf all
         ·exact h6 t ht
         ·rw[hl2 p hp t ht,og ho ht,hrest q hq t ht])
       cases hr:eY m ex 0 all with
       |nil=>exact(hne hr).elim
       |cons j0 js0=>
        rw[hr] at hN
        exact⟨⟨N+1,uY hf hr hN⟩,hrest⟩
end
def Gw (id:Nat):List Nat→Nat→Option Nat
 |[],_=>none
 |k::r,i=>bif Nat.beq k id then some i else Gw id r (i+1)
theorem qi {id:Nat}:∀ {ks:List Nat} {i j:Nat},Gw id ks i=some j→∃ k,j=i+k∧ks[k]? =some id
 |[],i,j,h=>by cases h
 |k::r,i,j,h=>by
  unfold Gw at h
  cases hb:Nat.beq k id with
  |true=>rw[hb] at h;cases h;exact⟨0,rfl,by rw[Nat.eq_of_beq_eq_true hb];rfl⟩
  |false=>
   rw[hb,cond_false] at h
   obtain⟨m,h1,h2⟩:=qi h
   exact⟨m+1,by omega,h2⟩
def vv (H:List av) (n:Nat) (ks:List Nat):Nat→SV→Option SV
 |0,_=>none
 |d+1,x=>bif x.under n then some x else match x with
  | .agg fs=>(match jk (vv H n ks d) fs with
   |some ys=>some (.agg ys)
   |none=>none)
  | .tuple fs=>(match jk (vv H n ks d) fs with
   |some ys=>some (.tuple ys)
   |none=>none)
  | .list sz fs=>(match jk (vv H n ks d) fs with
   |some ys=>some (.list sz ys)
   |none=>none)
  | .fn f xs ys=>(match jk (vv H n ks d) xs with
   |some us=>(match jk (vv H n ks d) ys with
    |some vs=>some (.fn f us vs)
    |none=>none)
   |none=>none)
  | .sl id g off len=>(match Gw id ks 0 with
   |some i=>(match H[id]? with
    |some (.cells g' sz vals)=>bif Nat.beq g g' then some (.sl (n+i) 0 off len) else none
    |_=>none)
   |none=>none)
  | .ptr id g j o=>(match Gw id ks 0 with
   |some i=>(match H[id]? with
    |some (.cells g' sz vals)=>bif Nat.beq g g' then some (.ptr (n+i) 0 j o) else none
    |_=>none)
   |none=>none)
  | .map id=>(match Gw id ks 0 with
   |some i=>(match H[id]? with
    |some (.map kd es)=>some (.map (n+i))
    |_=>none)
   |none=>none)
  |_=>none
def iA (ks:List Nat):dP:=ks.map fun id=>(id,0)
theorem gE {H:List av} {n:Nat} {ks:dP} {f:SV→Option SV} (hf:∀ x y,f x=some y→bF H n ks x y):∀ {xs ys:List SV},jk f xs=some ys→b7 H n ks xs ys
 |[],ys,h=>by cases h;exact .nil
 |x::r,ys,h=>by
  unfold jk at h
  split at h
  ·rename_i y hy
   split at h
   ·rename_i zs hzs
    cases h
    exact .cons _ _ _ _ (hf _ _ hy) (gE hf hzs)
   ·cases h
  ·cases h
theorem pj {ks:List Nat} {i id:Nat} (h:ks[i]? =some id):(iA ks)[i]? =some (id,0):=by
 unfold iA
 rw[List.getElem?_map,h];rfl
theorem jZ {H:List av} {n:Nat} {ks:List Nat}:∀ (d:Nat) (x y:SV),vv H n ks d x=some y→bF H n (iA ks) x y
 |0,x,y,h=>by cases h
 |d+1,x,y,h=>by
  unfold vv at h
  cases hu:x.under n with
  |true=>rw[hu,cond_true] at h;cases h;exact .same _ hu
  |false=>
   rw[hu,cond_false] at h
   cases x with
   |agg fs=>
    simp only at h
    split at h
    ·rename_i ys hy;cases h;exact .agg _ _ (gE (jZ d) hy)
    ·cases h
   |tuple fs=>
    simp only at h
    split at h
    ·rename_i ys hy;cases h;exact .tuple _ _ (gE (jZ d) hy)
    ·cases h
   |list sz fs=>
    simp only at h
    split at h
    ·rename_i ys hy;cases h;exact .list _ _ _ (gE (jZ d) hy)
    ·cases h
   |fn f xs ys=>
    simp only at h
    split at h
    ·rename_i us hus
     split at h
     ·rename_i vs hvs;cases h;exact .fn _ _ _ _ _ (gE (jZ d) hus) (gE (jZ d) hvs)
     ·cases h
    ·cases h
   |sl id g off len=>
    simp only at h
    split at h
    ·rename_i i hi
     obtain⟨k,rfl,hk⟩:=qi hi
     split at h
     ·rename_i g' sz vals hH
      cases hg:Nat.beq g g' with
      |false=>rw[hg] at h;cases h
      |true=>
       rw[hg,cond_true] at h
       cases h
       have hg:=Nat.eq_of_beq_eq_true hg
       subst hg
       have:=bF.Jb (H:=H) (n:=n) (ks:=iA ks) k id 0 g off len sz vals (pj hk) hH (Nat.zero_le _)
       simpa using this
     ·cases h
    ·cases h
   |ptr id g j o=>
    simp only at h
    split at h
    ·rename_i i hi
     obtain⟨k,rfl,hk⟩:=qi hi
     split at h
     ·rename_i g' sz vals hH
      cases hg:Nat.beq g g' with
      |false=>rw[hg] at h;cases h
      |true=>
       rw[hg,cond_true] at h
       cases h
       have hg:=Nat.eq_of_beq_eq_true hg
       subst hg
       have:=bF.E5 (H:=H) (n:=n) (ks:=iA ks) k id 0 g j o sz vals (pj hk) hH (Nat.zero_le _)
       simpa using this
     ·cases h
    ·cases h
   |map id=>
    simp only at h
    split at h
    ·rename_i i hi
     obtain⟨k,rfl,hk⟩:=qi hi
     split at h
     ·rename_i kd es hH
      cases h
      have:=bF.E4 (H:=H) (n:=n) (ks:=iA ks) k id 0 kd es (pj hk) hH
      simpa using this
     ·cases h
    ·cases h
   |_=>cases h
def DH (f:SV→List Nat):List SV→List Nat
 |[]=>[]
 |x::r=>f x++DH f r
def BI (n:Nat):Nat→SV→List Nat
 |0,_=>[]
 |d+1,x=>match x with
  | .agg fs=>DH (BI n d) fs
  | .tuple fs=>DH (BI n d) fs
  | .list _ fs=>DH (BI n d) fs
  | .fn _ xs ys=>DH (BI n d) xs++DH (BI n d) ys
  | .sl id _ _ _=>bif Nat.ble n id then [id] else []
  | .ptr id _ _ _=>bif Nat.ble n id then [id] else []
  | .map id=>bif Nat.ble n id then [id] else []
  |_=>[]
def Hv:List Nat→List Nat→List Nat
 |ks,[]=>ks
 |ks,x::r=>bif fB x ks then Hv ks r else Hv (ks++[x]) r
def Oe (n:Nat) (H:List av):List Nat→List Nat
 |[]=>[]
 |id::r=>(match H[id]? with
  |some (.cells _ _ vals)=>DH (BI n 8) vals
  |some (.map _ es)=>es.foldr (fun p l=>BI n 8 p.2++l) []
  |_=>[])++Oe n H r
def JG:List Nat→Bool
 |[]=>true
 |k::r=>bif fB k r then false else JG r
theorem Fu:∀ {ks:List Nat},JG ks=true→ks.Nodup
 |[],_=>List.nodup_nil
 |k::r,h=>by
  unfold JG at h
  cases hb:fB k r with
  |true=>rw[hb] at h;cases h
  |false=>
   rw[hb,cond_false] at h
   refine List.nodup_cons.2 ⟨fun hm=>?_,Fu h⟩
   rw[dh.2 hm] at hb
   cases hb
def MK (f:SV→Option SV) (n:Nat):List (SV×SV)→Option (List (SV×SV))
 |[]=>some []
 |(k,x)::r=>bif k.under n then (match f x with
  |some y=>(match MK f n r with
   |some r'=>some ((k,y)::r')
   |none=>none)
  |none=>none) else none
theorem FH {H:List av} {n:Nat} {ks:dP} {f:SV→Option SV} (hf:∀ x y,f x=some y→bF H n ks x y):∀ {es fs:List (SV×SV)},MK f n es=some fs→iw H n ks es fs
 |[],fs,h=>by cases h;exact .nil
 |(k,x)::r,fs,h=>by
  unfold MK at h
  cases hk:k.under n with
  |false=>rw[hk] at h;cases h
  |true=>
   rw[hk,cond_true] at h
   split at h
   ·rename_i y hy
    split at h
    ·rename_i r' hr;cases h;exact .cons _ _ _ _ _ hk (hf _ _ hy) (FH hf hr)
    ·cases h
   ·cases h
def uU (H:List av) (n:Nat) (ks:List Nat):List Nat→Option (List av)
 |[]=>some []
 |id::r=>bif Nat.ble n id then (match H[id]? with
  |some (.cells _ sz vals)=>(match jk (vv H n ks 12) vals with
   |some ys=>(match uU H n ks r with
    |some bs=>some (.cells 0 sz ys::bs)
    |none=>none)
   |none=>none)
  |some (.map kd es)=>(match MK (vv H n ks 12) n es with
   |some fs=>(match uU H n ks r with
    |some bs=>some (.map kd fs::bs)
    |none=>none)
   |none=>none)
  |_=>none) else none
theorem rD {H:List av} {n:Nat} {ks:List Nat}:∀ {r:List Nat} {bs:List av},uU H n ks r=some bs→bH H n (iA ks) (iA r) bs
 |[],bs,h=>by cases h;exact .nil
 |id::r,bs,h=>by
  unfold uU at h
  cases hn:Nat.ble n id with
  |false=>rw[hn] at h;cases h
  |true=>
   rw[hn,cond_true] at h
   have hn:=Nat.le_of_ble_eq_true hn
   split at h
   ·rename_i g sz vals hH
    split at h
    ·rename_i ys hy
     split at h
     ·rename_i bs' hb;cases h;exact .cells id 0 _ _ _ _ _ _ hH hn (Nat.zero_le _) (gE (jZ 12) (by rw[List.drop_zero];exact hy)) (rD hb)
     ·cases h
    ·cases h
   ·rename_i kd es hH
    split at h
    ·rename_i fs hf
     split at h
     ·rename_i bs' hb;cases h;exact .map id _ _ _ _ _ hH hn (FH (jZ 12) hf) (rD hb)
     ·cases h
    ·cases h
   ·cases h
def DB (f:SV→Option SV) (env:Env):List Nat→Env
 |[]=>[]
 |t::r=>match oJ env t with
  |some x=>(match f x with
   |some y=>(t,y)::DB f env r
   |none=>DB f env r)
  |none=>DB f env r
def j9 (n:Nat) (ts:List Nat) (seen:List Nat):Env→Env
 |[]=>[]
 |(t,x)::r=>bif fB t ts||fB t seen then j9 n ts seen r else bif x.under n then (t,x)::j9 n ts (t::seen) r else j9 n ts (t::seen) r
theorem sZ {H:List av} {n:Nat} {ks:dP} {f:SV→Option SV} (hf:∀ x y,f x=some y→bF H n ks x y) {env:Env}:∀ (ts:List Nat),∀ p∈DB f env ts,∃ x,look env p.1=some x∧bF H n ks x p.2
 |[],p,hp=>by cases hp
 |t::r,p,hp=>by
  unfold DB at hp
  split at hp
  ·rename_i x hx
   rw[gm] at hx
   split at hp
   ·rename_i y hy
    rcases List.mem_cons.1 hp with rfl|hp
    ·exact⟨x,hx,hf _ _ hy⟩
    ·exact sZ hf r p hp
   ·exact sZ hf r p hp
  ·exact sZ hf r p hp
theorem pO {n:Nat} {ts:List Nat}:∀ (env:Env) (seen:List Nat),∀ p∈j9 n ts seen env,p.1∉seen∧look env p.1=some p.2∧p.2.under n=true
 |[],seen,p,hp=>by cases hp
 |(t,x)::r,seen,p,hp=>by
  unfold j9 at hp
  have step:∀ (seen':List Nat),(∀ s,s∈seen→s∈seen')→(t∈ts∨t∈seen')→p∈j9 n ts seen' r→(p.1≠t)→p.1∉seen∧look ((t,x)::r) p.1=some p.2∧p.2.under n=true:=by
   intro seen' h1 h2 h3 h4
   obtain⟨g1,g2,g3⟩:=pO r seen' p h3
   refine⟨fun h=>g1 (h1 _ h),?_,g3⟩
   unfold look
   rw[if_neg h4]
   exact g2
  cases hb:(fB t ts||fB t seen) with
  |true=>
   rw[hb,cond_true] at hp
   rw[Bool.or_eq_true] at hb
   have hne:p.1≠t:=by
    intro e
    obtain⟨g1,g2,g3⟩:=pO r seen p hp
    have hts:p.1∉ts:=envR_ts r seen p hp
    rcases hb with hb|hb
    ·exact hts (e ▸ dh.1 hb)
    ·exact g1 (e ▸ dh.1 hb)
   exact step seen (fun s h=>h) (by rcases hb with hb|hb;exact .inl (dh.1 hb);exact .inr (dh.1 hb)) hp hne
  |false=>
   rw[hb,cond_false] at hp
   rw[Bool.or_eq_false_iff] at hb
   have hts:t∉seen:=fun h=>by rw[dh.2 h] at hb;cases hb.2
   cases hu:x.under n with
   |true=>
    rw[hu,cond_true] at hp
    rcases List.mem_cons.1 hp with rfl|hp
    ·refine⟨hts,?_,hu⟩
     unfold look
     rw[if_pos rfl]
    ·have hne:p.1≠t:=fun e=>(pO r (t::seen) p hp).1 (e ▸ List.mem_cons_self ..)
     exact step (t::seen) (fun s h=>List.mem_cons_of_mem _ h) (.inr (List.mem_cons_self ..)) hp hne
   |false=>
    rw[hu,cond_false] at hp
    have hne:p.1≠t:=fun e=>(pO r (t::seen) p hp).1 (e ▸ List.mem_cons_self ..)
    exact step (t::seen) (fun s h=>List.mem_cons_of_mem _ h) (.inr (List.mem_cons_self ..)) hp hne
where
 envR_ts {n:Nat} {ts:List Nat}:∀ (env:Env) (seen:List Nat),∀ p∈j9 n ts seen env,p.1∉ts
 |[],seen,p,hp=>by cases hp
 |(t,x)::r,seen,p,hp=>by
  unfold j9 at hp
  cases hb:(fB t ts||fB t seen) with
  |true=>rw[hb,cond_true] at hp;exact envR_ts r seen p hp
  |false=>
   rw[hb,cond_false] at hp
   rw[Bool.or_eq_false_iff] at hb
   cases hu:x.under n with
   |true=>
    rw[hu,cond_true] at hp
    rcases List.mem_cons.1 hp with rfl|hp
    ·intro h;rw[dh.2 h] at hb;cases hb.1
    ·exact envR_ts r _ p hp
   |false=>rw[hu,cond_false] at hp;exact envR_ts r _ p hp
theorem vQ {H:List av} {n:Nat} {ks:dP} {env:Env}:∀ {env2:Env},(∀ p∈env2,∃ x,look env p.1=some x∧bF H n ks x p.2)→hY H n ks env2 env
 |[],_=>trivial
 |(t,y)::r,h=>⟨h (t,y) (List.mem_cons_self ..),vQ fun p hp=>h p (List.mem_cons_of_mem _ hp)⟩
def JC (n:Nat) (env:Env):List Nat→List Nat
 |[]=>[]
 |t::r=>(match oJ env t with
  |some x=>BI n 8 x
  |none=>[])++JC n env r
def Py (n:Nat) (ts:List Nat) (env:Env) (H:List av):List Nat:=
 let k0:=Hv [] (JC n env ts)
 let k1:=Hv k0 (Oe n H k0)
 Hv k1 (Oe n H k1)
def Da (n:Nat) (ts ks:List Nat) (env:Env) (H:List av):Option (Env×List av):=
 bif Nat.ble n H.length&&(H.take n).all (·.rV n)&&JG ks then (match uU H n ks ks with
  |some KB=>some (DB (vv H n ks 12) env ts++j9 n ts [] env,H.take n++KB)
  |none=>none) else none
def Db (n:Nat) (ts:List Nat) (p:Env×List av):Option (Env×List av):=Da n ts (Py n ts p.1 p.2) p.1 p.2
theorem wR {G:Gl} {nt:Nat} {C:Cx} {n:Nat} {ts ks:List Nat} {env:Env} {H:List av} {q:Env×List av} (hG:ah G) (hB:dW G n) (hC:C.H.length≤n) (h:Da n ts ks env H=some q):Wk G nt C ⟨env,H⟩ ⟨q.1,q.2⟩:=by
 unfold Da at h
 cases hb:(Nat.ble n H.length&&(H.take n).all (·.rV n)&&JG ks) with
 |false=>rw[hb] at h;cases h
 |true=>
  rw[hb,cond_true] at h
  simp only[Bool.and_eq_true] at hb
  obtain⟨⟨h1,h2⟩,h3⟩:=hb
  split at h
  ·rename_i KB hk
   cases h
   have hlen:(H.take n).length=n:=by rw[List.length_take];exact Nat.min_eq_left (Nat.le_of_ble_eq_true h1)
   have hcl:closed (H.take n):=fun B hB=>by rw[hlen];exact av.qX (List.all_eq_true.1 h2 B hB)
   have hsplit:H.take n++H.drop n=H:=List.take_append_drop ..
   have hk':=rD hk
   have hnd:((iA ks).map (·.1)).Nodup:=by
    have:(iA ks).map (·.1)=ks:=by simp[iA,List.map_map,Function.comp_def]
    rw[this];exact Fu h3
   have key:Wk G nt C ⟨env,H.take n++H.drop n⟩ ⟨DB (vv H n ks 12) env ts++j9 n ts [] env,H.take n++KB⟩:=by
    refine Wk.jq (iA ks) KB hG (by rw[hlen];exact hB) (by rw[hlen];exact hC) hcl ⟨by rw[hlen,hsplit];exact hk',hnd⟩ ?_
    rw[hlen,hsplit]
    refine vQ fun p hp=>?_
    rcases List.mem_append.1 hp with hp|hp
    ·exact sZ (jZ 12) ts p hp
    ·obtain⟨_,g2,g3⟩:=pO env [] p hp
     exact⟨_,g2,.same _ g3⟩
   rwa[hsplit] at key
  ·cases h
def lQ:Env→Env→Bool
 |[],ys=>(match ys with|[]=>true|_=>false)
 |(t,x)::r,ys=>(match ys with|(s,y)::r'=>Nat.beq t s&&SV.same x y&&lQ r r'|[]=>false)
theorem vC:∀ {a b:Env},lQ a b=true→a=b
 |[],b,h=>by cases b with
  |nil=>rfl
  |cons=>simp[lQ] at h
 |(t,x)::r,b,h=>by cases b with
  |nil=>simp[lQ] at h
  |cons p r'=>
   obtain⟨s,y⟩:=p
   simp only[lQ,Bool.and_eq_true] at h
   rw[Nat.eq_of_beq_eq_true h.1.1,SV.gO.1 _ _ h.1.2,vC h.2]
def pF (n:Nat) (ts:List Nat) (q:Env×List av):List (Env×List av)→Bool
 |[]=>true
 |p::r=>match Db n ts p with
  |some q'=>bif lQ q.1 q'.1&&qR q.2 q'.2 then pF n ts q r else false
  |none=>false
theorem tK {n:Nat} {ts:List Nat} {q:Env×List av}:∀ {l:List (Env×List av)},pF n ts q l=true→∀ p∈l,Db n ts p=some q
 |p::r,h,p',hp'=>by
  unfold pF at h
  split at h
  ·rename_i q' hq
   cases hb:(lQ q.1 q'.1&&qR q.2 q'.2) with
   |false=>rw[hb] at h;cases h
   |true=>
    rw[hb,cond_true] at h
    rw[Bool.and_eq_true] at hb
    rcases List.mem_cons.1 hp' with rfl|hp'
    ·rw[hq]
     obtain⟨a,b⟩:=q
     obtain⟨c,d⟩:=q'
     have e1:=vC hb.1
     have e2:=vD hb.2
     simp only at e1 e2
     rw[e1,e2]
    ·exact tK h p' hp'
  ·cases h
def oneOf (n:Nat) (ts:List Nat):List (Env×List av)→Option (Env×List av)
 |[]=>none
 |p::r=>match r with
  |[]=>some p
  |_=>(match Db n ts p with
   |some q=>bif pF n ts q r then some q else none
   |none=>none)
theorem JS {G:Gl} {nt:Nat} {C:Cx} {n:Nat} {ts:List Nat} {L:List (Env×List av)} {q:Env×List av} (hG:ah G) (hB:dW G n) (hC:C.H.length≤n) (h:oneOf n ts L=some q):∀ p∈L,Wk G nt C ⟨p.1,p.2⟩ ⟨q.1,q.2⟩:=by
 unfold oneOf at h
 split at h
 ·cases h
 ·rename_i p r
  split at h
  ·cases h
   intro p' hp'
   rw[List.mem_singleton.1 hp']
   exact Wk.refl _
  ·split at h
   ·rename_i q' hq
    cases hb:pF n ts q' r with
    |false=>rw[hb] at h;cases h
    |true=>
     rw[hb,cond_true] at h
     cases h
     intro p' hp'
     rcases List.mem_cons.1 hp' with rfl|hp'
     ·exact wR hG hB hC hq
     ·exact wR hG hB hC (tK hb p' hp')
   ·cases h
end
section
section
variable (call:RC) (G:Gl) (T:bX) (own:List Nat) (nt:Nat)
def pP:Nat→Code→Env→List av→Option (Exit×Env×List av)
 |0,_,_,_=>none
 |n+1,cd,env,H=>match cd with
  | .skip=>some (.normal,env,H)
  | .label _=>some (.normal,env,H)
  | .ret=>some (.ret,env,H)
  | .exit id=>some (.exit id,env,H)
  | .cond x p q=>(match RP G env x with
   |some (.bool true)=>pP n p env H
   |some (.bool false)=>pP n q env H
   |_=>none)
  | .seq x y=>(match pP n x env H with
   |some (.normal,env',H')=>pP n y env' H'
   |r=>r)
  | .block id x=>(match pP n x env H with
   |some (.exit id',env',H')=>if id'=id then some (.normal,env',H') else some (.exit id',env',H')
   |r=>r)
  | .loop x=>(match pP n x env H with
   |some (.normal,env',H')=>pP n (.loop x) (OY [] env') H'
   |r=>r)
  | .region _ ops false=>(match EP call G T own nt ops.toList ops.toList env H with
   |some (env',H')=>some (.normal,env',H')
   |none=>none)
  | .region _ ops true=>bif eA nt ops.toList then (match pQ call G T own ops.toList 300 0 [] env H with
   |some L=>(match oneOf H.length (dstsOf ops.toList) L with
    |some p=>some (.normal,p.1,p.2)
    |none=>none)
   |none=>none) else none
  |_=>none
end
section
variable {P:Program} {G:Gl} {T:bX} {own:List Nat} {nt:Nat} {C:Cx} {call:RC} {ρ:Option Nat}
theorem EO (hG:ah G) (hB:dW G C.H.length) (hT:aI P T) (hm:P.follows .mixedOrders=true) (hc:yA P G call):∀ (N n:Nat),n≤N→∀ (cd:Code) (env:Env) (H:List av) (e:Exit) (env':Env) (H':List av),pP call G T own nt n cd env H=some (e,env',H')→
 ep P G nt ρ C cd (fun e2 s=>e2=e∧s.H=H'∧jJ s.env env') ⟨env,H⟩:=by
 intro N
 induction N with
 |zero=>
  intro n hn cd env H e env' H' h
  obtain rfl:n=0:=by omega
  cases h
 |succ N ih=>
  intro n hn cd env H e env' H' h
  cases n with
  |zero=>cases h
  |succ n=>
  have hn:n≤N:=by omega
  have ihn:=ih n hn
  unfold pP at h
  split at h
  ·cases h;exact ep.skip ⟨rfl,rfl,jJ.refl _⟩
  ·cases h;exact fun c a hc hi hg=>wpIn_label ⟨_,c,⟨rfl,rfl,jJ.refl _⟩,hc,rfl,hi,hg⟩
  ·cases h;exact ep.ret ⟨rfl,rfl,jJ.refl _⟩
  ·cases h;exact ep.exit ⟨rfl,rfl,jJ.refl _⟩
  ·rename_i x p q
   split at h
   ·rename_i hv
    rw[Im] at hv
    refine ep.cond ⟨_,hv,true,rfl,?_⟩
    exact⟨fun _=>ihn _ _ _ _ _ _ h,fun e=>(by cases e)⟩
   ·rename_i hv
    rw[Im] at hv
    refine ep.cond ⟨_,hv,false,rfl,?_⟩
    exact⟨fun e=>(by cases e),fun _=>ihn _ _ _ _ _ _ h⟩
   ·cases h
  ·rename_i x y
   split at h
   ·rename_i env1 H1 h1
    refine ep.seq (ep.mono (ihn _ _ _ _ _ _ h1) ?_)
    rintro e2 ⟨envx,Hx⟩ ⟨rfl,rfl,he⟩
    simp only at he
    exact ep.wk (Wk.env fun t x hx=>(he t).trans hx) (ihn _ _ _ _ _ _ h)
   ·rename_i r hr
    refine ep.seq (ep.mono (ihn _ _ _ _ _ _ h) ?_)
    rintro e2 ⟨envx,Hx⟩ ⟨rfl,rfl,he⟩
    simp only at he
    cases e2 with
    |normal=>exact(hr _ _ h).elim
    |_=>exact⟨rfl,rfl,he⟩
  ·rename_i id x
   split at h
   ·rename_i id' env1 H1 h1
    refine ep.block (ep.mono (ihn _ _ _ _ _ _ h1) ?_)
    rintro e2 ⟨envx,Hx⟩ ⟨rfl,rfl,he⟩
    simp only at he
    by_cases hid:id'=id
    ·rw[if_pos hid] at h
     cases h
     simp only[hid,if_true]
     exact⟨trivial,trivial,he⟩
    ·rw[if_neg hid] at h
     cases h
     simp only[hid,if_false]
     exact⟨trivial,trivial,he⟩
   ·rename_i r hr
    refine ep.block (ep.mono (ihn _ _ _ _ _ _ h) ?_)
    rintro e2 ⟨envx,Hx⟩ ⟨rfl,rfl,he⟩
    simp only at he
    cases e2 with
    |exit id'=>exact(hr _ _ _ h).elim
    |_=>exact⟨rfl,rfl,he⟩
  ·rename_i x
   have h0:pP call G T own nt (n+1) (.loop x) env H=some (e,env',H'):=by unfold pP;exact h
   refine ep.Nl (fun m s=>m≤n∧pP call G T own nt (m+1) (.loop x) s.env s.H=some (e,env',H')) n ⟨env,H⟩ (Wk.env fun t x hx=>hx) ⟨Nat.le_refl _,h0⟩ ?_
   rintro m ⟨env0,H0⟩ ⟨hmn,hr⟩
   unfold pP at hr
   simp only at hr
   split at hr
   ·rename_i env1 H1 h1
    refine ep.mono (ih m (by omega) _ _ _ _ _ _ h1) ?_
    rintro e2 ⟨envx,Hx⟩ ⟨rfl,rfl,he⟩
    simp only at he
    cases m with
    |zero=>cases h1
    |succ m=>exact⟨m,⟨OY [] env1,_⟩,by omega,Wk.env (fun t x hx=>(he t).trans (uf _ _ _ _ hx).2),by omega,hr⟩
   ·rename_i r hr2
    refine ep.mono (ih m (by omega) _ _ _ _ _ _ hr) ?_
    rintro e2 ⟨envx,Hx⟩ ⟨rfl,rfl,he⟩
    simp only at he
    cases e2 with
    |normal=>exact(hr2 _ _ hr).elim
    |_=>exact⟨rfl,rfl,he⟩
  ·rename_i ops
   split at h
   ·rename_i env1 H1 h1
    cases h
    exact ep.region hT (Bm hc _ h1 ⟨rfl,rfl,jJ.refl _⟩)
   ·cases h
  ·rename_i ops
   cases hd:eA nt ops.toList with
   |false=>rw[hd] at h;cases h
   |true=>
    rw[hd,cond_true] at h
    split at h
    ·rename_i L h1
     split at h
     ·rename_i p ho
      cases h
      obtain⟨⟨N2,hN⟩,_⟩:=kH (P:=P) hc _ _ _ _ _ h1
      intro c0 a0 hc0 hi0 hg0
      have hle:C.H.length≤H.length:=by
       have:=Grow.length hg0
       rw[hc0] at this
       exact this
      have hone:=JS (nt:=nt) (C:=C) hG (fun C0 h0=>Nat.le_trans (hB C0 h0) hle) hle ho
      refine ep.No (Q:=fun e2 s=>e2=Exit.normal∧∃ q∈L,s.H=q.2∧jJ s.env q.1) (ep.draw hT hm hd (fF.Nn (fun e h hh=>⟨rfl,hh⟩) hN [] (fun i=>by simp[LP,fB,Nat.blt_eq]))) ?_ c0 a0 hc0 hi0 hg0
      rintro e2 ⟨envx,Hx⟩ ⟨rfl,q,hq,rfl,he⟩
      exact⟨⟨p.1,p.2⟩,Wk.trans (Wk.env fun t x hx=>(he t).trans hx) (hone q hq),rfl,rfl,jJ.refl _⟩
     ·cases h
    ·cases h
  ·cases h
end
section
variable (P:Program) (G:Gl) (T:bX) (ow:FuncId→List Nat) (gc:FuncId→Bool) (ov:RC) (fuel:Nat)
def Io:Nat→RC
 |0=>fun _ _ _=>none
 |d+1=>fun f args H=>match ov f args H with
  |some r=>some r
  |none=>match P.funcs[f]? with
   |some fn=>(match fn.body with
    |some cd=>bif Nat.ble args.length fn.ntmps then (match pP (Io d) G T (ow f) fn.ntmps fuel cd (gk args 0) H with
     |some (e,env,H')=>(match e with
      | .ret=>ob (jA T env H' fn.results.toList) fun xs=>some (bif gc f then O2 H.length (aC xs) H' else (aC xs,H'))
      | .normal=>ob (jA T env H' fn.results.toList) fun xs=>some (bif gc f then O2 H.length (aC xs) H' else (aC xs,H'))
      |_=>none)
     |none=>none) else none
    |none=>none)
   |none=>none
end
theorem yV {P:Program} {G:Gl} {T:bX} {ow:FuncId→List Nat} {gc:FuncId→Bool} {ov:RC} {fuel:Nat} (hG:ah G) (ho:yA P G ov) (hT:aI P T) (hm:P.follows .mixedOrders=true) (hn:∀ (f:FuncId) (fn:Func),P.funcs[f]? =some fn→(fn.name== "runtime.NumGoroutine")=false):∀ d,yA P G (Io P G T ow gc ov fuel d)
 |0=>fun f xs H x H' h=>by cases h
 |d+1=>fun f args H x H' h=>by
  unfold Io at h
  split at h
  ·rename_i r hr
   cases h
   exact ho _ _ _ _ _ hr
  split at h
  ·rename_i fn hf
   split at h
   ·rename_i cd hb
    cases hl:Nat.ble args.length fn.ntmps with
    |false=>rw[hl] at h;cases h
    |true=>
     rw[hl,cond_true] at h
     refine aq.JL hT hf hb (hn f fn hf) rfl (Nat.le_of_ble_eq_true hl) rfl fun C h1 h2 h3=>?_
     have hfin:∀ (xs:List SV) (H1:List av),(bif gc f then O2 H.length (aC xs) H1 else (aC xs,H1))=(x,H')→Fin C H1 (aC xs) (fun r H2=>H2=H'∧r=x):=by
      intro xs H1 hx
      cases hg:gc f with
      |true=>
       rw[hg,cond_true] at hx
       have:=LN (C:=C) (H':=H1) (x:=aC xs) (n0:=H.length) (by rw[h1])
       rw[hx] at this
       exact this
      |false=>
       rw[hg,cond_false] at hx
       cases hx
       exact Fin.same ⟨rfl,rfl⟩
     split at h
     ·rename_i e env1 H1 hr
      split at h
      ·obtain⟨xs,hx,h⟩:=aF h
       refine ep.mono (EO hG (by rw[h1];rw[h1] at h3;exact h3) hT hm (yV hG ho hT hm hn d) _ _ (Nat.le_refl _) _ _ _ _ _ _ hr) ?_
       rintro e2 ⟨envx,Hx⟩ ⟨rfl,rfl,he⟩
       exact⟨xs,(kS he).trans hx,hfin _ _ (Option.some.inj h)⟩
      ·obtain⟨xs,hx,h⟩:=aF h
       refine ep.mono (EO hG (by rw[h1];rw[h1] at h3;exact h3) hT hm (yV hG ho hT hm hn d) _ _ (Nat.le_refl _) _ _ _ _ _ _ hr) ?_
       rintro e2 ⟨envx,Hx⟩ ⟨rfl,rfl,he⟩
       exact⟨xs,(kS he).trans hx,hfin _ _ (Option.some.inj h)⟩
      ·cases h
     ·cases h
   ·cases h
  ·cases h
end
def Co (f:SV→SV→Bool):List SV→List SV→Bool
 |[],[]=>true
 |x::xs,y::ys=>f x y&&Co f xs ys
 |_,_=>false
def rI:Nat→SV→SV→Bool
 |0,_,_=>false
 |d+1,x,y=>match x,y with
  | .agg a,.agg b=>Co (rI d) a b
  | .list s a,.list t b=>Nat.beq s t&&Co (rI d) a b
  | .nil,.list _ []=>true
  |x,y=>SV.same x y
theorem vg {f:SV→SV→Bool} (hf:∀ x y,f x y=true→∀ c v,aB c x v→aB c y v):∀ {xs ys:List SV},Co f xs ys=true→xs.length=ys.length∧∀ c vs,ax c xs vs→ax c ys vs
 |[],[],_=>⟨rfl,fun _ _ h=>h⟩
 |x::xs,y::ys,h=>by
  simp only[Co,Bool.and_eq_true] at h
  obtain⟨h1,h2⟩:=vg hf h.2
  refine⟨by simp[h1],fun c vs hv=>?_⟩
  obtain⟨u,us,a1,a2,rfl⟩:=ax.bg.1 hv
  exact ax.bG (hf _ _ h.1 _ _ a1) (h2 _ _ a2)
 |[],_::_,h=>by cases h
 |_::_,[],h=>by cases h
theorem zJ:∀ (d:Nat) (x y:SV),rI d x y=true→∀ c v,aB c x v→aB c y v
 |0,_,_,h=>by cases h
 |d+1,x,y,h=>by
  unfold rI at h
  split at h
  ·rename_i a b
   obtain⟨_,h2⟩:=vg (zJ d) h
   intro c v hv
   simp only[aB] at hv ⊢
   obtain⟨vs,e1,e2,e3⟩:=hv
   exact⟨vs,h2 _ _ e1,e2,e3⟩
  ·rename_i s a t b
   simp only[Bool.and_eq_true] at h
   obtain⟨h1,h2⟩:=vg (zJ d) h.2
   have hs:=Nat.eq_of_beq_eq_true h.1
   subst hs
   intro c v hv
   simp only[aB] at hv ⊢
   obtain⟨p,cap,e1,e2,e3,e4⟩:=hv
   refine⟨p,cap,by rw[e1,h1],by omega,e3,?_⟩
   rcases e4 with e4|⟨b',o,vs,q1,q2,q3⟩
   ·left
    subst e4
    exact List.length_eq_zero_iff.1 (by rw[← h1];rfl)
   ·exact .inr ⟨b',o,vs,q1,h2 _ _ q2,q3⟩
  ·intro c v hv
   simp only[aB] at hv ⊢
   exact⟨none,0,hv,Nat.le_refl _,Nat.zero_le _,.inl trivial⟩
  ·rw[SV.gO.1 _ _ h]
   exact fun _ _ h=>h
theorem aq.Mw {P:Program} {G:Gl} {f:FuncId} {x y:SV} {H:List av} {R:SV→List av→Prop} (h:aq P G f [y] H R) {d:Nat} (hn:rI d x y=true):aq P G f [x] H R:=
 ⟨h.1,fun c vs h1 h2 h3 h4=>h.2 c vs h1 h2 h3 (by
  obtain⟨u,us,a1,a2,rfl⟩:=ax.bg.1 h4
  exact ax.bG (zJ d _ _ hn _ _ a1) a2)⟩
def jc:aD:=[80,114,105,109,46,66,111,120]
def xN:aD:=[120]
def R2:Ex:= .mk 3 [] 0 0 [[115]] [.mk 6 xN 0 0 [] [c7 1 [cI 1,cI 2]] [] [.mk 2 [] 3 [] (ed jc [cX xN]),.mk 3 [] 0 [] (c7 11 [])]] [] []
def R3:Ex:= .mk 3 [] 0 0 [[115]] [letE (ed jc [cX xN]) [.mk xN (cI 3)]] [] []
def R4:Ex:= .mk 3 [] 0 0 [[115]] [ed jc [cI 3]] [] []
def P0:Pg:=⟨kh,[.mk ct R2]⟩
def P1:Pg:=⟨kh,[.mk ct R3]⟩
def P2:Pg:=⟨kh,[.mk ct R4]⟩
def RU (x:SV) (H:List av):Option (SV×List av):=
 bif rI 30 x P0.sv then some (.tuple [P1.sv,.int .i64 0],H) else bif rI 30 x P1.sv then some (.tuple [P2.sv,.int .i64 0],H) else bif rI 30 x P2.sv then some (.tuple [P2.sv,.int .i64 0],H) else none
def Qh:RC:=fun f args H=>match args with
 |[x]=>bif Nat.beq f 13 then RU x H else bif Nat.beq f 12 then (bif rI 30 x P0.sv then some (.int .i64 0,H) else none) else none
 |_=>none
def Ry (f:FuncId):List Nat:=[]
def QQ (f:FuncId):Bool:=false
def Sa:Option (SV×List av)→Bool
 |some (.bool true,_)=>true
 |_=>false
section
set_option maxRecDepth 100000
theorem FZ (l:Option Cx):Sa (Io Tryz.prog ⟨[],l⟩ TB Ry QQ Qh 5000 40 8 [] [])=true:=by kernel_rfl
end
section
set_option maxRecDepth 100000
theorem JD:∀ (f:FuncId) (fn:Func),Tryz.prog.funcs[f]? =some fn→(fn.name== "runtime.NumGoroutine")=false:=by
 intro f fn h
 have hall:(Tryz.prog.funcs.toList.all fun fn=>!(fn.name== "runtime.NumGoroutine"))=true:=by decide+kernel
 have hm:fn∈Tryz.prog.funcs.toList:=by
  rw[← Array.getElem?_toList] at h
  exact List.mem_of_getElem? h
 have:=List.all_eq_true.1 hall fn hm
 simpa using this
theorem vN {l s:List aD} (h1:s.Perm l) (h2:s.Pairwise (fun x y=>decide (x≤y)=true)):cW l=s:=by
 rw[← CK h1,cW]
 exact List.mergeSort_of_pairwise h2
def RV:List aD:=[ct,[115],xN]
def Sf:List aD:=[ct,[115]]
theorem QI:dd P0.binds=false:=by
 have h:cW (aU P0.binds)=RV:=vN (by decide+kernel) (by decide+kernel)
 unfold dd
 rw[h]
 decide+kernel
theorem QJ:dd P1.binds=false:=by
 have h:cW (aU P1.binds)=RV:=vN (by decide+kernel) (by decide+kernel)
 unfold dd
 rw[h]
 decide+kernel
theorem QK:dd P2.binds=false:=by
 have h:cW (aU P2.binds)=Sf:=vN (by decide+kernel) (by decide+kernel)
 unfold dd
 rw[h]
 decide+kernel
theorem Jj:bJ P0=0:=by
 unfold bJ
 rw[QI]
 decide+kernel
theorem Jk:bJ P1=0:=by
 unfold bJ
 rw[QJ]
 decide+kernel
theorem DQ:bJ P2=0:=by
 unfold bJ
 rw[QK]
 decide+kernel
theorem RE:iq P0=P1:=by kernel_rfl
theorem RF:iq P1=P2:=by kernel_rfl
theorem RG:iq P2=P2:=by kernel_rfl
theorem Rz:cD P0=P1:=by unfold cD;rw[RE,Jk];rfl
theorem RA:cD P1=P2:=by unfold cD;rw[RF,DQ];rfl
theorem RB:cD P2=P2:=by unfold cD;rw[RG,DQ];rfl
theorem OC (G:Gl) (hG:ah G) (C0:Cx) (hb:G.base=some C0) (hL:lZ C0):yA Tryz.prog G Qh:=by
 have hB:dW G 0:=fun C1 h1=>by rw[hb] at h1;cases h1;rw[hL.h];exact Nat.le_refl _
 have hpa:∀ p:Pg,bJ p=0→aV p.binds<67108864→p.cons.length≤1000→(∀ s∈aU p.binds,s.length<4294967296)→∀ H,aq Tryz.prog G 13 [p.sv] H (fun r H'=>H'=H∧r= .tuple [(cD p).sv,.int .i64 0]):=fun p h0 hw hc hn H=>
  nD G hG hB C0 hb hL p (vp h0 hw hn) hc (fun i hi=>(fh i (by unfold NN L0 at hi;omega)).2) (fun s h=>h) (by unfold L0;omega) H
 intro f xs H x H' h
 unfold Qh at h
 split at h
 ·rename_i y
  cases hf:Nat.beq f 13 with
  |true=>
   rw[hf,cond_true] at h
   have hf:=Nat.eq_of_beq_eq_true hf
   subst hf
   unfold RU at h
   cases h0:rI 30 y P0.sv with
   |true=>
    rw[h0,cond_true] at h
    cases h
    have:=hpa P0 Jj (by decide+kernel) (by decide+kernel) (by decide+kernel) H
    rw[Rz] at this
    exact this.Mw h0
   |false=>
    rw[h0,cond_false] at h
    cases h1:rI 30 y P1.sv with
    |true=>
     rw[h1,cond_true] at h
     cases h
     have:=hpa P1 Jk (by decide+kernel) (by decide+kernel) (by decide+kernel) H
     rw[RA] at this
     exact this.Mw h1
    |false=>
     rw[h1,cond_false] at h
     cases h2:rI 30 y P2.sv with
     |true=>
      rw[h2,cond_true] at h
      cases h
      have:=hpa P2 DQ (by decide+kernel) (by decide+kernel) (by decide+kernel) H
      rw[RB] at this
      exact this.Mw h2
     |false=>rw[h2] at h;cases h
  |false=>
   rw[hf,cond_false] at h
   cases hf2:Nat.beq f 12 with
   |false=>rw[hf2] at h;cases h
   |true=>
    rw[hf2,cond_true] at h
    have hf2:=Nat.eq_of_beq_eq_true hf2
    subst hf2
    cases h0:rI 30 y P0.sv with
    |true=>
     rw[h0,cond_true] at h
     cases h
     have:=iM G hG P0 H (by decide+kernel) (by decide+kernel)
     rw[Jj] at this
     exact this.Mw h0
    |false=>rw[h0] at h;cases h
 ·cases h
theorem pG (G:Gl) (hG:ah G) (C0:Cx) (hb:G.base=some C0) (hL:lZ C0) (H:List av):aq Tryz.prog G 8 [] H (fun r H'=>H'=H∧r= .bool true):=by
 have hr:=FZ (some C0)
 have hG0:ah ⟨[],some C0⟩:=fun p hp=>by cases hp
 have hov:=OC ⟨[],some C0⟩ hG0 C0 rfl hL
 have hev:=yV (P:=Tryz.prog) (G:=⟨[],some C0⟩) (T:=TB) (ow:=Ry) (gc:=QQ) (ov:=Qh) (fuel:=5000) hG0 hov iD Cc JD 40
 generalize hE:Io Tryz.prog ⟨[],some C0⟩ TB Ry QQ Qh 5000 40 8 [] []=E at hr
 cases E with
 |none=>cases hr
 |some r=>
  obtain⟨v,H1⟩:=r
  cases v with
  |bool b=>cases b with
   |false=>cases hr
   |true=>exact aq.lift (G0:=⟨[],some C0⟩) C0 rfl hb hL.h hG0 (fun p hp=>by cases hp) ((hev _ _ _ _ _ hE).mono fun r H2 h=>h.2) H
  |_=>cases hr
end
end Go.Proofs.YtjdfoonhnmpkdaaGreatDoor
