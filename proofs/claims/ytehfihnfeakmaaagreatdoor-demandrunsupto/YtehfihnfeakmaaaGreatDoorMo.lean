/- A part of the proof: P1, P2, P3, P4, P5, P6, P9, P7. Names and spaces are cut short by program. -/
import Derived.Test.YtehfihnfeakmaaaGreatDoorMn
set_option linter.unusedSimpArgs false
set_option linter.unusedVariables false
set_option maxRecDepth 10000
set_option maxHeartbeats 4000000
namespace Go.Proofs.YtehfihnfeakmaaaGreatDoor
open Go
theorem BM (e:Ex):e.parts.length<e.wt:=by
 obtain⟨kd,nm,nn,op,names,ae,binds,alts⟩:=e
 have:=Ex.cm kd nm nn op names ae binds alts
 rw[Ex.bM]
 simp only[List.length_append,List.length_map]
 omega
theorem Eu (e:Ex):e.size=1+(e.parts.map Ex.size).sum:=e.mO
def Lh (G:Gl) (m:Nat):Prop:=∀ (e:Ex) (H:List ax) (at_:Nat),e.wt≤m→at_+m<8589934592→af Tryz.prog G 120 [e.sv,.int .i64 (at_:Int)] H (fun r H'=>H'=H∧r= .tuple [.int .i64 e.size,.int .i64 ((at_+fI (e.parts.map dep):Nat):Int)])
theorem wT (G:Gl) (hG:au G):∀ m,m<4294967296→Lh G m
 |0,_,e,_,_,h,_=>absurd e.b9 (by omega)
 |m+1,hm2,e,H,at_,hm,hat=>by
  have hrec:=wT G hG m (by omega)
  have hsz:=Eu e
  have hsw:e.size≤e.wt:=ig _ _ (Nat.le_refl _)
  have c1:=fun H=>nN G hG e H (by omega)
  have hpw:∀ p∈e.parts,p.wt≤m:=fun p hp=>by have:=Ex.bT hp;omega
  have hpl:=BM e
  rw[hsz]
  have hs0:1+(e.parts.map Ex.size).sum≤e.wt:=by omega
  have hek:e.sv= .agg e.cells:=rfl
  have heu:=fun n=>Ex.bD n e
  generalize e.parts=ps at*
  have hsl:∀ i,((ps.take i).map Ex.size).sum≤(ps.map Ex.size).sum:=fun i=>by rw[List.map_take];exact lG _
  have hmx:∀ i,fI ((ps.take i).map dep)≤m:=fun i=>pR fun x hx=>by
   obtain⟨p,hp,rfl⟩:=List.mem_map.1 hx
   have h1:=hpw p (List.mem_of_mem_take hp)
   have h2:dep p≤p.wt:=jR _ _
   omega
  have hat2:(at_:Int)+1=((at_+1:Nat):Int):=by omega
  obtain⟨kd,nm,nn,op,names,ae,binds,alts⟩:=e
  refine af.aD TB [] aA _ Tryz.func120 rfl (by decide) Tryz.ntmps120 (by simp) rfl (by simp only[ap,Nat.reduceAdd];rfl) fun C R' hR hC hcl hB=>?_;have X:=aF;have hC':=congrArg List.length hC
  (refine run ?_;with_reducible repeat' first|exact trivial|(apply ad.mk<;>intro hb)|apply av.mk)
  refine az (fun i:Nat=>[(1,.int .i64 (at_:Int)),(6,.int .i64 (1+((ps.take i).map Ex.size).sum:Nat)),(7,.int .i64 ((at_+fI ((ps.take i).map dep):Nat):Int)),(8,.list 8 (ag ps)),(9,.int .i64 i)])
   (fun _=>H++[]) (fun i=>ps.length - i) (fun i=>i≤ps.length) 0 (Nat.zero_le _) ?_ ?_
  ·exact aY (n0:=H.length) [] hG hB hC' hcl
  rintro K i hi hK
  rcases Nat.lt_or_ge i ps.length with hlt|hge
  ·have hsum:((ps.take (i+1)).map Ex.size).sum=((ps.take i).map Ex.size).sum+ps[i].size:=by rw[List.take_succ_eq_append_getElem hlt,List.map_append,List.sum_append];simp only[List.map_cons,List.map_nil,List.sum_cons,List.sum_nil,Nat.add_zero]
   have hm1:fI ((ps.take (i+1)).map dep)=max (fI ((ps.take i).map dep)) (dep ps[i]):=by rw[List.take_succ_eq_append_getElem hlt,List.map_append];exact rC _ _
   have hdp:dep ps[i]≤ps[i].wt:=jR _ _
   have hpi:=hpw _ (List.getElem_mem hlt)
   have hl1:=hsl (i+1)
   have hm3:=hmx (i+1)
   have hcall:=fun H=>hrec ps[i] H (at_+1) hpi (by omega)
   have hdpe:at_+1+fI (ps[i].parts.map dep)=at_+dep ps[i]:=by have:=tp ps[i];omega
   rw[hdpe] at hcall
   have hg:(ag ps)[i]? =some (.agg ps[i].cells):=by rw[bh];simp[hlt];rfl
   have hss:ps[i].size≤ps[i].wt:=ig _ _ (Nat.le_refl _)
   have hmn:=lT (at_+fI ((ps.take i).map dep)) (at_+dep ps[i])
   have hmm:max (at_+fI ((ps.take i).map dep)) (at_+dep ps[i])=at_+fI ((ps.take (i+1)).map dep):=by rw[hm1];omega
   rw[hmm] at hmn
   generalize hgx:ps[i]=x at*
   have X:=And.intro aF (And.intro hg (And.intro hat2 (And.intro hmn (show IntKind.i64.min≤((at_+dep x:Nat):Int)∧((at_+dep x:Nat):Int)≤IntKind.i64.max from⟨by show(-9223372036854775808:Int)≤_;omega,by show _≤(9223372036854775807:Int);omega⟩))))
   (refine run ?_;with_reducible repeat' first|exact trivial|(apply ad.mk<;>intro hb)|apply av.mk)
   refine bt (hcall _) ?_
   rintro r H' ⟨rfl,rfl⟩
   (refine run ?_;with_reducible repeat' first|exact trivial|(apply ad.mk<;>intro hb)|apply av.mk)
   refine hK _ _ (i+1) (by omega) (by omega) ?_
   rw[show((1+((ps.take i).map Ex.size).sum:Nat):Int)+(x.size:Int)=((1+((ps.take (i+1)).map Ex.size).sum:Nat):Int) from by omega]
   exact aY (n0:=H.length) [] hG hB hC' hcl
  obtain rfl:i=ps.length:=by omega
  have hmm:=hmx ps.length
  rw[List.take_length] at hmm ⊢
  clear hK
  have X:=And.intro aF (Int.lt_irrefl (ps.length:Int))
  (refine run ?_;with_reducible repeat' first|exact trivial|(apply ad.mk<;>intro hb)|apply av.mk)
  exact Fin.bY (n0:=H.length) hR rfl hC' hcl (.same _ rfl) ⟨rfl,rfl⟩
def qj (l:List Bd):Int:=if 100000<dK l then 3 else if 1000<gM l then 4 else 0
theorem A2 (G:Gl) (hG:au G) (cons:List Cn) (binds:List Bd) (H:List ax) (hw:aM binds<4294967296):
 af Tryz.prog G 68 [.agg [.list 4 (aH cons),.list 9 (ah binds)]] H (fun r H'=>H'=H∧r= .int .i64 (qj binds)):=by
 have hle:=cC binds
 have bK:=fun n=>bf n cons
 have hsl:∀ i,dK (binds.take i)≤aM binds:=fun i=>Nat.le_trans (sx _) (jM _ _)
 refine af.aD TB [] aA _ Tryz.func68 rfl (by decide) Tryz.ntmps68 (by simp) rfl (by simp only[ap,Nat.reduceAdd];rfl) fun C R' hR hC hcl hB=>?_;have X:=aF;have hC':=congrArg List.length hC
 (refine run ?_;with_reducible repeat' first|exact trivial|(apply ad.mk<;>intro hb)|apply av.mk)
 refine az (fun i:Nat=>[(1,.ptr H.length 0 0 0),(3,.int .i64 (dK (binds.take i):Nat)),(4,.bool (decide (1000<gM (binds.take i)))),(5,.int .i64 i)]) (fun i=>H++[.cells 0 2 [.agg [.list 4 (aH cons),.list 9 (ah binds)]]]) (fun i=>binds.length - i) (fun i=>i≤binds.length) 0 (Nat.zero_le _) ?_ ?_
 ·exact aY (n0:=H.length) [(H.length,0)] hG hB hC' hcl
 rintro K i hi hK
 rcases Nat.lt_or_ge i binds.length with hlt|hge
 ·have hpb:=kn (List.getElem_mem hlt)
  have hcall:=fun H=>wT G hG binds[i].e.wt (by omega) binds[i].e H 1 (Nat.le_refl _) (by omega)
  have hde:1+fI (binds[i].e.parts.map dep)=dep binds[i].e:=by have:=tp binds[i].e;omega
  rw[hde] at hcall
  have hs1:dK (binds.take (i+1))=dK (binds.take i)+binds[i].e.size:=by rw[List.take_succ_eq_append_getElem hlt,sy]
  have hd1:gM (binds.take (i+1))=max (gM (binds.take i)) (dep binds[i].e):=by rw[List.take_succ_eq_append_getElem hlt,tn]
  have hl1:=hsl (i+1)
  have hg:(ah binds)[i]? =some (.agg (.str binds[i].name::binds[i].e.cells)):=by rw[aV,List.getElem?_map,List.getElem?_eq_getElem hlt,Option.map_some,Bd.sv,Bd.cM]
  have hdw:dep binds[i].e≤binds[i].e.wt:=jR _ _
  have hbb:(decide (1000<gM (binds.take i))||decide ((1000:Int)<(dep binds[i].e:Int)))=decide (1000<gM (binds.take (i+1))):=by
   rw[hd1,Bool.eq_iff_iff]
   simp only[Bool.or_eq_true,decide_eq_true_eq]
   omega
  generalize dep binds[i].e=dd at*
  generalize binds[i].e=x at*
  generalize binds[i].name=s at*
  generalize decide (1000<gM (binds.take i))=b0 at*
  have X:=And.intro aF hg
  (refine run ?_;with_reducible repeat' first|exact trivial|(apply ad.mk<;>intro hb)|apply av.mk)
  refine bt (hcall _) ?_
  rintro r H' ⟨rfl,rfl⟩
  cases b0
  ·rw[Bool.false_or] at hbb
   (refine run ?_;with_reducible repeat' first|exact trivial|(apply ad.mk<;>intro hb)|apply av.mk)
   refine hK _ _ (i+1) (by omega) (by omega) ?_
   rw[show((dK (binds.take (i+1)):Nat):Int)=(dK (binds.take i):Int)+(x.size:Int) by omega,← hbb]
   exact aY (n0:=H.length) [(H.length,0)] hG hB hC' hcl
  ·rw[Bool.true_or] at hbb
   (refine run ?_;with_reducible repeat' first|exact trivial|(apply ad.mk<;>intro hb)|apply av.mk)
   refine hK _ _ (i+1) (by omega) (by omega) ?_
   rw[show((dK (binds.take (i+1)):Nat):Int)=(dK (binds.take i):Int)+(x.size:Int) by omega,← hbb]
   exact aY (n0:=H.length) [(H.length,0)] hG hB hC' hcl
 obtain rfl:i=binds.length:=by omega
 clear hK
 rw[List.take_length]
 have hs2:=hsl binds.length
 rw[List.take_length] at hs2
 have X:=And.intro aF (Int.lt_irrefl (binds.length:Int))
 by_cases h1:100000<dK binds
 ·have e:qj binds=3:=by unfold qj;rw[if_pos h1]
  rw[e] at hR
  have h1:(100000:Int)<(dK binds:Int):=by omega
  have X:=And.intro X h1
  (refine run ?_;with_reducible repeat' first|exact trivial|(apply ad.mk<;>intro hb)|apply av.mk)
  exact aS (n0:=H.length) hR hC' hcl (.same _ rfl) ⟨rfl,rfl⟩
 ·have h1i:¬ (100000:Int)<(dK binds:Int):=by omega
  by_cases h2:1000<gM binds
  ·have e:qj binds=4:=by unfold qj;rw[if_neg h1,if_pos h2]
   rw[e] at hR
   rw[decide_eq_true h2]
   have X:=And.intro X h1i
   (refine run ?_;with_reducible repeat' first|exact trivial|(apply ad.mk<;>intro hb)|apply av.mk)
   exact aS (n0:=H.length) hR hC' hcl (.same _ rfl) ⟨rfl,rfl⟩
  ·have e:qj binds=0:=by unfold qj;rw[if_neg h1,if_neg h2]
   rw[e] at hR
   rw[decide_eq_false h2]
   have X:=And.intro X h1i
   (refine run ?_;with_reducible repeat' first|exact trivial|(apply ad.mk<;>intro hb)|apply av.mk)
   exact aS (n0:=H.length) hR hC' hcl (.same _ rfl) ⟨rfl,rfl⟩
theorem va {l:List Cn} {s:aE} {i:Nat} (h:∀ j (hj:j<l.length),j<i→¬ l[j].name=s):bU l s=bU (l.drop i) s:=by
 induction i generalizing l with
 |zero=>rfl
 |succ i ih=>
  cases l with
  |nil=>rfl
  |cons c r=>
   have h0:=h 0 (by simp) (by omega)
   simp only[List.getElem_cons_zero] at h0
   rw[bU,if_neg (fun e=>h0 e.symm),List.drop_succ_cons]
   exact ih fun j hj hji=>by
    have:=h (j+1) (by simp only[List.length_cons];omega) (by omega)
    simpa only[List.getElem_cons_succ] using this
theorem nP (G:Gl) (hG:au G) (l:List Cn) (s:aE) (H:List ax) (hl:l.length<1099511627776):
 af Tryz.prog G 121 [.list 4 (aH l),.str s] H (fun r H'=>H'=H∧r= .tuple [.agg (bQ l s).cells,.bool (bU l s).isSome]):=by
 have bK:=fun n=>bf n l
 refine af.aD TB [] aA _ Tryz.func121 rfl (by decide) Tryz.ntmps121 (by simp) rfl (by simp only[ap,Nat.reduceAdd];rfl) fun C R' hR hC hcl hB=>?_;have X:=aF;have hC':=congrArg List.length hC
 (refine run ?_;with_reducible repeat' first|exact trivial|(apply ad.mk<;>intro hb)|apply av.mk)
 refine az (fun i:Nat=>[(0,.list 4 (aH l)),(1,.str s),(4,.ptr H.length 0 0 0),(6,.int .i64 i)]) (fun i=>H++[.cells 0 4 [.agg [.str [],.int .i64 0,.int .i64 0,.int .i64 0]]]) (fun i=>l.length - i) (fun i=>i≤l.length∧bU l s=bU (l.drop i) s) 0 ⟨Nat.zero_le _,rfl⟩ ?_ ?_
 ·exact aY (n0:=H.length) [(H.length,0)] hG hB hC' hcl
 rintro K i ⟨hi,hf⟩ hK
 rcases Nat.lt_or_ge i l.length with hlt|hge
 ·have hg:(aH l)[i]? =some (.agg [.str l[i].name,.int .i64 l[i].arity,.int .i64 l[i].tag,.int .i64 l[i].family]):=fh l hlt
  rw[List.drop_eq_getElem_cons hlt,bU] at hf
  generalize l[i]=c at*
  by_cases hs:c.name=s
  ·rw[if_pos hs.symm] at hf
   have X:=And.intro aF (And.intro hg hs)
   clear hK
   (refine run ?_;with_reducible repeat' first|exact trivial|(apply ad.mk<;>intro hb)|apply av.mk)
   refine aS (n0:=H.length) hR hC' hcl (.same _ rfl) ⟨rfl,?_⟩
   rw[bQ,hf,← hs];rfl
  ·rw[if_neg (fun e=>hs e.symm)] at hf
   have X:=And.intro aF (And.intro hg hs)
   (refine run ?_;with_reducible repeat' first|exact trivial|(apply ad.mk<;>intro hb)|apply av.mk)
   refine hK _ _ (i+1) (by omega) ⟨by omega,hf⟩ ?_
   exact aY (n0:=H.length) [(H.length,0)] hG hB hC' hcl
 have hni:¬ (i:Int)<(l.length:Int):=by omega
 clear hK
 rw[List.drop_eq_nil_of_le hge,bU] at hf
 have X:=And.intro aF hni
 (refine run ?_;with_reducible repeat' first|exact trivial|(apply ad.mk<;>intro hb)|apply av.mk)
 refine aS (n0:=H.length) hR hC' hcl (.same _ rfl) ⟨rfl,?_⟩
 rw[bQ,hf];rfl
def nW (kd nn op:Int) (nm nl sl bl al:Nat) (ar:Int):Prop:=
 (1≤kd∧kd≤8)∧(nm=0∨kd=1∨kd=6∨kd=7)∧(nn=0∨kd=2)∧(op=0∨kd=8)∧(nl=0∨kd=3)∧(bl=0∨kd=5)∧(al=0∨kd=6)∧(sl=1∨¬ (kd=3∨kd=5∨kd=6))∧(sl=0∨¬ (kd=1∨kd=2))∧(0≤ar∨¬ kd=8)
theorem iD {α:Type} (l:List α):(l=[])=(l.length=0):=by rw[List.length_eq_zero_iff]
theorem nV (kd:Int) (nm:aE) (nn op:Int) (names:List aE) (ae:List Ex) (binds:List Bd) (alts:List Al):
 (dN (.mk kd nm nn op names ae binds alts)=true)↔(nW kd nn op nm.length names.length ae.length binds.length alts.length (mw op)∧alts.any eV=false):=by
 generalize hq:alts.any eV=q
 have h0:dN (.mk kd nm nn op names ae binds alts)=if kd=1 then !il true false false false false false 0 (.mk kd nm nn op names ae binds alts)&&!q
  else if kd=2 then !il false false false false false true 0 (.mk kd nm nn op names ae binds alts)&&!q
  else if kd=3 then !il false true false false false false 1 (.mk kd nm nn op names ae binds alts)&&!q
  else if kd=4 then !il false false false false false false (-1) (.mk kd nm nn op names ae binds alts)&&!q
  else if kd=5 then !il false false true false false false 1 (.mk kd nm nn op names ae binds alts)&&!q
  else if kd=6 then !il true false false true false false 1 (.mk kd nm nn op names ae binds alts)&&!q
  else if kd=7 then !il true false false false false false (-1) (.mk kd nm nn op names ae binds alts)&&!q
  else if kd=8 then !il false false false false true false (-1) (.mk kd nm nn op names ae binds alts)&&!q
  else false:=by rw[← hq];rfl
 rw[h0]
 clear h0 hq
 simp only[il,iD]
 generalize mw op=ar
 generalize nm.length=nml
 generalize names.length=nal
 generalize ae.length=sul
 generalize binds.length=bil
 generalize alts.length=all
 unfold nW
 cases q
 ·simp only[Bool.not_false,Bool.and_true,and_true]
  by_cases h1:kd=1
  ·subst h1;simp;omega
  by_cases h2:kd=2
  ·subst h2;simp;omega
  by_cases h3:kd=3
  ·subst h3;simp;omega
  by_cases h4:kd=4
  ·subst h4;simp;omega
  by_cases h5:kd=5
  ·subst h5;simp;omega
  by_cases h6:kd=6
  ·subst h6;simp;omega
  by_cases h7:kd=7
  ·subst h7;simp;omega
  by_cases h8:kd=8
  ·subst h8;simp;omega
  simp only[h1,h2,h3,h4,h5,h6,h7,h8,if_false,Bool.false_eq_true,false_iff]
  omega
 ·simp
def E6 (k n:Int) (nm nl:Nat):Prop:=¬ ((1≤k∧k≤3)∧(k=1∨(nm=0∧nl=0))∧(k=2∨n=0))
theorem A0 (a:Al):(eV a=true)↔E6 a.kind a.n a.name.length a.names.length:=by
 unfold eV E6
 simp only[iD]
 generalize a.name.length=nml
 generalize a.names.length=nal
 by_cases h1:a.kind=1
 ·rw[if_pos h1];simp;omega
 by_cases h2:a.kind=2
 ·rw[if_neg h1,if_pos h2];simp;omega
 by_cases h3:a.kind=3
 ·rw[if_neg h1,if_neg h2,if_pos h3];simp;omega
 rw[if_neg h1,if_neg h2,if_neg h3]
 simp only[true_iff]
 omega
def Lm (G:Gl) (m:Nat):Prop:=∀ (e:Ex) (H:List ax),e.wt≤m→e.wt<4294967296→af Tryz.prog G 38 [e.sv] H (fun r H'=>H'=H∧r= .bool (de m dN e))
theorem tZ (G:Gl) (hG:au G):∀ m,Lm G m
 |0,e,H,h,_=>absurd e.b9 (by omega)
 |m+1,e,H,hm,hw0=>by
  have hrec:=tZ G hG m
  obtain⟨kd,nm,nn,op,names,ae,binds,alts⟩:=e
  have hlen:=Ex.cm kd nm nn op names ae binds alts
  have hall:de (m+1) dN (.mk kd nm nn op names ae binds alts)=(dN (.mk kd nm nn op names ae binds alts)&&(Ex.mk kd nm nn op names ae binds alts).parts.all (de m dN)):=rfl
  rw[hall]
  clear hall
  have hiff:=nV kd nm nn op names ae binds alts
  have c1:=fun H=>Ac G hG op H
  rw[show oh op=mw op from rfl] at c1
  have hpts:=fun H=>nN G hG (Ex.mk kd nm nn op names ae binds alts) H hw0
  have hpw:∀ p∈(Ex.mk kd nm nn op names ae binds alts).parts,p.wt≤m∧p.wt<4294967296:=fun p hp=>by have:=Ex.bT hp;omega
  have hpl:(Ex.mk kd nm nn op names ae binds alts).parts.length≤(Ex.mk kd nm nn op names ae binds alts).wt:=by rw[Ex.bM];simp;omega
  generalize dN (.mk kd nm nn op names ae binds alts)=sh at*
  generalize hp:(Ex.mk kd nm nn op names ae binds alts).parts=pp at*
  generalize mw op=ar at*
  generalize hW:(Ex.mk kd nm nn op names ae binds alts).wt=W at*
  have hstop:¬ nW kd nn op nm.length names.length ae.length binds.length alts.length ar→sh=false:=fun hn=>Bool.eq_false_iff.2 fun h=>hn (hiff.1 h).1
  have hbadc:∀ i (h:i<alts.length),eV alts[i]=true→sh=false:=fun i h hb=>Bool.eq_false_iff.2 fun h2=>by
   have:=(hiff.1 h2).2
   rw[List.any_eq_false] at this
   exact this _ (List.getElem_mem h) hb
  have hyes:nW kd nn op nm.length names.length ae.length binds.length alts.length ar→alts.any eV=false→sh=true:=fun h1 h2=>hiff.2 ⟨h1,h2⟩
  clear hiff
  refine af.aD TB [] aA _ Tryz.func38 rfl (by decide) Tryz.ntmps38 (by simp) rfl (by simp only[ap,Nat.reduceAdd];rfl) fun C R' hR hC hcl hB=>?_;have X:=aF;have hC':=congrArg List.length hC
  (refine run ?_;with_reducible repeat' first|exact trivial|(apply ad.mk<;>intro hb)|apply av.mk)
  ·simp only[Bool.or_eq_true,Bool.and_eq_true,Bool.not_eq_true',Bool.not_eq_false',Bool.or_eq_false_iff,Bool.and_eq_false_iff,decide_eq_true_eq,decide_eq_false_iff_not,Decidable.not_not,iD] at hb
   rw[hstop (by unfold nW;omega),Bool.false_and] at hR
   exact aS (n0:=H.length) hR hC' hcl (.same _ rfl) ⟨rfl,rfl⟩
  ·simp only[Bool.or_eq_true,Bool.and_eq_true,Bool.not_eq_true',Bool.not_eq_false',Bool.or_eq_false_iff,Bool.and_eq_false_iff,decide_eq_true_eq,decide_eq_false_iff_not,Decidable.not_not,iD] at hb
   rw[hstop (by unfold nW;omega),Bool.false_and] at hR
   exact aS (n0:=H.length) hR hC' hcl (.same _ rfl) ⟨rfl,rfl⟩
  ·rename_i hk8
   rw[hstop (by unfold nW;omega),Bool.false_and] at hR
   exact aS (n0:=H.length) hR hC' hcl (.same _ rfl) ⟨rfl,rfl⟩
  case' r.r.l.r=>(rename_i c1 c2 c3;have hP:nW kd nn op nm.length names.length ae.length binds.length alts.length ar:=by (simp only[Bool.or_eq_true,Bool.and_eq_true,Bool.not_eq_true',Bool.not_eq_false',Bool.or_eq_false_iff,Bool.and_eq_false_iff,decide_eq_true_eq,decide_eq_false_iff_not,Decidable.not_not,iD] at c1 c2;unfold nW;omega))
  case' r.r.r=>(rename_i c1 c2;have hP:nW kd nn op nm.length names.length ae.length binds.length alts.length ar:=by (simp only[Bool.or_eq_true,Bool.and_eq_true,Bool.not_eq_true',Bool.not_eq_false',Bool.or_eq_false_iff,Bool.and_eq_false_iff,decide_eq_true_eq,decide_eq_false_iff_not,Decidable.not_not,iD] at c1 c2;unfold nW;omega))
  all_goals
   clear c1 c2 hb
   refine az (fun i:Nat=>[(1,.ptr H.length 0 0 0),(6,.int .i64 i)]) (fun i=>H++[.cells 0 8 [.agg [.int .i64 kd,.str nm,.int .i64 nn,.int .i64 op,.list 1 (names.map .str),.list 8 (ag ae),.list 9 (ah binds),.list 12 (aw alts)]]]) (fun i=>alts.length - i) (fun i=>i≤alts.length∧(alts.take i).any eV=false) 0 ⟨Nat.zero_le _,rfl⟩ ?_ ?_
   ·exact aY (n0:=H.length) [(H.length,0)] hG hB hC' hcl
   rintro K i ⟨hi,hany⟩ hK
   rcases Nat.lt_or_ge i alts.length with hlt|hge
   ·have hg:(aw alts)[i]? =some (.agg (.int .i64 alts[i].kind:: .str alts[i].name:: .int .i64 alts[i].n:: .list 1 (alts[i].names.map .str)::alts[i].body.cells)):=by rw[bG,List.getElem?_map,List.getElem?_eq_getElem hlt,Option.map_some,Al.sv,Al.cM]
    have hbc:=hbadc i hlt
    have hbi:=A0 alts[i]
    have hgo:eV alts[i]=false→(alts.take (i+1)).any eV=false:=fun h=>by rw[List.take_succ_eq_append_getElem hlt,List.any_append,hany];simp[h]
    generalize eV alts[i]=z at*
    have hx8:=alts[i].body.bS
    have hnl:=Al.hY (kd:=kd) (nm:=nm) (nn:=nn) (op:=op) (names:=names) (ae:=ae) (binds:=binds) hlt
    generalize alts[i]=a at*
    obtain⟨ak,an,ann,ans,ab⟩:=a
    simp only[Al.kind,Al.name,Al.n,Al.names,Al.body] at hg hbi hx8 hnl
    have X:=And.intro aF (And.intro hg hx8)
    (refine run ?_;with_reducible repeat' first|exact trivial|(apply ad.mk<;>intro hb)|apply av.mk)
    ·have hz:z=true:=hbi.2 (by simp only[Bool.or_eq_true,Bool.and_eq_true,Bool.not_eq_true',Bool.not_eq_false',Bool.or_eq_false_iff,Bool.and_eq_false_iff,decide_eq_true_eq,decide_eq_false_iff_not,Decidable.not_not,iD] at hb;unfold E6;omega)
     rw[hbc hz,Bool.false_and] at hR
     clear hK
     exact aS (n0:=H.length) hR hC' hcl (.same _ rfl) ⟨rfl,rfl⟩
    ·have hz:z=false:=Bool.eq_false_iff.2 fun h=>by
      have h2:=hbi.1 h
      simp only[Bool.or_eq_true,Bool.and_eq_true,Bool.not_eq_true',Bool.not_eq_false',Bool.or_eq_false_iff,Bool.and_eq_false_iff,decide_eq_true_eq,decide_eq_false_iff_not,Decidable.not_not,iD] at hb
      unfold E6 at h2
      omega
     refine hK _ _ (i+1) (by omega) ⟨by omega,hgo hz⟩ ?_
     exact aY (n0:=H.length) [(H.length,0)] hG hB hC' hcl
   rw[List.take_of_length_le hge] at hany
   rw[hyes hP hany,Bool.true_and] at hR
   clear hK
   have hni:¬ (i:Int)<(alts.length:Int):=by omega
   have c1:=hpts
   have X:=And.intro aF hni
   (refine run ?_;with_reducible repeat' first|exact trivial|(apply ad.mk<;>intro hb)|apply av.mk)
   refine az (fun i:Nat=>[(8,.list 8 (ag pp)),(9,.int .i64 i)]) (fun i=>H++[]) (fun i=>pp.length - i) (fun i=>i≤pp.length∧(pp.take i).all (de m dN)=true) 0 ⟨Nat.zero_le _,rfl⟩ ?_ ?_
   ·exact aY (n0:=H.length) [] hG hB hC' hcl
   rintro K i2 ⟨hi2,hall⟩ hK
   rcases Nat.lt_or_ge i2 pp.length with hlt|hge
   ·have hmem:=List.getElem_mem hlt
    have hg:(ag pp)[i2]? =some (.agg pp[i2].cells):=by rw[bh];simp[hlt];rfl
    have hpw2:=hpw _ hmem
    have c1:=fun H=>hrec pp[i2] H hpw2.1 hpw2.2
    have hst:de m dN pp[i2]=false→pp.all (de m dN)=false:=fun h=>Bool.eq_false_iff.2 fun h2=>by rw[List.all_eq_true.1 h2 _ hmem] at h;cases h
    have hgo:de m dN pp[i2]=true→(pp.take (i2+1)).all (de m dN)=true:=fun h=>by rw[List.take_succ_eq_append_getElem hlt,List.all_append,hall];simp[h]
    generalize de m dN pp[i2]=z at*
    generalize pp[i2]=x at*
    have X:=And.intro aF hg
    cases z
    ·rw[hst rfl] at hR
     clear hK
     (refine run ?_;with_reducible repeat' first|exact trivial|(apply ad.mk<;>intro hb)|apply av.mk)
     exact aS (n0:=H.length) hR hC' hcl (.same _ rfl) ⟨rfl,rfl⟩
    ·(refine run ?_;with_reducible repeat' first|exact trivial|(apply ad.mk<;>intro hb)|apply av.mk)
     refine hK _ _ (i2+1) (by omega) ⟨by omega,hgo rfl⟩ ?_
     exact aY (n0:=H.length) [] hG hB hC' hcl
   rw[List.take_of_length_le hge] at hall
   rw[hall] at hR
   clear hK
   have hni:¬ (i2:Int)<(pp.length:Int):=by omega
   have X:=And.intro aF hni
   (refine run ?_;with_reducible repeat' first|exact trivial|(apply ad.mk<;>intro hb)|apply av.mk)
   exact aS (n0:=H.length) hR hC' hcl (.same _ rfl) ⟨rfl,rfl⟩
def eG:Al:= .mk 0 [] 0 [] iO
def oO (l:List Cn) (e:Ex):Bool:=
 !((decide (e.kind=3)&&decide (e.names.length=0))||(decide (e.kind=4)&&decide (e.ae.length<2))||(decide (e.kind=5)&&decide (e.binds.length=0))||(decide (e.kind=8)&&!decide ((e.ae.length:Int)=mw e.op))||(decide (e.kind=7)&&(!(bU l e.name).isSome||!decide ((e.ae.length:Int)=(bQ l e.name).arity))))
  &&!(e.alts.any fun a=>decide (a.kind=1)&&!kA l a.name a.names.length)
theorem Gb {l:List Cn} {e:Ex} (h:dN e=true):oO l e=kW l e:=by
 obtain⟨kd,nm,nn,op,names,ae,binds,alts⟩:=e
 have hp:=((nV _ _ _ _ _ _ _ _).1 h).1
 unfold nW at hp
 have e1:oO l (.mk kd nm nn op names ae binds alts)=(!((decide (kd=3)&&decide (names.length=0))||(decide (kd=4)&&decide (ae.length<2))||(decide (kd=5)&&decide (binds.length=0))||(decide (kd=8)&&!decide ((ae.length:Int)=mw op))||(decide (kd=7)&&(!(bU l nm).isSome||!decide ((ae.length:Int)=(bQ l nm).arity))))
  &&!(alts.any fun a=>decide (a.kind=1)&&!kA l a.name a.names.length)):=rfl
 have e2:kW l (.mk kd nm nn op names ae binds alts)=if kd=3 then decide (0<names.length) else if kd=4 then decide (1<ae.length) else if kd=5 then decide (0<binds.length)
  else if kd=7 then ((bU l nm).isSome&&decide ((bQ l nm).arity=(ae.length:Int))) else if kd=8 then decide ((ae.length:Int)=mw op)
  else !(alts.any fun a=>decide (a.kind=1)&&!kA l a.name a.names.length):=rfl
 rw[e1,e2]
 clear e1 e2 h
 by_cases h6:kd=6
 ·subst h6;simp
 have ha:alts=[]:=List.length_eq_zero_iff.1 (by omega)
 subst ha
 generalize mw op=ar at*
 generalize (bQ l nm).arity=ca
 generalize (bU l nm).isSome=is
 generalize names.length=nl at*
 generalize ae.length=sl at*
 generalize binds.length=bl at*
 by_cases h1:kd=1
 ·subst h1;simp
 by_cases h2:kd=2
 ·subst h2;simp
 by_cases h3:kd=3
 ·subst h3;rw[Bool.eq_iff_iff];simp;omega
 by_cases h4:kd=4
 ·subst h4;rw[Bool.eq_iff_iff];simp;omega
 by_cases h5:kd=5
 ·subst h5;rw[Bool.eq_iff_iff];simp;omega
 by_cases h7:kd=7
 ·subst h7
  rw[Bool.eq_iff_iff];simp
  intro _
  exact eq_comm
 by_cases h8:kd=8
 ·subst h8;simp
 omega
theorem jK {p q s:Ex→Bool} (h:∀ e,s e=true→p e=q e):∀ (m:Nat) (e:Ex),de m s e=true→de m p e=de m q e
 |0,_,_=>rfl
 |m+1,e,hs=>by
  have hs:(s e&&e.parts.all (de m s))=true:=hs
  show(p e&&e.parts.all (de m p))=(q e&&e.parts.all (de m q))
  rw[Bool.and_eq_true,List.all_eq_true] at hs
  rw[h e hs.1]
  congr 1
  rw[Bool.eq_iff_iff,List.all_eq_true,List.all_eq_true]
  constructor
  ·intro k x hx
   rw[← jK h m x (hs.2 x hx)];exact k x hx
  ·intro k x hx
   rw[jK h m x (hs.2 x hx)];exact k x hx
def iY (cs:List Cn) (a b:Al):Bool:=(decide (a.kind≠3)&&decide (a.kind≠b.kind))||(decide (a.kind=2)&&decide (a.n=b.n))||(decide (a.kind=1)&&decide (a.name=b.name))||(decide (a.kind=1)&&decide ((bQ cs a.name).family≠(bQ cs b.name).family))
def gh (cs:List Cn) (l:List Al) (i:Nat):Bool:=(decide ((l.getD i eG).kind=3)&&decide (i+1<l.length))||(l.take i).any fun b=>iY cs (l.getD i eG) b
def jC (cs:List Cn) (e:Ex):Bool:=!(decide (e.kind=6)&&decide (e.alts.length=0))&&!((List.range e.alts.length).any (gh cs e.alts))
theorem zB (cs:List Cn) (k0:Int) (s0:aE) (R:List Al):(gg cs k0 s0 [] R=true)↔∃ i,∃ h:i<R.length,kB cs (R.take i) k0 s0 R[i]=true:=by
 have main:∀ (n i:Nat),i+n=R.length→((gg cs k0 s0 (R.take i) (R.drop i)=true)↔∃ j,∃ h:j<R.length,i≤j∧kB cs (R.take j) k0 s0 R[j]=true):=by
  intro n
  induction n with
  |zero=>
   intro i hi
   rw[List.drop_eq_nil_of_le (by omega)]
   constructor
   ·intro h;cases h
   ·rintro⟨j,h,h1,_⟩;omega
  |succ n ih=>
   intro i hi
   have hlt:i<R.length:=by omega
   rw[rJ cs k0 s0 R hlt,Bool.or_eq_true,ih (i+1) (by omega)]
   constructor
   ·rintro (h|⟨j,h,h1,h2⟩)
    ·exact⟨i,hlt,Nat.le_refl _,h⟩
    ·exact⟨j,h,by omega,h2⟩
   ·rintro⟨j,h,h1,h2⟩
    rcases Nat.eq_or_lt_of_le h1 with e|e
    ·subst e;exact .inl h2
    ·exact .inr ⟨j,h,e,h2⟩
 have:=main R.length 0 (by omega)
 rw[List.take_zero,List.drop_zero] at this
 rw[this]
 constructor
 ·rintro⟨j,h,_,h2⟩;exact⟨j,h,h2⟩
 ·rintro⟨j,h,h2⟩;exact⟨j,h,Nat.zero_le _,h2⟩
theorem Ee (l:List Al):∃ n,ga l=l.take n∧n≤l.length∧(n=l.length∨(n+1=l.length∧(l.getD n eG).kind=3))∧(n=l.length→0<l.length→(l.getD (l.length - 1) eG).kind≠3):=by
 unfold ga
 by_cases h0:l.length=0
 ·rw[if_pos h0]
  exact⟨l.length,by rw[List.take_length],Nat.le_refl _,.inl rfl,fun _ h=>absurd h0 (by omega)⟩
 rw[if_neg h0]
 have hl:((l.getLast?.map Al.kind).getD 0)=(l.getD (l.length - 1) eG).kind:=by
  rw[List.getLast?_eq_getElem?,List.getD_eq_getElem?_getD,List.getElem?_eq_getElem (by omega)]
  rfl
 rw[hl]
 by_cases h3:(l.getD (l.length - 1) eG).kind=3
 ·rw[if_pos h3]
  exact⟨l.length - 1,rfl,by omega,.inr ⟨by omega,h3⟩,fun h=>by omega⟩
 ·rw[if_neg h3]
  exact⟨l.length,by rw[List.take_length],Nat.le_refl _,.inl rfl,fun _ _=>h3⟩
theorem oI {β:Type} (f:Al→β) {l:List Al} {i:Nat} (h:i≤l.length) (v:β):v∈(l.take i).map f↔∃ j,j<i∧f (l.getD j eG)=v:=by
 rw[List.mem_map]
 constructor
 ·rintro⟨a,ha,rfl⟩
  obtain⟨j,hj,rfl⟩:=List.mem_iff_getElem.1 ha
  rw[List.length_take] at hj
  exact⟨j,by omega,by rw[List.getElem_take,List.getD_eq_getElem?_getD,List.getElem?_eq_getElem (by omega)];rfl⟩
 ·rintro⟨j,hj,rfl⟩
  refine⟨l.getD j eG,?_,rfl⟩
  rw[List.getD_eq_getElem?_getD,List.getElem?_eq_getElem (by omega)]
  exact List.mem_take_iff_getElem.2 ⟨j,by omega,rfl⟩
theorem AW (f:Al→Bool) {l:List Al} {i:Nat} (h:i≤l.length):(l.take i).any f=true↔∃ j,j<i∧f (l.getD j eG)=true:=by
 rw[List.any_eq_true]
 constructor
 ·rintro⟨a,ha,hf⟩
  obtain⟨j,hj,e⟩:=(oI id h a).1 (by simpa using ha)
  exact⟨j,hj,by rw[show l.getD j eG=a from e];exact hf⟩
 ·rintro⟨j,hj,hf⟩
  exact⟨_,by simpa using (oI id h (l.getD j eG)).2 ⟨j,hj,rfl⟩,hf⟩
theorem yH (cs:List Cn) (l:List Al) (n:Nat) (K0:Int) (s0:aE) (hn2:n≤l.length) (hn3:n=l.length∨(n+1=l.length∧(l.getD n eG).kind=3)) (hn4:n=l.length→0<l.length→(l.getD (l.length - 1) eG).kind≠3)
 (hk:0<n→K0=(l.getD 0 eG).kind∧s0=(l.getD 0 eG).name):
 (∃ i,i<l.length∧gh cs l i=true)↔∃ i,i<n∧kB cs (l.take i) K0 s0 (l.getD i eG)=true:=by
 have hb:∀ i,i<l.length→(gh cs l i=true↔(((l.getD i eG).kind=3∧i+1<l.length)∨∃ j,j<i∧iY cs (l.getD i eG) (l.getD j eG)=true)):=fun i hi=>by
  unfold gh
  rw[Bool.or_eq_true,Bool.and_eq_true,decide_eq_true_eq,decide_eq_true_eq,AW _ (by omega)]
 have hp:∀ a b:Al,iY cs a b=true↔((a.kind≠3∧a.kind≠b.kind)∨(a.kind=2∧a.n=b.n)∨(a.kind=1∧a.name=b.name)∨(a.kind=1∧(bQ cs a.name).family≠(bQ cs b.name).family)):=fun a b=>by
  unfold iY
  simp only[Bool.or_eq_true,Bool.and_eq_true,decide_eq_true_eq,or_assoc]
 have ho:∀ i,i<n→(kB cs (l.take i) K0 s0 (l.getD i eG)=true↔((l.getD i eG).kind=3∨(l.getD i eG).kind≠K0∨((∃ j,j<i∧(l.getD j eG).name=(l.getD i eG).name)∧(l.getD i eG).kind=1)∨
  ((∃ j,j<i∧(l.getD j eG).n=(l.getD i eG).n)∧(l.getD i eG).kind=2)∨((l.getD i eG).kind=1∧(bQ cs (l.getD i eG).name).family≠(bQ cs s0).family))):=fun i hi=>by
  unfold kB
  simp only[Bool.or_eq_true,Bool.and_eq_true,decide_eq_true_eq,Bool.not_eq_true',decide_eq_false_iff_not,oI _ (show i≤l.length by omega),or_assoc,ne_eq]
 generalize hA:(fun i=>l.getD i eG)=A
 have hAx:∀ i,l.getD i eG=A i:=fun i=>by rw[← hA]
 simp only[hAx] at*
 clear hA hAx
 constructor
 ·rintro⟨i,hi,hbi⟩
  refine Classical.byContradiction fun hno=>?_
  have hC:∀ j,j<n→¬ kB cs (l.take j) K0 s0 (A j)=true:=fun j hj h=>hno ⟨j,hj,h⟩
  rcases Nat.lt_or_ge i n with hin|hin
  ·have hci:=mt (ho i hin).2 (hC i hin)
   simp only[not_or] at hci
   obtain⟨q1,q2,q3,q4,q5⟩:=hci
   have q2:(A i).kind=K0:=Classical.byContradiction q2
   rcases (hb i hi).1 hbi with h|⟨j,hj,hpj⟩
   ·exact q1 h.1
   ·have hcj:=mt (ho j (by omega)).2 (hC j (by omega))
    simp only[not_or] at hcj
    obtain⟨r1,r2,r3,r4,r5⟩:=hcj
    have r2:(A j).kind=K0:=Classical.byContradiction r2
    rcases (hp _ _).1 hpj with h|h|h|h
    ·exact h.2 (q2.trans r2.symm)
    ·exact q4 ⟨⟨j,hj,h.2.symm⟩,h.1⟩
    ·exact q3 ⟨⟨j,hj,h.2.symm⟩,h.1⟩
    ·have e1:(bQ cs (A i).name).family=(bQ cs s0).family:=Classical.byContradiction fun e=>q5 ⟨h.1,e⟩
     have e2:(bQ cs (A j).name).family=(bQ cs s0).family:=Classical.byContradiction fun e=>r5 ⟨by rw[r2,← q2];exact h.1,e⟩
     exact h.2 (e1.trans e2.symm)
  ·obtain⟨e1,e2⟩:n+1=l.length∧(A n).kind=3:=by
    rcases hn3 with h|h
    ·omega
    ·exact h
   obtain rfl:i=n:=by omega
   rcases (hb i hi).1 hbi with h|⟨j,hj,hpj⟩
   ·omega
   ·rcases (hp _ _).1 hpj with h|h|h|h
    ·exact h.1 e2
    ·rw[e2] at h;omega
    ·rw[e2] at h;omega
    ·rw[e2] at h;omega
 ·rintro⟨i,hi,hoi⟩
  refine Classical.byContradiction fun hno=>?_
  have hR:∀ j,j<l.length→¬ gh cs l j=true:=fun j hj h=>hno ⟨j,hj,h⟩
  have hri:=mt (hb i (by omega)).2 (hR i (by omega))
  simp only[not_or] at hri
  obtain⟨q1,q2⟩:=hri
  have q2:∀ j,j<i→¬ iY cs (A i) (A j)=true:=fun j hj h=>q2 ⟨j,hj,h⟩
  have h3:(A i).kind≠3:=fun e=>by
   have h1:¬ i+1<l.length:=fun h=>q1 ⟨e,h⟩
   have h2:n=l.length:=by omega
   have h4:=hn4 h2 (by omega)
   rw[show l.length - 1=i by omega] at h4
   exact h4 e
  obtain⟨hk1,hk2⟩:=hk (by omega)
  rcases (ho i hi).1 hoi with h|h|⟨⟨j,hj,e⟩,h⟩|⟨⟨j,hj,e⟩,h⟩|⟨h,e⟩
  ·exact h3 h
  ·rcases Nat.eq_zero_or_pos i with hz|hpos
   ·rw[hz] at h;exact h hk1.symm
   ·exact q2 0 hpos ((hp _ _).2 (.inl ⟨h3,fun e=>h (e.trans hk1.symm)⟩))
  ·exact q2 j hj ((hp _ _).2 (.inr (.inr (.inl ⟨h,e.symm⟩))))
  ·exact q2 j hj ((hp _ _).2 (.inr (.inl ⟨h,e.symm⟩)))
  ·rcases Nat.eq_zero_or_pos i with hz|hpos
   ·rw[hz] at e;exact e (by rw[hk2])
   ·exact q2 0 hpos ((hp _ _).2 (.inr (.inr (.inr ⟨h,by rw[← hk2];exact e⟩))))
theorem E4 {cs:List Cn} {e:Ex} (h:dN e=true):jC cs e=kL cs e:=by
 obtain⟨kd,nm,nn,op,names,ae,binds,l⟩:=e
 obtain⟨hp,-⟩:=(nV _ _ _ _ _ _ _ _).1 h
 unfold nW at hp
 have e1:jC cs (.mk kd nm nn op names ae binds l)=(!(decide (kd=6)&&decide (l.length=0))&&!((List.range l.length).any (gh cs l))):=rfl
 have e2:kL cs (.mk kd nm nn op names ae binds l)=if kd≠6 then true else !gg cs (Dp (ga l)) (Dq (ga l)) [] (ga l)&&decide (0<l.length):=rfl
 rw[e1,e2]
 clear e1 e2 h
 by_cases h6:kd=6
 rotate_left
 ·have ha:l=[]:=List.length_eq_zero_iff.1 (by omega)
  subst ha
  rw[if_pos h6]
  simp[h6]
 subst h6
 rw[if_neg (fun h=>h rfl)]
 by_cases hl0:l.length=0
 ·simp[hl0]
 have hz:decide (l.length=0)=false:=decide_eq_false hl0
 have hz2:decide (0<l.length)=true:=decide_eq_true (by omega)
 rw[hz,hz2]
 simp only[decide_true,Bool.and_false,Bool.not_false,Bool.true_and,Bool.and_true]
 congr 1
 rw[Bool.eq_iff_iff,zB,List.any_eq_true]
 obtain⟨n,hn1,hn2,hn3,hn4⟩:=Ee l
 have hg:∀ i (h:i<l.length),l.getD i eG=l[i]:=fun i h=>by rw[List.getD_eq_getElem?_getD,List.getElem?_eq_getElem h];rfl
 rw[hn1]
 have hk0:0<n→Dp (l.take n)=(l.getD 0 eG).kind∧Dq (l.take n)=(l.getD 0 eG).name:=fun h=>by
  cases l with
  |nil=>exact absurd rfl hl0
  |cons a r=>
   obtain⟨q,rfl⟩:∃ q,n=q+1:=⟨n - 1,by omega⟩
   exact⟨rfl,rfl⟩
 have hlt:(l.take n).length=n:=by rw[List.length_take];omega
 have hpl:=yH cs l n (Dp (l.take n)) (Dq (l.take n)) hn2 hn3 hn4 hk0
 constructor
 ·rintro⟨i,hi,hbi⟩
  obtain⟨j,hj,hoj⟩:=hpl.1 ⟨i,List.mem_range.1 hi,hbi⟩
  refine⟨j,by omega,?_⟩
  rw[List.take_take,Nat.min_eq_left (by omega),List.getElem_take,← hg j (by omega)]
  exact hoj
 ·rintro⟨j,hj,hoj⟩
  rw[hlt] at hj
  rw[List.take_take,Nat.min_eq_left (by omega),List.getElem_take,← hg j (by omega)] at hoj
  obtain⟨i,hi,hbi⟩:=hpl.2 ⟨j,hj,hoj⟩
  exact⟨i,List.mem_range.2 hi,hbi⟩
theorem jV:∀ (l:List Cn) (i:Nat) (s:aE),(bU (l.take i) s).isSome=true↔∃ j,∃ h:j<l.length,j<i∧l[j].name=s
 |[],i,s=>by simp[bU]
 |c::r,0,s=>by simp[bU]
 |c::r,i+1,s=>by
  rw[List.take_succ_cons,bU]
  by_cases h:s=c.name
  ·rw[if_pos h]
   simp only[Option.isSome_some,true_iff]
   exact⟨0,by simp,by omega,h.symm⟩
  ·rw[if_neg h,jV r i s]
   constructor
   ·rintro⟨j,h1,h2,h3⟩
    exact⟨j+1,by simp only[List.length_cons];omega,by omega,h3⟩
   ·rintro⟨j,h1,h2,h3⟩
    cases j with
    |zero=>exact absurd h3.symm h
    |succ j=>exact⟨j,by simp only[List.length_cons] at h1;omega,by omega,h3⟩
theorem vc {l:List Cn} {i:Nat} (hi:i<l.length) (h:(bU (l.take i) l[i].name).isSome=false):bQ l l[i].name=l[i]:=by
 have h2:∀ j (hj:j<l.length),j<i→¬ l[j].name=l[i].name:=fun j hj hji e=>by
  have:=(jV l i l[i].name).2 ⟨j,hj,hji,e⟩
  rw[h] at this;cases this
 rw[bQ,va h2,List.drop_eq_getElem_cons hi,bU,if_pos rfl];rfl
theorem tR (l:List Cn):fY [] l=true↔∀ i (h:i<l.length),kG (l.take i) l[i]=true:=by
 rw[tQ,List.all_eq_true]
 constructor
 ·intro h i hi
  have:=h i (List.mem_range.2 hi)
  rwa[List.nil_append,List.getD_eq_getElem?_getD,List.getElem?_eq_getElem hi] at this
 ·intro h i hi
  have hi:=List.mem_range.1 hi
  rw[List.nil_append,List.getD_eq_getElem?_getD,List.getElem?_eq_getElem hi]
  exact h i hi
theorem D3 (z:Bool) (c:Cn) (l:List Cn) (h:(bU l c.name).isSome=z):kG l c=!(z||GG c.name []||decide (c.arity<0)||decide (100<c.arity)||decide (c.family<1)||decide (1000<c.family)||decide (c.tag<0)||decide (c.family≤c.tag)):=by unfold kG;rw[h]
theorem Eb (G:Gl) (hG:au G) (l:List Cn) (H:List ax) (hl:l.length<1099511627776):
 af Tryz.prog G 69 [.list 4 (aH l)] H (fun r H'=>H'=H∧r= .bool (fY [] l)):=by
 have bK:=fun n=>bf n l
 refine af.aD TB [] aA _ Tryz.func69 rfl (by decide) Tryz.ntmps69 (by simp) rfl (by simp only[ap,Nat.reduceAdd];rfl) fun C R' hR hC hcl hB=>?_;have X:=aF;have hC':=congrArg List.length hC
 (refine run ?_;with_reducible repeat' first|exact trivial|(apply ad.mk<;>intro hb)|apply av.mk)
 refine az (fun i:Nat=>[(0,.list 4 (aH l)),(3,.int .i64 i)]) (fun i=>H++[]) (fun i=>l.length - i) (fun i=>i≤l.length∧∀ j (h:j<l.length),j<i→kG (l.take j) l[j]=true) 0 ⟨Nat.zero_le _,fun j _ h=>by omega⟩ ?_ ?_
 ·simp only[List.append_nil]
  exact Wk.sub (by simp[bg,look])
 rintro K i ⟨hi,hall⟩ hK
 rcases Nat.lt_or_ge i l.length with hlt|hge
 ·have hg:(aH l)[i]? =some (.agg [.str l[i].name,.int .i64 l[i].arity,.int .i64 l[i].tag,.int .i64 l[i].family]):=fh l hlt
  have hself:=vc hlt
  have hft:=jV l i l[i].name
  have hno:kG (l.take i) l[i]=false→fY [] l=false:=fun h=>Bool.eq_false_iff.2 fun h2=>by rw[(tR l).1 h2 i hlt] at h;cases h
  have hyes:kG (l.take i) l[i]=true→∀ j (h:j<l.length),j<i+1→kG (l.take j) l[j]=true:=fun h j hj hji=>by
   rcases Nat.lt_or_ge j i with h3|h3
   ·exact hall j hj h3
   ·have:j=i:=by omega
    subst this;exact h
  have hfind:=fun H=>nP G hG l l[i].name H hl
  have hod:=fun z (hz:(bU (l.take i) l[i].name).isSome=z)=>D3 z l[i] (l.take i) hz
  have hnm:∀ j (h:j<l.length),(aH l)[j]? =some (.agg [.str l[j].name,.int .i64 l[j].arity,.int .i64 l[j].tag,.int .i64 l[j].family]):=fun j h=>fh l h
  generalize hci:l[i]=c at*
  obtain⟨c1,c2,c3,c4⟩:=c
  simp only at hself hft hfind hod hg
  generalize bQ l c1=x at*
  obtain⟨x1,x2,x3,x4⟩:=x
  have hxc:(Cn.mk x1 x2 x3 x4).cells=[.str x1,.int .i64 x2,.int .i64 x3,.int .i64 x4]:=rfl
  rw[hxc] at hfind
  have X:=And.intro aF hg
  (refine run ?_;with_reducible repeat' first|exact trivial|(apply ad.mk<;>intro hb)|apply av.mk)
  refine bt (hfind _) ?_
  rintro r H' ⟨rfl,rfl⟩
  (refine run ?_;with_reducible repeat' first|exact trivial|(apply ad.mk<;>intro hb)|apply av.mk)
  refine az (fun k:Nat×Bool=>[(0,.list 4 (aH l)),(3,.int .i64 i),(4,.ptr H.length 0 0 0),(5,.ptr (H.length+1) 0 0 0),(7,.bool k.2),(8,.int .i64 k.1)])
   (fun k=>H++[.cells 0 4 [.agg [.str c1,.int .i64 c2,.int .i64 c3,.int .i64 c4]],.cells 0 4 [.agg [.str x1,.int .i64 x2,.int .i64 x3,.int .i64 x4]]]) (fun k=>i - k.1) (fun k=>k.1≤i∧(k.2=true↔∃ j,∃ h:j<l.length,j<k.1∧l[j].name=c1)) (0,false) ⟨Nat.zero_le _,by simp⟩ ?_ ?_
  ·exact aY (n0:=H.length) [(H.length,0),(H.length+1,0)] hG hB hC' hcl
  rintro K2 ⟨k,b⟩ ⟨hk,hbk⟩ hK2
  simp only at hk hbk
  dsimp only
  rcases Nat.lt_or_ge k i with hlk|hgk
  ·have hgk:=hnm k (by omega)
   have hstep:∀ b2:Bool,(b2=true↔(b=true∨(l[k]'(by omega)).name=c1))→(b2=true↔∃ j,∃ h:j<l.length,j<k+1∧l[j].name=c1):=fun b2 h2=>by
    rw[h2,hbk]
    constructor
    ·rintro (⟨j,h,h3,h4⟩|h)
     ·exact⟨j,h,by omega,h4⟩
     ·exact⟨k,by omega,by omega,h⟩
    ·rintro⟨j,h,h3,h4⟩
     rcases Nat.lt_or_ge j k with h5|h5
     ·exact .inl ⟨j,h,h5,h4⟩
     ·obtain rfl:j=k:=by omega
      exact .inr h4
   generalize l[k]'(by omega)=d at*
   obtain⟨d1,d2,d3,d4⟩:=d
   simp only at hstep hgk
   cases b
   ·by_cases hd:d1=c1
    ·have X:=And.intro aF (And.intro hgk hd)
     (refine run ?_;with_reducible repeat' first|exact trivial|(apply ad.mk<;>intro hb)|apply av.mk)
     refine hK2 _ _ (k+1,true) (by simp only;omega) ⟨by simp only;omega,hstep true (by simp[hd])⟩ ?_
     dsimp only
     exact aY (n0:=H.length) [(H.length,0),(H.length+1,0)] hG hB hC' hcl
    ·have X:=And.intro aF (And.intro hgk hd)
     (refine run ?_;with_reducible repeat' first|exact trivial|(apply ad.mk<;>intro hb)|apply av.mk)
     refine hK2 _ _ (k+1,false) (by simp only;omega) ⟨by simp only;omega,hstep false (by simp[hd])⟩ ?_
     dsimp only
     exact aY (n0:=H.length) [(H.length,0),(H.length+1,0)] hG hB hC' hcl
   ·have X:=And.intro aF hgk
    (refine run ?_;with_reducible repeat' first|exact trivial|(apply ad.mk<;>intro hb)|apply av.mk)
    refine hK2 _ _ (k+1,true) (by simp only;omega) ⟨by simp only;omega,hstep true (by simp)⟩ ?_
    dsimp only
    exact aY (n0:=H.length) [(H.length,0),(H.length+1,0)] hG hB hC' hcl
  ·obtain rfl:k=i:=by omega
   clear hK2
   have hnk:¬ (k:Int)<(k:Int):=Int.lt_irrefl _
   have hfb:(bU (l.take k) c1).isSome=b:=by
    rw[Bool.eq_iff_iff,hft,hbk]
   rw[hfb] at hself
   have hod:=hod b hfb
   cases b
   ·obtain⟨rfl,rfl,rfl,rfl⟩:x1=c1∧x2=c2∧x3=c3∧x4=c4:=by
     have e:=hself rfl
     injection e with e1 e2 e3 e4
     exact⟨e1,e2,e3,e4⟩
    have X:=And.intro aF hnk
    (refine run ?_;with_reducible repeat' first|exact trivial|(apply ad.mk<;>intro hb)|apply av.mk)
    ·have hz:kG (l.take k) ⟨x1,x2,x3,x4⟩=false:=by
      rw[hod]
      exact congrArg not hb
     rw[hno hz] at hR
     exact aS (n0:=H.length) hR hC' hcl (.same _ rfl) ⟨rfl,rfl⟩
    ·have hz:kG (l.take k) ⟨x1,x2,x3,x4⟩=true:=by
      rw[hod]
      exact congrArg not hb
     refine hK _ _ (k+1) (by omega) ⟨by omega,hyes hz⟩ ?_
     exact aY (n0:=H.length) [] hG hB hC' hcl
   ·have hz:kG (l.take k) ⟨c1,c2,c3,c4⟩=false:=by rw[hod];simp
    rw[hno hz] at hR
    have X:=And.intro aF hnk
    (refine run ?_;with_reducible repeat' first|exact trivial|(apply ad.mk<;>intro hb)|apply av.mk)
    exact aS (n0:=H.length) hR hC' hcl (.same _ rfl) ⟨rfl,rfl⟩
 have hni:¬ (i:Int)<(l.length:Int):=by omega
 clear hK
 have e:fY [] l=true:=(tR l).2 fun j hj=>hall j hj (by omega)
 rw[e] at hR
 have X:=And.intro aF hni
 (refine run ?_;with_reducible repeat' first|exact trivial|(apply ad.mk<;>intro hb)|apply av.mk)
 exact aS (n0:=H.length) hR hC' hcl (.same _ rfl) ⟨rfl,rfl⟩
theorem tj (l:List aE):∀ m,(∀ i,i+1<m→l.getD (i+1) []≠l.getD i [])→(dc l m).length=m
 |0,_=>rfl
 |m+1,h=>by
  rw[dc,if_neg,List.length_append,List.length_singleton,tj l m (fun i hi=>h i (by omega))]
  rintro⟨h1,h2⟩
  have:=h (m - 1) (by omega)
  rw[show m - 1+1=m by omega] at this
  exact this h2
theorem le_nil {x:aE} (h:x≤[]):x=[]:=by
 cases x with
 |nil=>rfl
 |cons a r=>exact absurd (List.nil_lt_cons a r) h
theorem uF (l:List Bd):cK l=false↔(aP l).Nodup∧[]∉aP l:=by
 have hperm:=fM (aP l)
 have hlen:=fL (aP l)
 unfold cK
 rw[Bool.or_eq_false_iff,Bool.and_eq_false_iff,decide_eq_false_iff_not,decide_eq_false_iff_not,Decidable.not_not]
 unfold GG
 rw[decide_eq_false_iff_not]
 constructor
 ·rintro⟨h1,h2⟩
  refine⟨nY _ h2,fun hm=>?_⟩
  have hm2:=hperm.mem_iff.2 hm
  obtain⟨j,hj,hje⟩:=List.mem_iff_getElem.1 hm2
  rcases h1 with h1|h1
  ·omega
  ·apply h1
   rw[List.getD_eq_getElem?_getD,List.getElem?_eq_getElem (by omega)]
   simp only[Option.getD_some]
   rcases Nat.eq_zero_or_pos j with h0|h0
   ·subst h0;exact hje
   ·have:=sA (aP l) hj h0
    rw[hje] at this
    exact le_nil this
 ·rintro⟨h1,h2⟩
  have hnd:=hperm.nodup_iff.2 h1
  refine⟨?_,?_⟩
  ·rcases Nat.eq_zero_or_pos (aP l).length with h0|h0
   ·exact .inl (by omega)
   ·refine .inr fun e=>h2 (hperm.mem_iff.1 ?_)
    rw[List.getD_eq_getElem?_getD,List.getElem?_eq_getElem (by omega)] at e
    simp only[Option.getD_some] at e
    rw[← e]
    exact List.getElem_mem _
  ·rw[oq,tj,hlen]
   intro i hi e
   rw[List.getD_eq_getElem?_getD,List.getD_eq_getElem?_getD,List.getElem?_eq_getElem hi,List.getElem?_eq_getElem (show i<(dU (aP l)).length by omega)] at e
   simp only[Option.getD_some] at e
   have:=(List.getElem_inj hnd).1 e
   omega
theorem En:∀ (m:Nat) (e:Ex),de m dN e=true→ER m e
 |0,_,_=>trivial
 |m+1,e,h=>by
  have h:(dN e&&e.parts.all (de m dN))=true:=h
  rw[Bool.and_eq_true,List.all_eq_true] at h
  obtain⟨kd,nm,nn,op,names,ae,binds,alts⟩:=e
  obtain⟨hp,-⟩:=(nV _ _ _ _ _ _ _ _).1 h.1
  unfold nW at hp
  refine⟨fun hk=>List.length_eq_zero_iff.1 ?_,fun hk=>List.length_eq_zero_iff.1 ?_,fun p hpm=>En m p (h.2 p hpm)⟩
  ·have hk:¬ kd=6:=hk
   show alts.length=0
   omega
  ·have hk:¬ kd=5:=hk
   show binds.length=0
   omega
theorem CD (l:List Bd) (b:Bd) (h:dn dN b.e=true):l9 (fp l) b=true↔∀ s∈cX b.e,s∈l.map Bd.name:=by
 have hshp:=En b.e.wt b.e h
 have hc:∀ s,cv (fp l) s=if s∈l.map Bd.name then 1 else 0:=fun s=>by
  unfold fp
  rw[zN]
  rfl
 have hu:=fun s=>sH s b.e.wt b.e (fp l,[]) (Nat.le_refl _) hshp (fun t=>by rw[hc];split<;>omega)
 have hf:=fun s=>Bh s b.e hshp
 unfold l9
 rw[decide_eq_true_eq,List.length_eq_zero_iff]
 constructor
 ·intro h0 s hs
  refine Classical.byContradiction fun hn=>?_
  have:=(hu s).2 (.inr ⟨by rw[hc,if_neg hn],(hf s).1 hs⟩)
  rw[h0] at this
  cases this
 ·intro h0
  refine List.eq_nil_iff_forall_not_mem.2 fun s hs=>?_
  rcases (hu s).1 hs with h1|⟨h1,h2⟩
  ·cases h1
  ·have:=h0 s ((hf s).2 h2)
   rw[hc,if_pos this] at h1
   omega
theorem DL (l:List Bd):cv (fp l) lu=0↔lu∉l.map Bd.name:=by
 unfold fp
 rw[zN]
 by_cases h:lu∈l.map Bd.name
 ·rw[if_pos h];simp[h]
 ·rw[if_neg h];simp[h,cv]
theorem DG (p:Pg):bA p=if qj p.binds≠0 then qj p.binds else
 if !(p.binds.all fun b=>dn dN b.e) then 120 else if !fY [] p.cons then 121 else if cK p.binds then 122 else if !(p.binds.all (l9 (fp p.binds))) then 123
 else if !(ln p.cons&&p.binds.all fun b=>dn (kW p.cons) b.e) then 124 else if !(p.binds.all fun b=>dn (kL p.cons) b.e) then 125 else if cv (fp p.binds) lu=0 then 126 else 0:=by
 unfold bA qj
 by_cases h1:100000<dK p.binds
 ·simp[h1]
 ·by_cases h2:1000<gM p.binds
  ·simp[h1,h2]
  ·simp[h1,h2]
theorem BV (G:Gl) (hG:au G) (l:List Cn) (H:List ax) (hl:l.length<1099511627776):
 af Tryz.prog G 72 [.list 4 (aH l)] H (fun r H'=>H'=H∧r= .bool (ln l)):=by
 have bK:=fun n=>bf n l
 have hkc:SV.list 4 (aH ma)= .list 4 [.agg [.str [80,114,105,109,46,70,97,108,115,101],.int .i64 0,.int .i64 0,.int .i64 2],.agg [.str [80,114,105,109,46,84,114,117,101],.int .i64 0,.int .i64 1,.int .i64 2],.agg [.str [80,114,105,109,46,40,41],.int .i64 0,.int .i64 0,.int .i64 1],.agg [.str [80,114,105,109,46,66,111,120],.int .i64 1,.int .i64 0,.int .i64 1]]:=rfl
 have hk4:(aH ma).length=4:=rfl
 have hkn:ln l=ma.all fun c=>decide (bQ l c.name=c):=rfl
 rw[hkn]
 refine af.aD TB [] aA _ Tryz.func72 rfl (by decide) Tryz.ntmps72 (by simp) rfl (by simp only[ap,Nat.reduceAdd];rfl) fun C R' hR hC hcl hB=>?_;have X:=aF;have hC':=congrArg List.length hC
 (refine run ?_;with_reducible repeat' first|exact trivial|(apply ad.mk<;>intro hb)|apply av.mk)
 rw[← hkc]
 generalize hkk:ma=kk at*
 have hkl:kk.length=4:=by rw[← hkk];rfl
 refine az (fun i:Nat=>[(0,.list 4 (aH l)),(3,.list 4 (aH kk)),(4,.int .i64 i)]) (fun i=>H++[]) (fun i=>kk.length - i) (fun i=>i≤kk.length∧(kk.take i).all (fun c=>decide (bQ l c.name=c))=true) 0 ⟨Nat.zero_le _,rfl⟩ ?_ ?_
 ·simp only[List.append_nil]
  exact Wk.sub (by simp[bg,look])
 rintro K i ⟨hi,hall⟩ hK
 rcases Nat.lt_or_ge i kk.length with hlt|hge
 ·have hg:(aH kk)[i]? =some (.agg [.str kk[i].name,.int .i64 kk[i].arity,.int .i64 kk[i].tag,.int .i64 kk[i].family]):=fh kk hlt
  have hmem:=List.getElem_mem hlt
  have hfind:=fun H=>nP G hG l kk[i].name H hl
  have hst:¬ bQ l kk[i].name=kk[i]→(kk.all fun c=>decide (bQ l c.name=c))=false:=fun h=>Bool.eq_false_iff.2 fun h2=>h (of_decide_eq_true (List.all_eq_true.1 h2 _ hmem))
  have hgo:bQ l kk[i].name=kk[i]→((kk.take (i+1)).all fun c=>decide (bQ l c.name=c))=true:=fun h=>by
   rw[List.take_succ_eq_append_getElem hlt,List.all_append,hall];simp[h]
  generalize kk[i]=c at*
  obtain⟨c1,c2,c3,c4⟩:=c
  simp only at hfind hst hgo hg
  generalize bQ l c1=x at*
  obtain⟨x1,x2,x3,x4⟩:=x
  have hxc:(Cn.mk x1 x2 x3 x4).cells=[.str x1,.int .i64 x2,.int .i64 x3,.int .i64 x4]:=rfl
  rw[hxc] at hfind
  have X:=And.intro aF hg
  (refine run ?_;with_reducible repeat' first|exact trivial|(apply ad.mk<;>intro hb)|apply av.mk)
  refine bt (hfind _) ?_
  rintro r H' ⟨rfl,rfl⟩
  by_cases hx:x1=c1∧x2=c2∧x3=c3∧x4=c4
  ·obtain⟨rfl,rfl,rfl,rfl⟩:=hx
   have X:=And.intro aF hg
   (refine run ?_;with_reducible repeat' first|exact trivial|(apply ad.mk<;>intro hb)|apply av.mk)
   refine hK _ _ (i+1) (by omega) ⟨by omega,hgo rfl⟩ ?_
   exact aY (n0:=H.length) [] hG hB hC' hcl
  ·rw[hst (fun e=>hx (by injection e with e1 e2 e3 e4;exact⟨e1,e2,e3,e4⟩))] at hR
   have X:=And.intro aF hg
   (refine run ?_;with_reducible repeat' first|exact trivial|(apply ad.mk<;>intro hb)|apply av.mk)
   ·exact aS (n0:=H.length) hR hC' hcl (.same _ rfl) ⟨rfl,rfl⟩
   ·exfalso
    simp only[Bool.not_eq_false',Bool.and_eq_true,decide_eq_true_eq] at hb
    exact hx hb
 clear hK
 have hni:¬ (i:Int)<4:=by omega
 rw[List.take_of_length_le hge] at hall
 rw[hall] at hR
 have X:=And.intro aF hni
 (refine run ?_;with_reducible repeat' first|exact trivial|(apply ad.mk<;>intro hb)|apply av.mk)
 exact aS (n0:=H.length) hR hC' hcl (.same _ rfl) ⟨rfl,rfl⟩
def Lj (G:Gl) (cs:List Cn) (m:Nat):Prop:=∀ (e:Ex) (H:List ax),e.wt≤m→e.wt<4294967296→af Tryz.prog G 73 [.list 4 (aH cs),e.sv] H (fun r H'=>H'=H∧r= .bool (de m (oO cs) e))
theorem tV (G:Gl) (hG:au G) (cs:List Cn) (hcn:cs.length<1099511627776):∀ m,Lj G cs m
 |0,e,_,h,_=>absurd e.b9 (by omega)
 |m+1,e,H,hm,hw0=>by
  have hrec:=tV G hG cs hcn m
  obtain⟨kd,nm,nn,op,names,ae,binds,alts⟩:=e
  have hlen:=Ex.cm kd nm nn op names ae binds alts
  have hpw:∀ p∈(Ex.mk kd nm nn op names ae binds alts).parts,p.wt≤m∧p.wt<4294967296:=fun p hp=>by have:=Ex.bT hp;omega
  have hpl:(Ex.mk kd nm nn op names ae binds alts).parts.length≤(Ex.mk kd nm nn op names ae binds alts).wt:=by rw[Ex.bM];simp;omega
  have c1:=fun H=>Ac G hG op H
  rw[show oh op=mw op from rfl] at c1
  have hpts:=fun H=>nN G hG (Ex.mk kd nm nn op names ae binds alts) H hw0
  have hfind:=fun s H=>nP G hG cs s H hcn
  have bK:=fun n=>bf n cs
  have hall:de (m+1) (oO cs) (.mk kd nm nn op names ae binds alts)=(oO cs (.mk kd nm nn op names ae binds alts)&&(Ex.mk kd nm nn op names ae binds alts).parts.all (de m (oO cs))):=rfl
  rw[hall]
  clear hall
  have hnd:oO cs (.mk kd nm nn op names ae binds alts)=(!((decide (kd=3)&&decide (names.length=0))||(decide (kd=4)&&decide (ae.length<2))||(decide (kd=5)&&decide (binds.length=0))||(decide (kd=8)&&!decide ((ae.length:Int)=mw op))||(decide (kd=7)&&(!(bU cs nm).isSome||!decide ((ae.length:Int)=(bQ cs nm).arity))))
   &&!(alts.any fun a=>decide (a.kind=1)&&!kA cs a.name a.names.length)):=rfl
  rw[hnd]
  clear hnd
  generalize hp:(Ex.mk kd nm nn op names ae binds alts).parts=pp at*
  generalize mw op=ar at*
  generalize hW:(Ex.mk kd nm nn op names ae binds alts).wt=W at*
  have hf1:=hfind nm
  generalize (bU cs nm).isSome=is at*
  generalize bQ cs nm=x at*
  obtain⟨x1,x2,x3,x4⟩:=x
  have hxc:(Cn.mk x1 x2 x3 x4).cells=[.str x1,.int .i64 x2,.int .i64 x3,.int .i64 x4]:=rfl
  rw[hxc] at hf1
  generalize hnb:(!((decide (kd=3)&&decide (names.length=0))||(decide (kd=4)&&decide (ae.length<2))||(decide (kd=5)&&decide (binds.length=0))||(decide (kd=8)&&!decide ((ae.length:Int)=ar))||(decide (kd=7)&&(!is||!decide ((ae.length:Int)=x2)))))=nb
  refine af.aD TB [] aA _ Tryz.func73 rfl (by decide) Tryz.ntmps73 (by simp) rfl (by simp only[ap,Nat.reduceAdd];rfl) fun C R' hR hC hcl hB=>?_;have X:=aF;have hC':=congrArg List.length hC
  (refine run ?_;with_reducible repeat' first|exact trivial|(apply ad.mk<;>intro hb)|apply av.mk)
  refine bt (hf1 _) ?_
  rintro r H' ⟨rfl,rfl⟩
  (refine Gh ?_;with_reducible repeat' first|exact trivial|(apply ad.mk<;>intro hb)|apply av.mk)
  refine dQ (fun _:Unit=>[(0,.list 4 (aH cs)),(3,.ptr H.length 0 0 0),(81,.bool (!nb))]) (fun _=>H++[.cells 0 8 [.agg [.int .i64 kd,.str nm,.int .i64 nn,.int .i64 op,.list 1 (names.map .str),.list 8 (ag ae),.list 9 (ah binds),.list 12 (aw alts)]]]) (fun _=>True) (fun K hK=>?_) (fun _ _=>?_)
  ·clear hR
   by_cases h8:kd=8
   ·subst h8
    by_cases hs:(ae.length:Int)=ar
    ·rw[show nb=true by rw[← hnb];simp[hs]] at hK
     have X:=And.intro aF hs
     (refine run ?_;with_reducible repeat' first|exact trivial|(apply ad.mk<;>intro hb)|apply av.mk)
     refine hK _ _ () trivial ?_
     exact aY (n0:=H.length) [(H.length,0)] hG hB hC' hcl
    ·rw[show nb=false by rw[← hnb];simp[hs]] at hK
     have X:=And.intro aF hs
     (refine run ?_;with_reducible repeat' first|exact trivial|(apply ad.mk<;>intro hb)|apply av.mk)
     refine hK _ _ () trivial ?_
     exact aY (n0:=H.length) [(H.length,0)] hG hB hC' hcl
   by_cases h7:kd=7
   ·subst h7
    cases is
    ·rw[show nb=false by rw[← hnb];simp] at hK
     have X:=aF
     (refine run ?_;with_reducible repeat' first|exact trivial|(apply ad.mk<;>intro hb)|apply av.mk)
     refine hK _ _ () trivial ?_
     exact aY (n0:=H.length) [(H.length,0)] hG hB hC' hcl
    ·by_cases hs:(ae.length:Int)=x2
     ·rw[show nb=true by rw[← hnb];simp[hs]] at hK
      have X:=And.intro aF hs
      (refine run ?_;with_reducible repeat' first|exact trivial|(apply ad.mk<;>intro hb)|apply av.mk)
      refine hK _ _ () trivial ?_
      exact aY (n0:=H.length) [(H.length,0)] hG hB hC' hcl
     ·rw[show nb=false by rw[← hnb];simp[hs]] at hK
      have X:=And.intro aF hs
      (refine run ?_;with_reducible repeat' first|exact trivial|(apply ad.mk<;>intro hb)|apply av.mk)
      refine hK _ _ () trivial ?_
      exact aY (n0:=H.length) [(H.length,0)] hG hB hC' hcl
   ·rw[decide_eq_false h8,decide_eq_false h7,Bool.false_and,Bool.false_and,Bool.or_false,Bool.or_false] at hnb
    have hnb2:(decide (kd=3)&&decide ((names.length:Int)=0)||decide (kd=4)&&decide ((ae.length:Int)<2)||decide (kd=5)&&decide ((binds.length:Int)=0))=!nb:=by
     rw[← hnb,Bool.not_not]
     congr 1
     ·congr 1
      ·congr 1;exact decide_eq_decide.2 (by omega)
      ·congr 1;exact decide_eq_decide.2 (by omega)
     ·congr 1;exact decide_eq_decide.2 (by omega)
    clear hnb
    cases nb
    ·have hnb2:_=true:=hnb2
     have X:=And.intro aF (And.intro h8 (And.intro h7 hnb2))
     (refine run ?_;with_reducible repeat' first|exact trivial|(apply ad.mk<;>intro hb)|apply av.mk)
     refine hK _ _ () trivial ?_
     exact aY (n0:=H.length) [(H.length,0)] hG hB hC' hcl
    ·have hnb2:_=false:=hnb2
     have X:=And.intro aF (And.intro h8 (And.intro h7 hnb2))
     (refine run ?_;with_reducible repeat' first|exact trivial|(apply ad.mk<;>intro hb)|apply av.mk)
     refine hK _ _ () trivial ?_
     exact aY (n0:=H.length) [(H.length,0)] hG hB hC' hcl
  clear hnb
  have hPA:=fun a:Al=>(show(decide (a.kind=1)&&!kA cs a.name a.names.length)=(decide (a.kind=1)&&!((bU cs a.name).isSome&&decide ((bQ cs a.name).arity=(a.names.length:Int)))) from rfl)
  generalize hAL:(fun a:Al=>decide (a.kind=1)&&!kA cs a.name a.names.length)=AL at*
  have hPA:∀ a,AL a=(decide (a.kind=1)&&!((bU cs a.name).isSome&&decide ((bQ cs a.name).arity=(a.names.length:Int)))):=fun a=>by rw[← hAL];exact hPA a
  clear hAL
  cases nb
  ·rw[Bool.false_and,Bool.false_and] at hR
   (refine run ?_;with_reducible repeat' first|exact trivial|(apply ad.mk<;>intro hb)|apply av.mk)
   exact aS (n0:=H.length) hR hC' hcl (.same _ rfl) ⟨rfl,rfl⟩
  rw[Bool.true_and] at hR
  (refine run ?_;with_reducible repeat' first|exact trivial|(apply ad.mk<;>intro hb)|apply av.mk)
  refine az (fun i:Nat=>[(0,.list 4 (aH cs)),(3,.ptr H.length 0 0 0),(7,.int .i64 i)]) (fun i=>H++[.cells 0 8 [.agg [.int .i64 kd,.str nm,.int .i64 nn,.int .i64 op,.list 1 (names.map .str),.list 8 (ag ae),.list 9 (ah binds),.list 12 (aw alts)]]]) (fun i=>alts.length - i) (fun i=>i≤alts.length∧(alts.take i).any AL=false) 0 ⟨Nat.zero_le _,rfl⟩ ?_ ?_
  ·exact aY (n0:=H.length) [(H.length,0)] hG hB hC' hcl
  rintro K i ⟨hi,hany⟩ hK
  rcases Nat.lt_or_ge i alts.length with hlt|hge
  ·have hg:(aw alts)[i]? =some (.agg (.int .i64 alts[i].kind:: .str alts[i].name:: .int .i64 alts[i].n:: .list 1 (alts[i].names.map .str)::alts[i].body.cells)):=by rw[bG,List.getElem?_map,List.getElem?_eq_getElem hlt,Option.map_some,Al.sv,Al.cM]
   have hgo:AL alts[i]=false→(alts.take (i+1)).any AL=false:=fun h=>by rw[List.take_succ_eq_append_getElem hlt,List.any_append,hany];simp[h]
   have hst:AL alts[i]=true→alts.any AL=true:=fun h=>List.any_eq_true.2 ⟨_,List.getElem_mem hlt,h⟩
   have hpa:=hPA alts[i]
   generalize AL alts[i]=z at*
   have hx8:=alts[i].body.bS
   have hnl:=Al.hY (kd:=kd) (nm:=nm) (nn:=nn) (op:=op) (names:=names) (ae:=ae) (binds:=binds) hlt
   generalize alts[i]=a at*
   obtain⟨ak,an,ann,ans,ab⟩:=a
   have hpa:z=(decide (ak=1)&&!((bU cs an).isSome&&decide ((bQ cs an).arity=(ans.length:Int)))):=hpa
   simp only[Al.kind,Al.name,Al.n,Al.names,Al.body] at hg hx8 hnl
   have hf2:=hfind an
   generalize (bU cs an).isSome=is2 at*
   generalize bQ cs an=y at*
   obtain⟨y1,y2,y3,y4⟩:=y
   have hyc:(Cn.mk y1 y2 y3 y4).cells=[.str y1,.int .i64 y2,.int .i64 y3,.int .i64 y4]:=rfl
   rw[hyc] at hf2
   have X:=And.intro aF (And.intro hg hx8)
   (refine run ?_;with_reducible repeat' first|exact trivial|(apply ad.mk<;>intro hb)|apply av.mk)
   refine bt (hf2 _) ?_
   rintro r H' ⟨rfl,rfl⟩
   by_cases h1:ak=1
   rotate_left
   ·have hz:z=false:=by rw[hpa,decide_eq_false h1,Bool.false_and]
    have X:=And.intro aF (And.intro hg (And.intro hx8 h1))
    (refine run ?_;with_reducible repeat' first|exact trivial|(apply ad.mk<;>intro hb)|apply av.mk)
    refine hK _ _ (i+1) (by omega) ⟨by omega,hgo hz⟩ ?_
    exact aY (n0:=H.length) [(H.length,0)] hG hB hC' hcl
   rw[decide_eq_true h1,Bool.true_and] at hpa
   cases is2
   ·have hz:z=true:=hpa
    rw[hst hz] at hR
    have X:=And.intro aF (And.intro hg (And.intro hx8 h1))
    (refine run ?_;with_reducible repeat' first|exact trivial|(apply ad.mk<;>intro hb)|apply av.mk)
    exact aS (n0:=H.length) hR hC' hcl (.same _ rfl) ⟨rfl,rfl⟩
   rw[Bool.true_and] at hpa
   by_cases ha:(ans.length:Int)=y2
   ·have hz:z=false:=by rw[hpa,decide_eq_true ha.symm];rfl
    have X:=And.intro aF (And.intro hg (And.intro hx8 (And.intro h1 ha)))
    (refine run ?_;with_reducible repeat' first|exact trivial|(apply ad.mk<;>intro hb)|apply av.mk)
    refine hK _ _ (i+1) (by omega) ⟨by omega,hgo hz⟩ ?_
    exact aY (n0:=H.length) [(H.length,0)] hG hB hC' hcl
   ·have hz:z=true:=by rw[hpa,decide_eq_false (fun e=>ha e.symm)];rfl
    rw[hst hz] at hR
    have X:=And.intro aF (And.intro hg (And.intro hx8 (And.intro h1 ha)))
    (refine run ?_;with_reducible repeat' first|exact trivial|(apply ad.mk<;>intro hb)|apply av.mk)
    exact aS (n0:=H.length) hR hC' hcl (.same _ rfl) ⟨rfl,rfl⟩
  rw[List.take_of_length_le hge] at hany
  rw[hany,Bool.not_false,Bool.true_and] at hR
  clear hK
  have hni:¬ (i:Int)<(alts.length:Int):=by omega
  have c1:=hpts
  have X:=And.intro aF hni
  (refine run ?_;with_reducible repeat' first|exact trivial|(apply ad.mk<;>intro hb)|apply av.mk)
  refine az (fun i:Nat=>[(0,.list 4 (aH cs)),(11,.list 8 (ag pp)),(12,.int .i64 i)]) (fun i=>H++[]) (fun i=>pp.length - i) (fun i=>i≤pp.length∧(pp.take i).all (de m (oO cs))=true) 0 ⟨Nat.zero_le _,rfl⟩ ?_ ?_
  ·exact aY (n0:=H.length) [] hG hB hC' hcl
  rintro K i2 ⟨hi2,hall⟩ hK
  rcases Nat.lt_or_ge i2 pp.length with hlt|hge
  ·have hmem:=List.getElem_mem hlt
   have hg:(ag pp)[i2]? =some (.agg pp[i2].cells):=by rw[bh];simp[hlt];rfl
   have hpw2:=hpw _ hmem
   have c1:=fun H=>hrec pp[i2] H hpw2.1 hpw2.2
   have hst:de m (oO cs) pp[i2]=false→pp.all (de m (oO cs))=false:=fun h=>Bool.eq_false_iff.2 fun h2=>by rw[List.all_eq_true.1 h2 _ hmem] at h;cases h
   have hgo:de m (oO cs) pp[i2]=true→(pp.take (i2+1)).all (de m (oO cs))=true:=fun h=>by rw[List.take_succ_eq_append_getElem hlt,List.all_append,hall];simp[h]
   generalize de m (oO cs) pp[i2]=z at*
   generalize pp[i2]=x at*
   have X:=And.intro aF hg
   cases z
   ·rw[hst rfl] at hR
    clear hK
    (refine run ?_;with_reducible repeat' first|exact trivial|(apply ad.mk<;>intro hb)|apply av.mk)
    exact aS (n0:=H.length) hR hC' hcl (.same _ rfl) ⟨rfl,rfl⟩
   ·(refine run ?_;with_reducible repeat' first|exact trivial|(apply ad.mk<;>intro hb)|apply av.mk)
    refine hK _ _ (i2+1) (by omega) ⟨by omega,hgo rfl⟩ ?_
    exact aY (n0:=H.length) [] hG hB hC' hcl
  rw[List.take_of_length_le hge] at hall
  rw[hall] at hR
  clear hK
  have hni:¬ (i2:Int)<(pp.length:Int):=by omega
  have X:=And.intro aF hni
  (refine run ?_;with_reducible repeat' first|exact trivial|(apply ad.mk<;>intro hb)|apply av.mk)
  exact aS (n0:=H.length) hR hC' hcl (.same _ rfl) ⟨rfl,rfl⟩
def Li (G:Gl) (cs:List Cn) (m:Nat):Prop:=∀ (e:Ex) (H:List ax),e.wt≤m→e.wt<4294967296→af Tryz.prog G 74 [.list 4 (aH cs),e.sv] H (fun r H'=>H'=H∧r= .bool (de m (jC cs) e))
theorem xZ (G:Gl) (hG:au G) (cs:List Cn) (hcn:cs.length<1099511627776):∀ m,Li G cs m
 |0,e,_,h,_=>absurd e.b9 (by omega)
 |m+1,e,H,hm,hw0=>by
  have hrec:=xZ G hG cs hcn m
  obtain⟨kd,nm,nn,op,names,ae,binds,alts⟩:=e
  have hlen:=Ex.cm kd nm nn op names ae binds alts
  have hpw:∀ p∈(Ex.mk kd nm nn op names ae binds alts).parts,p.wt≤m∧p.wt<4294967296:=fun p hp=>by have:=Ex.bT hp;omega
  have hpl:(Ex.mk kd nm nn op names ae binds alts).parts.length≤(Ex.mk kd nm nn op names ae binds alts).wt:=by rw[Ex.bM];simp;omega
  have hpts:=fun H=>nN G hG (Ex.mk kd nm nn op names ae binds alts) H hw0
  have hfind:=fun s H=>nP G hG cs s H hcn
  have bK:=fun n=>bf n cs
  have hall:de (m+1) (jC cs) (.mk kd nm nn op names ae binds alts)=(jC cs (.mk kd nm nn op names ae binds alts)&&(Ex.mk kd nm nn op names ae binds alts).parts.all (de m (jC cs))):=rfl
  rw[hall]
  clear hall
  have hnd:jC cs (.mk kd nm nn op names ae binds alts)=(!(decide (kd=6)&&decide (alts.length=0))&&!((List.range alts.length).any (gh cs alts))):=rfl
  rw[hnd]
  clear hnd
  have hbadD:∀ i (h:i<alts.length),gh cs alts i=((decide (alts[i].kind=3)&&decide (i+1<alts.length))||(alts.take i).any fun b=>iY cs alts[i] b):=fun i h=>by
   unfold gh
   rw[List.getD_eq_getElem?_getD,List.getElem?_eq_getElem h];rfl
  have hbadS:∀ i,i<alts.length→gh cs alts i=true→(List.range alts.length).any (gh cs alts)=true:=fun i h hb=>List.any_eq_true.2 ⟨i,List.mem_range.2 h,hb⟩
  generalize hp:(Ex.mk kd nm nn op names ae binds alts).parts=pp at*
  generalize hW:(Ex.mk kd nm nn op names ae binds alts).wt=W at*
  have hal8:=fun i (h:i<alts.length)=>Al.hY (kd:=kd) (nm:=nm) (nn:=nn) (op:=op) (names:=names) (ae:=ae) (binds:=binds) h
  have hgA:∀ i (h:i<alts.length),(aw alts)[i]? =some (.agg (.int .i64 alts[i].kind:: .str alts[i].name:: .int .i64 alts[i].n:: .list 1 (alts[i].names.map .str)::alts[i].body.cells)):=fun i hlt=>by rw[bG,List.getElem?_map,List.getElem?_eq_getElem hlt,Option.map_some,Al.sv,Al.cM]
  refine af.aD TB [] aA _ Tryz.func74 rfl (by decide) Tryz.ntmps74 (by simp) rfl (by simp only[ap,Nat.reduceAdd];rfl) fun C R' hR hC hcl hB=>?_;have X:=aF;have hC':=congrArg List.length hC
  by_cases h6:kd=6∧alts.length=0
  ·obtain⟨h6,h0⟩:=h6
   rw[decide_eq_true h6,decide_eq_true h0,Bool.true_and,Bool.not_true,Bool.false_and,Bool.false_and] at hR
   have h0:(alts.length:Int)=0:=by omega
   have X:=And.intro aF (And.intro h6 h0)
   (refine run ?_;with_reducible repeat' first|exact trivial|(apply ad.mk<;>intro hb)|apply av.mk)
   exact aS (n0:=H.length) hR hC' hcl (.same _ rfl) ⟨rfl,rfl⟩
  have hb6:(decide (kd=6)&&decide ((alts.length:Int)=0))=false:=by
   rw[Bool.and_eq_false_iff,decide_eq_false_iff_not,decide_eq_false_iff_not]
   by_cases h:kd=6
   ·exact .inr fun h2=>h6 ⟨h,by omega⟩
   ·exact .inl h
  rw[show(decide (kd=6)&&decide (alts.length=0))=false by
   rw[Bool.and_eq_false_iff,decide_eq_false_iff_not,decide_eq_false_iff_not]
   by_cases h:kd=6
   ·exact .inr fun h2=>h6 ⟨h,h2⟩
   ·exact .inl h,Bool.not_false,Bool.true_and] at hR
  clear h6
  have X:=And.intro aF hb6
  (refine run ?_;with_reducible repeat' first|exact trivial|(apply ad.mk<;>intro hb)|apply av.mk)
  refine az (fun i:Nat=>[(0,.list 4 (aH cs)),(3,.ptr H.length 0 0 0),(5,.int .i64 i)]) (fun i=>H++[.cells 0 8 [.agg [.int .i64 kd,.str nm,.int .i64 nn,.int .i64 op,.list 1 (names.map .str),.list 8 (ag ae),.list 9 (ah binds),.list 12 (aw alts)]]]) (fun i=>alts.length - i) (fun i=>i≤alts.length∧∀ j,j<i→gh cs alts j=false) 0 ⟨Nat.zero_le _,fun j h=>by omega⟩ ?_ ?_
  ·exact aY (n0:=H.length) [(H.length,0)] hG hB hC' hcl
  rintro K i ⟨hi,hany⟩ hK
  rcases Nat.lt_or_ge i alts.length with hlt|hge
  ·have hg:=hgA i hlt
   have hbd:=hbadD i hlt
   have hbs:=hbadS i hlt
   have hgo:gh cs alts i=false→∀ j,j<i+1→gh cs alts j=false:=fun h j hj=>by
    rcases Nat.lt_or_ge j i with h2|h2
    ·exact hany j h2
    ·obtain rfl:j=i:=by omega
     exact h
   generalize gh cs alts i=z at*
   have hx8:=alts[i].body.bS
   generalize hAi:alts[i]=a at*
   obtain⟨ak,an,ann,ans,ab⟩:=a
   simp only[Al.kind,Al.name,Al.n,Al.names,Al.body] at hg hx8
   have hbd:z=((decide (ak=3)&&decide (i+1<alts.length))||(alts.take i).any fun b=>iY cs (.mk ak an ann ans ab) b):=hbd
   have hanu:=fun n=>Ex.bD n ab
   by_cases h3:ak=3∧i+1<alts.length
   ·obtain⟨h3,hl3⟩:=h3
    have hz:z=true:=by rw[hbd,decide_eq_true h3,decide_eq_true hl3];rfl
    rw[hbs hz,Bool.not_true,Bool.false_and] at hR
    have hl3:(i:Int)<(alts.length:Int) - 1:=by omega
    have X:=And.intro aF (And.intro hg (And.intro hx8 (And.intro h3 hl3)))
    (refine run ?_;with_reducible repeat' first|exact trivial|(apply ad.mk<;>intro hb)|apply av.mk)
    exact aS (n0:=H.length) hR hC' hcl (.same _ rfl) ⟨rfl,rfl⟩
   have hb3:(decide (ak=3)&&decide ((i:Int)<(alts.length:Int) - 1))=false:=by
    rw[Bool.and_eq_false_iff,decide_eq_false_iff_not,decide_eq_false_iff_not]
    by_cases h:ak=3
    ·exact .inr fun h2=>h3 ⟨h,by omega⟩
    ·exact .inl h
   rw[show(decide (ak=3)&&decide (i+1<alts.length))=false by
    rw[Bool.and_eq_false_iff,decide_eq_false_iff_not,decide_eq_false_iff_not]
    by_cases h:ak=3
    ·exact .inr fun h2=>h3 ⟨h,h2⟩
    ·exact .inl h,Bool.false_or] at hbd
   clear h3
   have X:=And.intro aF (And.intro hg (And.intro hx8 hb3))
   (refine run ?_;with_reducible repeat' first|exact trivial|(apply ad.mk<;>intro hb)|apply av.mk)
   refine az (fun k:Nat=>[(0,.list 4 (aH cs)),(3,.ptr H.length 0 0 0),(5,.int .i64 i),(6,.ptr (H.length+1) 0 0 0),(7,.int .i64 k)]) (fun k=>H++[.cells 0 8 [.agg [.int .i64 kd,.str nm,.int .i64 nn,.int .i64 op,.list 1 (names.map .str),.list 8 (ag ae),.list 9 (ah binds),.list 12 (aw alts)]],.cells 0 12 [.agg (.int .i64 ak:: .str an:: .int .i64 ann:: .list 1 (ans.map .str)::ab.cells)]]) (fun k=>i - k) (fun k=>k≤i∧∀ j (h:j<alts.length),j<k→iY cs (.mk ak an ann ans ab) alts[j]=false) 0 ⟨Nat.zero_le _,fun j _ h=>by omega⟩ ?_ ?_
   ·exact aY (n0:=H.length) [(H.length,0),(H.length+1,0)] hG hB hC' hcl
   rintro K2 k ⟨hk,hpr⟩ hK2
   rcases Nat.lt_or_ge k i with hlk|hgk
   ·have hgk2:=hgA k (by omega)
    have hst:iY cs (.mk ak an ann ans ab) (alts[k]'(by omega))=true→z=true:=fun h=>by
     rw[hbd]
     exact List.any_eq_true.2 ⟨_,List.mem_take_iff_getElem.2 ⟨k,by omega,rfl⟩,h⟩
    have hgo2:iY cs (.mk ak an ann ans ab) (alts[k]'(by omega))=false→∀ j (h:j<alts.length),j<k+1→iY cs (.mk ak an ann ans ab) alts[j]=false:=fun h j hj hjk=>by
     rcases Nat.lt_or_ge j k with h2|h2
     ·exact hpr j hj h2
     ·obtain rfl:j=k:=by omega
      exact h
    have hy8:=(alts[k]'(by omega)).body.bS
    generalize alts[k]'(by omega)=b at*
    obtain⟨bk,bn,bnn,bns,bb⟩:=b
    simp only[Al.kind,Al.name,Al.n,Al.names,Al.body] at hgk2 hy8
    have hpd:iY cs (.mk ak an ann ans ab) (.mk bk bn bnn bns bb)=(((decide (¬ ak=3)&&decide (¬ ak=bk))||(decide (ak=2)&&decide (ann=bnn))||(decide (ak=1)&&decide (an=bn)))||(decide (ak=1)&&decide (¬ (bQ cs an).family=(bQ cs bn).family))):=rfl
    have hfa:=hfind an
    have hfb:=hfind bn
    generalize iY cs (.mk ak an ann ans ab) (.mk bk bn bnn bns bb)=w at*
    generalize bQ cs an=x at*
    generalize bQ cs bn=y at*
    obtain⟨x1,x2,x3,x4⟩:=x
    obtain⟨y1,y2,y3,y4⟩:=y
    have hxc:(Cn.mk x1 x2 x3 x4).cells=[.str x1,.int .i64 x2,.int .i64 x3,.int .i64 x4]:=rfl
    have hyc:(Cn.mk y1 y2 y3 y4).cells=[.str y1,.int .i64 y2,.int .i64 y3,.int .i64 y4]:=rfl
    rw[hxc] at hfa
    rw[hyc] at hfb
    have hpd:w=(((decide (¬ ak=3)&&decide (¬ ak=bk))||(decide (ak=2)&&decide (ann=bnn))||(decide (ak=1)&&decide (an=bn)))||(decide (ak=1)&&decide (¬ x4=y4))):=hpd
    have X:=And.intro aF (And.intro hgk2 (And.intro hy8 hx8))
    (refine run ?_;with_reducible repeat' first|exact trivial|(apply ad.mk<;>intro hb)|apply av.mk)
    ·have hw:w=true:=by rw[hpd,hb];rfl
     rw[hbs (hst hw),Bool.not_true,Bool.false_and] at hR
     exact aS (n0:=H.length) hR hC' hcl (.same _ rfl) ⟨rfl,rfl⟩
    ·rename_i hq
     rw[hq,Bool.false_or,decide_eq_true hb,Bool.true_and] at hpd
     refine bt (hfa _) ?_
     rintro r H' ⟨rfl,rfl⟩
     have X:=And.intro aF (And.intro hgk2 (And.intro hy8 hx8))
     (refine run ?_;with_reducible repeat' first|exact trivial|(apply ad.mk<;>intro hb)|apply av.mk)
     refine bt (hfb _) ?_
     rintro r H' ⟨rfl,rfl⟩
     by_cases hf:x4=y4
     ·have hw:w=false:=by rw[hpd,decide_eq_false (fun h=>h hf)]
      have X:=And.intro aF (And.intro hgk2 (And.intro hy8 (And.intro hx8 hf)))
      (refine run ?_;with_reducible repeat' first|exact trivial|(apply ad.mk<;>intro hb)|apply av.mk)
      refine hK2 _ _ (k+1) (by omega) ⟨by omega,hgo2 hw⟩ ?_
      exact aY (n0:=H.length) [(H.length,0),(H.length+1,0)] hG hB hC' hcl
     ·have hw:w=true:=by rw[hpd,decide_eq_true hf]
      rw[hbs (hst hw),Bool.not_true,Bool.false_and] at hR
      have X:=And.intro aF (And.intro hgk2 (And.intro hy8 (And.intro hx8 hf)))
      (refine run ?_;with_reducible repeat' first|exact trivial|(apply ad.mk<;>intro hb)|apply av.mk)
      exact aS (n0:=H.length) hR hC' hcl (.same _ rfl) ⟨rfl,rfl⟩
    ·rename_i hq
     have hw:w=false:=by rw[hpd,hq,decide_eq_false hb];rfl
     refine hK2 _ _ (k+1) (by omega) ⟨by omega,hgo2 hw⟩ ?_
     exact aY (n0:=H.length) [(H.length,0),(H.length+1,0)] hG hB hC' hcl
   ·obtain rfl:k=i:=by omega
    have hz:z=false:=by
     rw[hbd,List.any_eq_false]
     intro b hb
     obtain⟨j,hj,rfl⟩:=List.mem_take_iff_getElem.1 hb
     rw[hpr j (by omega) (by omega)]
     exact Bool.false_ne_true
    clear hK2
    have X:=And.intro aF (Int.lt_irrefl (k:Int))
    (refine run ?_;with_reducible repeat' first|exact trivial|(apply ad.mk<;>intro hb)|apply av.mk)
    refine hK _ _ (k+1) (by omega) ⟨by omega,hgo hz⟩ ?_
    exact aY (n0:=H.length) [(H.length,0)] hG hB hC' hcl
  have hno:(List.range alts.length).any (gh cs alts)=false:=by
   rw[List.any_eq_false]
   intro j hj
   rw[hany j (by have:=List.mem_range.1 hj;omega)]
   exact Bool.false_ne_true
  rw[hno,Bool.not_false,Bool.true_and] at hR
  clear hK
  have hni:¬ (i:Int)<(alts.length:Int):=by omega
  have c1:=hpts
  have X:=And.intro aF hni
  (refine run ?_;with_reducible repeat' first|exact trivial|(apply ad.mk<;>intro hb)|apply av.mk)
  refine az (fun i:Nat=>[(0,.list 4 (aH cs)),(13,.list 8 (ag pp)),(14,.int .i64 i)]) (fun i=>H++[]) (fun i=>pp.length - i) (fun i=>i≤pp.length∧(pp.take i).all (de m (jC cs))=true) 0 ⟨Nat.zero_le _,rfl⟩ ?_ ?_
  ·exact aY (n0:=H.length) [] hG hB hC' hcl
  rintro K i2 ⟨hi2,hall⟩ hK
  rcases Nat.lt_or_ge i2 pp.length with hlt|hge
  ·have hmem:=List.getElem_mem hlt
   have hg:(ag pp)[i2]? =some (.agg pp[i2].cells):=by rw[bh];simp[hlt];rfl
   have hpw2:=hpw _ hmem
   have c1:=fun H=>hrec pp[i2] H hpw2.1 hpw2.2
   have hst:de m (jC cs) pp[i2]=false→pp.all (de m (jC cs))=false:=fun h=>Bool.eq_false_iff.2 fun h2=>by rw[List.all_eq_true.1 h2 _ hmem] at h;cases h
   have hgo:de m (jC cs) pp[i2]=true→(pp.take (i2+1)).all (de m (jC cs))=true:=fun h=>by rw[List.take_succ_eq_append_getElem hlt,List.all_append,hall];simp[h]
   generalize de m (jC cs) pp[i2]=z at*
   generalize pp[i2]=x at*
   have X:=And.intro aF hg
   cases z
   ·rw[hst rfl] at hR
    clear hK
    (refine run ?_;with_reducible repeat' first|exact trivial|(apply ad.mk<;>intro hb)|apply av.mk)
    exact aS (n0:=H.length) hR hC' hcl (.same _ rfl) ⟨rfl,rfl⟩
   ·(refine run ?_;with_reducible repeat' first|exact trivial|(apply ad.mk<;>intro hb)|apply av.mk)
    refine hK _ _ (i2+1) (by omega) ⟨by omega,hgo rfl⟩ ?_
    exact aY (n0:=H.length) [] hG hB hC' hcl
  rw[List.take_of_length_le hge] at hall
  rw[hall] at hR
  clear hK
  have hni:¬ (i2:Int)<(pp.length:Int):=by omega
  have X:=And.intro aF hni
  (refine run ?_;with_reducible repeat' first|exact trivial|(apply ad.mk<;>intro hb)|apply av.mk)
  exact aS (n0:=H.length) hR hC' hcl (.same _ rfl) ⟨rfl,rfl⟩
theorem mW {α:Type} {p:α→Bool} {l:List α} {i:Nat} (h:i<l.length) (hp:p l[i]=false):l.all p=false:=by
 rw[Bool.eq_false_iff]
 intro ha
 rw[List.all_eq_true.1 ha _ (List.getElem_mem h)] at hp
 cases hp
theorem uB {α:Type} {p:α→Bool} {l:List α} {i:Nat} (h:i<l.length) (ha:(l.take i).all p=true) (hp:p l[i]=true):(l.take (i+1)).all p=true:=by
 rw[List.take_succ_eq_append_getElem h,List.all_append,ha]
 simp[hp]
theorem Ek {l:List aE} (h:∀ s,s∉l→True) (s:aE) (hs:s∉l):cG (kF l) (.str s) (.bool true)=kF (l++[s]):=by
 rw[lY,fz,if_neg hs]
theorem rW (G:Gl) (hG:au G) (p:Pg) (H:List ax) (hw:aM p.binds<4294967295) (hcn:p.cons.length<1099511627776):
 af Tryz.prog G 30 [p.sv] H (fun r H'=>H'=H∧r= .int .i64 (bA p)):=by
 rw[DG]
 have hbw:∀ b∈p.binds,b.e.wt<4294967295:=fun b hb=>by have:=kn hb;omega
 have hshc:=fun(b:Bd) (hb:b∈p.binds)=>(fun H=>tZ G hG b.e.wt b.e H (Nat.le_refl _) (by have:=hbw b hb;omega))
 have hrar:=fun(b:Bd) (hb:b∈p.binds)=>(fun H=>tV G hG p.cons hcn b.e.wt b.e H (Nat.le_refl _) (by have:=hbw b hb;omega))
 have hral:=fun(b:Bd) (hb:b∈p.binds)=>(fun H=>xZ G hG p.cons hcn b.e.wt b.e H (Nat.le_refl _) (by have:=hbw b hb;omega))
 have hfre:=fun(b:Bd) (hb:b∈p.binds)=>(fun H=>tU G hG b.e (by have:=hbw b hb;omega) H)
 have hbn:=uF p.binds
 have hbs:=fun(b:Bd) h=>CD p.binds b h
 have hmi:=DL p.binds
 have hlnB:=dy p.binds
 have hfl:∀ b∈p.binds,(cX b.e).length≤b.e.wt:=fun b _=>by
  have:=l7 b.e.wt b.e ([],[])
  rw[cX,fL]
  simpa using this
 obtain⟨cons,binds⟩:=p
 simp only at*
 have hle:=cC binds
 have hbo:=fun H=>A2 G hG cons binds H (by omega)
 have hrc:=fun H=>Eb G hG cons H hcn
 have hal:=fun H=>uv G hG cons binds H (by omega)
 have hnm:=fun H=>tX G hG binds (by omega) H
 have hkn:=fun H=>BV G hG cons H hcn
 have hhas:=fun s H=>ji G (binds.map Bd.name) s H (by rw[List.length_map];omega)
 rw[show(Pg.mk cons binds).sv= .agg [.list 4 (aH cons),.list 9 (ah binds)] from rfl] at*
 have bK:=fun n=>bf n cons
 generalize hBE:qj binds=be at*
 generalize aP binds=bl at*
 have hgb:∀ i (h:i<binds.length),(ah binds)[i]? =some (.agg (.str binds[i].name::binds[i].e.cells)):=fun i hlt=>by rw[aV,List.getElem?_map,List.getElem?_eq_getElem hlt,Option.map_some,Bd.sv,Bd.cM]
 refine af.aD TB [] aA _ Tryz.func30 rfl (by decide) Tryz.ntmps30 (by simp) rfl (by simp only[ap,Nat.reduceAdd];rfl) fun C R' hR hC hcl hB=>?_;have X:=aF;have hC':=congrArg List.length hC
 by_cases hb0:be=0
 rotate_left
 ·rw[if_pos hb0] at hR
  have c1:=hbo
  have X:=And.intro aF hb0
  (refine run ?_;with_reducible repeat' first|exact trivial|(apply ad.mk<;>intro hb)|apply av.mk)
  exact aS (n0:=H.length) hR hC' hcl (.same _ rfl) ⟨rfl,rfl⟩
 rw[if_neg (fun h=>h hb0)] at hR
 subst hb0
 have c1:=hbo
 (refine run ?_;with_reducible repeat' first|exact trivial|(apply ad.mk<;>intro hb)|apply av.mk)
 refine az (fun i:Nat=>[(1,.ptr H.length 0 0 0),(4,.int .i64 i)]) (fun i=>H++[.cells 0 2 [.agg [.list 4 (aH cons),.list 9 (ah binds)]]]) (fun i=>binds.length - i) (fun i=>i≤binds.length∧(binds.take i).all (fun b=>dn dN b.e)=true) 0 ⟨Nat.zero_le _,rfl⟩ ?_ ?_
 ·exact aY (n0:=H.length) [(H.length,0)] hG hB hC' hcl
 rintro K i ⟨hi,hall⟩ hK
 rcases Nat.lt_or_ge i binds.length with hlt|hge
 ·have hg:=hgb i hlt
  have c2:=hshc binds[i] (List.getElem_mem hlt)
  have hst:=mW (p:=fun b:Bd=>dn dN b.e) hlt
  have hgo:=uB (p:=fun b:Bd=>dn dN b.e) hlt hall
  rw[show de binds[i].e.wt dN binds[i].e=dn dN binds[i].e from rfl] at c2
  generalize dn dN binds[i].e=z at*
  generalize binds[i].e=x at*
  generalize binds[i].name=s at*
  have X:=And.intro aF hg
  cases z
  ·rw[hst rfl] at hR
   clear hK
   (refine run ?_;with_reducible repeat' first|exact trivial|(apply ad.mk<;>intro hb)|apply av.mk)
   exact aS (n0:=H.length) hR hC' hcl (.same _ rfl) ⟨rfl,rfl⟩
  ·(refine run ?_;with_reducible repeat' first|exact trivial|(apply ad.mk<;>intro hb)|apply av.mk)
   refine hK _ _ (i+1) (by omega) ⟨by omega,hgo rfl⟩ ?_
   exact aY (n0:=H.length) [(H.length,0)] hG hB hC' hcl
 clear hK
 obtain rfl:i=binds.length:=by omega
 rw[List.take_length] at hall
 rw[hall,Bool.not_true,if_neg Bool.false_ne_true] at hR
 have hshp:∀ b∈binds,dn dN b.e=true:=fun b hb=>List.all_eq_true.1 hall b hb
 cases hoc:fY [] cons
 ·rw[hoc] at hR hrc
  rw[Bool.not_false,if_pos rfl] at hR
  have c2:=hrc
  have X:=And.intro aF (Int.lt_irrefl (binds.length:Int))
  (refine run ?_;with_reducible repeat' first|exact trivial|(apply ad.mk<;>intro hb)|apply av.mk)
  exact aS (n0:=H.length) hR hC' hcl (.same _ rfl) ⟨rfl,rfl⟩
 rw[hoc] at hR hrc
 rw[Bool.not_true,if_neg Bool.false_ne_true] at hR
 have c2:=hrc
 have c3:=hal
 have esO_und:=gA
 have X:=And.intro aF (Int.lt_irrefl (binds.length:Int))
 (refine run ?_;with_reducible repeat' first|exact trivial|(apply ad.mk<;>intro hb)|apply av.mk)
 refine az (fun i:Nat=>[(1,.ptr H.length 0 0 0),(5,.map (H.length+1)),(6,.list 1 (bl.map .str)),(7,.int .i64 i)]) (fun i=>H++[.cells 0 2 [.agg [.list 4 (aH cons),.list 9 (ah binds)]],.map none (kF (bl.take i))]) (fun i=>bl.length - i) (fun i=>i≤bl.length∧(bl.take i).Nodup∧[]∉bl.take i) 0 ⟨Nat.zero_le _,by simp,by simp⟩ ?_ ?_
 ·exact aY (n0:=H.length) [(H.length,0),(H.length+1,0)] hG hB hC' hcl
 rintro K i ⟨hi,hnd,hne⟩ hK
 rcases Nat.lt_or_ge i bl.length with hlt|hge
 ·have hg:(bl.map SV.str)[i]? =some (.str bl[i]):=by simp[hlt]
  have hts:=List.take_succ_eq_append_getElem hlt
  have hfs:=mD (bl.take i) bl[i]
  have hss:=Ek (l:=bl.take i) (fun _ _=>trivial) bl[i]
  rw[← hts] at hss
  have hml:bl[i]∈bl:=List.getElem_mem hlt
  have hdup:bl[i]∈bl.take i→¬ bl.Nodup:=fun hm hnd2=>by
   obtain⟨j,hj,e⟩:=List.mem_take_iff_getElem.1 hm
   have:=(List.getElem_inj hnd2).1 e
   omega
  generalize bl[i]=s at*
  by_cases hs0:s=[]
  ·rw[show cK binds=true from by
    cases hbv:cK binds with
    |true=>rfl
    |false=>exact absurd (hs0 ▸ hml) (hbn.1 hbv).2] at hR
   rw[if_pos rfl] at hR
   clear hK
   have X:=And.intro aF (And.intro hg hs0)
   (refine run ?_;with_reducible repeat' first|exact trivial|(apply ad.mk<;>intro hb)|apply av.mk)
   exact aS (n0:=H.length) hR hC' hcl (.same _ rfl) ⟨rfl,rfl⟩
  by_cases hmem:s∈bl.take i
  ·rw[show cK binds=true from by
    cases hbv:cK binds with
    |true=>rfl
    |false=>exact absurd (hbn.1 hbv).1 (hdup hmem)] at hR
   rw[if_pos rfl] at hR
   rw[decide_eq_true hmem] at hfs
   clear hK
   have X:=And.intro aF (And.intro hg (And.intro hs0 hfs))
   (refine run ?_;with_reducible repeat' first|exact trivial|(apply ad.mk<;>intro hb)|apply av.mk)
   exact aS (n0:=H.length) hR hC' hcl (.same _ rfl) ⟨rfl,rfl⟩
  rw[decide_eq_false hmem] at hfs
  have hss:=hss hmem
  have X:=And.intro aF (And.intro hg (And.intro hs0 (And.intro hfs hss)))
  (refine run ?_;with_reducible repeat' first|exact trivial|(apply ad.mk<;>intro hb)|apply av.mk)
  refine hK _ _ (i+1) (by omega) ⟨by omega,?_,?_⟩ ?_
  ·rw[hts,List.nodup_append]
   exact⟨hnd,by simp,fun a ha b hb e=>hmem (by rw[List.mem_singleton.1 hb] at e;exact e ▸ ha)⟩
  ·rw[hts]
   intro hm
   rcases List.mem_append.1 hm with h|h
   ·exact hne h
   ·exact hs0 (List.mem_singleton.1 h).symm
  ·exact aY (n0:=H.length) [(H.length,0),(H.length+1,0)] hG hB hC' hcl
 clear hK
 obtain rfl:i=bl.length:=by omega
 rw[List.take_length] at hnd hne
 rw[hbn.2 ⟨hnd,hne⟩,if_neg Bool.false_ne_true] at hR
 have c1:=hnm
 have X:=And.intro aF (Int.lt_irrefl (bl.length:Int))
 (refine run ?_;with_reducible repeat' first|exact trivial|(apply ad.mk<;>intro hb)|apply av.mk)
 refine az (fun i:Nat=>[(1,.ptr H.length 0 0 0),(8,.list 1 ((binds.map Bd.name).map .str)),(9,.int .i64 i)]) (fun i=>H++[.cells 0 2 [.agg [.list 4 (aH cons),.list 9 (ah binds)]]]) (fun i=>binds.length - i) (fun i=>i≤binds.length∧(binds.take i).all (l9 (fp binds))=true) 0 ⟨Nat.zero_le _,rfl⟩ ?_ ?_
 ·exact aY (n0:=H.length) [(H.length,0)] hG hB hC' hcl
 rintro K i ⟨hi,hall2⟩ hK
 rcases Nat.lt_or_ge i binds.length with hlt|hge
 ·have hg:=hgb i hlt
  have c2:=hfre binds[i] (List.getElem_mem hlt)
  have hst:=mW (p:=l9 (fp binds)) hlt
  have hgo:=uB (p:=l9 (fp binds)) hlt hall2
  have hib:=hbs binds[i] (hshp _ (List.getElem_mem hlt))
  have hfll:=hfl binds[i] (List.getElem_mem hlt)
  have hbww:=hbw binds[i] (List.getElem_mem hlt)
  generalize l9 (fp binds) binds[i]=z at*
  generalize cX binds[i].e=F at*
  generalize binds[i].e=x at*
  generalize binds[i].name=s at*
  have X:=And.intro aF hg
  (refine run ?_;with_reducible repeat' first|exact trivial|(apply ad.mk<;>intro hb)|apply av.mk)
  refine az (fun k:Nat=>[(1,.ptr H.length 0 0 0),(8,.list 1 ((binds.map Bd.name).map .str)),(9,.int .i64 i),(10,.list 1 (F.map .str)),(11,.int .i64 k)]) (fun k=>H++[.cells 0 2 [.agg [.list 4 (aH cons),.list 9 (ah binds)]]]) (fun k=>F.length - k) (fun k=>k≤F.length∧∀ s∈F.take k,s∈binds.map Bd.name) 0 ⟨Nat.zero_le _,by simp⟩ ?_ ?_
  ·exact aY (n0:=H.length) [(H.length,0)] hG hB hC' hcl
  rintro K2 k ⟨hk,hin⟩ hK2
  rcases Nat.lt_or_ge k F.length with hltk|hgek
  ·have hgk:(F.map SV.str)[k]? =some (.str F[k]):=by simp[hltk]
   have c3:=hhas F[k]
   have hfm:F[k]∈F:=List.getElem_mem hltk
   have hts:=List.take_succ_eq_append_getElem hltk
   generalize F[k]=t at*
   by_cases hmem:t∈binds.map Bd.name
   ·rw[decide_eq_true hmem] at c3
    have X:=And.intro aF hgk
    (refine run ?_;with_reducible repeat' first|exact trivial|(apply ad.mk<;>intro hb)|apply av.mk)
    refine hK2 _ _ (k+1) (by omega) ⟨by omega,fun y hy=>?_⟩ ?_
    ·rw[hts] at hy
     rcases List.mem_append.1 hy with h|h
     ·exact hin y h
     ·rw[List.mem_singleton.1 h];exact hmem
    ·exact aY (n0:=H.length) [(H.length,0)] hG hB hC' hcl
   ·rw[decide_eq_false hmem] at c3
    have hz:z=false:=by
     cases z with
     |false=>rfl
     |true=>exact absurd (hib.1 rfl t hfm) hmem
    rw[hst hz,Bool.not_false,if_pos rfl] at hR
    clear hK hK2
    have X:=And.intro aF hgk
    (refine run ?_;with_reducible repeat' first|exact trivial|(apply ad.mk<;>intro hb)|apply av.mk)
    exact aS (n0:=H.length) hR hC' hcl (.same _ rfl) ⟨rfl,rfl⟩
  ·have hnk:¬ (k:Int)<(F.length:Int):=by omega
   rw[List.take_of_length_le hgek] at hin
   have hz:z=true:=hib.2 hin
   clear hK2
   have X:=And.intro aF hnk
   (refine run ?_;with_reducible repeat' first|exact trivial|(apply ad.mk<;>intro hb)|apply av.mk)
   refine hK _ _ (i+1) (by omega) ⟨by omega,hgo hz⟩ ?_
   exact aY (n0:=H.length) [(H.length,0)] hG hB hC' hcl
 clear hK
 obtain rfl:i=binds.length:=by omega
 rw[List.take_length] at hall2
 rw[hall2,Bool.not_true,if_neg Bool.false_ne_true] at hR
 cases hko:ln cons
 ·rw[hko] at hR hkn
  rw[Bool.false_and,Bool.not_false,if_pos rfl] at hR
  have c2:=hkn
  have X:=And.intro aF (Int.lt_irrefl (binds.length:Int))
  (refine run ?_;with_reducible repeat' first|exact trivial|(apply ad.mk<;>intro hb)|apply av.mk)
  exact aS (n0:=H.length) hR hC' hcl (.same _ rfl) ⟨rfl,rfl⟩
 rw[hko] at hR hkn
 rw[Bool.true_and] at hR
 have c2:=hkn
 have X:=And.intro aF (Int.lt_irrefl (binds.length:Int))
 (refine run ?_;with_reducible repeat' first|exact trivial|(apply ad.mk<;>intro hb)|apply av.mk)
 refine az (fun i:Nat=>[(1,.ptr H.length 0 0 0),(8,.list 1 ((binds.map Bd.name).map .str)),(12,.int .i64 i)]) (fun i=>H++[.cells 0 2 [.agg [.list 4 (aH cons),.list 9 (ah binds)]]]) (fun i=>binds.length - i) (fun i=>i≤binds.length∧(binds.take i).all (fun b=>dn (kW cons) b.e)=true) 0 ⟨Nat.zero_le _,rfl⟩ ?_ ?_
 ·exact aY (n0:=H.length) [(H.length,0)] hG hB hC' hcl
 rintro K i ⟨hi,hall3⟩ hK
 rcases Nat.lt_or_ge i binds.length with hlt|hge
 ·have hg:=hgb i hlt
  have c2:=hrar binds[i] (List.getElem_mem hlt)
  have hst:=mW (p:=fun b:Bd=>dn (kW cons) b.e) hlt
  have hgo:=uB (p:=fun b:Bd=>dn (kW cons) b.e) hlt hall3
  rw[jK (s:=dN) (q:=kW cons) (fun e h=>Gb h) _ _ (hshp _ (List.getElem_mem hlt)),show de binds[i].e.wt (kW cons) binds[i].e=dn (kW cons) binds[i].e from rfl] at c2
  generalize dn (kW cons) binds[i].e=z at*
  generalize binds[i].e=x at*
  generalize binds[i].name=s at*
  have X:=And.intro aF hg
  cases z
  ·rw[hst rfl,Bool.not_false,if_pos rfl] at hR
   clear hK
   (refine run ?_;with_reducible repeat' first|exact trivial|(apply ad.mk<;>intro hb)|apply av.mk)
   exact aS (n0:=H.length) hR hC' hcl (.same _ rfl) ⟨rfl,rfl⟩
  ·(refine run ?_;with_reducible repeat' first|exact trivial|(apply ad.mk<;>intro hb)|apply av.mk)
   refine hK _ _ (i+1) (by omega) ⟨by omega,hgo rfl⟩ ?_
   exact aY (n0:=H.length) [(H.length,0)] hG hB hC' hcl
 clear hK
 obtain rfl:i=binds.length:=by omega
 rw[List.take_length] at hall3
 rw[hall3,Bool.not_true,if_neg Bool.false_ne_true] at hR
 have X:=And.intro aF (Int.lt_irrefl (binds.length:Int))
 (refine run ?_;with_reducible repeat' first|exact trivial|(apply ad.mk<;>intro hb)|apply av.mk)
 refine az (fun i:Nat=>[(1,.ptr H.length 0 0 0),(8,.list 1 ((binds.map Bd.name).map .str)),(13,.int .i64 i)]) (fun i=>H++[.cells 0 2 [.agg [.list 4 (aH cons),.list 9 (ah binds)]]]) (fun i=>binds.length - i) (fun i=>i≤binds.length∧(binds.take i).all (fun b=>dn (kL cons) b.e)=true) 0 ⟨Nat.zero_le _,rfl⟩ ?_ ?_
 ·exact aY (n0:=H.length) [(H.length,0)] hG hB hC' hcl
 rintro K i ⟨hi,hall4⟩ hK
 rcases Nat.lt_or_ge i binds.length with hlt|hge
 ·have hg:=hgb i hlt
  have c2:=hral binds[i] (List.getElem_mem hlt)
  have hst:=mW (p:=fun b:Bd=>dn (kL cons) b.e) hlt
  have hgo:=uB (p:=fun b:Bd=>dn (kL cons) b.e) hlt hall4
  rw[jK (s:=dN) (q:=kL cons) (fun e h=>E4 h) _ _ (hshp _ (List.getElem_mem hlt)),show de binds[i].e.wt (kL cons) binds[i].e=dn (kL cons) binds[i].e from rfl] at c2
  generalize dn (kL cons) binds[i].e=z at*
  generalize binds[i].e=x at*
  generalize binds[i].name=s at*
  have X:=And.intro aF hg
  cases z
  ·rw[hst rfl,Bool.not_false,if_pos rfl] at hR
   clear hK
   (refine run ?_;with_reducible repeat' first|exact trivial|(apply ad.mk<;>intro hb)|apply av.mk)
   exact aS (n0:=H.length) hR hC' hcl (.same _ rfl) ⟨rfl,rfl⟩
  ·(refine run ?_;with_reducible repeat' first|exact trivial|(apply ad.mk<;>intro hb)|apply av.mk)
   refine hK _ _ (i+1) (by omega) ⟨by omega,hgo rfl⟩ ?_
   exact aY (n0:=H.length) [(H.length,0)] hG hB hC' hcl
 clear hK
 obtain rfl:i=binds.length:=by omega
 rw[List.take_length] at hall4
 rw[hall4,Bool.not_true,if_neg Bool.false_ne_true] at hR
 have c1:=hhas lu
 by_cases hmain:lu∈binds.map Bd.name
 ·rw[if_neg (fun h=>(hmi.1 h) hmain)] at hR
  rw[decide_eq_true hmain] at c1
  have X:=And.intro aF (Int.lt_irrefl (binds.length:Int))
  (refine run ?_;with_reducible repeat' first|exact trivial|(apply ad.mk<;>intro hb)|apply av.mk)
  exact aS (n0:=H.length) hR hC' hcl (.same _ rfl) ⟨rfl,rfl⟩
 ·rw[if_pos (hmi.2 hmain)] at hR
  rw[decide_eq_false hmain] at c1
  have X:=And.intro aF (Int.lt_irrefl (binds.length:Int))
  (refine run ?_;with_reducible repeat' first|exact trivial|(apply ad.mk<;>intro hb)|apply av.mk)
  exact aS (n0:=H.length) hR hC' hcl (.same _ rfl) ⟨rfl,rfl⟩
end Go.Proofs.YtehfihnfeakmaaaGreatDoor
