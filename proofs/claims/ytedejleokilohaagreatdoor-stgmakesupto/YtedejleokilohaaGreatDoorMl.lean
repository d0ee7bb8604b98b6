/- A part of the proof: H7, P3, P4, S6, P5, P6, P9, P7, H8, H9, H10. Names and spaces are cut short by program. -/
import Derived.Test.YtedejleokilohaaGreatDoorMk
set_option linter.unusedSimpArgs false
set_option linter.unusedVariables false
set_option maxRecDepth 10000
set_option maxHeartbeats 4000000
namespace Go.Proofs.YtedejleokilohaaGreatDoor
open Go
theorem D5 (G:Gl) (hG:aw G) (id g len:Nat) (b:List SV) (hb:b.length=7) (H:List az) (hlu:(SV.sl id g 0 len).under H.length=true) (hbu:SV.aB H.length b=true):ag Tryz.prog G 117 [.sl id g 0 len,.agg b] H (fun r H'=>H'=H∧r= .agg [.int .i64 6,.str [],.int .i64 0,.list 2 [],.list 7 [.agg b],.sl id g 0 len,.list 11 []]):=by
 match b,hb with
 |[b0,b1,b2,b3,b4,b5,b6],_=>
  refine ag.aK TB [] aF _ Tryz.func117 rfl (by decide) Tryz.ntmps117 (by simp) rfl (by simp only[au,Nat.reduceAdd];rfl) fun C R' hR hC hcl hB=>?_;have X:=aO;have hC':=congrArg List.length hC
  (refine run ?_;with_reducible repeat' first|exact trivial|(apply af.mk<;>intro hb)|apply ax.mk)
  exact aS (n0:=H.length) hR hC' hcl (.same _ (by simp only[SV.under,decide_eq_true_eq] at hlu;simp only[bA,SV.under,SV.aB,decide_eq_true hlu,Bool.and_true,Bool.true_and];simpa only[SV.aB,Bool.and_true] using hbu)) ⟨rfl,rfl⟩
theorem mj {HH:List az} {n0:Nat} (k:Int) (nm:aI) (op:Int) (l:List Ex) (A:List At) (W:List Ar) (h0:0=l.length→A=[]∧W=[]):
 de HH n0 [] (fW k nm op [] [] [] [] .nil l A W) (dy W (.mk k nm op A [] [] [])).cells:=by
 unfold fW
 split
 ·rename_i h
  obtain⟨rfl,rfl⟩:=h0 h
  exact .cons _ _ _ _ (.same _ rfl) (.cons _ _ _ _ (.same _ rfl) (.cons _ _ _ _ (.same _ rfl) (.cons _ _ _ _ (.nil _) (.cons _ _ _ _ (.same _ rfl) (.cons _ _ _ _ (.same _ rfl) (.cons _ _ _ _ (.same _ rfl) .nil))))))
 ·exact de.same (Sg.aP _ _)
theorem ub (G:Gl) (hG:aw G) (cs:List Cn) (T:List aI) (P:Ex→Prop) (B:aI→Ex→Bool→Nat→List Sb×Nat) (hBd:AA G cs T (fun e=>P e) B) (hcnt:oZ cs B) (l:List Ex) (k:Int) (nm:aI) (op:Int) (H:List az) (sb g0 nx:Nat)
 (hl:∀ x∈l,P x∧Sh cs x) (hw:bt l<67108864) (hnx:nx+bt l+1≤4294967290) (h2:H[sb]? =some (.cells g0 2 [.agg [.int .i64 (nx:Int),.list 1 (T.map .str)]])):
 ag Tryz.prog G 118 [.ptr sb g0 0 0,.list 8 (aj l),.nil,.agg [.int .i64 k,.str nm,.int .i64 op,.list 2 [],.list 7 [],.list 8 [],.list 11 []]] H (fun r H'=>H'=H.set sb (.cells g0 2 [.agg [.int .i64 ((aM B l nx).2:Int),.list 1 (T.map .str)]])∧r= .agg (fW k nm op [] [] [] [] .nil l (aM B l nx).1.1 (aM B l nx).1.2)):=
 DV G hG cs T P B hBd hcnt l.length l [] k nm op [] [] [] [] .nil H sb g0 nx (by simp) (.inl ⟨rfl,rfl⟩) hl hw hnx h2
theorem Bz (G:Gl) (hG:aw G) (cs:List Cn) (T:List aI) (P:Ex→Prop) (E:Ex→Nat→Sg×Nat) (hEx:AB G cs T P E) (hcnt:o4 cs E) (l:List Ex) (op:Int) (H:List az) (sb g0 nx:Nat)
 (hl:∀ x∈l,P x∧Sh cs x) (hw:bt l<67108864) (hnx:nx+bt l+1≤4294967290) (h2:H[sb]? =some (.cells g0 2 [.agg [.int .i64 (nx:Int),.list 1 (T.map .str)]])):
 ag Tryz.prog G 119 [.ptr sb g0 0 0,.list 8 (aj l),.nil,.int .i64 op] H (fun r H'=>H'=H.set sb (.cells g0 2 [.agg [.int .i64 ((bG E l nx).2:Int),.list 1 (T.map .str)]])∧r= .agg (fW 4 [] op [] [] [] [] .nil l (bG E l nx).1.1 (bG E l nx).1.2)):=
 D6 G hG cs T P E hEx hcnt l.length l [] op .nil H sb g0 nx (by simp) (.inl ⟨rfl,rfl⟩) hl hw hnx h2
theorem D3 (G:Gl) (hG:aw G) (cs:List Cn) (T:List aI) (m:Nat) (E:Ex→Nat→Sg×Nat) (B:aI→Ex→Bool→Nat→List Sb×Nat)
 (hEx:AB G cs T (fun e=>qD e≤m) E) (hBd:AA G cs T (fun e=>l6 e≤m) B) (cE:o4 cs E) (cB:oZ cs B):AB G cs T (fun e=>qD e≤m+1) (eW E B):=by
 intro e H sb g0 nx0 hP hw hsh hnx h2
 have hwp:=e.bz
 have l2:=(List.getElem?_eq_some_iff.1 h2).1
 obtain⟨kd,nm,nn,op,names,ad,binds,alts⟩:=e
 have hP:3*(Ex.mk kd nm nn op names ad binds alts).wt+(if kd=3 then 2 else 0)≤m+1:=hP
 have hlen:=Ex.cY kd nm nn op names ad binds alts
 have hww:(Ex.mk kd nm nn op names ad binds alts).wt=1+nm.length+cW names+bt ad+aW binds+cp alts:=by simp only[Ex.wt]
 have hnode:=hsh.node
 have hpE:∀ x:Ex,x.wt<(Ex.mk kd nm nn op names ad binds alts).wt→qD x≤m:=fun x h=>by have:=(l7 h).1;omega
 have hpB:∀ x:Ex,x.wt<(Ex.mk kd nm nn op names ad binds alts).wt→l6 x≤m:=fun x h=>by have:=(l7 h).2;omega
 have hxs:∀ x∈ad,x.wt<(Ex.mk kd nm nn op names ad binds alts).wt:=fun x hx=>by have:=cH hx;omega
 have hxa:∀ x∈alts,x.body.wt<(Ex.mk kd nm nn op names ad binds alts).wt:=fun x hx=>by have:=cN hx;have:=x.cZ;omega
 have hxb:∀ x∈binds,x.e.wt<(Ex.mk kd nm nn op names ad binds alts).wt:=fun x hx=>by have:=dH hx;have:=x.cZ;omega
 obtain⟨Q,q0,qd,hlenQ,qx,qc,qid⟩:=FM h2
 simp only[qd]
 rw[← q0]
 refine ag.aK TB [10,16] aF _ Tryz.func71 rfl (by decide) Tryz.ntmps71 (by simp) rfl (by simp only[au,Nat.reduceAdd];rfl) fun C R' hR hC hcl hB=>?_;have X:=aO;have hC':=congrArg List.length hC
 have hC':=hC'.trans (hlenQ _)
 have hcls:∀ nx,closed (Q nx):=fun nx=>qc (q0 ▸ hcl) nx
 clear q0 h2
 generalize hn0:H.length=n0 at*
 have hx21:=hlenQ
 have hx22:∀ nx L,(Q nx++L)[n0]? =L[0]? :=fun nx L=>by rw[← hlenQ nx];exact dh _ _
 have hx23:∀ nx L k,(Q nx++L)[n0+k]? =L[k]? :=fun nx L k=>by rw[← hlenQ nx];exact bJ _ _ _
 have hx24:∀ nx L x,(Q nx++L).set n0 x=Q nx++L.set 0 x:=fun nx L x=>by rw[← hlenQ nx];exact dB _ _ _
 have hx25:∀ nx L k x,(Q nx++L).set (n0+k) x=Q nx++L.set k x:=fun nx L k x=>by rw[← hlenQ nx];exact cq _ _ _ _
 have d3:=vi n0 [0,1,2] (by decide)
 have X:=And.intro aO (And.intro qx (And.intro hx21 (And.intro hx22 (And.intro hx23 (And.intro hx24 hx25)))))
 by_cases h12:kd=1∨kd=2
 ·rw[wO _ _ _ _ _ _ _ _ _ _ _ h12] at hR
  have c1:=fun H=>oG G hG (.mk kd nm nn op names ad binds alts) H
  simp only[Ex.name,Ex.n] at c1
  rcases h12 with h|h<;>subst h
  ·have X:=And.intro aO (And.intro qx (And.intro hx21 (And.intro hx22 (And.intro hx23 (And.intro hx24 hx25)))))
   (refine run ?_;with_reducible repeat' first|exact trivial|(apply af.mk<;>intro hb)|apply ax.mk)
   exact aS (n0:=n0) hR hC' (hcls _) (.same _ rfl) ⟨rfl,rfl⟩ (hn:=hlenQ _)
  ·have X:=And.intro (And.intro aO (And.intro qx (And.intro hx21 (And.intro hx22 (And.intro hx23 (And.intro hx24 hx25)))))) (show ¬ (2:Int)=1 by omega)
   (refine run ?_;with_reducible repeat' first|exact trivial|(apply af.mk<;>intro hb)|apply ax.mk)
   exact aS (n0:=n0) hR hC' (hcls _) (.same _ rfl) ⟨rfl,rfl⟩ (hn:=hlenQ _)
 have hn1:¬ kd=1:=fun h=>h12 (.inl h)
 have hn2:¬ kd=2:=fun h=>h12 (.inr h)
 by_cases h3:kd=3
 ·subst h3
  rw[tJ] at hR
  have hcb:=fun L=>hBd (eB bW nx0) (.mk 3 nm nn op names ad binds alts) true (Q (nx0+1)++L) sb g0 (nx0+1) (by show l6 _≤m;unfold l6;rw[if_pos rfl] at hP;omega) hw hsh (by show _≤4294967290+1;omega) (qx.1 _ _)
  generalize B (eB bW nx0) (.mk 3 nm nn op names ad binds alts) true (nx0+1)=r0 at*
  obtain⟨bs,nx2⟩:=r0
  simp only at hcb hR
  have X:=And.intro (And.intro aO (And.intro qx (And.intro hx21 (And.intro hx22 (And.intro hx23 (And.intro hx24 hx25)))))) (And.intro hn1 hn2)
  (refine run ?_;with_reducible repeat' first|exact trivial|(apply af.mk<;>intro hb)|apply ax.mk)
  refine bh (gk G hG sb g0 nx0 _ _ (qx.1 _ _) (by omega)) ?_
  rintro r H' ⟨rfl,rfl⟩
  rw[qx.2]
  generalize eB bW nx0=tt at*
  (refine run ?_;with_reducible repeat' first|exact trivial|(apply af.mk<;>intro hb)|apply ax.mk)
  refine bh (hcb _) ?_
  rintro r H' ⟨rfl,rfl⟩
  rw[qx.2]
  have c1:=fun H=>kh G hG tt H
  (refine run ?_;with_reducible repeat' first|exact trivial|(apply af.mk<;>intro hb)|apply ax.mk)
  refine bh (vv G hG bs [.int .i64 1,.str [],.int .i64 0,.list 2 [.agg [.str tt,.int .i64 0]],.list 7 [],.list 8 [],.list 11 []] rfl _ rfl) ?_
  rintro r H' ⟨rfl,rfl⟩
  (refine run ?_;with_reducible repeat' first|exact trivial|(apply af.mk<;>intro hb)|apply ax.mk)
  exact aS (n0:=n0) hR hC' (hcls _) (.same _ (by simp only[bA,SV.under,SV.aB,aY,Bool.and_self])) ⟨rfl,rfl⟩ (hn:=hlenQ _)
 by_cases h7:kd=7
 ·subst h7
  rw[tI] at hR
  have hcc:=fun L=>ub G hG cs T (fun e=>l6 e≤m) B hBd cB ad 3 nm 0 (Q nx0++L) sb g0 nx0 (fun x hx=>⟨hpB x (hxs x hx),hsh.sub hx⟩) (by omega) (by omega) (qx.1 _ _)
  have hz:=fun n (h:0=ad.length)=>lr (B:=B) (l:=ad) (m:=0) (n:=n) h
  simp only[List.drop_zero] at hz
  have hz:=hz nx0
  generalize aM B ad nx0=r0 at*
  obtain⟨⟨A,W⟩,nx2⟩:=r0
  simp only at hcc hR hz
  have g7:=eK 3 nm 0 [] [] [] [] .nil ad A W
  have gf:=fun HH=>mj (HH:=HH) (n0:=n0) 3 nm 0 ad A W hz
  generalize fW 3 nm 0 [] [] [] [] .nil ad A W=rb at*
  have g7t:rb.take 7=rb:=List.take_of_length_le (by omega)
  have g7d:rb.drop 7=[]:=List.drop_eq_nil_of_le (by omega)
  have X:=And.intro (And.intro aO (And.intro qx (And.intro hx21 (And.intro hx22 (And.intro hx23 (And.intro hx24 hx25)))))) (And.intro (And.intro hn1 (And.intro hn2 h3)) (And.intro g7 (And.intro g7t g7d)))
  (refine run ?_;with_reducible repeat' first|exact trivial|(apply af.mk<;>intro hb)|apply ax.mk)
  refine bh (hcc _) ?_
  rintro r H' ⟨rfl,rfl⟩
  rw[qx.2]
  (refine run ?_;with_reducible repeat' first|exact trivial|(apply af.mk<;>intro hb)|apply ax.mk)
  exact aS (n0:=n0) hR hC' (hcls _) (.agg _ _ (gf _)) ⟨rfl,rfl⟩ (hn:=hlenQ _)
 by_cases h8:kd=8
 ·subst h8
  rw[ru] at hR
  have hcc:=fun L=>Bz G hG cs T (fun e=>qD e≤m) E hEx cE ad op (Q nx0++L) sb g0 nx0 (fun x hx=>⟨hpE x (hxs x hx),hsh.sub hx⟩) (by omega) (by omega) (qx.1 _ _)
  have hz:=fun n (h:0=ad.length)=>sV (E:=E) (l:=ad) (m:=0) (n:=n) h
  simp only[List.drop_zero] at hz
  have hz:=hz nx0
  generalize bG E ad nx0=r0 at*
  obtain⟨⟨A,W⟩,nx2⟩:=r0
  simp only at hcc hR hz
  have g7:=eK 4 [] op [] [] [] [] .nil ad A W
  have gf:=fun HH=>mj (HH:=HH) (n0:=n0) 4 [] op ad A W hz
  generalize fW 4 [] op [] [] [] [] .nil ad A W=rb at*
  have g7t:rb.take 7=rb:=List.take_of_length_le (by omega)
  have g7d:rb.drop 7=[]:=List.drop_eq_nil_of_le (by omega)
  have X:=And.intro (And.intro aO (And.intro qx (And.intro hx21 (And.intro hx22 (And.intro hx23 (And.intro hx24 hx25)))))) (And.intro (And.intro hn1 (And.intro hn2 (And.intro h3 h7))) (And.intro g7 (And.intro g7t g7d)))
  (refine run ?_;with_reducible repeat' first|exact trivial|(apply af.mk<;>intro hb)|apply ax.mk)
  refine bh (hcc _) ?_
  rintro r H' ⟨rfl,rfl⟩
  rw[qx.2]
  (refine run ?_;with_reducible repeat' first|exact trivial|(apply af.mk<;>intro hb)|apply ax.mk)
  exact aS (n0:=n0) hR hC' (hcls _) (.agg _ _ (gf _)) ⟨rfl,rfl⟩ (hn:=hlenQ _)
 by_cases h4:kd=4
 ·subst h4
  rw[tH] at hR
  have hs:=hsh.app
  have h0:=b7 (l:=ad) (by omega)
  have hmm:=cP (l:=ad) (by omega)
  have hg0:(aj ad)[0]? =some (ad.headD bw).sv:=by
   cases ad with
   |nil=>simp at hs
   |cons a r=>rfl
  have hdr:(aj ad).drop 1=aj (ad.drop 1):=by rw[bQ,bQ,List.map_drop]
  have hsl:(aj ad).length=ad.length:=ct _
  have hs1:(1:Int)≤(ad.length:Int):=by omega
  have hcc:=fun nx nm2 L (h:nx+bt (ad.drop 1)+1≤4294967290)=>ub G hG cs T (fun e=>l6 e≤m) B hBd cB (ad.drop 1) 2 nm2 0 (Q nx++L) sb g0 nx (fun x hx=>⟨hpB x (hxs x (List.mem_of_mem_drop hx)),hsh.sub (List.mem_of_mem_drop hx)⟩) (by omega) h (qx.1 _ _)
  have hz:=fun n (h:0=(ad.drop 1).length)=>lr (B:=B) (l:=ad.drop 1) (m:=0) (n:=n) h
  simp only[List.drop_zero] at hz
  have hdl:(ad.drop 1).length+1=ad.length:=by rw[List.length_drop];omega
  have hcx:=fun L=>hEx (ad.headD bw) (Q (nx0+1)++L) sb g0 (nx0+1) (hpE _ (hxs _ hmm)) (by have:=hxs _ hmm;omega) (hsh.sub hmm) (by omega) (qx.1 _ _)
  have hce:=cE (ad.headD bw) (nx0+1) (hsh.sub hmm)
  have hpos:=(ad.headD bw).bz
  generalize (ad.headD bw).wt=xw at*
  generalize bt (ad.drop 1)=rw0 at*
  generalize ad.drop 1=rest at*
  generalize hx:ad.headD bw=x at*
  generalize E x (nx0+1)=r1 at*
  obtain⟨y,nx2⟩:=r1
  simp only at hcx hce hR
  clear hx hmm
  have htk:List.take (ad.length - 1) (aj rest)=aj rest:=List.take_of_length_le (by rw[ct];omega)
  obtain⟨k2,n2,nn2,op2,ns2,ss2,bs2,as2⟩:=x
  simp only[Ex.name,Ex.kind] at hR
  rw[show(Ex.mk k2 n2 nn2 op2 ns2 ss2 bs2 as2).sv= .agg [.int .i64 k2,.str n2,.int .i64 nn2,.int .i64 op2,.list 1 (ns2.map .str),.list 8 (aj ss2),.list 9 (ao bs2),.list 12 (aA as2)] from rfl] at*
  by_cases hk:k2=1
  ·simp only[eq_true hk,if_true] at hR
   have hcc:=fun L=>hcc nx0 n2 L (by omega)
   have hz:=hz nx0
   generalize aM B rest nx0=r0 at*
   obtain⟨⟨A,W⟩,nx3⟩:=r0
   simp only at hcc hR hz
   have g7:=eK 2 n2 0 [] [] [] [] .nil rest A W
   have gf:=fun HH=>mj (HH:=HH) (n0:=n0) 2 n2 0 rest A W hz
   generalize fW 2 n2 0 [] [] [] [] .nil rest A W=rb at*
   have g7t:rb.take 7=rb:=List.take_of_length_le (by omega)
   have g7d:rb.drop 7=[]:=List.drop_eq_nil_of_le (by omega)
   have X:=And.intro (And.intro (And.intro aO (And.intro qx (And.intro hx21 (And.intro hx22 (And.intro hx23 (And.intro hx24 hx25)))))) (And.intro hn1 (And.intro hn2 (And.intro h3 (And.intro h7 (And.intro h8 (And.intro hg0 (And.intro hk (And.intro hdr (And.intro hsl (And.intro hs1 htk))))))))))) (And.intro g7 (And.intro g7t g7d))
   (refine run ?_;with_reducible repeat' first|exact trivial|(apply af.mk<;>intro hb)|apply ax.mk)
   refine dq (hcc _) ?_
   rintro r H' ⟨rfl,rfl⟩
   rw[qx.2]
   (refine run ?_;with_reducible repeat' first|exact trivial|(apply af.mk<;>intro hb)|apply ax.mk)
   exact aS (n0:=n0) hR hC' (hcls _) (.agg _ _ (gf _)) ⟨rfl,rfl⟩ (hn:=hlenQ _)
  ·simp only[eq_false hk,if_false] at hR
   have hcc:=fun tt L=>hcc nx2 tt L (by omega)
   have hz:=hz nx2
   generalize aM B rest nx2=r0 at*
   obtain⟨⟨A,W⟩,nx3⟩:=r0
   simp only at hcc hR hz
   have hy7:=y.aH
   have hy7t:=y.aU
   have hy7d:y.cells.drop 7=[]:=List.drop_eq_nil_of_le (by omega)
   have X:=And.intro (And.intro aO (And.intro qx (And.intro hx21 (And.intro hx22 (And.intro hx23 (And.intro hx24 hx25)))))) (And.intro hn1 (And.intro hn2 (And.intro h3 (And.intro h7 (And.intro h8 (And.intro hg0 (And.intro hk (And.intro hdr (And.intro hsl (And.intro hs1 (And.intro htk (And.intro hy7 (And.intro hy7t hy7d)))))))))))))
   (refine run ?_;with_reducible repeat' first|exact trivial|(apply af.mk<;>intro hb)|apply ax.mk)
   refine bh (gk G hG sb g0 nx0 _ _ (qx.1 _ _) (by omega)) ?_
   rintro r H' ⟨rfl,rfl⟩
   rw[qx.2]
   generalize eB bW nx0=tt at*
   have hcc:=hcc tt
   have g7:=eK 2 tt 0 [] [] [] [] .nil rest A W
   have gu:=fun n=>eE 2 tt 0 [] [] [] [] .nil rest A W n rfl
   have gf:=fun HH=>mj (HH:=HH) (n0:=n0) 2 tt 0 rest A W hz
   generalize fW 2 tt 0 [] [] [] [] .nil rest A W=rb at*
   (refine run ?_;with_reducible repeat' first|exact trivial|(apply af.mk<;>intro hb)|apply ax.mk)
   refine bh (hcx _) ?_
   rintro r H' ⟨rfl,rfl⟩
   rw[qx.2,show y.sv= .agg y.cells from rfl]
   (refine run ?_;with_reducible repeat' first|exact trivial|(apply af.mk<;>intro hb)|apply ax.mk)
   refine dq (hcc _) ?_
   rintro r H' ⟨rfl,rfl⟩
   rw[qx.2]
   (refine run ?_;with_reducible repeat' first|exact trivial|(apply af.mk<;>intro hb)|apply ax.mk)
   refine dq (pD G hG y tt rb g7 _ (gu _)) ?_
   rintro r H' ⟨rfl,rfl⟩
   (refine run ?_;with_reducible repeat' first|exact trivial|(apply af.mk<;>intro hb)|apply ax.mk)
   exact aS (n0:=n0) hR hC' (hcls _) (.agg _ _ (.cons _ _ _ _ (.same _ rfl) (.cons _ _ _ _ (.same _ rfl) (.cons _ _ _ _ (.same _ rfl) (.cons _ _ _ _ (.same _ rfl) (.cons _ _ _ _ (.same _ (by simp only[SV.under,SV.aB,Sg.aP,Bool.and_self])) (.cons _ _ _ _ (.same _ rfl) (.cons _ _ _ _ (.list _ _ _ (.cons _ _ _ _ (.agg _ _ (.cons _ _ _ _ (.same _ rfl) (.cons _ _ _ _ (.same _ rfl) (.cons _ _ _ _ (.same _ rfl) (.cons _ _ _ _ (.same _ rfl) (gf _)))))) .nil)) .nil)))))))) ⟨rfl,rfl⟩ (hn:=hlenQ _)
 by_cases h5:kd=5
 ·subst h5
  rw[tK] at hR
  have hs:ad.length=1:=by unfold dM at hnode;omega
  have h0:=b7 (l:=ad) (by omega)
  have hmm:=cP (l:=ad) (by omega)
  have hg0:(aj ad)[0]? =some (ad.headD bw).sv:=by
   cases ad with
   |nil=>simp at hs
   |cons a r=>rfl
  have hcx:=fun nx L (h:nx+(ad.headD bw).wt≤4294967290)=>hEx (ad.headD bw) (Q nx++L) sb g0 nx (hpE _ (hxs _ hmm)) (by have:=hxs _ hmm;omega) (hsh.sub hmm) h (qx.1 _ _)
  have hst:=fun s H=>vw G hG cs (ad.headD bw) s H (by have:=hxs _ hmm;omega) (hsh.sub hmm)
  have hx8:=(ad.headD bw).aH
  have hx8d:=(ad.headD bw).bY
  have hx8t:=(ad.headD bw).aU
  generalize (ad.headD bw).wt=xw at*
  generalize ad.headD bw=x0 at*
  rw[show x0.sv= .agg x0.cells from rfl] at*
  clear hmm
  generalize hxc:x0.cells=xc at*
  clear hxc
  have bF:=aY
  have hbl0:(ao binds).length=binds.length:=iV _
  have X:=And.intro (And.intro aO (And.intro qx (And.intro hx21 (And.intro hx22 (And.intro hx23 (And.intro hx24 hx25)))))) (And.intro hbl0 (And.intro (show ¬ (5:Int)=1 by omega) (show ¬ (5:Int)=2 by omega)))
  (refine run ?_;with_reducible repeat' first|exact trivial|(apply af.mk<;>intro hb)|apply ax.mk)
  refine aC (fun a:Nat×List Sb×Nat=>[(0,.ptr sb g0 0 0),(3,.ptr n0 0 0 0),(4,.ptr (n0+1) 0 0 0),(10,.sl (n0+2) 0 0 a.2.1.length),(11,.int .i64 (a.1:Int))])
   (fun a=>Q a.2.2++[.cells 0 8 [.agg [.int .i64 5,.str nm,.int .i64 nn,.int .i64 op,.list 1 (names.map .str),.list 8 (aj ad),.list 9 (ao binds),.list 12 (aA alts)]],.cells 0 7 [.agg [.int .i64 0,.str [],.int .i64 0,.list 2 [],.list 7 [],.list 8 [],.list 11 []]],.cells 0 8 (aX a.2.1)]) (fun a=>binds.length - a.1)
   (fun a=>(a.1≤binds.length∧a.2.1.length+aW (binds.drop a.1)≤aW binds∧a.2.2+aW (binds.drop a.1)≤nx0+aW binds)∧cF B (qo binds x0) binds nx0=(a.2.1++(cF B (qo binds x0) (binds.drop a.1) a.2.2).1,(cF B (qo binds x0) (binds.drop a.1) a.2.2).2)) (0,[],nx0) ⟨⟨Nat.zero_le _,by simp,Nat.le_refl _⟩,rfl⟩ ?_ ?_
  ·simp only[show aX []=[] from rfl,List.length_nil]
   exact bB (n0:=n0) [(n0,0),(n0+1,0),(n0+2,0)] hG hB hC' (hcls _) (hn:=hlenQ _) (hd:=d3)
  rintro K2 ⟨i,D,nx⟩ ⟨⟨hi1,hD,hnw⟩,hmp⟩ hK2
  simp only at hi1 hD hnw hmp
  dsimp only
  rcases Nat.lt_or_ge i binds.length with hlt|hge
  ·have hmem:=List.getElem_mem hlt
   have hxw:=dH hmem
   have hxg:=binds[i].cZ
   have hdr:=kA hlt
   have hcut:=mC hlt hmp
   have hcall:=fun L=>hBd binds[i].name binds[i].e (qo binds x0 binds[i]) (Q nx++L) sb g0 nx (hpB _ (hxb _ hmem)) (by have:=hxb _ hmem;omega) (hsh.bind hmem) (by split<;>omega) (qx.1 _ _)
   have hcn:=cB binds[i].name binds[i].e (qo binds x0 binds[i]) nx (hsh.bind hmem)
   have hup:qo binds x0 binds[i]=!(decide (binds.length=1)&&!decide (binds[i].name∈cz binds[i].e)&&oS x0 binds[i].name):=rfl
   have hcg:(ao binds)[i]? =some (.agg (.str binds[i].name::binds[i].e.cells)):=by rw[cr,List.getElem?_map,List.getElem?_eq_getElem hlt,Option.map_some,Bd.sv,Bd.df]
   have c3:=fun H=>hst binds[i].name H
   have hfl:(cz binds[i].e).length≤binds[i].e.wt:=by
    have:=gS binds[i].e.wt binds[i].e ([],[])
    rw[cz,eP]
    simpa using this
   have c2:=fun H=>gC G (cz binds[i].e) binds[i].name H (by omega)
   have c1:=fun H=>pB G hG binds[i].e (by omega) H
   generalize qo binds x0 binds[i]=u at*
   generalize oS x0 binds[i].name=sv at*
   generalize cz binds[i].e=F at*
   generalize binds[i].wt=wb at*
   generalize binds[i].name=bn at*
   generalize hbe:binds[i].e=be at*
   clear hbe hmem
   obtain⟨k2,n2,nn2,op2,ns2,ss2,bs2,as2⟩:=be
   generalize B bn (.mk k2 n2 nn2 op2 ns2 ss2 bs2 as2) u nx=r0 at*
   obtain⟨bs,nx2⟩:=r0
   simp only at hcall hcn hcut
   generalize (Ex.mk k2 n2 nn2 op2 ns2 ss2 bs2 as2).wt=ew at*
   rw[show(Ex.mk k2 n2 nn2 op2 ns2 ss2 bs2 as2).cells=[.int .i64 k2,.str n2,.int .i64 nn2,.int .i64 op2,.list 1 (ns2.map .str),.list 8 (aj ss2),.list 9 (ao bs2),.list 12 (aA as2)] from rfl] at hcg
   rw[show(Ex.mk k2 n2 nn2 op2 ns2 ss2 bs2 as2).sv= .agg [.int .i64 k2,.str n2,.int .i64 nn2,.int .i64 op2,.list 1 (ns2.map .str),.list 8 (aj ss2),.list 9 (ao bs2),.list 12 (aA as2)] from rfl] at*
   have hsn:=ff D bs
   have hDl:=cc D
   have hbl:=cc bs
   by_cases hb1:binds.length=1
   ·have hb1':¬ (1:Int)<(binds.length:Int):=by omega
    by_cases hin:bn∈F
    ·rw[decide_eq_true hin,Bool.not_true,Bool.and_false,Bool.false_and,Bool.not_false] at hup
     rw[decide_eq_true hin] at c2
     subst hup
     have X:=And.intro (And.intro aO (And.intro qx (And.intro hx21 (And.intro hx22 (And.intro hx23 (And.intro hx24 hx25)))))) (And.intro hcg (And.intro hbl0 (And.intro hg0 (And.intro hx8 (And.intro hx8d (And.intro hx8t (And.intro hb1' (And.intro hsn (And.intro hDl hbl)))))))))
     (refine run ?_;with_reducible repeat' first|exact trivial|(apply af.mk<;>intro hb)|apply ax.mk)
     (refine bh (hcall _) ?_;rintro r H' ⟨rfl,rfl⟩;rw[qx.2];(refine run ?_;with_reducible repeat' first|exact trivial|(apply af.mk<;>intro hb)|apply ax.mk);refine hK2 _ _ (i+1,D++bs,nx2) (by simp only;omega) ⟨⟨by simp only;omega,by simp only[List.length_append];omega,by simp only;omega⟩,hcut⟩ ?_;simp only[List.length_append];exact bB (n0:=n0) [(n0,0),(n0+1,0),(n0+2,0)] hG hB hC' (hcls _) (hn:=hlenQ _) (hd:=d3))
    ·rw[decide_eq_false hin,decide_eq_true hb1,Bool.not_false,Bool.and_true,Bool.true_and] at hup
     rw[decide_eq_false hin] at c2
     subst hup
     have X:=And.intro (And.intro aO (And.intro qx (And.intro hx21 (And.intro hx22 (And.intro hx23 (And.intro hx24 hx25)))))) (And.intro hcg (And.intro hbl0 (And.intro hg0 (And.intro hx8 (And.intro hx8d (And.intro hx8t (And.intro hb1' (And.intro hsn (And.intro hDl hbl)))))))))
     (refine run ?_;with_reducible repeat' first|exact trivial|(apply af.mk<;>intro hb)|apply ax.mk)
     (refine bh (hcall _) ?_;rintro r H' ⟨rfl,rfl⟩;rw[qx.2];(refine run ?_;with_reducible repeat' first|exact trivial|(apply af.mk<;>intro hb)|apply ax.mk);refine hK2 _ _ (i+1,D++bs,nx2) (by simp only;omega) ⟨⟨by simp only;omega,by simp only[List.length_append];omega,by simp only;omega⟩,hcut⟩ ?_;simp only[List.length_append];exact bB (n0:=n0) [(n0,0),(n0+1,0),(n0+2,0)] hG hB hC' (hcls _) (hn:=hlenQ _) (hd:=d3))
   ·have hb1':(1:Int)<(binds.length:Int):=by omega
    rw[decide_eq_false hb1,Bool.false_and,Bool.false_and,Bool.not_false] at hup
    subst hup
    have X:=And.intro (And.intro aO (And.intro qx (And.intro hx21 (And.intro hx22 (And.intro hx23 (And.intro hx24 hx25)))))) (And.intro hcg (And.intro hbl0 (And.intro hg0 (And.intro hx8 (And.intro hx8d (And.intro hx8t (And.intro hb1' (And.intro hsn (And.intro hDl hbl)))))))))
    (refine run ?_;with_reducible repeat' first|exact trivial|(apply af.mk<;>intro hb)|apply ax.mk)
    (refine bh (hcall _) ?_;rintro r H' ⟨rfl,rfl⟩;rw[qx.2];(refine run ?_;with_reducible repeat' first|exact trivial|(apply af.mk<;>intro hb)|apply ax.mk);refine hK2 _ _ (i+1,D++bs,nx2) (by simp only;omega) ⟨⟨by simp only;omega,by simp only[List.length_append];omega,by simp only;omega⟩,hcut⟩ ?_;simp only[List.length_append];exact bB (n0:=n0) [(n0,0),(n0+1,0),(n0+2,0)] hG hB hC' (hcls _) (hn:=hlenQ _) (hd:=d3))
  clear hK2
  have hni:¬ (i:Int)<(binds.length:Int):=by omega
  rw[List.drop_eq_nil_of_le hge] at hmp hnw hD
  simp only[cF,List.append_nil] at hmp
  rw[hmp] at hR
  simp only at hR
  have hcx:=fun L=>hcx nx L (by simp only[aW] at hnw;omega)
  generalize E x0 nx=r1 at*
  obtain⟨y,nx3⟩:=r1
  simp only at hcx hR
  have hy7:=y.aH
  have hy7t:=y.aU
  have hy7d:y.cells.drop 7=[]:=List.drop_eq_nil_of_le (by omega)
  have X:=And.intro (And.intro aO (And.intro qx (And.intro hx21 (And.intro hx22 (And.intro hx23 (And.intro hx24 hx25)))))) (And.intro hni (And.intro hbl0 (And.intro hg0 (And.intro hx8 (And.intro hx8d (And.intro hx8t (And.intro hy7 (And.intro hy7t hy7d))))))))
  (refine run ?_;with_reducible repeat' first|exact trivial|(apply af.mk<;>intro hb)|apply ax.mk)
  refine bh (hcx _) ?_
  rintro r H' ⟨rfl,rfl⟩
  rw[qx.2,show y.sv= .agg y.cells from rfl]
  (refine run ?_;with_reducible repeat' first|exact trivial|(apply af.mk<;>intro hb)|apply ax.mk)
  refine bh (D5 G hG (n0+2) 0 D.length y.cells hy7 _ (by simp only[SV.under,List.length_append,hlenQ,List.length_cons,List.length_nil,decide_eq_true_eq];omega) (Sg.aP _ _)) ?_
  rintro r H' ⟨rfl,rfl⟩
  (refine run ?_;with_reducible repeat' first|exact trivial|(apply af.mk<;>intro hb)|apply ax.mk)
  exact aS (n0:=n0) hR hC' (hcls _) (.agg _ _ (.cons _ _ _ _ (.same _ rfl) (.cons _ _ _ _ (.same _ rfl) (.cons _ _ _ _ (.same _ rfl) (.cons _ _ _ _ (.same _ rfl) (.cons _ _ _ _ (.same _ (by simp only[SV.under,SV.aB,Sg.aP,Bool.and_self])) (.cons _ _ _ _ (bV.sf (g:=0) (sz:=8) (vals:=aX D) (by rw[hx23];rfl) (by omega) (by simp) (by simp) (aY _ _)) (.cons _ _ _ _ (.same _ rfl) .nil)))))))) ⟨rfl,rfl⟩ (hn:=hlenQ _)
 by_cases h6:kd=6
 ·subst h6
  rw[rr] at hR
  have hs:ad.length=1:=by unfold dM at hnode;omega
  have h0:=b7 (l:=ad) (by omega)
  have hmm:=cP (l:=ad) (by omega)
  have hg0:(aj ad)[0]? =some (ad.headD bw).sv:=by
   cases ad with
   |nil=>simp at hs
   |cons a r=>rfl
  have hcx:=fun L=>hEx (ad.headD bw) (Q nx0++L) sb g0 nx0 (hpE _ (hxs _ hmm)) (by have:=hxs _ hmm;omega) (hsh.sub hmm) (by omega) (qx.1 _ _)
  have hce:=cE (ad.headD bw) nx0 (hsh.sub hmm)
  have hx8:=(ad.headD bw).aH
  have hx8d:=(ad.headD bw).bY
  have hx8t:=(ad.headD bw).aU
  generalize (ad.headD bw).wt=xw at*
  generalize hx:ad.headD bw=x at*
  generalize E x nx0=r1 at*
  obtain⟨y,nx1⟩:=r1
  simp only at hcx hce hR
  rw[show x.sv= .agg x.cells from rfl] at*
  clear hx hmm
  generalize x.cells=xc at*
  have hy7:=y.aH
  have hy7t:=y.aU
  have hy7d:y.cells.drop 7=[]:=List.drop_eq_nil_of_le (by omega)
  have hal0:(aA alts).length=alts.length:=iU _
  have X:=And.intro (And.intro aO (And.intro qx (And.intro hx21 (And.intro hx22 (And.intro hx23 (And.intro hx24 hx25)))))) (And.intro hal0 (And.intro hn1 (And.intro hn2 (And.intro h3 (And.intro h7 (And.intro h8 (And.intro h4 (And.intro hg0 (And.intro hx8 (And.intro hx8d (And.intro hx8t (And.intro hy7 (And.intro hy7t hy7d)))))))))))))
  (refine run ?_;with_reducible repeat' first|exact trivial|(apply af.mk<;>intro hb)|apply ax.mk)
  refine bh (hcx _) ?_
  rintro r H' ⟨rfl,rfl⟩
  rw[qx.2,show y.sv= .agg y.cells from rfl]
  (refine run ?_;with_reducible repeat' first|exact trivial|(apply af.mk<;>intro hb)|apply ax.mk)
  have d4:=vi n0 [0,1,2,3] (by decide)
  have dJ:=cg
  have ko:=Sg.aP
  refine aC (fun a:Nat×List Sl×Nat=>[(0,.ptr sb g0 0 0),(3,.ptr n0 0 0 0),(4,.ptr (n0+1) 0 0 0),(15,.ptr (n0+2) 0 0 0),(16,.sl (n0+3) 0 0 a.2.1.length),(17,.int .i64 (a.1:Int))])
   (fun a=>Q a.2.2++[.cells 0 8 [.agg [.int .i64 6,.str nm,.int .i64 nn,.int .i64 op,.list 1 (names.map .str),.list 8 (aj ad),.list 9 (ao binds),.list 12 (aA alts)]],.cells 0 7 [.agg [.int .i64 0,.str [],.int .i64 0,.list 2 [],.list 7 [],.list 8 [],.list 11 []]],.cells 0 7 [.agg y.cells],.cells 0 11 (bU a.2.1)]) (fun a=>alts.length - a.1)
   (fun a=>(a.1≤alts.length∧a.2.1.length=a.1∧a.2.2+cp (alts.drop a.1)≤nx1+cp alts)∧fO (lh E) alts nx1=(a.2.1++(fO (lh E) (alts.drop a.1) a.2.2).1,(fO (lh E) (alts.drop a.1) a.2.2).2)) (0,[],nx1) ⟨⟨Nat.zero_le _,rfl,Nat.le_refl _⟩,rfl⟩ ?_ ?_
  ·simp only[show bU []=[] from rfl,List.length_nil]
   exact bB (n0:=n0) [(n0,0),(n0+1,0),(n0+2,0),(n0+3,0)] hG hB hC' (hcls _) (hn:=hlenQ _) (hd:=d4)
  rintro K2 ⟨i,D,nx⟩ ⟨⟨hi1,hD,hnw⟩,hmp⟩ hK2
  simp only at hi1 hD hnw hmp
  dsimp only
  rcases Nat.lt_or_ge i alts.length with hlt|hge
  ·have hmem:=List.getElem_mem hlt
   have hxw:=cN hmem
   have hxg:=alts[i].cZ
   have hdr:=qN hlt
   have hcall:=fun L=>hEx alts[i].body (Q nx++L) sb g0 nx (hpE _ (hxa _ hmem)) (by have:=hxa _ hmem;omega) (hsh.alt hmem) (by omega) (qx.1 _ _)
   have hce2:=cE alts[i].body nx (hsh.alt hmem)
   have hmp2:=xh hlt hmp
   have hcg:(aA alts)[i]? =some (.agg (.int .i64 alts[i].kind:: .str alts[i].name:: .int .i64 alts[i].n:: .list 1 (alts[i].names.map .str)::alts[i].body.cells)):=by rw[gy,List.getElem?_eq_getElem hlt];rfl
   simp only[lh] at hmp2
   generalize alts[i].wt=wa at*
   generalize alts[i].kind=ak at*
   generalize alts[i].name=an at*
   generalize alts[i].n=av at*
   generalize alts[i].names=ans at*
   generalize alts[i].body=bd at*
   generalize E bd nx=yy at*
   obtain⟨z,nx2⟩:=yy
   simp only at hcall hce2 hmp2
   have hb8:=bd.aH
   have hb8d:=bd.bY
   have hb8t:=bd.aU
   rw[show bd.sv= .agg bd.cells from rfl] at*
   generalize bd.cells=bc at*
   have hz7:=z.aH
   have hz7t:=z.aU
   have hz7d:z.cells.drop 7=[]:=List.drop_eq_nil_of_le (by omega)
   have hsn:bU D++[.agg (.int .i64 ak:: .str an:: .int .i64 av:: .list 1 (ans.map .str)::(z.cells++[]))]=bU (D++[.mk ak an av ans z]):=by rw[List.append_nil];exact oO D (.mk ak an av ans z)
   have hDl:=jk D
   have X:=And.intro (And.intro aO (And.intro qx (And.intro hx21 (And.intro hx22 (And.intro hx23 (And.intro hx24 hx25)))))) (And.intro hcg (And.intro hal0 (And.intro hb8 (And.intro hb8d (And.intro hb8t (And.intro hz7 (And.intro hz7t (And.intro hz7d (And.intro hsn hDl)))))))))
   (refine run ?_;with_reducible repeat' first|exact trivial|(apply af.mk<;>intro hb)|apply ax.mk)
   refine dq (hcall _) ?_
   rintro r H' ⟨rfl,rfl⟩
   rw[qx.2,show z.sv= .agg z.cells from rfl]
   (refine run ?_;with_reducible repeat' first|exact trivial|(apply af.mk<;>intro hb)|apply ax.mk)
   refine hK2 _ _ (i+1,D++[.mk ak an av ans z],nx2) (by simp only;omega) ⟨⟨by simp only;omega,by simp only[List.length_append,List.length_cons,List.length_nil];omega,by simp only;omega⟩,hmp2⟩ ?_
   simp only[List.length_append,List.length_cons,List.length_nil]
   exact bB (n0:=n0) [(n0,0),(n0+1,0),(n0+2,0),(n0+3,0)] hG hB hC' (hcls _) (hn:=hlenQ _) (hd:=d4)
  clear hK2
  have hni:¬ (i:Int)<(alts.length:Int):=by omega
  rw[List.drop_eq_nil_of_le hge] at hmp
  simp only[fO,List.append_nil] at hmp
  rw[hmp] at hR
  simp only at hR
  have X:=And.intro (And.intro aO (And.intro qx (And.intro hx21 (And.intro hx22 (And.intro hx23 (And.intro hx24 hx25)))))) (And.intro hni (And.intro hal0 (And.intro hy7 (And.intro hy7t hy7d))))
  (refine run ?_;with_reducible repeat' first|exact trivial|(apply af.mk<;>intro hb)|apply ax.mk)
  exact aS (n0:=n0) hR hC' (hcls _) (.agg _ _ (.cons _ _ _ _ (.same _ rfl) (.cons _ _ _ _ (.same _ rfl) (.cons _ _ _ _ (.same _ rfl) (.cons _ _ _ _ (.same _ rfl) (.cons _ _ _ _ (.same _ (by simp only[SV.under,SV.aB,Sg.aP,Bool.and_self])) (.cons _ _ _ _ (.same _ rfl) (.cons _ _ _ _ (bV.sf (g:=0) (sz:=11) (vals:=bU D) (by rw[hx23];rfl) (by omega) (by simp) (by simp) (cg _ _)) .nil)))))))) ⟨rfl,rfl⟩ (hn:=hlenQ _)
 ·exfalso
  unfold dM at hnode
  omega
def fc:Al:= .mk 0 [] 0 [] bw
def pC (l:List Cn) (e:Ex):Bool:=
 !((decide (e.kind=3)&&decide (e.names.length=0))||(decide (e.kind=4)&&decide (e.ad.length<2))||(decide (e.kind=5)&&decide (e.binds.length=0))||(decide (e.kind=8)&&!decide ((e.ad.length:Int)=mM e.op))||(decide (e.kind=7)&&(!(ck l e.name).isSome||!decide ((e.ad.length:Int)=(b8 l e.name).arity))))
  &&!(e.alts.any fun a=>decide (a.kind=1)&&!ld l a.name a.names.length)
theorem FG {l:List Cn} {e:Ex} (h:eY e=true):pC l e=ll l e:=by
 obtain⟨kd,nm,nn,op,names,ad,binds,alts⟩:=e
 have hp:=((mc _ _ _ _ _ _ _ _).1 h).1
 unfold dM at hp
 have e1:pC l (.mk kd nm nn op names ad binds alts)=(!((decide (kd=3)&&decide (names.length=0))||(decide (kd=4)&&decide (ad.length<2))||(decide (kd=5)&&decide (binds.length=0))||(decide (kd=8)&&!decide ((ad.length:Int)=mM op))||(decide (kd=7)&&(!(ck l nm).isSome||!decide ((ad.length:Int)=(b8 l nm).arity))))
  &&!(alts.any fun a=>decide (a.kind=1)&&!ld l a.name a.names.length)):=rfl
 have e2:ll l (.mk kd nm nn op names ad binds alts)=if kd=3 then decide (0<names.length) else if kd=4 then decide (1<ad.length) else if kd=5 then decide (0<binds.length)
  else if kd=7 then ((ck l nm).isSome&&decide ((b8 l nm).arity=(ad.length:Int))) else if kd=8 then decide ((ad.length:Int)=mM op)
  else !(alts.any fun a=>decide (a.kind=1)&&!ld l a.name a.names.length):=rfl
 rw[e1,e2]
 clear e1 e2 h
 by_cases h6:kd=6
 ·subst h6;simp
 have ha:alts=[]:=List.length_eq_zero_iff.1 (by omega)
 subst ha
 generalize mM op=ar at*
 generalize (b8 l nm).arity=ca
 generalize (ck l nm).isSome=is
 generalize names.length=nl at*
 generalize ad.length=sl at*
 generalize binds.length=bl at*
 by_cases h1:kd=1
 ·subst h1;simp
 by_cases h2:kd=2
 ·subst h2;simp
 by_cases h3:kd=3
 ·subst h3;rw[Bool.eq_iff_iff];simp;omega
 by_cases h4:kd=4
 ·subst h4;rw[Bool.eq_iff_iff];simp;omega
 by_cases h5:kd=5
 ·subst h5;rw[Bool.eq_iff_iff];simp;omega
 by_cases h7:kd=7
 ·subst h7
  rw[Bool.eq_iff_iff];simp
  intro _
  exact eq_comm
 by_cases h8:kd=8
 ·subst h8;simp
 omega
theorem kz {p q s:Ex→Bool} (h:∀ e,s e=true→p e=q e):∀ (m:Nat) (e:Ex),dF m s e=true→dF m p e=dF m q e
 |0,_,_=>rfl
 |m+1,e,hs=>by
  have hs:(s e&&e.parts.all (dF m s))=true:=hs
  show(p e&&e.parts.all (dF m p))=(q e&&e.parts.all (dF m q))
  rw[Bool.and_eq_true,List.all_eq_true] at hs
  rw[h e hs.1]
  congr 1
  rw[Bool.eq_iff_iff,List.all_eq_true,List.all_eq_true]
  constructor
  ·intro k x hx
   rw[← kz h m x (hs.2 x hx)];exact k x hx
  ·intro k x hx
   rw[kz h m x (hs.2 x hx)];exact k x hx
def jJ (cs:List Cn) (a b:Al):Bool:=(decide (a.kind≠3)&&decide (a.kind≠b.kind))||(decide (a.kind=2)&&decide (a.n=b.n))||(decide (a.kind=1)&&decide (a.name=b.name))||(decide (a.kind=1)&&decide ((b8 cs a.name).family≠(b8 cs b.name).family))
def gL (cs:List Cn) (l:List Al) (i:Nat):Bool:=(decide ((l.getD i fc).kind=3)&&decide (i+1<l.length))||(l.take i).any fun b=>jJ cs (l.getD i fc) b
def ke (cs:List Cn) (e:Ex):Bool:=!(decide (e.kind=6)&&decide (e.alts.length=0))&&!((List.range e.alts.length).any (gL cs e.alts))
theorem y9 (cs:List Cn) (k0:Int) (s0:aI) (R:List Al):(gK cs k0 s0 [] R=true)↔∃ i,∃ h:i<R.length,lf cs (R.take i) k0 s0 R[i]=true:=by
 have main:∀ (n i:Nat),i+n=R.length→((gK cs k0 s0 (R.take i) (R.drop i)=true)↔∃ j,∃ h:j<R.length,i≤j∧lf cs (R.take j) k0 s0 R[j]=true):=by
  intro n
  induction n with
  |zero=>
   intro i hi
   rw[List.drop_eq_nil_of_le (by omega)]
   constructor
   ·intro h;cases h
   ·rintro⟨j,h,h1,_⟩;omega
  |succ n ih=>
   intro i hi
   have hlt:i<R.length:=by omega
   rw[sc cs k0 s0 R hlt,Bool.or_eq_true,ih (i+1) (by omega)]
   constructor
   ·rintro (h|⟨j,h,h1,h2⟩)
    ·exact⟨i,hlt,Nat.le_refl _,h⟩
    ·exact⟨j,h,by omega,h2⟩
   ·rintro⟨j,h,h1,h2⟩
    rcases Nat.eq_or_lt_of_le h1 with e|e
    ·subst e;exact .inl h2
    ·exact .inr ⟨j,h,e,h2⟩
 have:=main R.length 0 (by omega)
 rw[List.take_zero,List.drop_zero] at this
 rw[this]
 constructor
 ·rintro⟨j,h,_,h2⟩;exact⟨j,h,h2⟩
 ·rintro⟨j,h,h2⟩;exact⟨j,h,Nat.zero_le _,h2⟩
theorem D1 (l:List Al):∃ n,gH l=l.take n∧n≤l.length∧(n=l.length∨(n+1=l.length∧(l.getD n fc).kind=3))∧(n=l.length→0<l.length→(l.getD (l.length - 1) fc).kind≠3):=by
 unfold gH
 by_cases h0:l.length=0
 ·rw[if_pos h0]
  exact⟨l.length,by rw[List.take_length],Nat.le_refl _,.inl rfl,fun _ h=>absurd h0 (by omega)⟩
 rw[if_neg h0]
 have hl:((l.getLast?.map Al.kind).getD 0)=(l.getD (l.length - 1) fc).kind:=by
  rw[List.getLast?_eq_getElem?,List.getD_eq_getElem?_getD,List.getElem?_eq_getElem (by omega)]
  rfl
 rw[hl]
 by_cases h3:(l.getD (l.length - 1) fc).kind=3
 ·rw[if_pos h3]
  exact⟨l.length - 1,rfl,by omega,.inr ⟨by omega,h3⟩,fun h=>by omega⟩
 ·rw[if_neg h3]
  exact⟨l.length,by rw[List.take_length],Nat.le_refl _,.inl rfl,fun _ _=>h3⟩
theorem py {β:Type} (f:Al→β) {l:List Al} {i:Nat} (h:i≤l.length) (v:β):v∈(l.take i).map f↔∃ j,j<i∧f (l.getD j fc)=v:=by
 rw[List.mem_map]
 constructor
 ·rintro⟨a,ha,rfl⟩
  obtain⟨j,hj,rfl⟩:=List.mem_iff_getElem.1 ha
  rw[List.length_take] at hj
  exact⟨j,by omega,by rw[List.getElem_take,List.getD_eq_getElem?_getD,List.getElem?_eq_getElem (by omega)];rfl⟩
 ·rintro⟨j,hj,rfl⟩
  refine⟨l.getD j fc,?_,rfl⟩
  rw[List.getD_eq_getElem?_getD,List.getElem?_eq_getElem (by omega)]
  exact List.mem_take_iff_getElem.2 ⟨j,by omega,rfl⟩
theorem AF (f:Al→Bool) {l:List Al} {i:Nat} (h:i≤l.length):(l.take i).any f=true↔∃ j,j<i∧f (l.getD j fc)=true:=by
 rw[List.any_eq_true]
 constructor
 ·rintro⟨a,ha,hf⟩
  obtain⟨j,hj,e⟩:=(py id h a).1 (by simpa using ha)
  exact⟨j,hj,by rw[show l.getD j fc=a from e];exact hf⟩
 ·rintro⟨j,hj,hf⟩
  exact⟨_,by simpa using (py id h (l.getD j fc)).2 ⟨j,hj,rfl⟩,hf⟩
theorem yi (cs:List Cn) (l:List Al) (n:Nat) (K0:Int) (s0:aI) (hn2:n≤l.length) (hn3:n=l.length∨(n+1=l.length∧(l.getD n fc).kind=3)) (hn4:n=l.length→0<l.length→(l.getD (l.length - 1) fc).kind≠3)
 (hk:0<n→K0=(l.getD 0 fc).kind∧s0=(l.getD 0 fc).name):
 (∃ i,i<l.length∧gL cs l i=true)↔∃ i,i<n∧lf cs (l.take i) K0 s0 (l.getD i fc)=true:=by
 have hb:∀ i,i<l.length→(gL cs l i=true↔(((l.getD i fc).kind=3∧i+1<l.length)∨∃ j,j<i∧jJ cs (l.getD i fc) (l.getD j fc)=true)):=fun i hi=>by
  unfold gL
  rw[Bool.or_eq_true,Bool.and_eq_true,decide_eq_true_eq,decide_eq_true_eq,AF _ (by omega)]
 have hp:∀ a b:Al,jJ cs a b=true↔((a.kind≠3∧a.kind≠b.kind)∨(a.kind=2∧a.n=b.n)∨(a.kind=1∧a.name=b.name)∨(a.kind=1∧(b8 cs a.name).family≠(b8 cs b.name).family)):=fun a b=>by
  unfold jJ
  simp only[Bool.or_eq_true,Bool.and_eq_true,decide_eq_true_eq,or_assoc]
 have ho:∀ i,i<n→(lf cs (l.take i) K0 s0 (l.getD i fc)=true↔((l.getD i fc).kind=3∨(l.getD i fc).kind≠K0∨((∃ j,j<i∧(l.getD j fc).name=(l.getD i fc).name)∧(l.getD i fc).kind=1)∨
  ((∃ j,j<i∧(l.getD j fc).n=(l.getD i fc).n)∧(l.getD i fc).kind=2)∨((l.getD i fc).kind=1∧(b8 cs (l.getD i fc).name).family≠(b8 cs s0).family))):=fun i hi=>by
  unfold lf
  simp only[Bool.or_eq_true,Bool.and_eq_true,decide_eq_true_eq,Bool.not_eq_true',decide_eq_false_iff_not,py _ (show i≤l.length by omega),or_assoc,ne_eq]
 generalize hA:(fun i=>l.getD i fc)=A
 have hAx:∀ i,l.getD i fc=A i:=fun i=>by rw[← hA]
 simp only[hAx] at*
 clear hA hAx
 constructor
 ·rintro⟨i,hi,hbi⟩
  refine Classical.byContradiction fun hno=>?_
  have hC:∀ j,j<n→¬ lf cs (l.take j) K0 s0 (A j)=true:=fun j hj h=>hno ⟨j,hj,h⟩
  rcases Nat.lt_or_ge i n with hin|hin
  ·have hci:=mt (ho i hin).2 (hC i hin)
   simp only[not_or] at hci
   obtain⟨q1,q2,q3,q4,q5⟩:=hci
   have q2:(A i).kind=K0:=Classical.byContradiction q2
   rcases (hb i hi).1 hbi with h|⟨j,hj,hpj⟩
   ·exact q1 h.1
   ·have hcj:=mt (ho j (by omega)).2 (hC j (by omega))
    simp only[not_or] at hcj
    obtain⟨r1,r2,r3,r4,r5⟩:=hcj
    have r2:(A j).kind=K0:=Classical.byContradiction r2
    rcases (hp _ _).1 hpj with h|h|h|h
    ·exact h.2 (q2.trans r2.symm)
    ·exact q4 ⟨⟨j,hj,h.2.symm⟩,h.1⟩
    ·exact q3 ⟨⟨j,hj,h.2.symm⟩,h.1⟩
    ·have e1:(b8 cs (A i).name).family=(b8 cs s0).family:=Classical.byContradiction fun e=>q5 ⟨h.1,e⟩
     have e2:(b8 cs (A j).name).family=(b8 cs s0).family:=Classical.byContradiction fun e=>r5 ⟨by rw[r2,← q2];exact h.1,e⟩
     exact h.2 (e1.trans e2.symm)
  ·obtain⟨e1,e2⟩:n+1=l.length∧(A n).kind=3:=by
    rcases hn3 with h|h
    ·omega
    ·exact h
   obtain rfl:i=n:=by omega
   rcases (hb i hi).1 hbi with h|⟨j,hj,hpj⟩
   ·omega
   ·rcases (hp _ _).1 hpj with h|h|h|h
    ·exact h.1 e2
    ·rw[e2] at h;omega
    ·rw[e2] at h;omega
    ·rw[e2] at h;omega
 ·rintro⟨i,hi,hoi⟩
  refine Classical.byContradiction fun hno=>?_
  have hR:∀ j,j<l.length→¬ gL cs l j=true:=fun j hj h=>hno ⟨j,hj,h⟩
  have hri:=mt (hb i (by omega)).2 (hR i (by omega))
  simp only[not_or] at hri
  obtain⟨q1,q2⟩:=hri
  have q2:∀ j,j<i→¬ jJ cs (A i) (A j)=true:=fun j hj h=>q2 ⟨j,hj,h⟩
  have h3:(A i).kind≠3:=fun e=>by
   have h1:¬ i+1<l.length:=fun h=>q1 ⟨e,h⟩
   have h2:n=l.length:=by omega
   have h4:=hn4 h2 (by omega)
   rw[show l.length - 1=i by omega] at h4
   exact h4 e
  obtain⟨hk1,hk2⟩:=hk (by omega)
  rcases (ho i hi).1 hoi with h|h|⟨⟨j,hj,e⟩,h⟩|⟨⟨j,hj,e⟩,h⟩|⟨h,e⟩
  ·exact h3 h
  ·rcases Nat.eq_zero_or_pos i with hz|hpos
   ·rw[hz] at h;exact h hk1.symm
   ·exact q2 0 hpos ((hp _ _).2 (.inl ⟨h3,fun e=>h (e.trans hk1.symm)⟩))
  ·exact q2 j hj ((hp _ _).2 (.inr (.inr (.inl ⟨h,e.symm⟩))))
  ·exact q2 j hj ((hp _ _).2 (.inr (.inl ⟨h,e.symm⟩)))
  ·rcases Nat.eq_zero_or_pos i with hz|hpos
   ·rw[hz] at e;exact e (by rw[hk2])
   ·exact q2 0 hpos ((hp _ _).2 (.inr (.inr (.inr ⟨h,by rw[← hk2];exact e⟩))))
theorem ET {cs:List Cn} {e:Ex} (h:eY e=true):ke cs e=lx cs e:=by
 obtain⟨kd,nm,nn,op,names,ad,binds,l⟩:=e
 obtain⟨hp,-⟩:=(mc _ _ _ _ _ _ _ _).1 h
 unfold dM at hp
 have e1:ke cs (.mk kd nm nn op names ad binds l)=(!(decide (kd=6)&&decide (l.length=0))&&!((List.range l.length).any (gL cs l))):=rfl
 have e2:lx cs (.mk kd nm nn op names ad binds l)=if kd≠6 then true else !gK cs (C9 (gH l)) (Da (gH l)) [] (gH l)&&decide (0<l.length):=rfl
 rw[e1,e2]
 clear e1 e2 h
 by_cases h6:kd=6
 rotate_left
 ·have ha:l=[]:=List.length_eq_zero_iff.1 (by omega)
  subst ha
  rw[if_pos h6]
  simp[h6]
 subst h6
 rw[if_neg (fun h=>h rfl)]
 by_cases hl0:l.length=0
 ·simp[hl0]
 have hz:decide (l.length=0)=false:=decide_eq_false hl0
 have hz2:decide (0<l.length)=true:=decide_eq_true (by omega)
 rw[hz,hz2]
 simp only[decide_true,Bool.and_false,Bool.not_false,Bool.true_and,Bool.and_true]
 congr 1
 rw[Bool.eq_iff_iff,y9,List.any_eq_true]
 obtain⟨n,hn1,hn2,hn3,hn4⟩:=D1 l
 have hg:∀ i (h:i<l.length),l.getD i fc=l[i]:=fun i h=>by rw[List.getD_eq_getElem?_getD,List.getElem?_eq_getElem h];rfl
 rw[hn1]
 have hk0:0<n→C9 (l.take n)=(l.getD 0 fc).kind∧Da (l.take n)=(l.getD 0 fc).name:=fun h=>by
  cases l with
  |nil=>exact absurd rfl hl0
  |cons a r=>
   obtain⟨q,rfl⟩:∃ q,n=q+1:=⟨n - 1,by omega⟩
   exact⟨rfl,rfl⟩
 have hlt:(l.take n).length=n:=by rw[List.length_take];omega
 have hpl:=yi cs l n (C9 (l.take n)) (Da (l.take n)) hn2 hn3 hn4 hk0
 constructor
 ·rintro⟨i,hi,hbi⟩
  obtain⟨j,hj,hoj⟩:=hpl.1 ⟨i,List.mem_range.1 hi,hbi⟩
  refine⟨j,by omega,?_⟩
  rw[List.take_take,Nat.min_eq_left (by omega),List.getElem_take,← hg j (by omega)]
  exact hoj
 ·rintro⟨j,hj,hoj⟩
  rw[hlt] at hj
  rw[List.take_take,Nat.min_eq_left (by omega),List.getElem_take,← hg j (by omega)] at hoj
  obtain⟨i,hi,hbi⟩:=hpl.2 ⟨j,hj,hoj⟩
  exact⟨i,List.mem_range.2 hi,hbi⟩
theorem kI:∀ (l:List Cn) (i:Nat) (s:aI),(ck (l.take i) s).isSome=true↔∃ j,∃ h:j<l.length,j<i∧l[j].name=s
 |[],i,s=>by simp[ck]
 |c::r,0,s=>by simp[ck]
 |c::r,i+1,s=>by
  rw[List.take_succ_cons,ck]
  by_cases h:s=c.name
  ·rw[if_pos h]
   simp only[Option.isSome_some,true_iff]
   exact⟨0,by simp,by omega,h.symm⟩
  ·rw[if_neg h,kI r i s]
   constructor
   ·rintro⟨j,h1,h2,h3⟩
    exact⟨j+1,by simp only[List.length_cons];omega,by omega,h3⟩
   ·rintro⟨j,h1,h2,h3⟩
    cases j with
    |zero=>exact absurd h3.symm h
    |succ j=>exact⟨j,by simp only[List.length_cons] at h1;omega,by omega,h3⟩
theorem uY {l:List Cn} {i:Nat} (hi:i<l.length) (h:(ck (l.take i) l[i].name).isSome=false):b8 l l[i].name=l[i]:=by
 have h2:∀ j (hj:j<l.length),j<i→¬ l[j].name=l[i].name:=fun j hj hji e=>by
  have:=(kI l i l[i].name).2 ⟨j,hj,hji,e⟩
  rw[h] at this;cases this
 rw[b8,uX h2,List.drop_eq_getElem_cons hi,ck,if_pos rfl];rfl
theorem tZ (l:List Cn):gF [] l=true↔∀ i (h:i<l.length),lp (l.take i) l[i]=true:=by
 rw[tY,List.all_eq_true]
 constructor
 ·intro h i hi
  have:=h i (List.mem_range.2 hi)
  rwa[List.nil_append,List.getD_eq_getElem?_getD,List.getElem?_eq_getElem hi] at this
 ·intro h i hi
  have hi:=List.mem_range.1 hi
  rw[List.nil_append,List.getD_eq_getElem?_getD,List.getElem?_eq_getElem hi]
  exact h i hi
theorem DP (z:Bool) (c:Cn) (l:List Cn) (h:(ck l c.name).isSome=z):lp l c=!(z||Gb c.name []||decide (c.arity<0)||decide (100<c.arity)||decide (c.family<1)||decide (1000<c.family)||decide (c.tag<0)||decide (c.family≤c.tag)):=by unfold lp;rw[h]
theorem DX (G:Gl) (hG:aw G) (l:List Cn) (H:List az) (hl:l.length<1099511627776):
 ag Tryz.prog G 63 [.list 4 (aQ l)] H (fun r H'=>H'=H∧r= .bool (gF [] l)):=by
 have bF:=fun n=>bN n l
 refine ag.aK TB [] aF _ Tryz.func63 rfl (by decide) Tryz.ntmps63 (by simp) rfl (by simp only[au,Nat.reduceAdd];rfl) fun C R' hR hC hcl hB=>?_;have X:=aO;have hC':=congrArg List.length hC
 (refine run ?_;with_reducible repeat' first|exact trivial|(apply af.mk<;>intro hb)|apply ax.mk)
 refine aC (fun i:Nat=>[(0,.list 4 (aQ l)),(3,.int .i64 i)]) (fun i=>H++[]) (fun i=>l.length - i) (fun i=>i≤l.length∧∀ j (h:j<l.length),j<i→lp (l.take j) l[j]=true) 0 ⟨Nat.zero_le _,fun j _ h=>by omega⟩ ?_ ?_
 ·simp only[List.append_nil]
  exact Wk.sub (by simp[bR,look])
 rintro K i ⟨hi,hall⟩ hK
 rcases Nat.lt_or_ge i l.length with hlt|hge
 ·have hg:(aQ l)[i]? =some (.agg [.str l[i].name,.int .i64 l[i].arity,.int .i64 l[i].tag,.int .i64 l[i].family]):=gA l hlt
  have hself:=uY hlt
  have hft:=kI l i l[i].name
  have hno:lp (l.take i) l[i]=false→gF [] l=false:=fun h=>Bool.eq_false_iff.2 fun h2=>by rw[(tZ l).1 h2 i hlt] at h;cases h
  have hyes:lp (l.take i) l[i]=true→∀ j (h:j<l.length),j<i+1→lp (l.take j) l[j]=true:=fun h j hj hji=>by
   rcases Nat.lt_or_ge j i with h3|h3
   ·exact hall j hj h3
   ·have:j=i:=by omega
    subst this;exact h
  have hfind:=fun H=>oH G hG l l[i].name H hl
  have hod:=fun z (hz:(ck (l.take i) l[i].name).isSome=z)=>DP z l[i] (l.take i) hz
  have hnm:∀ j (h:j<l.length),(aQ l)[j]? =some (.agg [.str l[j].name,.int .i64 l[j].arity,.int .i64 l[j].tag,.int .i64 l[j].family]):=fun j h=>gA l h
  generalize hci:l[i]=c at*
  obtain⟨c1,c2,c3,c4⟩:=c
  simp only at hself hft hfind hod hg
  generalize b8 l c1=x at*
  obtain⟨x1,x2,x3,x4⟩:=x
  have hxc:(Cn.mk x1 x2 x3 x4).cells=[.str x1,.int .i64 x2,.int .i64 x3,.int .i64 x4]:=rfl
  rw[hxc] at hfind
  have X:=And.intro aO hg
  (refine run ?_;with_reducible repeat' first|exact trivial|(apply af.mk<;>intro hb)|apply ax.mk)
  refine bh (hfind _) ?_
  rintro r H' ⟨rfl,rfl⟩
  (refine run ?_;with_reducible repeat' first|exact trivial|(apply af.mk<;>intro hb)|apply ax.mk)
  refine aC (fun k:Nat×Bool=>[(0,.list 4 (aQ l)),(3,.int .i64 i),(4,.ptr H.length 0 0 0),(5,.ptr (H.length+1) 0 0 0),(7,.bool k.2),(8,.int .i64 k.1)])
   (fun k=>H++[.cells 0 4 [.agg [.str c1,.int .i64 c2,.int .i64 c3,.int .i64 c4]],.cells 0 4 [.agg [.str x1,.int .i64 x2,.int .i64 x3,.int .i64 x4]]]) (fun k=>i - k.1) (fun k=>k.1≤i∧(k.2=true↔∃ j,∃ h:j<l.length,j<k.1∧l[j].name=c1)) (0,false) ⟨Nat.zero_le _,by simp⟩ ?_ ?_
  ·exact bB (n0:=H.length) [(H.length,0),(H.length+1,0)] hG hB hC' hcl
  rintro K2 ⟨k,b⟩ ⟨hk,hbk⟩ hK2
  simp only at hk hbk
  dsimp only
  rcases Nat.lt_or_ge k i with hlk|hgk
  ·have hgk:=hnm k (by omega)
   have hstep:∀ b2:Bool,(b2=true↔(b=true∨(l[k]'(by omega)).name=c1))→(b2=true↔∃ j,∃ h:j<l.length,j<k+1∧l[j].name=c1):=fun b2 h2=>by
    rw[h2,hbk]
    constructor
    ·rintro (⟨j,h,h3,h4⟩|h)
     ·exact⟨j,h,by omega,h4⟩
     ·exact⟨k,by omega,by omega,h⟩
    ·rintro⟨j,h,h3,h4⟩
     rcases Nat.lt_or_ge j k with h5|h5
     ·exact .inl ⟨j,h,h5,h4⟩
     ·obtain rfl:j=k:=by omega
      exact .inr h4
   generalize l[k]'(by omega)=d at*
   obtain⟨d1,d2,d3,d4⟩:=d
   simp only at hstep hgk
   cases b
   ·by_cases hd:d1=c1
    ·have X:=And.intro aO (And.intro hgk hd)
     (refine run ?_;with_reducible repeat' first|exact trivial|(apply af.mk<;>intro hb)|apply ax.mk)
     refine hK2 _ _ (k+1,true) (by simp only;omega) ⟨by simp only;omega,hstep true (by simp[hd])⟩ ?_
     dsimp only
     exact bB (n0:=H.length) [(H.length,0),(H.length+1,0)] hG hB hC' hcl
    ·have X:=And.intro aO (And.intro hgk hd)
     (refine run ?_;with_reducible repeat' first|exact trivial|(apply af.mk<;>intro hb)|apply ax.mk)
     refine hK2 _ _ (k+1,false) (by simp only;omega) ⟨by simp only;omega,hstep false (by simp[hd])⟩ ?_
     dsimp only
     exact bB (n0:=H.length) [(H.length,0),(H.length+1,0)] hG hB hC' hcl
   ·have X:=And.intro aO hgk
    (refine run ?_;with_reducible repeat' first|exact trivial|(apply af.mk<;>intro hb)|apply ax.mk)
    refine hK2 _ _ (k+1,true) (by simp only;omega) ⟨by simp only;omega,hstep true (by simp)⟩ ?_
    dsimp only
    exact bB (n0:=H.length) [(H.length,0),(H.length+1,0)] hG hB hC' hcl
  ·obtain rfl:k=i:=by omega
   clear hK2
   have hnk:¬ (k:Int)<(k:Int):=Int.lt_irrefl _
   have hfb:(ck (l.take k) c1).isSome=b:=by
    rw[Bool.eq_iff_iff,hft,hbk]
   rw[hfb] at hself
   have hod:=hod b hfb
   cases b
   ·obtain⟨rfl,rfl,rfl,rfl⟩:x1=c1∧x2=c2∧x3=c3∧x4=c4:=by
     have e:=hself rfl
     injection e with e1 e2 e3 e4
     exact⟨e1,e2,e3,e4⟩
    have X:=And.intro aO hnk
    (refine run ?_;with_reducible repeat' first|exact trivial|(apply af.mk<;>intro hb)|apply ax.mk)
    ·have hz:lp (l.take k) ⟨x1,x2,x3,x4⟩=false:=by
      rw[hod]
      exact congrArg not hb
     rw[hno hz] at hR
     exact aS (n0:=H.length) hR hC' hcl (.same _ rfl) ⟨rfl,rfl⟩
    ·have hz:lp (l.take k) ⟨x1,x2,x3,x4⟩=true:=by
      rw[hod]
      exact congrArg not hb
     refine hK _ _ (k+1) (by omega) ⟨by omega,hyes hz⟩ ?_
     exact bB (n0:=H.length) [] hG hB hC' hcl
   ·have hz:lp (l.take k) ⟨c1,c2,c3,c4⟩=false:=by rw[hod];simp
    rw[hno hz] at hR
    have X:=And.intro aO hnk
    (refine run ?_;with_reducible repeat' first|exact trivial|(apply af.mk<;>intro hb)|apply ax.mk)
    exact aS (n0:=H.length) hR hC' hcl (.same _ rfl) ⟨rfl,rfl⟩
 have hni:¬ (i:Int)<(l.length:Int):=by omega
 clear hK
 have e:gF [] l=true:=(tZ l).2 fun j hj=>hall j hj (by omega)
 rw[e] at hR
 have X:=And.intro aO hni
 (refine run ?_;with_reducible repeat' first|exact trivial|(apply af.mk<;>intro hb)|apply ax.mk)
 exact aS (n0:=H.length) hR hC' hcl (.same _ rfl) ⟨rfl,rfl⟩
theorem zn:∀ (l:List Bd) (t:List (aI×Int)) (s:aI),cK (l.foldl (fun t b=>ny t b.name 1) t) s=if s∈l.map Bd.name then 1 else cK t s
 |[],t,s=>by simp
 |b::r,t,s=>by
  rw[List.foldl_cons,zn r,nL,List.map_cons]
  by_cases h1:s∈r.map Bd.name
  ·rw[if_pos h1,if_pos (List.mem_cons_of_mem _ h1)]
  ·by_cases h2:s=b.name
   ·rw[if_neg h1,if_pos h2,if_pos (by rw[h2];exact List.mem_cons_self ..)]
   ·rw[if_neg h1,if_neg h2,if_neg (fun h=>(List.mem_cons.1 h).elim h2 h1)]
theorem tA (l:List aI):∀ m,(∀ i,i+1<m→l.getD (i+1) []≠l.getD i [])→(dE l m).length=m
 |0,_=>rfl
 |m+1,h=>by
  rw[dE,if_neg,List.length_append,List.length_singleton,tA l m (fun i hi=>h i (by omega))]
  rintro⟨h1,h2⟩
  have:=h (m - 1) (by omega)
  rw[show m - 1+1=m by omega] at this
  exact this h2
theorem le_nil {x:aI} (h:x≤[]):x=[]:=by
 cases x with
 |nil=>rfl
 |cons a r=>exact absurd (List.nil_lt_cons a r) h
theorem uK (l:List Bd):dm l=false↔(bj l).Nodup∧[]∉bj l:=by
 have hperm:=gm (bj l)
 have hlen:=eP (bj l)
 unfold dm
 rw[Bool.or_eq_false_iff,Bool.and_eq_false_iff,decide_eq_false_iff_not,decide_eq_false_iff_not,Decidable.not_not]
 unfold Gb
 rw[decide_eq_false_iff_not]
 constructor
 ·rintro⟨h1,h2⟩
  refine⟨oR _ h2,fun hm=>?_⟩
  have hm2:=hperm.mem_iff.2 hm
  obtain⟨j,hj,hje⟩:=List.mem_iff_getElem.1 hm2
  rcases h1 with h1|h1
  ·omega
  ·apply h1
   rw[List.getD_eq_getElem?_getD,List.getElem?_eq_getElem (by omega)]
   simp only[Option.getD_some]
   rcases Nat.eq_zero_or_pos j with h0|h0
   ·subst h0;exact hje
   ·have:=sM (bj l) hj h0
    rw[hje] at this
    exact le_nil this
 ·rintro⟨h1,h2⟩
  have hnd:=hperm.nodup_iff.2 h1
  refine⟨?_,?_⟩
  ·rcases Nat.eq_zero_or_pos (bj l).length with h0|h0
   ·exact .inl (by omega)
   ·refine .inr fun e=>h2 (hperm.mem_iff.1 ?_)
    rw[List.getD_eq_getElem?_getD,List.getElem?_eq_getElem (by omega)] at e
    simp only[Option.getD_some] at e
    rw[← e]
    exact List.getElem_mem _
  ·rw[o8,tA,hlen]
   intro i hi e
   rw[List.getD_eq_getElem?_getD,List.getD_eq_getElem?_getD,List.getElem?_eq_getElem hi,List.getElem?_eq_getElem (show i<(eC (bj l)).length by omega)] at e
   simp only[Option.getD_some] at e
   have:=(List.getElem_inj hnd).1 e
   omega
theorem Ea:∀ (m:Nat) (e:Ex),dF m eY e=true→BR m e
 |0,_,_=>trivial
 |m+1,e,h=>by
  have h:(eY e&&e.parts.all (dF m eY))=true:=h
  rw[Bool.and_eq_true,List.all_eq_true] at h
  obtain⟨kd,nm,nn,op,names,ad,binds,alts⟩:=e
  obtain⟨hp,-⟩:=(mc _ _ _ _ _ _ _ _).1 h.1
  unfold dM at hp
  refine⟨fun hk=>List.length_eq_zero_iff.1 ?_,fun hk=>List.length_eq_zero_iff.1 ?_,fun p hpm=>Ea m p (h.2 p hpm)⟩
  ·have hk:¬ kd=6:=hk
   show alts.length=0
   omega
  ·have hk:¬ kd=5:=hk
   show binds.length=0
   omega
theorem Cl (l:List Bd) (b:Bd) (h:dP eY b.e=true):mN (fP l) b=true↔∀ s∈cz b.e,s∈l.map Bd.name:=by
 have hshp:=Ea b.e.wt b.e h
 have hc:∀ s,cK (fP l) s=if s∈l.map Bd.name then 1 else 0:=fun s=>by
  unfold fP
  rw[zn]
  rfl
 have hu:=fun s=>sT s b.e.wt b.e (fP l,[]) (Nat.le_refl _) hshp (fun t=>by rw[hc];split<;>omega)
 have hf:=fun s=>A0 s b.e hshp
 unfold mN
 rw[decide_eq_true_eq,List.length_eq_zero_iff]
 constructor
 ·intro h0 s hs
  refine Classical.byContradiction fun hn=>?_
  have:=(hu s).2 (.inr ⟨by rw[hc,if_neg hn],(hf s).1 hs⟩)
  rw[h0] at this
  cases this
 ·intro h0
  refine List.eq_nil_iff_forall_not_mem.2 fun s hs=>?_
  rcases (hu s).1 hs with h1|⟨h1,h2⟩
  ·cases h1
  ·have:=h0 s ((hf s).2 h2)
   rw[hc,if_pos this] at h1
   omega
theorem Dw (l:List Bd):cK (fP l) lV=0↔lV∉l.map Bd.name:=by
 unfold fP
 rw[zn]
 by_cases h:lV∈l.map Bd.name
 ·rw[if_pos h];simp[h]
 ·rw[if_neg h];simp[h,cK]
theorem Dq (p:Pg):cV p=if qS p.binds≠0 then qS p.binds else
 if !(p.binds.all fun b=>dP eY b.e) then 120 else if !gF [] p.cons then 121 else if dm p.binds then 122 else if !(p.binds.all (mN (fP p.binds))) then 123
 else if !(lT p.cons&&p.binds.all fun b=>dP (ll p.cons) b.e) then 124 else if !(p.binds.all fun b=>dP (lx p.cons) b.e) then 125 else if cK (fP p.binds) lV=0 then 126 else 0:=by
 unfold cV qS
 by_cases h1:100000<eg p.binds
 ·simp[h1]
 ·by_cases h2:1000<im p.binds
  ·simp[h1,h2]
  ·simp[h1,h2]
theorem By (G:Gl) (hG:aw G) (l:List Cn) (H:List az) (hl:l.length<1099511627776):
 ag Tryz.prog G 67 [.list 4 (aQ l)] H (fun r H'=>H'=H∧r= .bool (lT l)):=by
 have bF:=fun n=>bN n l
 have hkc:SV.list 4 (aQ mO)= .list 4 [.agg [.str [80,114,105,109,46,70,97,108,115,101],.int .i64 0,.int .i64 0,.int .i64 2],.agg [.str [80,114,105,109,46,84,114,117,101],.int .i64 0,.int .i64 1,.int .i64 2],.agg [.str [80,114,105,109,46,40,41],.int .i64 0,.int .i64 0,.int .i64 1],.agg [.str [80,114,105,109,46,66,111,120],.int .i64 1,.int .i64 0,.int .i64 1]]:=rfl
 have hk4:(aQ mO).length=4:=rfl
 have hkn:lT l=mO.all fun c=>decide (b8 l c.name=c):=rfl
 rw[hkn]
 refine ag.aK TB [] aF _ Tryz.func67 rfl (by decide) Tryz.ntmps67 (by simp) rfl (by simp only[au,Nat.reduceAdd];rfl) fun C R' hR hC hcl hB=>?_;have X:=aO;have hC':=congrArg List.length hC
 (refine run ?_;with_reducible repeat' first|exact trivial|(apply af.mk<;>intro hb)|apply ax.mk)
 rw[← hkc]
 generalize hkk:mO=kk at*
 have hkl:kk.length=4:=by rw[← hkk];rfl
 refine aC (fun i:Nat=>[(0,.list 4 (aQ l)),(3,.list 4 (aQ kk)),(4,.int .i64 i)]) (fun i=>H++[]) (fun i=>kk.length - i) (fun i=>i≤kk.length∧(kk.take i).all (fun c=>decide (b8 l c.name=c))=true) 0 ⟨Nat.zero_le _,rfl⟩ ?_ ?_
 ·simp only[List.append_nil]
  exact Wk.sub (by simp[bR,look])
 rintro K i ⟨hi,hall⟩ hK
 rcases Nat.lt_or_ge i kk.length with hlt|hge
 ·have hg:(aQ kk)[i]? =some (.agg [.str kk[i].name,.int .i64 kk[i].arity,.int .i64 kk[i].tag,.int .i64 kk[i].family]):=gA kk hlt
  have hmem:=List.getElem_mem hlt
  have hfind:=fun H=>oH G hG l kk[i].name H hl
  have hst:¬ b8 l kk[i].name=kk[i]→(kk.all fun c=>decide (b8 l c.name=c))=false:=fun h=>Bool.eq_false_iff.2 fun h2=>h (of_decide_eq_true (List.all_eq_true.1 h2 _ hmem))
  have hgo:b8 l kk[i].name=kk[i]→((kk.take (i+1)).all fun c=>decide (b8 l c.name=c))=true:=fun h=>by
   rw[List.take_succ_eq_append_getElem hlt,List.all_append,hall];simp[h]
  generalize kk[i]=c at*
  obtain⟨c1,c2,c3,c4⟩:=c
  simp only at hfind hst hgo hg
  generalize b8 l c1=x at*
  obtain⟨x1,x2,x3,x4⟩:=x
  have hxc:(Cn.mk x1 x2 x3 x4).cells=[.str x1,.int .i64 x2,.int .i64 x3,.int .i64 x4]:=rfl
  rw[hxc] at hfind
  have X:=And.intro aO hg
  (refine run ?_;with_reducible repeat' first|exact trivial|(apply af.mk<;>intro hb)|apply ax.mk)
  refine bh (hfind _) ?_
  rintro r H' ⟨rfl,rfl⟩
  by_cases hx:x1=c1∧x2=c2∧x3=c3∧x4=c4
  ·obtain⟨rfl,rfl,rfl,rfl⟩:=hx
   have X:=And.intro aO hg
   (refine run ?_;with_reducible repeat' first|exact trivial|(apply af.mk<;>intro hb)|apply ax.mk)
   refine hK _ _ (i+1) (by omega) ⟨by omega,hgo rfl⟩ ?_
   exact bB (n0:=H.length) [] hG hB hC' hcl
  ·rw[hst (fun e=>hx (by injection e with e1 e2 e3 e4;exact⟨e1,e2,e3,e4⟩))] at hR
   have X:=And.intro aO hg
   (refine run ?_;with_reducible repeat' first|exact trivial|(apply af.mk<;>intro hb)|apply ax.mk)
   ·exact aS (n0:=H.length) hR hC' hcl (.same _ rfl) ⟨rfl,rfl⟩
   ·exfalso
    simp only[Bool.not_eq_false',Bool.and_eq_true,decide_eq_true_eq] at hb
    exact hx hb
 clear hK
 have hni:¬ (i:Int)<4:=by omega
 rw[List.take_of_length_le hge] at hall
 rw[hall] at hR
 have X:=And.intro aO hni
 (refine run ?_;with_reducible repeat' first|exact trivial|(apply af.mk<;>intro hb)|apply ax.mk)
 exact aS (n0:=H.length) hR hC' hcl (.same _ rfl) ⟨rfl,rfl⟩
def KN (G:Gl) (cs:List Cn) (m:Nat):Prop:=∀ (e:Ex) (H:List az),e.wt≤m→e.wt<4294967296→ag Tryz.prog G 68 [.list 4 (aQ cs),e.sv] H (fun r H'=>H'=H∧r= .bool (dF m (pC cs) e))
theorem uc (G:Gl) (hG:aw G) (cs:List Cn) (hcn:cs.length<1099511627776):∀ m,KN G cs m
 |0,e,_,h,_=>absurd e.bz (by omega)
 |m+1,e,H,hm,hw0=>by
  have hrec:=uc G hG cs hcn m
  obtain⟨kd,nm,nn,op,names,ad,binds,alts⟩:=e
  have hlen:=Ex.cY kd nm nn op names ad binds alts
  have hpw:∀ p∈(Ex.mk kd nm nn op names ad binds alts).parts,p.wt≤m∧p.wt<4294967296:=fun p hp=>by have:=Ex.cU hp;omega
  have hpl:(Ex.mk kd nm nn op names ad binds alts).parts.length≤(Ex.mk kd nm nn op names ad binds alts).wt:=by rw[Ex.dn];simp;omega
  have c1:=fun H=>zF G hG op H
  rw[show o5 op=mM op from rfl] at c1
  have hpts:=fun H=>oE G hG (Ex.mk kd nm nn op names ad binds alts) H hw0
  have hfind:=fun s H=>oH G hG cs s H hcn
  have bF:=fun n=>bN n cs
  have hall:dF (m+1) (pC cs) (.mk kd nm nn op names ad binds alts)=(pC cs (.mk kd nm nn op names ad binds alts)&&(Ex.mk kd nm nn op names ad binds alts).parts.all (dF m (pC cs))):=rfl
  rw[hall]
  clear hall
  have hnd:pC cs (.mk kd nm nn op names ad binds alts)=(!((decide (kd=3)&&decide (names.length=0))||(decide (kd=4)&&decide (ad.length<2))||(decide (kd=5)&&decide (binds.length=0))||(decide (kd=8)&&!decide ((ad.length:Int)=mM op))||(decide (kd=7)&&(!(ck cs nm).isSome||!decide ((ad.length:Int)=(b8 cs nm).arity))))
   &&!(alts.any fun a=>decide (a.kind=1)&&!ld cs a.name a.names.length)):=rfl
  rw[hnd]
  clear hnd
  generalize hp:(Ex.mk kd nm nn op names ad binds alts).parts=pp at*
  generalize mM op=ar at*
  generalize hW:(Ex.mk kd nm nn op names ad binds alts).wt=W at*
  have hf1:=hfind nm
  generalize (ck cs nm).isSome=is at*
  generalize b8 cs nm=x at*
  obtain⟨x1,x2,x3,x4⟩:=x
  have hxc:(Cn.mk x1 x2 x3 x4).cells=[.str x1,.int .i64 x2,.int .i64 x3,.int .i64 x4]:=rfl
  rw[hxc] at hf1
  generalize hnb:(!((decide (kd=3)&&decide (names.length=0))||(decide (kd=4)&&decide (ad.length<2))||(decide (kd=5)&&decide (binds.length=0))||(decide (kd=8)&&!decide ((ad.length:Int)=ar))||(decide (kd=7)&&(!is||!decide ((ad.length:Int)=x2)))))=nb
  refine ag.aK TB [] aF _ Tryz.func68 rfl (by decide) Tryz.ntmps68 (by simp) rfl (by simp only[au,Nat.reduceAdd];rfl) fun C R' hR hC hcl hB=>?_;have X:=aO;have hC':=congrArg List.length hC
  (refine run ?_;with_reducible repeat' first|exact trivial|(apply af.mk<;>intro hb)|apply ax.mk)
  refine bh (hf1 _) ?_
  rintro r H' ⟨rfl,rfl⟩
  (refine MF ?_;with_reducible repeat' first|exact trivial|(apply af.mk<;>intro hb)|apply ax.mk)
  refine eT (fun _:Unit=>[(0,.list 4 (aQ cs)),(3,.ptr H.length 0 0 0),(81,.bool (!nb))]) (fun _=>H++[.cells 0 8 [.agg [.int .i64 kd,.str nm,.int .i64 nn,.int .i64 op,.list 1 (names.map .str),.list 8 (aj ad),.list 9 (ao binds),.list 12 (aA alts)]]]) (fun _=>True) (fun K hK=>?_) (fun _ _=>?_)
  ·clear hR
   by_cases h8:kd=8
   ·subst h8
    by_cases hs:(ad.length:Int)=ar
    ·rw[show nb=true by rw[← hnb];simp[hs]] at hK
     have X:=And.intro aO hs
     (refine run ?_;with_reducible repeat' first|exact trivial|(apply af.mk<;>intro hb)|apply ax.mk)
     refine hK _ _ () trivial ?_
     exact bB (n0:=H.length) [(H.length,0)] hG hB hC' hcl
    ·rw[show nb=false by rw[← hnb];simp[hs]] at hK
     have X:=And.intro aO hs
     (refine run ?_;with_reducible repeat' first|exact trivial|(apply af.mk<;>intro hb)|apply ax.mk)
     refine hK _ _ () trivial ?_
     exact bB (n0:=H.length) [(H.length,0)] hG hB hC' hcl
   by_cases h7:kd=7
   ·subst h7
    cases is
    ·rw[show nb=false by rw[← hnb];simp] at hK
     have X:=aO
     (refine run ?_;with_reducible repeat' first|exact trivial|(apply af.mk<;>intro hb)|apply ax.mk)
     refine hK _ _ () trivial ?_
     exact bB (n0:=H.length) [(H.length,0)] hG hB hC' hcl
    ·by_cases hs:(ad.length:Int)=x2
     ·rw[show nb=true by rw[← hnb];simp[hs]] at hK
      have X:=And.intro aO hs
      (refine run ?_;with_reducible repeat' first|exact trivial|(apply af.mk<;>intro hb)|apply ax.mk)
      refine hK _ _ () trivial ?_
      exact bB (n0:=H.length) [(H.length,0)] hG hB hC' hcl
     ·rw[show nb=false by rw[← hnb];simp[hs]] at hK
      have X:=And.intro aO hs
      (refine run ?_;with_reducible repeat' first|exact trivial|(apply af.mk<;>intro hb)|apply ax.mk)
      refine hK _ _ () trivial ?_
      exact bB (n0:=H.length) [(H.length,0)] hG hB hC' hcl
   ·rw[decide_eq_false h8,decide_eq_false h7,Bool.false_and,Bool.false_and,Bool.or_false,Bool.or_false] at hnb
    have hnb2:(decide (kd=3)&&decide ((names.length:Int)=0)||decide (kd=4)&&decide ((ad.length:Int)<2)||decide (kd=5)&&decide ((binds.length:Int)=0))=!nb:=by
     rw[← hnb,Bool.not_not]
     congr 1
     ·congr 1
      ·congr 1;exact decide_eq_decide.2 (by omega)
      ·congr 1;exact decide_eq_decide.2 (by omega)
     ·congr 1;exact decide_eq_decide.2 (by omega)
    clear hnb
    cases nb
    ·have hnb2:_=true:=hnb2
     have X:=And.intro aO (And.intro h8 (And.intro h7 hnb2))
     (refine run ?_;with_reducible repeat' first|exact trivial|(apply af.mk<;>intro hb)|apply ax.mk)
     refine hK _ _ () trivial ?_
     exact bB (n0:=H.length) [(H.length,0)] hG hB hC' hcl
    ·have hnb2:_=false:=hnb2
     have X:=And.intro aO (And.intro h8 (And.intro h7 hnb2))
     (refine run ?_;with_reducible repeat' first|exact trivial|(apply af.mk<;>intro hb)|apply ax.mk)
     refine hK _ _ () trivial ?_
     exact bB (n0:=H.length) [(H.length,0)] hG hB hC' hcl
  clear hnb
  have hPA:=fun a:Al=>(show(decide (a.kind=1)&&!ld cs a.name a.names.length)=(decide (a.kind=1)&&!((ck cs a.name).isSome&&decide ((b8 cs a.name).arity=(a.names.length:Int)))) from rfl)
  generalize hAL:(fun a:Al=>decide (a.kind=1)&&!ld cs a.name a.names.length)=AL at*
  have hPA:∀ a,AL a=(decide (a.kind=1)&&!((ck cs a.name).isSome&&decide ((b8 cs a.name).arity=(a.names.length:Int)))):=fun a=>by rw[← hAL];exact hPA a
  clear hAL
  cases nb
  ·rw[Bool.false_and,Bool.false_and] at hR
   (refine run ?_;with_reducible repeat' first|exact trivial|(apply af.mk<;>intro hb)|apply ax.mk)
   exact aS (n0:=H.length) hR hC' hcl (.same _ rfl) ⟨rfl,rfl⟩
  rw[Bool.true_and] at hR
  (refine run ?_;with_reducible repeat' first|exact trivial|(apply af.mk<;>intro hb)|apply ax.mk)
  refine aC (fun i:Nat=>[(0,.list 4 (aQ cs)),(3,.ptr H.length 0 0 0),(7,.int .i64 i)]) (fun i=>H++[.cells 0 8 [.agg [.int .i64 kd,.str nm,.int .i64 nn,.int .i64 op,.list 1 (names.map .str),.list 8 (aj ad),.list 9 (ao binds),.list 12 (aA alts)]]]) (fun i=>alts.length - i) (fun i=>i≤alts.length∧(alts.take i).any AL=false) 0 ⟨Nat.zero_le _,rfl⟩ ?_ ?_
  ·exact bB (n0:=H.length) [(H.length,0)] hG hB hC' hcl
  rintro K i ⟨hi,hany⟩ hK
  rcases Nat.lt_or_ge i alts.length with hlt|hge
  ·have hg:(aA alts)[i]? =some (.agg (.int .i64 alts[i].kind:: .str alts[i].name:: .int .i64 alts[i].n:: .list 1 (alts[i].names.map .str)::alts[i].body.cells)):=by rw[dC,List.getElem?_map,List.getElem?_eq_getElem hlt,Option.map_some,Al.sv,Al.df]
   have hgo:AL alts[i]=false→(alts.take (i+1)).any AL=false:=fun h=>by rw[List.take_succ_eq_append_getElem hlt,List.any_append,hany];simp[h]
   have hst:AL alts[i]=true→alts.any AL=true:=fun h=>List.any_eq_true.2 ⟨_,List.getElem_mem hlt,h⟩
   have hpa:=hPA alts[i]
   generalize AL alts[i]=z at*
   have hx8:=alts[i].body.aH
   have hnl:=Al.j8 (kd:=kd) (nm:=nm) (nn:=nn) (op:=op) (names:=names) (ad:=ad) (binds:=binds) hlt
   generalize alts[i]=a at*
   obtain⟨ak,an,ann,ans,ab⟩:=a
   have hpa:z=(decide (ak=1)&&!((ck cs an).isSome&&decide ((b8 cs an).arity=(ans.length:Int)))):=hpa
   simp only[Al.kind,Al.name,Al.n,Al.names,Al.body] at hg hx8 hnl
   have hf2:=hfind an
   generalize (ck cs an).isSome=is2 at*
   generalize b8 cs an=y at*
   obtain⟨y1,y2,y3,y4⟩:=y
   have hyc:(Cn.mk y1 y2 y3 y4).cells=[.str y1,.int .i64 y2,.int .i64 y3,.int .i64 y4]:=rfl
   rw[hyc] at hf2
   have X:=And.intro aO (And.intro hg hx8)
   (refine run ?_;with_reducible repeat' first|exact trivial|(apply af.mk<;>intro hb)|apply ax.mk)
   refine bh (hf2 _) ?_
   rintro r H' ⟨rfl,rfl⟩
   by_cases h1:ak=1
   rotate_left
   ·have hz:z=false:=by rw[hpa,decide_eq_false h1,Bool.false_and]
    have X:=And.intro aO (And.intro hg (And.intro hx8 h1))
    (refine run ?_;with_reducible repeat' first|exact trivial|(apply af.mk<;>intro hb)|apply ax.mk)
    refine hK _ _ (i+1) (by omega) ⟨by omega,hgo hz⟩ ?_
    exact bB (n0:=H.length) [(H.length,0)] hG hB hC' hcl
   rw[decide_eq_true h1,Bool.true_and] at hpa
   cases is2
   ·have hz:z=true:=hpa
    rw[hst hz] at hR
    have X:=And.intro aO (And.intro hg (And.intro hx8 h1))
    (refine run ?_;with_reducible repeat' first|exact trivial|(apply af.mk<;>intro hb)|apply ax.mk)
    exact aS (n0:=H.length) hR hC' hcl (.same _ rfl) ⟨rfl,rfl⟩
   rw[Bool.true_and] at hpa
   by_cases ha:(ans.length:Int)=y2
   ·have hz:z=false:=by rw[hpa,decide_eq_true ha.symm];rfl
    have X:=And.intro aO (And.intro hg (And.intro hx8 (And.intro h1 ha)))
    (refine run ?_;with_reducible repeat' first|exact trivial|(apply af.mk<;>intro hb)|apply ax.mk)
    refine hK _ _ (i+1) (by omega) ⟨by omega,hgo hz⟩ ?_
    exact bB (n0:=H.length) [(H.length,0)] hG hB hC' hcl
   ·have hz:z=true:=by rw[hpa,decide_eq_false (fun e=>ha e.symm)];rfl
    rw[hst hz] at hR
    have X:=And.intro aO (And.intro hg (And.intro hx8 (And.intro h1 ha)))
    (refine run ?_;with_reducible repeat' first|exact trivial|(apply af.mk<;>intro hb)|apply ax.mk)
    exact aS (n0:=H.length) hR hC' hcl (.same _ rfl) ⟨rfl,rfl⟩
  rw[List.take_of_length_le hge] at hany
  rw[hany,Bool.not_false,Bool.true_and] at hR
  clear hK
  have hni:¬ (i:Int)<(alts.length:Int):=by omega
  have c1:=hpts
  have X:=And.intro aO hni
  (refine run ?_;with_reducible repeat' first|exact trivial|(apply af.mk<;>intro hb)|apply ax.mk)
  refine aC (fun i:Nat=>[(0,.list 4 (aQ cs)),(11,.list 8 (aj pp)),(12,.int .i64 i)]) (fun i=>H++[]) (fun i=>pp.length - i) (fun i=>i≤pp.length∧(pp.take i).all (dF m (pC cs))=true) 0 ⟨Nat.zero_le _,rfl⟩ ?_ ?_
  ·exact bB (n0:=H.length) [] hG hB hC' hcl
  rintro K i2 ⟨hi2,hall⟩ hK
  rcases Nat.lt_or_ge i2 pp.length with hlt|hge
  ·have hmem:=List.getElem_mem hlt
   have hg:(aj pp)[i2]? =some (.agg pp[i2].cells):=by rw[bQ];simp[hlt];rfl
   have hpw2:=hpw _ hmem
   have c1:=fun H=>hrec pp[i2] H hpw2.1 hpw2.2
   have hst:dF m (pC cs) pp[i2]=false→pp.all (dF m (pC cs))=false:=fun h=>Bool.eq_false_iff.2 fun h2=>by rw[List.all_eq_true.1 h2 _ hmem] at h;cases h
   have hgo:dF m (pC cs) pp[i2]=true→(pp.take (i2+1)).all (dF m (pC cs))=true:=fun h=>by rw[List.take_succ_eq_append_getElem hlt,List.all_append,hall];simp[h]
   generalize dF m (pC cs) pp[i2]=z at*
   generalize pp[i2]=x at*
   have X:=And.intro aO hg
   cases z
   ·rw[hst rfl] at hR
    clear hK
    (refine run ?_;with_reducible repeat' first|exact trivial|(apply af.mk<;>intro hb)|apply ax.mk)
    exact aS (n0:=H.length) hR hC' hcl (.same _ rfl) ⟨rfl,rfl⟩
   ·(refine run ?_;with_reducible repeat' first|exact trivial|(apply af.mk<;>intro hb)|apply ax.mk)
    refine hK _ _ (i2+1) (by omega) ⟨by omega,hgo rfl⟩ ?_
    exact bB (n0:=H.length) [] hG hB hC' hcl
  rw[List.take_of_length_le hge] at hall
  rw[hall] at hR
  clear hK
  have hni:¬ (i2:Int)<(pp.length:Int):=by omega
  have X:=And.intro aO hni
  (refine run ?_;with_reducible repeat' first|exact trivial|(apply af.mk<;>intro hb)|apply ax.mk)
  exact aS (n0:=H.length) hR hC' hcl (.same _ rfl) ⟨rfl,rfl⟩
def KM (G:Gl) (cs:List Cn) (m:Nat):Prop:=∀ (e:Ex) (H:List az),e.wt≤m→e.wt<4294967296→ag Tryz.prog G 69 [.list 4 (aQ cs),e.sv] H (fun r H'=>H'=H∧r= .bool (dF m (ke cs) e))
theorem xE (G:Gl) (hG:aw G) (cs:List Cn) (hcn:cs.length<1099511627776):∀ m,KM G cs m
 |0,e,_,h,_=>absurd e.bz (by omega)
 |m+1,e,H,hm,hw0=>by
  have hrec:=xE G hG cs hcn m
  obtain⟨kd,nm,nn,op,names,ad,binds,alts⟩:=e
  have hlen:=Ex.cY kd nm nn op names ad binds alts
  have hpw:∀ p∈(Ex.mk kd nm nn op names ad binds alts).parts,p.wt≤m∧p.wt<4294967296:=fun p hp=>by have:=Ex.cU hp;omega
  have hpl:(Ex.mk kd nm nn op names ad binds alts).parts.length≤(Ex.mk kd nm nn op names ad binds alts).wt:=by rw[Ex.dn];simp;omega
  have hpts:=fun H=>oE G hG (Ex.mk kd nm nn op names ad binds alts) H hw0
  have hfind:=fun s H=>oH G hG cs s H hcn
  have bF:=fun n=>bN n cs
  have hall:dF (m+1) (ke cs) (.mk kd nm nn op names ad binds alts)=(ke cs (.mk kd nm nn op names ad binds alts)&&(Ex.mk kd nm nn op names ad binds alts).parts.all (dF m (ke cs))):=rfl
  rw[hall]
  clear hall
  have hnd:ke cs (.mk kd nm nn op names ad binds alts)=(!(decide (kd=6)&&decide (alts.length=0))&&!((List.range alts.length).any (gL cs alts))):=rfl
  rw[hnd]
  clear hnd
  have hbadD:∀ i (h:i<alts.length),gL cs alts i=((decide (alts[i].kind=3)&&decide (i+1<alts.length))||(alts.take i).any fun b=>jJ cs alts[i] b):=fun i h=>by
   unfold gL
   rw[List.getD_eq_getElem?_getD,List.getElem?_eq_getElem h];rfl
  have hbadS:∀ i,i<alts.length→gL cs alts i=true→(List.range alts.length).any (gL cs alts)=true:=fun i h hb=>List.any_eq_true.2 ⟨i,List.mem_range.2 h,hb⟩
  generalize hp:(Ex.mk kd nm nn op names ad binds alts).parts=pp at*
  generalize hW:(Ex.mk kd nm nn op names ad binds alts).wt=W at*
  have hal8:=fun i (h:i<alts.length)=>Al.j8 (kd:=kd) (nm:=nm) (nn:=nn) (op:=op) (names:=names) (ad:=ad) (binds:=binds) h
  have hgA:∀ i (h:i<alts.length),(aA alts)[i]? =some (.agg (.int .i64 alts[i].kind:: .str alts[i].name:: .int .i64 alts[i].n:: .list 1 (alts[i].names.map .str)::alts[i].body.cells)):=fun i hlt=>by rw[dC,List.getElem?_map,List.getElem?_eq_getElem hlt,Option.map_some,Al.sv,Al.df]
  refine ag.aK TB [] aF _ Tryz.func69 rfl (by decide) Tryz.ntmps69 (by simp) rfl (by simp only[au,Nat.reduceAdd];rfl) fun C R' hR hC hcl hB=>?_;have X:=aO;have hC':=congrArg List.length hC
  by_cases h6:kd=6∧alts.length=0
  ·obtain⟨h6,h0⟩:=h6
   rw[decide_eq_true h6,decide_eq_true h0,Bool.true_and,Bool.not_true,Bool.false_and,Bool.false_and] at hR
   have h0:(alts.length:Int)=0:=by omega
   have X:=And.intro aO (And.intro h6 h0)
   (refine run ?_;with_reducible repeat' first|exact trivial|(apply af.mk<;>intro hb)|apply ax.mk)
   exact aS (n0:=H.length) hR hC' hcl (.same _ rfl) ⟨rfl,rfl⟩
  have hb6:(decide (kd=6)&&decide ((alts.length:Int)=0))=false:=by
   rw[Bool.and_eq_false_iff,decide_eq_false_iff_not,decide_eq_false_iff_not]
   by_cases h:kd=6
   ·exact .inr fun h2=>h6 ⟨h,by omega⟩
   ·exact .inl h
  rw[show(decide (kd=6)&&decide (alts.length=0))=false by
   rw[Bool.and_eq_false_iff,decide_eq_false_iff_not,decide_eq_false_iff_not]
   by_cases h:kd=6
   ·exact .inr fun h2=>h6 ⟨h,h2⟩
   ·exact .inl h,Bool.not_false,Bool.true_and] at hR
  clear h6
  have X:=And.intro aO hb6
  (refine run ?_;with_reducible repeat' first|exact trivial|(apply af.mk<;>intro hb)|apply ax.mk)
  refine aC (fun i:Nat=>[(0,.list 4 (aQ cs)),(3,.ptr H.length 0 0 0),(5,.int .i64 i)]) (fun i=>H++[.cells 0 8 [.agg [.int .i64 kd,.str nm,.int .i64 nn,.int .i64 op,.list 1 (names.map .str),.list 8 (aj ad),.list 9 (ao binds),.list 12 (aA alts)]]]) (fun i=>alts.length - i) (fun i=>i≤alts.length∧∀ j,j<i→gL cs alts j=false) 0 ⟨Nat.zero_le _,fun j h=>by omega⟩ ?_ ?_
  ·exact bB (n0:=H.length) [(H.length,0)] hG hB hC' hcl
  rintro K i ⟨hi,hany⟩ hK
  rcases Nat.lt_or_ge i alts.length with hlt|hge
  ·have hg:=hgA i hlt
   have hbd:=hbadD i hlt
   have hbs:=hbadS i hlt
   have hgo:gL cs alts i=false→∀ j,j<i+1→gL cs alts j=false:=fun h j hj=>by
    rcases Nat.lt_or_ge j i with h2|h2
    ·exact hany j h2
    ·obtain rfl:j=i:=by omega
     exact h
   generalize gL cs alts i=z at*
   have hx8:=alts[i].body.aH
   generalize hAi:alts[i]=a at*
   obtain⟨ak,an,ann,ans,ab⟩:=a
   simp only[Al.kind,Al.name,Al.n,Al.names,Al.body] at hg hx8
   have hbd:z=((decide (ak=3)&&decide (i+1<alts.length))||(alts.take i).any fun b=>jJ cs (.mk ak an ann ans ab) b):=hbd
   have hanu:=fun n=>Ex.aP n ab
   by_cases h3:ak=3∧i+1<alts.length
   ·obtain⟨h3,hl3⟩:=h3
    have hz:z=true:=by rw[hbd,decide_eq_true h3,decide_eq_true hl3];rfl
    rw[hbs hz,Bool.not_true,Bool.false_and] at hR
    have hl3:(i:Int)<(alts.length:Int) - 1:=by omega
    have X:=And.intro aO (And.intro hg (And.intro hx8 (And.intro h3 hl3)))
    (refine run ?_;with_reducible repeat' first|exact trivial|(apply af.mk<;>intro hb)|apply ax.mk)
    exact aS (n0:=H.length) hR hC' hcl (.same _ rfl) ⟨rfl,rfl⟩
   have hb3:(decide (ak=3)&&decide ((i:Int)<(alts.length:Int) - 1))=false:=by
    rw[Bool.and_eq_false_iff,decide_eq_false_iff_not,decide_eq_false_iff_not]
    by_cases h:ak=3
    ·exact .inr fun h2=>h3 ⟨h,by omega⟩
    ·exact .inl h
   rw[show(decide (ak=3)&&decide (i+1<alts.length))=false by
    rw[Bool.and_eq_false_iff,decide_eq_false_iff_not,decide_eq_false_iff_not]
    by_cases h:ak=3
    ·exact .inr fun h2=>h3 ⟨h,h2⟩
    ·exact .inl h,Bool.false_or] at hbd
   clear h3
   have X:=And.intro aO (And.intro hg (And.intro hx8 hb3))
   (refine run ?_;with_reducible repeat' first|exact trivial|(apply af.mk<;>intro hb)|apply ax.mk)
   refine aC (fun k:Nat=>[(0,.list 4 (aQ cs)),(3,.ptr H.length 0 0 0),(5,.int .i64 i),(6,.ptr (H.length+1) 0 0 0),(7,.int .i64 k)]) (fun k=>H++[.cells 0 8 [.agg [.int .i64 kd,.str nm,.int .i64 nn,.int .i64 op,.list 1 (names.map .str),.list 8 (aj ad),.list 9 (ao binds),.list 12 (aA alts)]],.cells 0 12 [.agg (.int .i64 ak:: .str an:: .int .i64 ann:: .list 1 (ans.map .str)::ab.cells)]]) (fun k=>i - k) (fun k=>k≤i∧∀ j (h:j<alts.length),j<k→jJ cs (.mk ak an ann ans ab) alts[j]=false) 0 ⟨Nat.zero_le _,fun j _ h=>by omega⟩ ?_ ?_
   ·exact bB (n0:=H.length) [(H.length,0),(H.length+1,0)] hG hB hC' hcl
   rintro K2 k ⟨hk,hpr⟩ hK2
   rcases Nat.lt_or_ge k i with hlk|hgk
   ·have hgk2:=hgA k (by omega)
    have hst:jJ cs (.mk ak an ann ans ab) (alts[k]'(by omega))=true→z=true:=fun h=>by
     rw[hbd]
     exact List.any_eq_true.2 ⟨_,List.mem_take_iff_getElem.2 ⟨k,by omega,rfl⟩,h⟩
    have hgo2:jJ cs (.mk ak an ann ans ab) (alts[k]'(by omega))=false→∀ j (h:j<alts.length),j<k+1→jJ cs (.mk ak an ann ans ab) alts[j]=false:=fun h j hj hjk=>by
     rcases Nat.lt_or_ge j k with h2|h2
     ·exact hpr j hj h2
     ·obtain rfl:j=k:=by omega
      exact h
    have hy8:=(alts[k]'(by omega)).body.aH
    generalize alts[k]'(by omega)=b at*
    obtain⟨bk,bn,bnn,bns,bb⟩:=b
    simp only[Al.kind,Al.name,Al.n,Al.names,Al.body] at hgk2 hy8
    have hpd:jJ cs (.mk ak an ann ans ab) (.mk bk bn bnn bns bb)=(((decide (¬ ak=3)&&decide (¬ ak=bk))||(decide (ak=2)&&decide (ann=bnn))||(decide (ak=1)&&decide (an=bn)))||(decide (ak=1)&&decide (¬ (b8 cs an).family=(b8 cs bn).family))):=rfl
    have hfa:=hfind an
    have hfb:=hfind bn
    generalize jJ cs (.mk ak an ann ans ab) (.mk bk bn bnn bns bb)=w at*
    generalize b8 cs an=x at*
    generalize b8 cs bn=y at*
    obtain⟨x1,x2,x3,x4⟩:=x
    obtain⟨y1,y2,y3,y4⟩:=y
    have hxc:(Cn.mk x1 x2 x3 x4).cells=[.str x1,.int .i64 x2,.int .i64 x3,.int .i64 x4]:=rfl
    have hyc:(Cn.mk y1 y2 y3 y4).cells=[.str y1,.int .i64 y2,.int .i64 y3,.int .i64 y4]:=rfl
    rw[hxc] at hfa
    rw[hyc] at hfb
    have hpd:w=(((decide (¬ ak=3)&&decide (¬ ak=bk))||(decide (ak=2)&&decide (ann=bnn))||(decide (ak=1)&&decide (an=bn)))||(decide (ak=1)&&decide (¬ x4=y4))):=hpd
    have X:=And.intro aO (And.intro hgk2 (And.intro hy8 hx8))
    (refine run ?_;with_reducible repeat' first|exact trivial|(apply af.mk<;>intro hb)|apply ax.mk)
    ·have hw:w=true:=by rw[hpd,hb];rfl
     rw[hbs (hst hw),Bool.not_true,Bool.false_and] at hR
     exact aS (n0:=H.length) hR hC' hcl (.same _ rfl) ⟨rfl,rfl⟩
    ·rename_i hq
     rw[hq,Bool.false_or,decide_eq_true hb,Bool.true_and] at hpd
     refine bh (hfa _) ?_
     rintro r H' ⟨rfl,rfl⟩
     have X:=And.intro aO (And.intro hgk2 (And.intro hy8 hx8))
     (refine run ?_;with_reducible repeat' first|exact trivial|(apply af.mk<;>intro hb)|apply ax.mk)
     refine bh (hfb _) ?_
     rintro r H' ⟨rfl,rfl⟩
     by_cases hf:x4=y4
     ·have hw:w=false:=by rw[hpd,decide_eq_false (fun h=>h hf)]
      have X:=And.intro aO (And.intro hgk2 (And.intro hy8 (And.intro hx8 hf)))
      (refine run ?_;with_reducible repeat' first|exact trivial|(apply af.mk<;>intro hb)|apply ax.mk)
      refine hK2 _ _ (k+1) (by omega) ⟨by omega,hgo2 hw⟩ ?_
      exact bB (n0:=H.length) [(H.length,0),(H.length+1,0)] hG hB hC' hcl
     ·have hw:w=true:=by rw[hpd,decide_eq_true hf]
      rw[hbs (hst hw),Bool.not_true,Bool.false_and] at hR
      have X:=And.intro aO (And.intro hgk2 (And.intro hy8 (And.intro hx8 hf)))
      (refine run ?_;with_reducible repeat' first|exact trivial|(apply af.mk<;>intro hb)|apply ax.mk)
      exact aS (n0:=H.length) hR hC' hcl (.same _ rfl) ⟨rfl,rfl⟩
    ·rename_i hq
     have hw:w=false:=by rw[hpd,hq,decide_eq_false hb];rfl
     refine hK2 _ _ (k+1) (by omega) ⟨by omega,hgo2 hw⟩ ?_
     exact bB (n0:=H.length) [(H.length,0),(H.length+1,0)] hG hB hC' hcl
   ·obtain rfl:k=i:=by omega
    have hz:z=false:=by
     rw[hbd,List.any_eq_false]
     intro b hb
     obtain⟨j,hj,rfl⟩:=List.mem_take_iff_getElem.1 hb
     rw[hpr j (by omega) (by omega)]
     exact Bool.false_ne_true
    clear hK2
    have X:=And.intro aO (Int.lt_irrefl (k:Int))
    (refine run ?_;with_reducible repeat' first|exact trivial|(apply af.mk<;>intro hb)|apply ax.mk)
    refine hK _ _ (k+1) (by omega) ⟨by omega,hgo hz⟩ ?_
    exact bB (n0:=H.length) [(H.length,0)] hG hB hC' hcl
  have hno:(List.range alts.length).any (gL cs alts)=false:=by
   rw[List.any_eq_false]
   intro j hj
   rw[hany j (by have:=List.mem_range.1 hj;omega)]
   exact Bool.false_ne_true
  rw[hno,Bool.not_false,Bool.true_and] at hR
  clear hK
  have hni:¬ (i:Int)<(alts.length:Int):=by omega
  have c1:=hpts
  have X:=And.intro aO hni
  (refine run ?_;with_reducible repeat' first|exact trivial|(apply af.mk<;>intro hb)|apply ax.mk)
  refine aC (fun i:Nat=>[(0,.list 4 (aQ cs)),(13,.list 8 (aj pp)),(14,.int .i64 i)]) (fun i=>H++[]) (fun i=>pp.length - i) (fun i=>i≤pp.length∧(pp.take i).all (dF m (ke cs))=true) 0 ⟨Nat.zero_le _,rfl⟩ ?_ ?_
  ·exact bB (n0:=H.length) [] hG hB hC' hcl
  rintro K i2 ⟨hi2,hall⟩ hK
  rcases Nat.lt_or_ge i2 pp.length with hlt|hge
  ·have hmem:=List.getElem_mem hlt
   have hg:(aj pp)[i2]? =some (.agg pp[i2].cells):=by rw[bQ];simp[hlt];rfl
   have hpw2:=hpw _ hmem
   have c1:=fun H=>hrec pp[i2] H hpw2.1 hpw2.2
   have hst:dF m (ke cs) pp[i2]=false→pp.all (dF m (ke cs))=false:=fun h=>Bool.eq_false_iff.2 fun h2=>by rw[List.all_eq_true.1 h2 _ hmem] at h;cases h
   have hgo:dF m (ke cs) pp[i2]=true→(pp.take (i2+1)).all (dF m (ke cs))=true:=fun h=>by rw[List.take_succ_eq_append_getElem hlt,List.all_append,hall];simp[h]
   generalize dF m (ke cs) pp[i2]=z at*
   generalize pp[i2]=x at*
   have X:=And.intro aO hg
   cases z
   ·rw[hst rfl] at hR
    clear hK
    (refine run ?_;with_reducible repeat' first|exact trivial|(apply af.mk<;>intro hb)|apply ax.mk)
    exact aS (n0:=H.length) hR hC' hcl (.same _ rfl) ⟨rfl,rfl⟩
   ·(refine run ?_;with_reducible repeat' first|exact trivial|(apply af.mk<;>intro hb)|apply ax.mk)
    refine hK _ _ (i2+1) (by omega) ⟨by omega,hgo rfl⟩ ?_
    exact bB (n0:=H.length) [] hG hB hC' hcl
  rw[List.take_of_length_le hge] at hall
  rw[hall] at hR
  clear hK
  have hni:¬ (i2:Int)<(pp.length:Int):=by omega
  have X:=And.intro aO hni
  (refine run ?_;with_reducible repeat' first|exact trivial|(apply af.mk<;>intro hb)|apply ax.mk)
  exact aS (n0:=H.length) hR hC' hcl (.same _ rfl) ⟨rfl,rfl⟩
theorem nG {α:Type} {p:α→Bool} {l:List α} {i:Nat} (h:i<l.length) (hp:p l[i]=false):l.all p=false:=by
 rw[Bool.eq_false_iff]
 intro ha
 rw[List.all_eq_true.1 ha _ (List.getElem_mem h)] at hp
 cases hp
theorem uG {α:Type} {p:α→Bool} {l:List α} {i:Nat} (h:i<l.length) (ha:(l.take i).all p=true) (hp:p l[i]=true):(l.take (i+1)).all p=true:=by
 rw[List.take_succ_eq_append_getElem h,List.all_append,ha]
 simp[hp]
theorem D8 {l:List aI} (h:∀ s,s∉l→True) (s:aI) (hs:s∉l):dw (gT l) (.str s) (.bool true)=gT (l++[s]):=by
 rw[kl,j9,if_neg hs]
theorem xK (G:Gl) (hG:aw G) (p:Pg) (H:List az) (hw:aW p.binds<4294967295) (hcn:p.cons.length<1099511627776):
 ag Tryz.prog G 22 [p.sv] H (fun r H'=>H'=H∧r= .int .i64 (cV p)):=by
 rw[Dq]
 have hbw:∀ b∈p.binds,b.e.wt<4294967295:=fun b hb=>by have:=nJ hb;omega
 have hshc:=fun(b:Bd) (hb:b∈p.binds)=>(fun H=>ug G hG b.e.wt b.e H (Nat.le_refl _) (by have:=hbw b hb;omega))
 have hrar:=fun(b:Bd) (hb:b∈p.binds)=>(fun H=>uc G hG p.cons hcn b.e.wt b.e H (Nat.le_refl _) (by have:=hbw b hb;omega))
 have hral:=fun(b:Bd) (hb:b∈p.binds)=>(fun H=>xE G hG p.cons hcn b.e.wt b.e H (Nat.le_refl _) (by have:=hbw b hb;omega))
 have hfre:=fun(b:Bd) (hb:b∈p.binds)=>(fun H=>pB G hG b.e (by have:=hbw b hb;omega) H)
 have hbn:=uK p.binds
 have hbs:=fun(b:Bd) h=>Cl p.binds b h
 have hmi:=Dw p.binds
 have hlnB:=dQ p.binds
 have hfl:∀ b∈p.binds,(cz b.e).length≤b.e.wt:=fun b _=>by
  have:=gS b.e.wt b.e ([],[])
  rw[cz,eP]
  simpa using this
 obtain⟨cons,binds⟩:=p
 simp only at*
 have hle:=dG binds
 have hbo:=fun H=>AM G hG cons binds H (by omega)
 have hrc:=fun H=>DX G hG cons H hcn
 have hal:=fun H=>uD G hG cons binds H (by omega)
 have hnm:=fun H=>uf G hG binds (by omega) H
 have hkn:=fun H=>By G hG cons H hcn
 have hhas:=fun s H=>gC G (binds.map Bd.name) s H (by rw[List.length_map];omega)
 rw[show(Pg.mk cons binds).sv= .agg [.list 4 (aQ cons),.list 9 (ao binds)] from rfl] at*
 have bF:=fun n=>bN n cons
 generalize hBE:qS binds=be at*
 generalize bj binds=bl at*
 have hgb:∀ i (h:i<binds.length),(ao binds)[i]? =some (.agg (.str binds[i].name::binds[i].e.cells)):=fun i hlt=>by rw[cr,List.getElem?_map,List.getElem?_eq_getElem hlt,Option.map_some,Bd.sv,Bd.df]
 refine ag.aK TB [] aF _ Tryz.func22 rfl (by decide) Tryz.ntmps22 (by simp) rfl (by simp only[au,Nat.reduceAdd];rfl) fun C R' hR hC hcl hB=>?_;have X:=aO;have hC':=congrArg List.length hC
 by_cases hb0:be=0
 rotate_left
 ·rw[if_pos hb0] at hR
  have c1:=hbo
  have X:=And.intro aO hb0
  (refine run ?_;with_reducible repeat' first|exact trivial|(apply af.mk<;>intro hb)|apply ax.mk)
  exact aS (n0:=H.length) hR hC' hcl (.same _ rfl) ⟨rfl,rfl⟩
 rw[if_neg (fun h=>h hb0)] at hR
 subst hb0
 have c1:=hbo
 (refine run ?_;with_reducible repeat' first|exact trivial|(apply af.mk<;>intro hb)|apply ax.mk)
 refine aC (fun i:Nat=>[(1,.ptr H.length 0 0 0),(4,.int .i64 i)]) (fun i=>H++[.cells 0 2 [.agg [.list 4 (aQ cons),.list 9 (ao binds)]]]) (fun i=>binds.length - i) (fun i=>i≤binds.length∧(binds.take i).all (fun b=>dP eY b.e)=true) 0 ⟨Nat.zero_le _,rfl⟩ ?_ ?_
 ·exact bB (n0:=H.length) [(H.length,0)] hG hB hC' hcl
 rintro K i ⟨hi,hall⟩ hK
 rcases Nat.lt_or_ge i binds.length with hlt|hge
 ·have hg:=hgb i hlt
  have c2:=hshc binds[i] (List.getElem_mem hlt)
  have hst:=nG (p:=fun b:Bd=>dP eY b.e) hlt
  have hgo:=uG (p:=fun b:Bd=>dP eY b.e) hlt hall
  rw[show dF binds[i].e.wt eY binds[i].e=dP eY binds[i].e from rfl] at c2
  generalize dP eY binds[i].e=z at*
  generalize binds[i].e=x at*
  generalize binds[i].name=s at*
  have X:=And.intro aO hg
  cases z
  ·rw[hst rfl] at hR
   clear hK
   (refine run ?_;with_reducible repeat' first|exact trivial|(apply af.mk<;>intro hb)|apply ax.mk)
   exact aS (n0:=H.length) hR hC' hcl (.same _ rfl) ⟨rfl,rfl⟩
  ·(refine run ?_;with_reducible repeat' first|exact trivial|(apply af.mk<;>intro hb)|apply ax.mk)
   refine hK _ _ (i+1) (by omega) ⟨by omega,hgo rfl⟩ ?_
   exact bB (n0:=H.length) [(H.length,0)] hG hB hC' hcl
 clear hK
 obtain rfl:i=binds.length:=by omega
 rw[List.take_length] at hall
 rw[hall,Bool.not_true,if_neg Bool.false_ne_true] at hR
 have hshp:∀ b∈binds,dP eY b.e=true:=fun b hb=>List.all_eq_true.1 hall b hb
 cases hoc:gF [] cons
 ·rw[hoc] at hR hrc
  rw[Bool.not_false,if_pos rfl] at hR
  have c2:=hrc
  have X:=And.intro aO (Int.lt_irrefl (binds.length:Int))
  (refine run ?_;with_reducible repeat' first|exact trivial|(apply af.mk<;>intro hb)|apply ax.mk)
  exact aS (n0:=H.length) hR hC' hcl (.same _ rfl) ⟨rfl,rfl⟩
 rw[hoc] at hR hrc
 rw[Bool.not_true,if_neg Bool.false_ne_true] at hR
 have c2:=hrc
 have c3:=hal
 have esO_und:=mw
 have X:=And.intro aO (Int.lt_irrefl (binds.length:Int))
 (refine run ?_;with_reducible repeat' first|exact trivial|(apply af.mk<;>intro hb)|apply ax.mk)
 refine aC (fun i:Nat=>[(1,.ptr H.length 0 0 0),(5,.map (H.length+1)),(6,.list 1 (bl.map .str)),(7,.int .i64 i)]) (fun i=>H++[.cells 0 2 [.agg [.list 4 (aQ cons),.list 9 (ao binds)]],.map none (gT (bl.take i))]) (fun i=>bl.length - i) (fun i=>i≤bl.length∧(bl.take i).Nodup∧[]∉bl.take i) 0 ⟨Nat.zero_le _,by simp,by simp⟩ ?_ ?_
 ·exact bB (n0:=H.length) [(H.length,0),(H.length+1,0)] hG hB hC' hcl
 rintro K i ⟨hi,hnd,hne⟩ hK
 rcases Nat.lt_or_ge i bl.length with hlt|hge
 ·have hg:(bl.map SV.str)[i]? =some (.str bl[i]):=by simp[hlt]
  have hts:=List.take_succ_eq_append_getElem hlt
  have hfs:=kH (bl.take i) bl[i]
  have hss:=D8 (l:=bl.take i) (fun _ _=>trivial) bl[i]
  rw[← hts] at hss
  have hml:bl[i]∈bl:=List.getElem_mem hlt
  have hdup:bl[i]∈bl.take i→¬ bl.Nodup:=fun hm hnd2=>by
   obtain⟨j,hj,e⟩:=List.mem_take_iff_getElem.1 hm
   have:=(List.getElem_inj hnd2).1 e
   omega
  generalize bl[i]=s at*
  by_cases hs0:s=[]
  ·rw[show dm binds=true from by
    cases hbv:dm binds with
    |true=>rfl
    |false=>exact absurd (hs0 ▸ hml) (hbn.1 hbv).2] at hR
   rw[if_pos rfl] at hR
   clear hK
   have X:=And.intro aO (And.intro hg hs0)
   (refine run ?_;with_reducible repeat' first|exact trivial|(apply af.mk<;>intro hb)|apply ax.mk)
   exact aS (n0:=H.length) hR hC' hcl (.same _ rfl) ⟨rfl,rfl⟩
  by_cases hmem:s∈bl.take i
  ·rw[show dm binds=true from by
    cases hbv:dm binds with
    |true=>rfl
    |false=>exact absurd (hbn.1 hbv).1 (hdup hmem)] at hR
   rw[if_pos rfl] at hR
   rw[decide_eq_true hmem] at hfs
   clear hK
   have X:=And.intro aO (And.intro hg (And.intro hs0 hfs))
   (refine run ?_;with_reducible repeat' first|exact trivial|(apply af.mk<;>intro hb)|apply ax.mk)
   exact aS (n0:=H.length) hR hC' hcl (.same _ rfl) ⟨rfl,rfl⟩
  rw[decide_eq_false hmem] at hfs
  have hss:=hss hmem
  have X:=And.intro aO (And.intro hg (And.intro hs0 (And.intro hfs hss)))
  (refine run ?_;with_reducible repeat' first|exact trivial|(apply af.mk<;>intro hb)|apply ax.mk)
  refine hK _ _ (i+1) (by omega) ⟨by omega,?_,?_⟩ ?_
  ·rw[hts,List.nodup_append]
   exact⟨hnd,by simp,fun a ha b hb e=>hmem (by rw[List.mem_singleton.1 hb] at e;exact e ▸ ha)⟩
  ·rw[hts]
   intro hm
   rcases List.mem_append.1 hm with h|h
   ·exact hne h
   ·exact hs0 (List.mem_singleton.1 h).symm
  ·exact bB (n0:=H.length) [(H.length,0),(H.length+1,0)] hG hB hC' hcl
 clear hK
 obtain rfl:i=bl.length:=by omega
 rw[List.take_length] at hnd hne
 rw[hbn.2 ⟨hnd,hne⟩,if_neg Bool.false_ne_true] at hR
 have c1:=hnm
 have X:=And.intro aO (Int.lt_irrefl (bl.length:Int))
 (refine run ?_;with_reducible repeat' first|exact trivial|(apply af.mk<;>intro hb)|apply ax.mk)
 refine aC (fun i:Nat=>[(1,.ptr H.length 0 0 0),(8,.list 1 ((binds.map Bd.name).map .str)),(9,.int .i64 i)]) (fun i=>H++[.cells 0 2 [.agg [.list 4 (aQ cons),.list 9 (ao binds)]]]) (fun i=>binds.length - i) (fun i=>i≤binds.length∧(binds.take i).all (mN (fP binds))=true) 0 ⟨Nat.zero_le _,rfl⟩ ?_ ?_
 ·exact bB (n0:=H.length) [(H.length,0)] hG hB hC' hcl
 rintro K i ⟨hi,hall2⟩ hK
 rcases Nat.lt_or_ge i binds.length with hlt|hge
 ·have hg:=hgb i hlt
  have c2:=hfre binds[i] (List.getElem_mem hlt)
  have hst:=nG (p:=mN (fP binds)) hlt
  have hgo:=uG (p:=mN (fP binds)) hlt hall2
  have hib:=hbs binds[i] (hshp _ (List.getElem_mem hlt))
  have hfll:=hfl binds[i] (List.getElem_mem hlt)
  have hbww:=hbw binds[i] (List.getElem_mem hlt)
  generalize mN (fP binds) binds[i]=z at*
  generalize cz binds[i].e=F at*
  generalize binds[i].e=x at*
  generalize binds[i].name=s at*
  have X:=And.intro aO hg
  (refine run ?_;with_reducible repeat' first|exact trivial|(apply af.mk<;>intro hb)|apply ax.mk)
  refine aC (fun k:Nat=>[(1,.ptr H.length 0 0 0),(8,.list 1 ((binds.map Bd.name).map .str)),(9,.int .i64 i),(10,.list 1 (F.map .str)),(11,.int .i64 k)]) (fun k=>H++[.cells 0 2 [.agg [.list 4 (aQ cons),.list 9 (ao binds)]]]) (fun k=>F.length - k) (fun k=>k≤F.length∧∀ s∈F.take k,s∈binds.map Bd.name) 0 ⟨Nat.zero_le _,by simp⟩ ?_ ?_
  ·exact bB (n0:=H.length) [(H.length,0)] hG hB hC' hcl
  rintro K2 k ⟨hk,hin⟩ hK2
  rcases Nat.lt_or_ge k F.length with hltk|hgek
  ·have hgk:(F.map SV.str)[k]? =some (.str F[k]):=by simp[hltk]
   have c3:=hhas F[k]
   have hfm:F[k]∈F:=List.getElem_mem hltk
   have hts:=List.take_succ_eq_append_getElem hltk
   generalize F[k]=t at*
   by_cases hmem:t∈binds.map Bd.name
   ·rw[decide_eq_true hmem] at c3
    have X:=And.intro aO hgk
    (refine run ?_;with_reducible repeat' first|exact trivial|(apply af.mk<;>intro hb)|apply ax.mk)
    refine hK2 _ _ (k+1) (by omega) ⟨by omega,fun y hy=>?_⟩ ?_
    ·rw[hts] at hy
     rcases List.mem_append.1 hy with h|h
     ·exact hin y h
     ·rw[List.mem_singleton.1 h];exact hmem
    ·exact bB (n0:=H.length) [(H.length,0)] hG hB hC' hcl
   ·rw[decide_eq_false hmem] at c3
    have hz:z=false:=by
     cases z with
     |false=>rfl
     |true=>exact absurd (hib.1 rfl t hfm) hmem
    rw[hst hz,Bool.not_false,if_pos rfl] at hR
    clear hK hK2
    have X:=And.intro aO hgk
    (refine run ?_;with_reducible repeat' first|exact trivial|(apply af.mk<;>intro hb)|apply ax.mk)
    exact aS (n0:=H.length) hR hC' hcl (.same _ rfl) ⟨rfl,rfl⟩
  ·have hnk:¬ (k:Int)<(F.length:Int):=by omega
   rw[List.take_of_length_le hgek] at hin
   have hz:z=true:=hib.2 hin
   clear hK2
   have X:=And.intro aO hnk
   (refine run ?_;with_reducible repeat' first|exact trivial|(apply af.mk<;>intro hb)|apply ax.mk)
   refine hK _ _ (i+1) (by omega) ⟨by omega,hgo hz⟩ ?_
   exact bB (n0:=H.length) [(H.length,0)] hG hB hC' hcl
 clear hK
 obtain rfl:i=binds.length:=by omega
 rw[List.take_length] at hall2
 rw[hall2,Bool.not_true,if_neg Bool.false_ne_true] at hR
 cases hko:lT cons
 ·rw[hko] at hR hkn
  rw[Bool.false_and,Bool.not_false,if_pos rfl] at hR
  have c2:=hkn
  have X:=And.intro aO (Int.lt_irrefl (binds.length:Int))
  (refine run ?_;with_reducible repeat' first|exact trivial|(apply af.mk<;>intro hb)|apply ax.mk)
  exact aS (n0:=H.length) hR hC' hcl (.same _ rfl) ⟨rfl,rfl⟩
 rw[hko] at hR hkn
 rw[Bool.true_and] at hR
 have c2:=hkn
 have X:=And.intro aO (Int.lt_irrefl (binds.length:Int))
 (refine run ?_;with_reducible repeat' first|exact trivial|(apply af.mk<;>intro hb)|apply ax.mk)
 refine aC (fun i:Nat=>[(1,.ptr H.length 0 0 0),(8,.list 1 ((binds.map Bd.name).map .str)),(12,.int .i64 i)]) (fun i=>H++[.cells 0 2 [.agg [.list 4 (aQ cons),.list 9 (ao binds)]]]) (fun i=>binds.length - i) (fun i=>i≤binds.length∧(binds.take i).all (fun b=>dP (ll cons) b.e)=true) 0 ⟨Nat.zero_le _,rfl⟩ ?_ ?_
 ·exact bB (n0:=H.length) [(H.length,0)] hG hB hC' hcl
 rintro K i ⟨hi,hall3⟩ hK
 rcases Nat.lt_or_ge i binds.length with hlt|hge
 ·have hg:=hgb i hlt
  have c2:=hrar binds[i] (List.getElem_mem hlt)
  have hst:=nG (p:=fun b:Bd=>dP (ll cons) b.e) hlt
  have hgo:=uG (p:=fun b:Bd=>dP (ll cons) b.e) hlt hall3
  rw[kz (s:=eY) (q:=ll cons) (fun e h=>FG h) _ _ (hshp _ (List.getElem_mem hlt)),show dF binds[i].e.wt (ll cons) binds[i].e=dP (ll cons) binds[i].e from rfl] at c2
  generalize dP (ll cons) binds[i].e=z at*
  generalize binds[i].e=x at*
  generalize binds[i].name=s at*
  have X:=And.intro aO hg
  cases z
  ·rw[hst rfl,Bool.not_false,if_pos rfl] at hR
   clear hK
   (refine run ?_;with_reducible repeat' first|exact trivial|(apply af.mk<;>intro hb)|apply ax.mk)
   exact aS (n0:=H.length) hR hC' hcl (.same _ rfl) ⟨rfl,rfl⟩
  ·(refine run ?_;with_reducible repeat' first|exact trivial|(apply af.mk<;>intro hb)|apply ax.mk)
   refine hK _ _ (i+1) (by omega) ⟨by omega,hgo rfl⟩ ?_
   exact bB (n0:=H.length) [(H.length,0)] hG hB hC' hcl
 clear hK
 obtain rfl:i=binds.length:=by omega
 rw[List.take_length] at hall3
 rw[hall3,Bool.not_true,if_neg Bool.false_ne_true] at hR
 have X:=And.intro aO (Int.lt_irrefl (binds.length:Int))
 (refine run ?_;with_reducible repeat' first|exact trivial|(apply af.mk<;>intro hb)|apply ax.mk)
 refine aC (fun i:Nat=>[(1,.ptr H.length 0 0 0),(8,.list 1 ((binds.map Bd.name).map .str)),(13,.int .i64 i)]) (fun i=>H++[.cells 0 2 [.agg [.list 4 (aQ cons),.list 9 (ao binds)]]]) (fun i=>binds.length - i) (fun i=>i≤binds.length∧(binds.take i).all (fun b=>dP (lx cons) b.e)=true) 0 ⟨Nat.zero_le _,rfl⟩ ?_ ?_
 ·exact bB (n0:=H.length) [(H.length,0)] hG hB hC' hcl
 rintro K i ⟨hi,hall4⟩ hK
 rcases Nat.lt_or_ge i binds.length with hlt|hge
 ·have hg:=hgb i hlt
  have c2:=hral binds[i] (List.getElem_mem hlt)
  have hst:=nG (p:=fun b:Bd=>dP (lx cons) b.e) hlt
  have hgo:=uG (p:=fun b:Bd=>dP (lx cons) b.e) hlt hall4
  rw[kz (s:=eY) (q:=lx cons) (fun e h=>ET h) _ _ (hshp _ (List.getElem_mem hlt)),show dF binds[i].e.wt (lx cons) binds[i].e=dP (lx cons) binds[i].e from rfl] at c2
  generalize dP (lx cons) binds[i].e=z at*
  generalize binds[i].e=x at*
  generalize binds[i].name=s at*
  have X:=And.intro aO hg
  cases z
  ·rw[hst rfl,Bool.not_false,if_pos rfl] at hR
   clear hK
   (refine run ?_;with_reducible repeat' first|exact trivial|(apply af.mk<;>intro hb)|apply ax.mk)
   exact aS (n0:=H.length) hR hC' hcl (.same _ rfl) ⟨rfl,rfl⟩
  ·(refine run ?_;with_reducible repeat' first|exact trivial|(apply af.mk<;>intro hb)|apply ax.mk)
   refine hK _ _ (i+1) (by omega) ⟨by omega,hgo rfl⟩ ?_
   exact bB (n0:=H.length) [(H.length,0)] hG hB hC' hcl
 clear hK
 obtain rfl:i=binds.length:=by omega
 rw[List.take_length] at hall4
 rw[hall4,Bool.not_true,if_neg Bool.false_ne_true] at hR
 have c1:=hhas lV
 by_cases hmain:lV∈binds.map Bd.name
 ·rw[if_neg (fun h=>(hmi.1 h) hmain)] at hR
  rw[decide_eq_true hmain] at c1
  have X:=And.intro aO (Int.lt_irrefl (binds.length:Int))
  (refine run ?_;with_reducible repeat' first|exact trivial|(apply af.mk<;>intro hb)|apply ax.mk)
  exact aS (n0:=H.length) hR hC' hcl (.same _ rfl) ⟨rfl,rfl⟩
 ·rw[if_pos (hmi.2 hmain)] at hR
  rw[decide_eq_false hmain] at c1
  have X:=And.intro aO (Int.lt_irrefl (binds.length:Int))
  (refine run ?_;with_reducible repeat' first|exact trivial|(apply af.mk<;>intro hb)|apply ax.mk)
  exact aS (n0:=H.length) hR hC' hcl (.same _ rfl) ⟨rfl,rfl⟩
theorem Aq (G:Gl) (hG:aw G) (cs:List Cn) (T:List aI) (hT:T.length<1099511627776):∀ m,AB G cs T (fun e=>qD e≤m) (jF T m).1∧AA G cs T (fun e=>l6 e≤m) (jF T m).2
 |0=>⟨fun e H sb g0 nx hP _ _ _ _=>by have:=e.bz;have hP:qD e≤0:=hP;unfold qD at hP;omega,fun s e u H sb g0 nx hP _ _ _ _=>by have:=e.bz;have hP:l6 e≤0:=hP;unfold l6 at hP;omega⟩
 |m+1=>by
  obtain⟨h1,h2⟩:=Aq G hG cs T hT m
  obtain⟨c1,c2,_⟩:=oU cs T m
  exact⟨D3 G hG cs T m _ _ h1 h2 c1 c2,DW G hG cs T hT m _ _ h1 h2 c1 c2⟩
theorem zm {T U:List aI} (h:∀ s,s∈T↔s∈U) (e:Ex):iO T e=iO U e:=by
 unfold iO
 exact List.filter_congr fun s _=>by rw[decide_eq_decide.2 (h s)]
theorem uv {T U:List aI} (h:∀ s,s∈T↔s∈U):∀ m,jF T m=jF U m
 |0=>rfl
 |m+1=>by
  have e:fK T=fK U:=by
   funext E B s e u n
   unfold fK
   rw[zm h e]
  rw[jF,jF,uv h m,e]
theorem DB (l:List Bd) (s:aI):s∈l.map Bd.name↔s∈pK l:=by
 unfold pK
 rw[rV]
 simp
theorem Bn (p:Pg):ED p=(cF (jF (p.binds.map Bd.name) (jN p)).2 (fun _=>true) p.binds (ql p.binds)).1:=by
 unfold ED
 rw[uv (DB p.binds)]
theorem FF (G:Gl) (hG:aw G) (p:Pg) (H:List az) (hw:aW p.binds<67108864) (hcn:p.cons.length<1099511627776) (hne:¬ cV p=0):
 ag Tryz.prog G 8 [p.sv] H (fun r H'=>H'=H∧r= .tuple [.agg [.list 4 [],.list 8 []],.int .i64 (cV p)]):=by
 have c1:=fun H=>xK G hG p H (by omega) hcn
 generalize cV p=S at*
 obtain⟨cons,binds⟩:=p
 rw[show(Pg.mk cons binds).sv= .agg [.list 4 (aQ cons),.list 9 (ao binds)] from rfl] at*
 refine ag.aK TB [] aF _ Tryz.func8 rfl (by decide) Tryz.ntmps8 (by simp) rfl (by simp only[au,Nat.reduceAdd];rfl) fun C R' hR hC hcl hB=>?_;have X:=aO;have hC':=congrArg List.length hC
 have X:=And.intro aO hne
 (refine run ?_;with_reducible repeat' first|exact trivial|(apply af.mk<;>intro hb)|apply ax.mk)
 exact Fin.dx (n0:=H.length) hR rfl hC' hcl (.tuple _ _ (.cons _ _ _ _ (.agg _ _ (.cons _ _ _ _ (.nil _) (.cons _ _ _ _ (.nil _) .nil))) (.cons _ _ _ _ (.same _ rfl) .nil))) ⟨rfl,rfl⟩
theorem Hh (G:Gl) (hG:aw G) (p:Pg) (H:List az) (hw:aW p.binds<67108864) (hcn:p.cons.length<1073741824) (hns:∀ s∈bj p.binds,s.length<4294967296) (h0:cV p=0):
 ag Tryz.prog G 8 [p.sv] H (fun r H'=>H'=H∧r= .tuple [BG p.cons (ED p),.int .i64 0]):=by
 have c1:=fun H=>xK G hG p H (by omega) (by omega)
 rw[h0] at c1
 have hle:=dG p.binds
 have hbd:=(Aq G hG p.cons (p.binds.map Bd.name) (by rw[List.length_map];omega) (jN p)).2
 have hcnt:=(oU p.cons (p.binds.map Bd.name) (jN p)).2.1
 have hsh:∀ b∈p.binds,Sh p.cons b.e:=fun b hb=>⟨(p6 h0).BR b hb,(p6 h0).full b hb⟩
 have hfu:∀ b∈p.binds,l6 b.e≤jN p:=fun b hb=>by have:=dH hb;have:=b.cZ;unfold l6 jN;omega
 have hnl:=Af p.binds
 rw[Bn]
 clear h0
 generalize jN p=fu at*
 obtain⟨cons,binds⟩:=p
 simp only at*
 have c2:=fun H=>DU G hG cons binds H (by omega) hns
 rw[show(Pg.mk cons binds).sv= .agg [.list 4 (aQ cons),.list 9 (ao binds)] from rfl] at*
 unfold BG
 have bF:=fun n=>bN n cons
 have dp:=aY
 generalize ql binds=nx0 at*
 obtain⟨T,hT⟩:∃ T:Nat→List aI,∀ i,T i=(binds.take i).map Bd.name:=⟨fun i=>_,fun i=>rfl⟩
 have hT0:T 0=[]:=by rw[hT];rfl
 have hTs:∀ i (h:i<binds.length),T (i+1)=T i++[binds[i].name]:=fun i h=>by rw[hT,hT,List.take_succ_eq_append_getElem h,List.map_append];rfl
 have hTl:∀ i,(T i).length≤i:=fun i=>by rw[hT,List.length_map,List.length_take];omega
 have hTe:binds.map Bd.name=T binds.length:=by rw[hT,List.take_length]
 rw[hTe] at hbd hcnt ⊢
 clear hT hTe
 have hbl0:(ao binds).length=binds.length:=iV _
 refine ag.aK TB [] aF _ Tryz.func8 rfl (by decide) Tryz.ntmps8 (by simp) rfl (by simp only[au,Nat.reduceAdd];rfl) fun C R' hR hC hcl hB=>?_;have X:=aO;have hC':=congrArg List.length hC
 (refine run ?_;with_reducible repeat' first|exact trivial|(apply af.mk<;>intro hb)|apply ax.mk)
 have d4:=vi H.length [0,1,2,3] (by decide)
 have d5:=vi H.length [0,1,2,3,4] (by decide)
 have d45:=vi H.length [0,1,2,4,5] (by decide)
 refine aC (fun i:Nat=>[(1,.ptr H.length 0 0 0),(2,.ptr (H.length+1) 0 0 0),(5,.ptr (H.length+2) 0 0 0),(6,.int .i64 (i:Int))])
  (fun i=>H++[.cells 0 2 [.agg [.list 4 (aQ cons),.list 9 (ao binds)]],.cells 0 2 [.agg [.nil,.nil]],.cells 0 2 [.agg [.int .i64 (nx0:Int),.sl (H.length+3) 0 0 (T i).length]],.cells 0 1 ((T i).map .str)]) (fun i=>binds.length - i) (fun i=>i≤binds.length) 0 (Nat.zero_le _) ?_ ?_
 ·rw[hT0]
  refine Wk.trans (oW (id:=H.length+2) (i:=0) (j:=1) 1 ((bJ ..).trans rfl) rfl rfl) ?_
  simp only[cq,List.set_cons_succ,List.set_cons_zero,List.append_assoc,List.cons_append,List.nil_append,List.length_append,List.length_cons,List.length_nil,Nat.reduceAdd,List.map_nil]
  exact bB (n0:=H.length) [(H.length,0),(H.length+1,0),(H.length+2,0),(H.length+3,0)] hG hB hC' hcl (hd:=d4)
 ·rintro K i hi hK
  rcases Nat.lt_or_ge i binds.length with hlt|hge
  ·have hcg:(ao binds)[i]? =some (.agg (.str binds[i].name::binds[i].e.cells)):=by rw[cr,List.getElem?_map,List.getElem?_eq_getElem hlt,Option.map_some,Bd.sv,Bd.df]
   have hts:=hTs i hlt
   have hti:=hTl i
   have hx8:=binds[i].e.aH
   generalize binds[i].name=bn at*
   generalize binds[i].e.cells=bc at*
   have hDl:((T i).map SV.str).length=(T i).length:=List.length_map ..
   have X:=And.intro aO (And.intro hcg (And.intro hbl0 (And.intro hDl hx8)))
   (refine run ?_;with_reducible repeat' first|exact trivial|(apply af.mk<;>intro hb)|apply ax.mk)
   refine hK _ _ (i+1) (by omega) (by omega) ?_
   rw[hts,List.map_append,List.length_append,List.length_singleton]
   exact bB (n0:=H.length) [(H.length,0),(H.length+1,0),(H.length+2,0),(H.length+3,0)] hG hB hC' hcl (hd:=d4)
  clear hK
  obtain rfl:i=binds.length:=by omega
  generalize hTT:T binds.length=TT at*
  clear hTT hTs hT0 hTl
  clear T
  have X:=And.intro aO (And.intro hbl0 (Int.lt_irrefl (binds.length:Int)))
  (refine run ?_;with_reducible repeat' first|exact trivial|(apply af.mk<;>intro hb)|apply ax.mk)
  refine aC (fun a:Nat×List Sb×Nat=>[(1,.ptr H.length 0 0 0),(2,.ptr (H.length+1) 0 0 0),(5,.ptr (H.length+2) 0 0 0),(7,.ptr (H.length+3) 0 0 0),(8,.int .i64 (a.1:Int))])
   (fun a=>H++[.cells 0 2 [.agg [.list 4 (aQ cons),.list 9 (ao binds)]],.cells 0 2 [.agg [.nil,.nil]],.cells 0 2 [.agg [.int .i64 (a.2.2:Int),.list 1 (TT.map .str)]],.cells 0 2 [.agg [.list 4 (aQ cons),.sl (H.length+4) 0 0 a.2.1.length]],.cells 0 8 (aX a.2.1)]) (fun a=>binds.length - a.1)
   (fun a=>(a.1≤binds.length∧a.2.1.length+aW (binds.drop a.1)≤aW binds∧a.2.2+aW (binds.drop a.1)≤nx0+aW binds)∧cF (jF TT fu).2 (fun _=>true) binds nx0=(a.2.1++(cF (jF TT fu).2 (fun _=>true) (binds.drop a.1) a.2.2).1,(cF (jF TT fu).2 (fun _=>true) (binds.drop a.1) a.2.2).2)) (0,[],nx0) ⟨⟨Nat.zero_le _,by simp,Nat.le_refl _⟩,rfl⟩ ?_ ?_
  ·refine Wk.trans (oW (id:=H.length+4) (i:=0) (j:=1) 8 ((bJ ..).trans rfl) rfl rfl) ?_
   simp only[cq,List.set_cons_succ,List.set_cons_zero,List.append_assoc,List.cons_append,List.nil_append,List.length_append,List.length_cons,List.length_nil,Nat.reduceAdd,show aX []=[] from rfl]
   exact bB (n0:=H.length) [(H.length,0),(H.length+1,0),(H.length+2,0),(H.length+4,0),(H.length+5,0)] hG hB hC' hcl (hd:=d45)
  rintro K ⟨i,D,nx⟩ ⟨⟨hi1,hD,hnw⟩,hmp⟩ hK
  simp only at hi1 hD hnw hmp
  dsimp only
  rcases Nat.lt_or_ge i binds.length with hlt|hge
  ·have hmem:=List.getElem_mem hlt
   have hxw:=dH hmem
   have hxg:=binds[i].cZ
   have hdr:=kA hlt
   have hcut:=mC hlt hmp
   have hcall:=fun L=>hbd binds[i].name binds[i].e true (H++(.cells 0 2 [.agg [.list 4 (aQ cons),.list 9 (ao binds)]]:: .cells 0 2 [.agg [.nil,.nil]]:: .cells 0 2 [.agg [.int .i64 (nx:Int),.list 1 (TT.map .str)]]::L)) (H.length+2) 0 nx (hfu _ hmem) (by omega) (hsh _ hmem) (by split<;>omega) (by rw[bJ];rfl)
   have hcn:=hcnt binds[i].name binds[i].e true nx (hsh _ hmem)
   have hcg:(ao binds)[i]? =some (.agg (.str binds[i].name::binds[i].e.cells)):=by rw[cr,List.getElem?_map,List.getElem?_eq_getElem hlt,Option.map_some,Bd.sv,Bd.df]
   have hx8:=binds[i].e.aH
   have hx8d:=binds[i].e.bY
   have hx8t:=binds[i].e.aU
   generalize (jF TT fu).2 binds[i].name binds[i].e true nx=r0 at*
   obtain⟨bs,nx2⟩:=r0
   simp only at hcall hcn hcut
   rw[show binds[i].e.sv= .agg binds[i].e.cells from rfl] at*
   generalize binds[i].e.wt=ew at*
   generalize binds[i].wt=wb at*
   generalize binds[i].name=bn at*
   generalize binds[i].e.cells=bc at*
   have hsn:=ff D bs
   have hDl:=cc D
   have hbl:=cc bs
   have X:=And.intro aO (And.intro hcg (And.intro hbl0 (And.intro hx8 (And.intro hx8d (And.intro hx8t (And.intro hsn (And.intro hDl hbl)))))))
   (refine run ?_;with_reducible repeat' first|exact trivial|(apply af.mk<;>intro hb)|apply ax.mk)
   refine dq (hcall _) ?_
   rintro v H' ⟨rfl,rfl⟩
   rw[cq]
   simp only[List.set_cons_succ,List.set_cons_zero]
   (refine run ?_;with_reducible repeat' first|exact trivial|(apply af.mk<;>intro hb)|apply ax.mk)
   refine hK _ _ (i+1,D++bs,nx2) (by simp only;omega) ⟨⟨by simp only;omega,by simp only[List.length_append];omega,by simp only;omega⟩,hcut⟩ ?_
   simp only[List.length_append]
   exact bB (n0:=H.length) [(H.length,0),(H.length+1,0),(H.length+2,0),(H.length+3,0),(H.length+4,0)] hG hB hC' hcl (hd:=d5)
  clear hK
  have hni:¬ (i:Int)<(binds.length:Int):=by omega
  rw[List.drop_eq_nil_of_le hge] at hmp
  simp only[cF,List.append_nil] at hmp
  rw[hmp] at hR
  simp only at hR
  have X:=And.intro aO (And.intro hbl0 hni)
  (refine run ?_;with_reducible repeat' first|exact trivial|(apply af.mk<;>intro hb)|apply ax.mk)
  refine Fin.dx (n0:=H.length) hR rfl hC' hcl (.tuple _ _ (.cons _ _ _ _ (.agg _ _ (.cons _ _ _ _ (.same _ (by simp only[SV.under,bN])) (.cons _ _ _ _ ?_ .nil))) (.cons _ _ _ _ (.same _ rfl) .nil))) ⟨rfl,rfl⟩
  exact bV.sf (g:=0) (sz:=8) (vals:=aX D) (by rw[bJ];rfl) (by omega) (by simp) (by simp) (aY _ _)
mutual
def s4 (M:Nat):Sg→Prop
 | .mk _ _ _ _ ad binds alts=>pJ M binds∧Ay M ad∧BS M alts
def Ay (M:Nat):List Sg→Prop
 |[]=>True
 |e::r=>s4 M e∧Ay M r
def HG (M:Nat):Sb→Prop
 | .mk _ _ free params _ _ _ body=>free.length≤M∧params.length≤M∧Ay M body
def pJ (M:Nat):List Sb→Prop
 |[]=>True
 |b::r=>HG M b∧pJ M r
def KF (M:Nat):Sl→Prop
 | .mk _ _ _ names e=>names.length≤M∧s4 M e
def BS (M:Nat):List Sl→Prop
 |[]=>True
 |a::r=>KF M a∧BS M r
end
theorem vC {M:Nat}:∀ {l:List Sg} {x:Sg},Ay M l→x∈l→s4 M x
 |e::r,x,h,hx=>by
  simp only[Ay] at h
  rcases List.mem_cons.1 hx with rfl|hx
  ·exact h.1
  ·exact vC h.2 hx
theorem Ax {M:Nat}:∀ {l:List Sb} {b:Sb},pJ M l→b∈l→HG M b
 |e::r,b,h,hx=>by
  simp only[pJ] at h
  rcases List.mem_cons.1 hx with rfl|hx
  ·exact h.1
  ·exact Ax h.2 hx
theorem Aw {M:Nat}:∀ {l:List Sl} {b:Sl},BS M l→b∈l→KF M b
 |e::r,b,h,hx=>by
  simp only[BS] at h
  rcases List.mem_cons.1 hx with rfl|hx
  ·exact h.1
  ·exact Aw h.2 hx
theorem qH {M:Nat}:∀ {a b:List Sb},pJ M a→pJ M b→pJ M (a++b)
 |[],b,_,h=>h
 |x::a,b,h,h2=>by simp only[List.cons_append,pJ] at h ⊢;exact⟨h.1,qH h.2 h2⟩
def Ar.tl (M:Nat):Ar→Prop
 | .bs l=>pJ M l
 | .look _ x=>s4 M x
theorem kZ {M:Nat}:∀ (W:List Ar) (e0:Sg),(∀ a∈W,a.tl M)→s4 M e0→s4 M (dy W e0)
 |[],e0,_,h=>h
 | .bs l::W,e0,hW,h=>by
  have h1:=kZ W e0 (fun a ha=>hW a (List.mem_cons_of_mem _ ha)) h
  have h2:pJ M l:=hW _ (List.mem_cons_self ..)
  show s4 M (.mk 6 [] 0 [] [dy W e0] l [])
  simp only[s4,Ay,BS]
  exact⟨h2,⟨h1,trivial⟩,trivial⟩
 | .look s x::W,e0,hW,h=>by
  have h1:=kZ W e0 (fun a ha=>hW a (List.mem_cons_of_mem _ ha)) h
  have h2:s4 M x:=hW _ (List.mem_cons_self ..)
  show s4 M (.mk 5 s 0 [] [x] [] [.mk 3 [] 0 [] (dy W e0)])
  simp only[s4,Ay,BS,KF,pJ]
  exact⟨trivial,⟨h2,trivial⟩,⟨Nat.zero_le _,h1⟩,trivial⟩
def Hw (cs:List Cn) (M:Nat) (E:Ex→Nat→Sg×Nat):Prop:=∀ e n,Sh cs e→e.wt≤M→s4 M (E e n).1
def Hv (cs:List Cn) (M:Nat) (B:aI→Ex→Bool→Nat→List Sb×Nat):Prop:=∀ s e u n,Sh cs e→e.wt≤M→pJ M (B s e u n).1
theorem mq {cs:List Cn} {M:Nat} {B:aI→Ex→Bool→Nat→List Sb×Nat} (hB:Hv cs M B):∀ (l:List Ex) (n:Nat),(∀ x∈l,Sh cs x∧x.wt≤M)→(∀ a∈(aM B l n).1.2,a.tl M)∧pJ M (dI (aM B l n).1.2)
 |[],n,_=>⟨fun a ha=>by simp[aM] at ha,by simp[aM,dI,pJ]⟩
 |e::r,n,h=>by
  have hr:=fun n=>mq hB r n fun x hx=>h x (List.mem_cons_of_mem _ hx)
  have he:=fun s u n=>hB s e u n (h e (List.mem_cons_self ..)).1 (h e (List.mem_cons_self ..)).2
  rw[aM]
  split
  ·exact hr n
  ·refine⟨fun a ha=>?_,qH (he _ _ _) (hr _).2⟩
   simp only[List.mem_cons] at ha
   rcases ha with rfl|ha
   ·exact he _ _ _
   ·exact(hr _).1 a ha
theorem x7 {cs:List Cn} {M:Nat} {E:Ex→Nat→Sg×Nat} (hE:Hw cs M E):∀ (l:List Ex) (n:Nat),(∀ x∈l,Sh cs x∧x.wt≤M)→∀ a∈(bG E l n).1.2,a.tl M
 |[],n,_=>fun a ha=>by simp[bG] at ha
 |e::r,n,h=>by
  have hr:=fun n=>x7 hE r n fun x hx=>h x (List.mem_cons_of_mem _ hx)
  have hs:=h e (List.mem_cons_self ..)
  have he:=fun n=>hE e n hs.1 hs.2
  rw[bG]
  split
  ·exact hr n
  ·intro a ha
   simp only[List.mem_cons] at ha
   rcases ha with rfl|ha
   ·exact he _
   ·exact hr _ a ha
theorem rR {cs:List Cn} {M:Nat} {B:aI→Ex→Bool→Nat→List Sb×Nat} (hB:Hv cs M B) (u:Bd→Bool):∀ (l:List Bd) (n:Nat),(∀ x∈l,Sh cs x.e∧x.e.wt≤M)→pJ M (cF B u l n).1
 |[],n,_=>by simp[cF,pJ]
 |b::r,n,h=>by
  rw[cF]
  exact qH (hB _ _ _ _ (h b (List.mem_cons_self ..)).1 (h b (List.mem_cons_self ..)).2) (rR hB u r _ fun x hx=>h x (List.mem_cons_of_mem _ hx))
theorem zD {cs:List Cn} {M:Nat} {E:Ex→Nat→Sg×Nat} (hE:Hw cs M E):∀ (l:List Al) (n:Nat),(∀ x∈l,Sh cs x.body∧x.body.wt≤M∧x.names.length≤M)→BS M (fO (lh E) l n).1
 |[],n,_=>by simp[fO,BS]
 |a::r,n,h=>by
  have ha:=h a (List.mem_cons_self ..)
  simp only[fO,lh,BS,KF]
  exact⟨⟨ha.2.2,hE _ _ ha.1 ha.2.1⟩,zD hE r _ fun x hx=>h x (List.mem_cons_of_mem _ hx)⟩
theorem CL {cs:List Cn} {M:Nat} {E:Ex→Nat→Sg×Nat} {B:aI→Ex→Bool→Nat→List Sb×Nat} (hE:Hw cs M E) (hB:Hv cs M B):Hw cs M (eW E B):=by
 intro e n h hm
 obtain⟨kd,nm,nn,op,names,ad,binds,alts⟩:=e
 have hnode:=h.node
 have hw:(Ex.mk kd nm nn op names ad binds alts).wt=1+nm.length+cW names+bt ad+aW binds+cp alts:=by simp only[Ex.wt]
 have hxs:∀ x∈ad,Sh cs x∧x.wt≤M:=fun x hx=>⟨h.sub hx,by have:=cH hx;omega⟩
 have hxb:∀ x∈binds,Sh cs x.e∧x.e.wt≤M:=fun x hx=>⟨h.bind hx,by have:=dH hx;have:=x.cZ;omega⟩
 have hxa:∀ x∈alts,Sh cs x.body∧x.body.wt≤M∧x.names.length≤M:=fun x hx=>⟨h.alt hx,by have:=cN hx;have:=x.cZ;omega,by have:=cN hx;have:=x.ku;omega⟩
 have hat:∀ k s o (a:List At),s4 M (.mk k s o a [] [] []):=fun k s o a=>by simp[s4,pJ,Ay,BS]
 have hhd:0<ad.length→Sh cs (ad.headD bw)∧(ad.headD bw).wt≤M:=fun h0=>hxs _ (cP h0)
 rw[eW]
 split
 ·exact hat _ _ _ _
 split
 ·refine kZ _ _ (fun a ha=>?_) (hat _ _ _ _)
  rw[List.mem_singleton.1 ha]
  exact hB _ _ _ _ h hm
 split
 ·exact kZ _ _ (mq hB ad n hxs).1 (hat _ _ _ _)
 split
 ·exact kZ _ _ (x7 hE ad n hxs) (hat _ _ _ _)
 split
 ·rename_i h4
  subst h4
  have hs:=h.app
  have hc:=fun n=>(mq hB (ad.drop 1) n fun x hx=>hxs x (List.mem_of_mem_drop hx)).1
  have h0:=hhd (by omega)
  split
  ·exact kZ _ _ (hc n) (hat _ _ _ _)
  ·refine kZ _ _ (fun a ha=>?_) (hat _ _ _ _)
   rcases List.mem_cons.1 ha with rfl|ha
   ·exact hE _ _ h0.1 h0.2
   ·exact hc _ a ha
 split
 ·rename_i h5
  subst h5
  have hs:ad.length=1:=by unfold dM at hnode;omega
  have h0:=hhd (by omega)
  simp only[s4,Ay,BS]
  exact⟨rR hB _ binds n hxb,⟨hE _ _ h0.1 h0.2,trivial⟩,trivial⟩
 ·have hs:ad.length=1:=by unfold dM at hnode;omega
  have h0:=hhd (by omega)
  simp only[s4,Ay,pJ]
  exact⟨trivial,⟨hE _ _ h0.1 h0.2,trivial⟩,zD hE alts _ hxa⟩
theorem Ej (top:List aI) (e:Ex):(iO top e).length≤e.wt:=by
 have h1:=List.length_filter_le (fun s=>!decide (s∈top)) (cz e)
 have h2:(cz e).length≤e.wt:=by
  have:=gS e.wt e ([],[])
  rw[cz,eP]
  simpa using this
 unfold iO
 omega
theorem Ck {cs:List Cn} {M:Nat} {top:List aI} {E:Ex→Nat→Sg×Nat} {B:aI→Ex→Bool→Nat→List Sb×Nat} (hE:Hw cs M E) (hB:Hv cs M B):Hv cs M (fK top E B):=by
 intro s e u n h hm
 have ht:=Ej top e
 unfold fK
 split
 ·rename_i hk
  obtain⟨kd,nm,nn,op,names,ad,binds,alts⟩:=e
  have hnode:=h.node
  have hw:(Ex.mk kd nm nn op names ad binds alts).wt=1+nm.length+cW names+bt ad+aW binds+cp alts:=by simp only[Ex.wt]
  obtain rfl:kd=3:=hk
  have hs:ad.length=1:=by unfold dM at hnode;omega
  have hnl:=ea names
  have hmm:=cP (l:=ad) (by omega)
  have hxw:=cH hmm
  simp only[pJ,HG,Ay]
  exact⟨⟨by omega,by show names.length≤M;omega,hE _ _ (h.sub hmm) (by show(ad.headD bw).wt≤M;omega),trivial⟩,trivial⟩
 split
 ·obtain⟨kd,nm,nn,op,names,ad,binds,alts⟩:=e
  have hw:(Ex.mk kd nm nn op names ad binds alts).wt=1+nm.length+cW names+bt ad+aW binds+cp alts:=by simp only[Ex.wt]
  refine qH (mq hB ad n fun x hx=>⟨h.sub hx,by have:=cH hx;omega⟩).2 ?_
  simp only[pJ,HG,Ay,List.length_nil,Nat.zero_le,and_self]
 ·simp only[pJ,HG,Ay,List.length_nil]
  exact⟨⟨by omega,by omega,hE _ _ h hm,trivial⟩,trivial⟩
theorem Em (cs:List Cn) (M:Nat) (top:List aI):∀ m,Hw cs M (jF top m).1∧Hv cs M (jF top m).2
 |0=>⟨fun e n h _=>by simp[jF,s4,pJ,Ay,BS],fun s e u n h _=>by simp[jF,pJ]⟩
 |m+1=>by
  obtain⟨h1,h2⟩:=Em cs M top m
  exact⟨CL h1 h2,Ck h1 h2⟩
theorem G6 (p:Pg) (h0:cV p=0):pJ (aW p.binds) (ED p):=
 rR (Em p.cons _ _ _).2 _ p.binds _ fun b hb=>⟨⟨(p6 h0).BR b hb,(p6 h0).full b hb⟩,by have:=dH hb;have:=b.cZ;omega⟩
theorem pE (G:Gl) (hG:aw G) (l:List aI) (H:List az) (hl:l.length<1099511627776):
 ag Tryz.prog G 24 [.list 1 (l.map .str),.list 1 (l.map .str)] H (fun r H'=>H'=H∧r= .bool true):=by
 have hll:(l.map SV.str).length=l.length:=List.length_map ..
 refine ag.aK TB [] aF _ Tryz.func24 rfl (by decide) Tryz.ntmps24 (by simp) rfl (by simp only[au,Nat.reduceAdd];rfl) fun C R' hR hC hcl hB=>?_;have X:=aO;have hC':=congrArg List.length hC
 have X:=And.intro aO hll
 (refine run ?_;with_reducible repeat' first|exact trivial|(apply af.mk<;>intro hb)|apply ax.mk)
 refine aC (fun i:Nat=>[(0,.list 1 (l.map .str)),(1,.list 1 (l.map .str)),(5,.int .i64 (i:Int))]) (fun _=>H) (fun i=>l.length - i) (fun i=>i≤l.length) 0 (Nat.zero_le _) ?_ ?_
 ·exact Wk.sub (by simp[bR,look])
 rintro K i hi hK
 rcases Nat.lt_or_ge i l.length with hlt|hge
 ·have hg:(l.map SV.str)[i]? =some (.str l[i]):=by simp[hlt]
  generalize l[i]=s at*
  have X:=And.intro aO (And.intro hll hg)
  (refine run ?_;with_reducible repeat' first|exact trivial|(apply af.mk<;>intro hb)|apply ax.mk)
  refine hK _ _ (i+1) (by omega) (by omega) ?_
  exact Wk.sub (by simp[bR,look])
 clear hK
 obtain rfl:i=l.length:=by omega
 have X:=And.intro aO (And.intro hll (Int.lt_irrefl (l.length:Int)))
 (refine run ?_;with_reducible repeat' first|exact trivial|(apply af.mk<;>intro hb)|apply ax.mk)
 exact Fin.out hR ⟨rfl,rfl⟩
theorem ud (G:Gl) (hG:aw G) (l:List At) (H:List az) (hl:l.length<1099511627776):
 ag Tryz.prog G 25 [.list 2 (bq l),.list 2 (bq l)] H (fun r H'=>H'=H∧r= .bool true):=by
 have hll:=dk l
 have bF:=bS
 refine ag.aK TB [] aF _ Tryz.func25 rfl (by decide) Tryz.ntmps25 (by simp) rfl (by simp only[au,Nat.reduceAdd];rfl) fun C R' hR hC hcl hB=>?_;have X:=aO;have hC':=congrArg List.length hC
 have X:=And.intro aO hll
 (refine run ?_;with_reducible repeat' first|exact trivial|(apply af.mk<;>intro hb)|apply ax.mk)
 refine aC (fun i:Nat=>[(0,.list 2 (bq l)),(1,.list 2 (bq l)),(5,.int .i64 (i:Int))]) (fun _=>H) (fun i=>l.length - i) (fun i=>i≤l.length) 0 (Nat.zero_le _) ?_ ?_
 ·exact Wk.sub (by simp[bR,look])
 rintro K i hi hK
 rcases Nat.lt_or_ge i l.length with hlt|hge
 ·have hg:(bq l)[i]? =some (.agg [.str l[i].name,.int .i64 l[i].n]):=by simp[bq,At.cells,hlt]
  generalize l[i].name=s at*
  generalize l[i].n=v at*
  have X:=And.intro aO (And.intro hll hg)
  (refine run ?_;with_reducible repeat' first|exact trivial|(apply af.mk<;>intro hb)|apply ax.mk)
  refine hK _ _ (i+1) (by omega) (by omega) ?_
  exact Wk.sub (by simp[bR,look])
 clear hK
 obtain rfl:i=l.length:=by omega
 have X:=And.intro aO (And.intro hll (Int.lt_irrefl (l.length:Int)))
 (refine run ?_;with_reducible repeat' first|exact trivial|(apply af.mk<;>intro hb)|apply ax.mk)
 exact Fin.out hR ⟨rfl,rfl⟩
def MO (G:Gl) (M m:Nat):Prop:=
 (∀ (e:Sg) (H:List az),e.sz≤m→e.sz<1099511627776→s4 M e→ag Tryz.prog G 26 [e.sv,e.sv] H (fun r H'=>H'=H∧r= .bool true))∧
 (∀ (l:List Sb) (H:List az),ek l≤m→ek l<1099511627776→pJ M l→ag Tryz.prog G 9 [.list 8 (aX l),.list 8 (aX l)] H (fun r H'=>H'=H∧r= .bool true))
theorem FO (G:Gl) (hG:aw G) (M m:Nat) (hM:M<1099511627776) (ih:MO G M m) (e:Sg) (H:List az) (h1:e.sz≤m+1) (h2:e.sz<1099511627776) (h3:s4 M e):
 ag Tryz.prog G 26 [e.sv,e.sv] H (fun r H'=>H'=H∧r= .bool true):=by
 obtain⟨kd,nm,op,args,ad,binds,alts⟩:=e
 simp only[Sg.sz] at h1 h2
 simp only[s4] at h3
 have c1:=fun H=>ud G hG args H (by omega)
 have c2:=fun H=>ih.2 binds H (by omega) (by omega) h3.1
 have hsl:=sI ad
 have hal:=xS alts
 have hS:=qf ad
 have hA:=jk alts
 rw[show(Sg.mk kd nm op args ad binds alts).sv= .agg [.int .i64 kd,.str nm,.int .i64 op,.list 2 (bq args),.list 7 (cJ ad),.list 8 (aX binds),.list 11 (bU alts)] from rfl]
 have d2:=vi H.length [0,1] (by decide)
 have bF:=bS
 have dp:=da
 have dJ:=aY
 have mg:=cg
 refine ag.aK TB [] aF _ Tryz.func26 rfl (by decide) Tryz.ntmps26 (by simp) rfl (by simp only[au,Nat.reduceAdd];rfl) fun C R' hR hC hcl hB=>?_;have X:=aO;have hC':=congrArg List.length hC
 have X:=And.intro aO (And.intro hS hA)
 (refine run ?_;with_reducible repeat' first|exact trivial|(apply af.mk<;>intro hb)|apply ax.mk)
 refine aC (fun i:Nat=>[(2,.ptr H.length 0 0 0),(3,.ptr (H.length+1) 0 0 0),(5,.int .i64 (i:Int))]) (fun _=>H++[.cells 0 7 [.agg [.int .i64 kd,.str nm,.int .i64 op,.list 2 (bq args),.list 7 (cJ ad),.list 8 (aX binds),.list 11 (bU alts)]],.cells 0 7 [.agg [.int .i64 kd,.str nm,.int .i64 op,.list 2 (bq args),.list 7 (cJ ad),.list 8 (aX binds),.list 11 (bU alts)]]]) (fun i=>ad.length - i) (fun i=>i≤ad.length) 0 (Nat.zero_le _) ?_ ?_
 ·exact bB (n0:=H.length) [(H.length,0),(H.length+1,0)] hG hB hC' hcl (hd:=d2)
 rintro K i hi hK
 rcases Nat.lt_or_ge i ad.length with hlt|hge
 ·have hm2:=List.getElem_mem hlt
  have hsz2:=sJ hm2
  have hcj:=sH hlt
  have hcall:=fun H=>ih.1 ad[i] H (by omega) (by omega) (vC h3.2.1 hm2)
  rw[show ad[i].sv= .agg ad[i].cells from rfl] at hcall
  have hx7:=ad[i].aH
  have hx7t:=ad[i].aU
  have hx7d:ad[i].cells.drop 7=[]:=List.drop_eq_nil_of_le (by omega)
  generalize ad[i].cells=xc at*
  clear c1 c2
  have c1:=hcall
  have X:=And.intro aO (And.intro hS (And.intro hcj (And.intro hx7 (And.intro hx7t hx7d))))
  (refine run ?_;with_reducible repeat' first|exact trivial|(apply af.mk<;>intro hb)|apply ax.mk)
  refine hK _ _ (i+1) (by omega) (by omega) ?_
  exact bB (n0:=H.length) [(H.length,0),(H.length+1,0)] hG hB hC' hcl (hd:=d2)
 clear hK
 obtain rfl:i=ad.length:=by omega
 have X:=And.intro aO (And.intro hS (Int.lt_irrefl (ad.length:Int)))
 (refine run ?_;with_reducible repeat' first|exact trivial|(apply af.mk<;>intro hb)|apply ax.mk)
 refine aC (fun i:Nat=>[(2,.ptr H.length 0 0 0),(3,.ptr (H.length+1) 0 0 0),(6,.int .i64 (i:Int))]) (fun _=>H++[.cells 0 7 [.agg [.int .i64 kd,.str nm,.int .i64 op,.list 2 (bq args),.list 7 (cJ ad),.list 8 (aX binds),.list 11 (bU alts)]],.cells 0 7 [.agg [.int .i64 kd,.str nm,.int .i64 op,.list 2 (bq args),.list 7 (cJ ad),.list 8 (aX binds),.list 11 (bU alts)]]]) (fun i=>alts.length - i) (fun i=>i≤alts.length) 0 (Nat.zero_le _) ?_ ?_
 ·exact bB (n0:=H.length) [(H.length,0),(H.length+1,0)] hG hB hC' hcl (hd:=d2)
 rintro K i hi hK
 rcases Nat.lt_or_ge i alts.length with hlt|hge
 ·have hm2:=List.getElem_mem hlt
  have hsz2:=xT hm2
  have hszb:=alts[i].qG
  have hta:=Aw h3.2.2 hm2
  have hcj:=zh hlt
  have htn:alts[i].names.length≤M∧s4 M alts[i].body:=by
   generalize alts[i]=a at*
   obtain⟨⟩:=a
   simpa only[KF,Sl.names,Sl.body] using hta
  have hcall:=fun H=>ih.1 alts[i].body H (by omega) (by omega) htn.2
  have htx:=fun H=>pE G hG alts[i].names H (by omega)
  rw[show alts[i].body.sv= .agg alts[i].body.cells from rfl] at hcall
  have hx7:=alts[i].body.aH
  have hx7t:=alts[i].body.aU
  have hx7d:alts[i].body.cells.drop 7=[]:=List.drop_eq_nil_of_le (by omega)
  generalize alts[i].body.cells=xc at*
  clear c1 c2
  have c1:=hcall
  have c2:=htx
  have X:=And.intro aO (And.intro hA (And.intro hcj (And.intro hx7 (And.intro hx7t hx7d))))
  (refine run ?_;with_reducible repeat' first|exact trivial|(apply af.mk<;>intro hb)|apply ax.mk)
  refine hK _ _ (i+1) (by omega) (by omega) ?_
  exact bB (n0:=H.length) [(H.length,0),(H.length+1,0)] hG hB hC' hcl (hd:=d2)
 clear hK
 obtain rfl:i=alts.length:=by omega
 have X:=And.intro aO (And.intro hA (Int.lt_irrefl (alts.length:Int)))
 (refine run ?_;with_reducible repeat' first|exact trivial|(apply af.mk<;>intro hb)|apply ax.mk)
 exact aS (n0:=H.length) hR hC' hcl (.same _ rfl) ⟨rfl,rfl⟩
def Sb.args:Sb→List At| .mk _ _ _ _ _ _ a _=>a
theorem xM (G:Gl) (hG:aw G) (M m:Nat) (hM:M<1099511627776) (ih:∀ (e:Sg) (H:List az),e.sz≤m→e.sz<1099511627776→s4 M e→ag Tryz.prog G 26 [e.sv,e.sv] H (fun r H'=>H'=H∧r= .bool true)) (l:List Sb) (H:List az) (h1:ek l≤m+1) (h2:ek l<1099511627776) (h3:pJ M l):
 ag Tryz.prog G 9 [.list 8 (aX l),.list 8 (aX l)] H (fun r H'=>H'=H∧r= .bool true):=by
 have hbl:=cc l
 have hll:=xO l
 have bF:=bS
 have dp:=da
 have dJ:=aY
 have mg:=cg
 have d2:=vi H.length [0,1] (by decide)
 refine ag.aK TB [] aF _ Tryz.func9 rfl (by decide) Tryz.ntmps9 (by simp) rfl (by simp only[au,Nat.reduceAdd];rfl) fun C R' hR hC hcl hB=>?_;have X:=aO;have hC':=congrArg List.length hC
 have X:=And.intro aO hbl
 (refine run ?_;with_reducible repeat' first|exact trivial|(apply af.mk<;>intro hb)|apply ax.mk)
 refine aC (fun i:Nat=>[(0,.list 8 (aX l)),(1,.list 8 (aX l)),(5,.int .i64 (i:Int))]) (fun _=>H++[]) (fun i=>l.length - i) (fun i=>i≤l.length) 0 (Nat.zero_le _) ?_ ?_
 ·rw[List.append_nil]
  exact Wk.sub (by simp[bR,look])
 rintro K i hi hK
 rcases Nat.lt_or_ge i l.length with hlt|hge
 ·have hm:=List.getElem_mem hlt
  have hszm:=xP hm
  have hszb:=l[i].qG
  have htb:=Ax h3 hm
  have hcg:(aX l)[i]? =some l[i].sv:=by rw[gI];simp[hlt]
  have hsz0:1+l[i].args.length+iM l[i].body=l[i].sz:=by
   generalize l[i]=b
   obtain⟨⟩:=b
   rfl
  generalize l[i]=b at*
  obtain⟨bn,bk,bf,bp,bu,bc,ba,bb⟩:=b
  simp only[Sb.body,Sb.args] at hszb hsz0
  simp only[HG] at htb
  rw[show(Sb.mk bn bk bf bp bu bc ba bb).sv= .agg [.str bn,.int .i64 bk,.list 1 (bf.map .str),.list 1 (bp.map .str),.bool bu,.str bc,.list 2 (bq ba),.list 7 (cJ bb)] from rfl] at hcg
  have hbbl:=sI bb
  have hsl:=qf bb
  have c1:=fun H=>pE G hG bf H (by omega)
  have c2:=fun H=>pE G hG bp H (by omega)
  have c3:=fun H=>ud G hG ba H (by omega)
  have X:=And.intro aO (And.intro hcg (And.intro hbl hsl))
  (refine run ?_;with_reducible repeat' first|exact trivial|(apply af.mk<;>intro hb)|apply ax.mk)
  refine aC (fun j:Nat=>[(0,.list 8 (aX l)),(1,.list 8 (aX l)),(5,.int .i64 (i:Int)),(6,.ptr H.length 0 0 0),(7,.ptr (H.length+1) 0 0 0),(8,.int .i64 (j:Int))]) (fun _=>H++[.cells 0 8 [.agg [.str bn,.int .i64 bk,.list 1 (bf.map .str),.list 1 (bp.map .str),.bool bu,.str bc,.list 2 (bq ba),.list 7 (cJ bb)]],.cells 0 8 [.agg [.str bn,.int .i64 bk,.list 1 (bf.map .str),.list 1 (bp.map .str),.bool bu,.str bc,.list 2 (bq ba),.list 7 (cJ bb)]]]) (fun j=>bb.length - j) (fun j=>j≤bb.length) 0 (Nat.zero_le _) ?_ ?_
  ·exact bB (n0:=H.length) [(H.length,0),(H.length+1,0)] hG hB hC' hcl (hd:=d2)
  rintro K2 j hj hK2
  rcases Nat.lt_or_ge j bb.length with hltj|hgej
  ·have hm2:=List.getElem_mem hltj
   have hsz2:=sJ hm2
   have hcj:=sH hltj
   have hcall:=fun H=>ih bb[j] H (by omega) (by omega) (vC htb.2.2 hm2)
   rw[show bb[j].sv= .agg bb[j].cells from rfl] at hcall
   have hx7:=bb[j].aH
   have hx7t:=bb[j].aU
   have hx7d:bb[j].cells.drop 7=[]:=List.drop_eq_nil_of_le (by omega)
   generalize bb[j].cells=xc at*
   clear c1 c2 c3
   have c1:=hcall
   have X:=And.intro aO (And.intro hbl (And.intro hsl (And.intro hcj (And.intro hx7 (And.intro hx7t hx7d)))))
   (refine run ?_;with_reducible repeat' first|exact trivial|(apply af.mk<;>intro hb)|apply ax.mk)
   refine hK2 _ _ (j+1) (by omega) (by omega) ?_
   exact bB (n0:=H.length) [(H.length,0),(H.length+1,0)] hG hB hC' hcl (hd:=d2)
  clear hK2
  obtain rfl:j=bb.length:=by omega
  have X:=And.intro aO (And.intro hbl (And.intro hsl (Int.lt_irrefl (bb.length:Int))))
  (refine run ?_;with_reducible repeat' first|exact trivial|(apply af.mk<;>intro hb)|apply ax.mk)
  refine hK _ _ (i+1) (by omega) (by omega) ?_
  exact bB (n0:=H.length) [] hG hB hC' hcl
 clear hK
 obtain rfl:i=l.length:=by omega
 have X:=And.intro aO (And.intro hbl (Int.lt_irrefl (l.length:Int)))
 (refine run ?_;with_reducible repeat' first|exact trivial|(apply af.mk<;>intro hb)|apply ax.mk)
 exact aS (n0:=H.length) hR hC' hcl (.same _ rfl) ⟨rfl,rfl⟩
theorem vA (G:Gl) (hG:aw G) (M:Nat) (hM:M<1099511627776):∀ m,MO G M m
 |0=>⟨fun e H h _ _=>by have:=e.sS;omega,fun l H h1 h2 h3=>xM G hG M 0 hM (fun e H h _ _=>by have:=e.sS;omega) l H (by omega) h2 h3⟩
 |m+1=>⟨fun e H h1 h2 h3=>FO G hG M m hM (vA G hG M hM m) e H h1 h2 h3,fun l H h1 h2 h3=>xM G hG M m hM (vA G hG M hM m).1 l H h1 h2 h3⟩
end Go.Proofs.YtedejleokilohaaGreatDoor
