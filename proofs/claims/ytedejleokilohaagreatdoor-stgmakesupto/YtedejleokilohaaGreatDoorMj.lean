/- A part of the proof: G5, T3, G6, G7, G8, G9, G10, G11, G12, Z2, T2. Names and spaces are cut short by program. -/
import Derived.Test.YtedejleokilohaaGreatDoorMi
set_option linter.unusedSimpArgs false
set_option linter.unusedVariables false
set_option maxRecDepth 10000
set_option maxHeartbeats 4000000
namespace Go.Proofs.YtedejleokilohaaGreatDoor
open Go
theorem KH {H:List az} {tb mb g0 nx0:Nat} {T:List aI} (h1:H[tb]? =some (.map none (gT T))) (h2:H[mb]? =some (.cells g0 2 [.agg [.int .i64 (nx0:Int),.map tb]])):
 ∃ Q:Nat→List az,Q nx0=H∧(∀ nx:Nat,H.set mb (.cells g0 2 [.agg [.int .i64 (nx:Int),.map tb]])=Q nx)∧(∀ nx,(Q nx).length=H.length)∧
  ((∀ (nx:Nat) L,(Q nx++L)[mb]? =some (.cells g0 2 [.agg [.int .i64 (nx:Int),.map tb]]))∧(∀ (nx:Nat) L,(Q nx++L)[tb]? =some (.map none (gT T)))∧(∀ (nx nx':Nat) L,(Q nx++L).set mb (.cells g0 2 [.agg [.int .i64 (nx':Int),.map tb]])=Q nx'++L))∧(closed H→∀ nx,closed (Q nx)):=by
 have l1:=(List.getElem?_eq_some_iff.1 h1).1
 have l2:=(List.getElem?_eq_some_iff.1 h2).1
 have hne:tb≠mb:=fun e=>by
  rw[e,h2] at h1
  cases h1
 refine⟨fun nx=>H.set mb (.cells g0 2 [.agg [.int .i64 (nx:Int),.map tb]]),dV h2,fun _=>rfl,fun nx=>by simp,⟨fun nx L=>?_,fun nx L=>?_,fun nx nx' L=>?_⟩,fun hc nx=>hc.set ?_⟩
 ·rw[List.getElem?_append_left (by simpa using l2),List.getElem?_set_self (by simpa using l2)]
 ·rw[List.getElem?_append_left (by simpa using l1),List.getElem?_set_ne (fun e=>hne e.symm),h1]
 ·rw[fV (by simpa using l2),List.set_set]
 ·simp only[az.under,SV.aB,SV.under,l1,decide_true,Bool.and_self]
def vL (G:Gl) (cs:List Cn) (T:List aI) (P:Ex→Prop) (B:aI→Ex→Bool→Nat→List Sb×Nat):Prop:=
 ∀ (s:aI) (e:Ex) (u:Bool) (H:List az) (tb mb g0 nx:Nat),P e→e.wt<67108864→Sh cs e→nx+e.wt≤4294967290+(if e.kind=3 then 1 else 0)→H[tb]? =some (.map none (gT T))→H[mb]? =some (.cells g0 2 [.agg [.int .i64 (nx:Int),.map tb]])→
  ag Tryz.prog G 21 [.ptr mb g0 0 0,.str s,e.sv,.bool u] H (fun r H'=>H'=H.set mb (.cells g0 2 [.agg [.int .i64 ((B s e u nx).2:Int),.map tb]])∧r= .list 8 (aX (B s e u nx).1))
def vM (G:Gl) (cs:List Cn) (T:List aI) (P:Ex→Prop) (E:Ex→Nat→Sg×Nat):Prop:=
 ∀ (e:Ex) (H:List az) (tb mb g0 nx:Nat),P e→e.wt<67108864→Sh cs e→nx+e.wt≤4294967290→H[tb]? =some (.map none (gT T))→H[mb]? =some (.cells g0 2 [.agg [.int .i64 (nx:Int),.map tb]])→
  ag Tryz.prog G 59 [.ptr mb g0 0 0,e.sv] H (fun r H'=>H'=H.set mb (.cells g0 2 [.agg [.int .i64 ((E e nx).2:Int),.map tb]])∧r=(E e nx).1.sv)
theorem Ex.bY (e:Ex):List.drop 8 e.cells=[]:=List.drop_eq_nil_of_le (by rw[e.aH];exact Nat.le_refl _)
theorem qX (G:Gl) (hG:aw G) (C0:Cx) (hb0:G.base=some C0) (hl0:gZ C0) (cs:List Cn) (T:List aI) (P:Ex→Prop) (B:aI→Ex→Bool→Nat→List Sb×Nat) (hBd:vL G cs T P B) (hcnt:oZ cs B)
 (l:List Ex) (H:List az) (tb mb g0 nx0:Nat) (hl:∀ x∈l,P x∧Sh cs x) (hw:bt l<67108864) (hnx:nx0+bt l+1≤4294967290) (h1:H[tb]? =some (.map none (gT T))) (h2:H[mb]? =some (.cells g0 2 [.agg [.int .i64 (nx0:Int),.map tb]])):
 ag Tryz.prog G 60 [.ptr mb g0 0 0,.list 8 (aj l)] H (fun r H'=>H'=H.set mb (.cells g0 2 [.agg [.int .i64 ((aM B l nx0).2:Int),.map tb]])∧r= .tuple [.list 2 (bq (aM B l nx0).1.1),.list 9 (bO (aM B l nx0).1.2)]):=by
 have hle:=gU l
 have l2:=(List.getElem?_eq_some_iff.1 h2).1
 have bF:=bS
 have dp:=dD
 obtain⟨Q,q0,qd,hlenQ,qx,qc⟩:=KH h1 h2
 simp only[qd]
 rw[← q0]
 refine ag.aK TB [6,7] aF _ Tryz.func60 rfl (by decide) Tryz.ntmps60 (by simp) rfl (by simp only[au,Nat.reduceAdd];rfl) fun C R' hR hC hcl hB=>?_;have X:=aO;have hC':=congrArg List.length hC
 have hC':=hC'.trans (hlenQ _)
 have hcls:∀ nx,closed (Q nx):=fun nx=>qc (q0 ▸ hcl) nx
 clear q0 h1 h2
 generalize hn0:H.length=n0 at*
 have hx21:=hlenQ
 have hx22:∀ nx L,(Q nx++L)[n0]? =L[0]? :=fun nx L=>by rw[← hlenQ nx];exact dh _ _
 have hx23:∀ nx L k,(Q nx++L)[n0+k]? =L[k]? :=fun nx L k=>by rw[← hlenQ nx];exact bJ _ _ _
 have hx24:∀ nx L x,(Q nx++L).set n0 x=Q nx++L.set 0 x:=fun nx L x=>by rw[← hlenQ nx];exact dB _ _ _
 have hx25:∀ nx L k x,(Q nx++L).set (n0+k) x=Q nx++L.set k x:=fun nx L k x=>by rw[← hlenQ nx];exact cq _ _ _ _
 have d2:=vi n0 [0,1] (by decide)
 have X:=And.intro aO (And.intro qx (And.intro hx21 (And.intro hx22 (And.intro hx23 (And.intro hx24 hx25)))))
 (refine run ?_;with_reducible repeat' first|exact trivial|(apply af.mk<;>intro hb)|apply ax.mk)
 refine aC (fun a:Nat×List At×List Ar×Nat=>[(0,.ptr mb g0 0 0),(6,.sl n0 0 0 a.2.1.length),(7,.sl (n0+1) 0 0 a.2.2.1.length),(12,.list 8 (aj l)),(13,.int .i64 l.length),(14,.int .i64 (a.1:Int))])
  (fun a=>Q a.2.2.2++[.cells 0 2 (bq a.2.1),.cells 0 9 (bO a.2.2.1)]) (fun a=>l.length - a.1)
  (fun a=>(a.1≤l.length∧a.2.1.length=a.1∧a.2.2.1.length≤a.1∧a.2.2.2+bt (l.drop a.1)≤nx0+bt l)∧aM B l nx0=((a.2.1++(aM B (l.drop a.1) a.2.2.2).1.1,a.2.2.1++(aM B (l.drop a.1) a.2.2.2).1.2),(aM B (l.drop a.1) a.2.2.2).2)) (0,[],[],nx0) ⟨⟨Nat.zero_le _,rfl,Nat.le_refl _,Nat.le_refl _⟩,rfl⟩ ?_ ?_
 ·simp only[show bq []=[] from rfl,show bO []=[] from rfl,List.length_nil]
  exact bB (n0:=n0) [(n0,0),(n0+1,0)] hG hB hC' (hcls _) (hn:=hlenQ _) (hd:=d2)
 rintro K ⟨i,A,W,nx⟩ ⟨⟨hi,hA,hW,hnw⟩,hmp⟩ hK
 simp only at hi hA hW hnw hmp
 dsimp only
 rcases Nat.lt_or_ge i l.length with hlt|hge
 ·have hmem:=List.getElem_mem hlt
  have hxw:=cH hmem
  have hdr:=ir hlt
  obtain⟨hP,hsh⟩:=hl _ hmem
  obtain⟨ni,cut2⟩:=qW hlt hmp
  have hcg:(aj l)[i]? =some (.agg l[i].cells):=ga hlt
  have c1:=fun H=>sj G hG l[i] H
  have hcb:=fun L=>hBd (eB bW nx) l[i] true (Q (nx+1)++L) tb mb g0 (nx+1) hP (by omega) hsh (by split<;>omega) (qx.2.1 _ _) (qx.1 _ _)
  have hcn:=hcnt (eB bW nx) l[i] true (nx+1) hsh
  have hx8:=l[i].aH
  have hx8d:=l[i].bY
  have hx8t:=l[i].aU
  have hpos:=l[i].bz
  have hat:Cc l[i]=⟨l[i].name,l[i].n⟩:=rfl
  rw[hat] at ni
  clear hat
  rw[show l[i].sv= .agg l[i].cells from rfl] at*
  generalize pn l[i]=b at*
  generalize l[i].name=xn at*
  generalize l[i].n=xv at*
  generalize B (eB bW nx) l[i] true (nx+1)=r0 at*
  obtain⟨bs,nx2⟩:=r0
  simp only at cut2 hcb hcn
  generalize l[i].wt=xw at*
  generalize l[i].cells=xc at*
  have hAl:=dk A
  have hWl:=e9 W
  have hsn:=cx A ⟨xn,xv⟩
  have hsn2:=cx A ⟨eB bW nx,0⟩
  have hsn3:=nH W (.bs bs)
  simp only[Ar.cells,HF] at hsn hsn2 hsn3
  cases b
  ·have cut2:=cut2 rfl
   have X:=And.intro (And.intro aO (And.intro qx (And.intro hx21 (And.intro hx22 (And.intro hx23 (And.intro hx24 hx25)))))) (And.intro hcg (And.intro hx8 (And.intro hx8d (And.intro hx8t (And.intro hAl (And.intro hWl (And.intro hsn2 hsn3)))))))
   (refine run ?_;with_reducible repeat' first|exact trivial|(apply af.mk<;>intro hb)|apply ax.mk)
   refine bh (nU G hG C0 hb0 hl0 mb g0 nx (.map tb) _ (qx.1 _ _) (by omega)) ?_
   rintro r H' ⟨rfl,rfl⟩
   rw[qx.2.2]
   generalize eB bW nx=tt at*
   (refine run ?_;with_reducible repeat' first|exact trivial|(apply af.mk<;>intro hb)|apply ax.mk)
   refine bh (hcb _) ?_
   rintro r H' ⟨rfl,rfl⟩
   rw[qx.2.2]
   (refine run ?_;with_reducible repeat' first|exact trivial|(apply af.mk<;>intro hb)|apply ax.mk)
   refine hK _ _ (i+1,A++[⟨tt,0⟩],W++[.bs bs],nx2) (by simp only;omega) ⟨⟨by simp only;omega,by simp only[List.length_append,List.length_cons,List.length_nil];omega,by simp only[List.length_append,List.length_cons,List.length_nil];omega,by simp only;omega⟩,cut2⟩ ?_
   simp only[List.length_append,List.length_cons,List.length_nil]
   exact bB (n0:=n0) [(n0,0),(n0+1,0)] hG hB hC' (hcls _) (hn:=hlenQ _) (hd:=d2)
  ·have ni:=ni rfl
   have X:=And.intro (And.intro aO (And.intro qx (And.intro hx21 (And.intro hx22 (And.intro hx23 (And.intro hx24 hx25)))))) (And.intro hcg (And.intro hx8 (And.intro hx8d (And.intro hx8t (And.intro hAl (And.intro hWl hsn))))))
   (refine run ?_;with_reducible repeat' first|exact trivial|(apply af.mk<;>intro hb)|apply ax.mk)
   refine hK _ _ (i+1,A++[⟨xn,xv⟩],W,nx) (by simp only;omega) ⟨⟨by simp only;omega,by simp only[List.length_append,List.length_cons,List.length_nil];omega,by simp only;omega,by simp only;omega⟩,ni⟩ ?_
   simp only[List.length_append,List.length_cons,List.length_nil]
   exact bB (n0:=n0) [(n0,0),(n0+1,0)] hG hB hC' (hcls _) (hn:=hlenQ _) (hd:=d2)
 clear hK
 have hni:¬ (i:Int)<(l.length:Int):=by omega
 rw[List.drop_eq_nil_of_le hge] at hmp
 simp only[aM,List.append_nil] at hmp
 rw[hmp] at hR
 simp only at hR
 have X:=And.intro (And.intro aO (And.intro qx (And.intro hx21 (And.intro hx22 (And.intro hx23 (And.intro hx24 hx25)))))) hni
 (refine run ?_;with_reducible repeat' first|exact trivial|(apply af.mk<;>intro hb)|apply ax.mk)
 exact aS (n0:=n0) hR hC' (hcls _) (.tuple _ _ (.cons _ _ _ _ (bV.sf (g:=0) (sz:=2) (vals:=bq A) (by rw[hx22];rfl) (by omega) (by simp) (by simp) (bS _ _)) (.cons _ _ _ _ (bV.sf (g:=0) (sz:=9) (vals:=bO W) (by rw[hx23];rfl) (by omega) (by simp) (by simp) (dD _ _)) .nil))) ⟨rfl,rfl⟩ (hn:=hlenQ _)
theorem BL (G:Gl) (hG:aw G) (C0:Cx) (hb0:G.base=some C0) (hl0:gZ C0) (cs:List Cn) (T:List aI) (P:Ex→Prop) (E:Ex→Nat→Sg×Nat) (hEx:vM G cs T P E) (hcnt:o4 cs E)
 (l:List Ex) (H:List az) (tb mb g0 nx0:Nat) (hl:∀ x∈l,P x∧Sh cs x) (hw:bt l<67108864) (hnx:nx0+bt l+1≤4294967290) (h1:H[tb]? =some (.map none (gT T))) (h2:H[mb]? =some (.cells g0 2 [.agg [.int .i64 (nx0:Int),.map tb]])):
 ag Tryz.prog G 110 [.ptr mb g0 0 0,.list 8 (aj l)] H (fun r H'=>H'=H.set mb (.cells g0 2 [.agg [.int .i64 ((bG E l nx0).2:Int),.map tb]])∧r= .tuple [.list 2 (bq (bG E l nx0).1.1),.list 9 (bO (bG E l nx0).1.2)]):=by
 have hle:=gU l
 have l2:=(List.getElem?_eq_some_iff.1 h2).1
 have bF:=bS
 have dp:=dD
 obtain⟨Q,q0,qd,hlenQ,qx,qc⟩:=KH h1 h2
 simp only[qd]
 rw[← q0]
 refine ag.aK TB [6,7] aF _ Tryz.func110 rfl (by decide) Tryz.ntmps110 (by simp) rfl (by simp only[au,Nat.reduceAdd];rfl) fun C R' hR hC hcl hB=>?_;have X:=aO;have hC':=congrArg List.length hC
 have hC':=hC'.trans (hlenQ _)
 have hcls:∀ nx,closed (Q nx):=fun nx=>qc (q0 ▸ hcl) nx
 clear q0 h1 h2
 generalize hn0:H.length=n0 at*
 have hx21:=hlenQ
 have hx22:∀ nx L,(Q nx++L)[n0]? =L[0]? :=fun nx L=>by rw[← hlenQ nx];exact dh _ _
 have hx23:∀ nx L k,(Q nx++L)[n0+k]? =L[k]? :=fun nx L k=>by rw[← hlenQ nx];exact bJ _ _ _
 have hx24:∀ nx L x,(Q nx++L).set n0 x=Q nx++L.set 0 x:=fun nx L x=>by rw[← hlenQ nx];exact dB _ _ _
 have hx25:∀ nx L k x,(Q nx++L).set (n0+k) x=Q nx++L.set k x:=fun nx L k x=>by rw[← hlenQ nx];exact cq _ _ _ _
 have d2:=vi n0 [0,1] (by decide)
 have X:=And.intro aO (And.intro qx (And.intro hx21 (And.intro hx22 (And.intro hx23 (And.intro hx24 hx25)))))
 (refine run ?_;with_reducible repeat' first|exact trivial|(apply af.mk<;>intro hb)|apply ax.mk)
 refine aC (fun a:Nat×List At×List Ar×Nat=>[(0,.ptr mb g0 0 0),(6,.sl n0 0 0 a.2.1.length),(7,.sl (n0+1) 0 0 a.2.2.1.length),(12,.list 8 (aj l)),(13,.int .i64 l.length),(14,.int .i64 (a.1:Int))])
  (fun a=>Q a.2.2.2++[.cells 0 2 (bq a.2.1),.cells 0 9 (bO a.2.2.1)]) (fun a=>l.length - a.1)
  (fun a=>(a.1≤l.length∧a.2.1.length=a.1∧a.2.2.1.length≤a.1∧a.2.2.2+bt (l.drop a.1)≤nx0+bt l)∧bG E l nx0=((a.2.1++(bG E (l.drop a.1) a.2.2.2).1.1,a.2.2.1++(bG E (l.drop a.1) a.2.2.2).1.2),(bG E (l.drop a.1) a.2.2.2).2)) (0,[],[],nx0) ⟨⟨Nat.zero_le _,rfl,Nat.le_refl _,Nat.le_refl _⟩,rfl⟩ ?_ ?_
 ·simp only[show bq []=[] from rfl,show bO []=[] from rfl,List.length_nil]
  exact bB (n0:=n0) [(n0,0),(n0+1,0)] hG hB hC' (hcls _) (hn:=hlenQ _) (hd:=d2)
 rintro K ⟨i,A,W,nx⟩ ⟨⟨hi,hA,hW,hnw⟩,hmp⟩ hK
 simp only at hi hA hW hnw hmp
 dsimp only
 rcases Nat.lt_or_ge i l.length with hlt|hge
 ·have hmem:=List.getElem_mem hlt
  have hxw:=cH hmem
  have hdr:=ir hlt
  obtain⟨hP,hsh⟩:=hl _ hmem
  obtain⟨ni,cut2⟩:=BK hlt hmp
  have hcg:(aj l)[i]? =some (.agg l[i].cells):=ga hlt
  have hcb:=fun L=>hEx l[i] (Q (nx+1)++L) tb mb g0 (nx+1) hP (by omega) hsh (by omega) (qx.2.1 _ _) (qx.1 _ _)
  have hcn:=hcnt l[i] (nx+1) hsh
  have hpos:=l[i].bz
  generalize hE:E l[i] (nx+1)=r0 at*
  clear hE
  obtain⟨y,nx2⟩:=r0
  simp only at cut2 hcb hcn
  generalize l[i].wt=xw at*
  clear hP hsh hmem
  generalize l[i]=x at*
  obtain⟨k2,n2,nn2,op2,ns2,ss2,bs2,as2⟩:=x
  have c1:=fun H=>sj G hG (.mk k2 n2 nn2 op2 ns2 ss2 bs2 as2) H
  simp only[Ex.name,Ex.n,Ex.kind,Cc] at c1 ni cut2
  rw[show(Ex.mk k2 n2 nn2 op2 ns2 ss2 bs2 as2).cells=[.int .i64 k2,.str n2,.int .i64 nn2,.int .i64 op2,.list 1 (ns2.map .str),.list 8 (aj ss2),.list 9 (ao bs2),.list 12 (aA as2)] from rfl] at hcg
  rw[show(Ex.mk k2 n2 nn2 op2 ns2 ss2 bs2 as2).sv= .agg [.int .i64 k2,.str n2,.int .i64 nn2,.int .i64 op2,.list 1 (ns2.map .str),.list 8 (aj ss2),.list 9 (ao bs2),.list 12 (aA as2)] from rfl] at*
  have hAl:=dk A
  have hWl:=e9 W
  have hsn:=cx A ⟨n2,nn2⟩
  have hsn2:=cx A ⟨eB bW nx,0⟩
  have hsn3:bO W++[.agg (.nil:: .str (eB bW nx)::(y.cells++[]))]=bO (W++[.look (eB bW nx) y]):=by rw[List.append_nil];exact nH W (.look (eB bW nx) y)
  have hy7:=y.aH
  have hy7t:=y.aU
  have hy7d:y.cells.drop 7=[]:=List.drop_eq_nil_of_le (by omega)
  by_cases hk:k2=2
  rotate_left
  ·have cut2:=cut2 hk
   have X:=And.intro (And.intro aO (And.intro qx (And.intro hx21 (And.intro hx22 (And.intro hx23 (And.intro hx24 hx25)))))) (And.intro hcg (And.intro hk (And.intro hAl (And.intro hWl (And.intro hsn2 (And.intro hsn3 (And.intro hy7 (And.intro hy7t hy7d))))))))
   (refine run ?_;with_reducible repeat' first|exact trivial|(apply af.mk<;>intro hb)|apply ax.mk)
   refine bh (nU G hG C0 hb0 hl0 mb g0 nx (.map tb) _ (qx.1 _ _) (by omega)) ?_
   rintro r H' ⟨rfl,rfl⟩
   rw[qx.2.2]
   generalize eB bW nx=tt at*
   (refine run ?_;with_reducible repeat' first|exact trivial|(apply af.mk<;>intro hb)|apply ax.mk)
   refine dq (hcb _) ?_
   rintro r H' ⟨rfl,rfl⟩
   rw[qx.2.2,show y.sv= .agg y.cells from rfl]
   (refine run ?_;with_reducible repeat' first|exact trivial|(apply af.mk<;>intro hb)|apply ax.mk)
   refine hK _ _ (i+1,A++[⟨tt,0⟩],W++[.look tt y],nx2) (by simp only;omega) ⟨⟨by simp only;omega,by simp only[List.length_append,List.length_cons,List.length_nil];omega,by simp only[List.length_append,List.length_cons,List.length_nil];omega,by simp only;omega⟩,cut2⟩ ?_
   simp only[List.length_append,List.length_cons,List.length_nil]
   exact bB (n0:=n0) [(n0,0),(n0+1,0)] hG hB hC' (hcls _) (hn:=hlenQ _) (hd:=d2)
  ·have ni:=ni hk
   have X:=And.intro (And.intro aO (And.intro qx (And.intro hx21 (And.intro hx22 (And.intro hx23 (And.intro hx24 hx25)))))) (And.intro hcg (And.intro hk (And.intro hAl (And.intro hWl hsn))))
   (refine run ?_;with_reducible repeat' first|exact trivial|(apply af.mk<;>intro hb)|apply ax.mk)
   refine hK _ _ (i+1,A++[⟨n2,nn2⟩],W,nx) (by simp only;omega) ⟨⟨by simp only;omega,by simp only[List.length_append,List.length_cons,List.length_nil];omega,by simp only;omega,by simp only;omega⟩,ni⟩ ?_
   simp only[List.length_append,List.length_cons,List.length_nil]
   exact bB (n0:=n0) [(n0,0),(n0+1,0)] hG hB hC' (hcls _) (hn:=hlenQ _) (hd:=d2)
 clear hK
 have hni:¬ (i:Int)<(l.length:Int):=by omega
 rw[List.drop_eq_nil_of_le hge] at hmp
 simp only[bG,List.append_nil] at hmp
 rw[hmp] at hR
 simp only at hR
 have X:=And.intro (And.intro aO (And.intro qx (And.intro hx21 (And.intro hx22 (And.intro hx23 (And.intro hx24 hx25)))))) hni
 (refine run ?_;with_reducible repeat' first|exact trivial|(apply af.mk<;>intro hb)|apply ax.mk)
 exact aS (n0:=n0) hR hC' (hcls _) (.tuple _ _ (.cons _ _ _ _ (bV.sf (g:=0) (sz:=2) (vals:=bq A) (by rw[hx22];rfl) (by omega) (by simp) (by simp) (bS _ _)) (.cons _ _ _ _ (bV.sf (g:=0) (sz:=9) (vals:=bO W) (by rw[hx23];rfl) (by omega) (by simp) (by simp) (dD _ _)) .nil))) ⟨rfl,rfl⟩ (hn:=hlenQ _)
theorem Dh {l j:List aI} {i:Nat} (h:i<l.length):((l++j).map SV.str)[i]? =some (.str l[i]):=by
 rw[List.getElem?_map,List.getElem?_append_left h,List.getElem?_eq_getElem h];rfl
theorem A7 (G:Gl) (hG:aw G) (f:SV) (p:aI→Bool) (l j:List aI) (H:List az) (id g:Nat) (hid:H[id]? =some (.cells g 1 ((l++j).map .str))) (hl:l.length<1099511627776) (hfu:f.under H.length=true)
 (hf:∀ n,bL Tryz.prog G f [.str n] H (fun r H'=>H'=H∧r= .bool (p n))):
 ag Tryz.prog G 105 [.sl id g 0 l.length,f] H (fun r H'=>H'=H∧r= .int .i64 (match l.findIdx? p with|some i=>(i:Int)|none=> -1)):=by
 refine ag.aK TB [] aF _ Tryz.func105 rfl (by decide) Tryz.ntmps105 (by simp) rfl (by simp only[au,Nat.reduceAdd];rfl) fun C R' hR hC hcl hB=>?_;have X:=aO;have hC':=congrArg List.length hC
 have X:=And.intro X hid
 (refine run ?_;with_reducible repeat' first|exact trivial|(apply af.mk<;>intro hb)|apply ax.mk)
 refine aC (fun i:Nat=>[(0,.sl id g 0 l.length),(1,f),(7,.int .i64 l.length),(8,.int .i64 i)]) (fun _=>H) (fun i=>l.length - i) (fun i=>i≤l.length∧∀ x∈l.take i,p x=false) 0 ⟨Nat.zero_le _,by simp⟩ (Wk.sub (by simp[bR,look])) ?_
 rintro K i ⟨hi,hno⟩ hK
 rcases Nat.lt_or_ge i l.length with hlt|hge
 ·have e1:=Dh (j:=j) hlt
  have X:=And.intro X e1
  (refine run ?_;with_reducible repeat' first|exact trivial|(apply af.mk<;>intro hb)|apply ax.mk)
  refine fB (hf l[i]) ?_
  rintro r H' ⟨rfl,rfl⟩
  cases hb:p l[i]
  ·(refine run ?_;with_reducible repeat' first|exact trivial|(apply af.mk<;>intro hb)|apply ax.mk)
   refine hK _ _ (i+1) (by omega) ⟨by omega,?_⟩ (Wk.sub (by simp[bR,look]))
   rw[List.take_succ_eq_append_getElem hlt]
   intro x hx
   rcases List.mem_append.1 hx with hx|hx
   ·exact hno x hx
   ·rw[List.mem_singleton.1 hx];exact hb
  ·have hfi:l.findIdx? p=some i:=by
    rw[List.findIdx?_eq_some_iff_getElem]
    refine⟨hlt,hb,fun j hj=>?_⟩
    have:=hno (l[j]'(by omega)) (by rw[List.mem_take_iff_getElem];exact⟨j,by omega,rfl⟩)
    simp[this]
   (refine run ?_;with_reducible repeat' first|exact trivial|(apply af.mk<;>intro hb)|apply ax.mk)
   exact Fin.out hR ⟨rfl,by simp only[bA,hfi]⟩
 ·obtain rfl:i=l.length:=by omega
  clear hK
  have X:=And.intro X (Int.lt_irrefl (l.length:Int))
  (refine run ?_;with_reducible repeat' first|exact trivial|(apply af.mk<;>intro hb)|apply ax.mk)
  have hfi:l.findIdx? p=none:=by rw[List.findIdx?_eq_none_iff];rw[List.take_length] at hno;exact hno
  exact Fin.out hR ⟨rfl,by simp only[bA,hfi]⟩
theorem lE (p:aI→Bool) (l:List aI) (x:aI):(l++[x]).filter p=l.filter p++if p x then [x] else []:=by
 rw[List.filter_append,List.filter_cons];rfl
theorem AO (G:Gl) (hG:aw G) (f:SV) (p:aI→Bool) (l j:List aI) (H:List az) (id g:Nat) (hid:H[id]? =some (.cells g 1 ((l++j).map .str))) (hl:l.length<1099511627776) (hfu:f.under H.length=true)
 (hf:∀ (n:aI) (vs:List SV),bL Tryz.prog G f [.str n] (H.set id (.cells g 1 vs)) (fun r H'=>H'=H.set id (.cells g 1 vs)∧r= .bool (p n))):
 ag Tryz.prog G 56 [.sl id g 0 l.length,f] H (fun r H'=>∃ j':List aI,H'=H.set id (.cells g 1 ((l.filter (fun n=>!p n)++j').map .str))∧r= .sl id g 0 (l.filter (fun n=>!p n)).length):=by
 have li:=(List.getElem?_eq_some_iff.1 hid).1
 obtain⟨Q,q0,qd,hlen,qx,qc⟩:=Cr hid
 simp only[← qd] at hf ⊢
 have hidx:=fun n=>hf n ((l++j).map .str)
 have hix:=A7 G hG f p l j (Q ((l++j).map .str)) id g (qx.1 _) hl (by rw[hlen];exact hfu) hidx
 rw[← q0]
 refine ag.aK TB [] aF _ Tryz.func56 rfl (by decide) Tryz.ntmps56 (by simp) rfl (by simp only[au,Nat.reduceAdd];rfl) fun C R' hR hC hcl hB=>?_;have X:=aO;have hC':=congrArg List.length hC
 have hC':=hC'.trans (hlen _)
 have hcls:∀ xs:List aI,closed (Q (xs.map .str)):=fun xs=>qc (q0 ▸ hcl) _ (SV.bX fun _ _=>rfl)
 generalize H.length=n0 at*
 have X:=And.intro X qx
 (refine run ?_;with_reducible repeat' first|exact trivial|(apply af.mk<;>intro hb)|apply ax.mk)
 refine bh hix ?_
 rintro r H' ⟨rfl,rfl⟩
 cases hr:l.findIdx? p with
 |none=>
  simp only
  (refine run ?_;with_reducible repeat' first|exact trivial|(apply af.mk<;>intro hb)|apply ax.mk)
  have e:l.filter (fun n=>!p n)=l:=by
   rw[List.filter_eq_self]
   intro x hx
   rw[List.findIdx?_eq_none_iff] at hr
   simp[hr x hx]
  exact Fin.out hR ⟨j,by rw[e],by rw[e];rfl⟩
 |some i0=>
  obtain⟨hi0,hpi,hno⟩:=List.findIdx?_eq_some_iff_getElem.1 hr
  simp only
  have hne:¬ (i0:Int)= -1:=by omega
  have X:=And.intro X hne
  (refine run ?_;with_reducible repeat' first|exact trivial|(apply af.mk<;>intro hb)|apply ax.mk)
  have hf0:(l.take (i0+1)).filter (fun n=>!p n)=l.take i0:=by
   rw[List.take_succ_eq_append_getElem hi0,lE,hpi]
   simp only[Bool.not_true,Bool.false_eq_true,if_false,List.append_nil]
   rw[List.filter_eq_self]
   intro x hx
   obtain⟨q,hq,rfl⟩:=List.mem_take_iff_getElem.1 hx
   have:=hno q (by omega)
   simpa using this
  have hfl0:((l.take (i0+1)).filter (fun n=>!p n)).length=i0:=by rw[hf0,List.length_take];omega
  refine aC (fun a:Nat×List aI=>[(0,.sl id g 0 l.length),(1,f),(5,.int .i64 (((l.take a.1).filter (fun n=>!p n)).length:Int)),(6,.int .i64 (a.1:Int))]) (fun a=>Q (a.2.map .str)++[]) (fun a=>l.length - a.1)
   (fun a=>(a.1≤l.length∧a.2.length=l.length+j.length)∧(∀ q,a.1≤q→a.2[q]? =(l++j)[q]?)∧((l.take a.1).filter (fun n=>!p n)).length<a.1∧a.2.take ((l.take a.1).filter (fun n=>!p n)).length=(l.take a.1).filter (fun n=>!p n)) (i0+1,l++j) ⟨⟨by simp only;omega,by simp⟩,fun q _=>rfl,by simp only;omega,?_⟩ ?_ ?_
  ·simp only
   rw[hfl0,hf0,List.take_append_of_le_length (by omega)]
  ·simp only[List.append_nil,hfl0]
   exact Wk.sub (by simp[bR,look])
  clear X
  rintro K ⟨m,xs⟩ ⟨⟨hm,hxl⟩,hxs,hlt0,htk⟩ hK
  simp only at hm hxl hxs hlt0 htk
  dsimp only
  have hxl':(xs.map SV.str).length=l.length+j.length:=by rw[List.length_map,hxl]
  rcases Nat.lt_or_ge m l.length with hlt|hge
  ·have ht:=List.take_succ_eq_append_getElem hlt
   have hfs:=lE (fun n=>!p n) (l.take m) l[m]
   rw[← ht] at hfs
   have f1:=hxs m (Nat.le_refl _)
   rw[List.getElem?_append_left hlt,List.getElem?_eq_getElem hlt] at f1
   have f1':(xs.map SV.str)[m]? =some (.str l[m]):=by rw[List.getElem?_map,f1];rfl
   have hcall:=hf l[m] (xs.map .str)
   generalize l[m]=x at*
   generalize hF:((l.take m).filter (fun n=>!p n)).length=F at*
   have hFx:F<xs.length:=by omega
   obtain⟨y,hy⟩:∃ y,xs[F]? =some y:=⟨_,List.getElem?_eq_getElem hFx⟩
   have hy':(xs.map SV.str)[F]? =some (.str y):=by rw[List.getElem?_map,hy];rfl
   have hset:(xs.map SV.str).set F (.str x)=(xs.set F x).map SV.str:=by rw[List.map_set]
   have X:=And.intro aO (And.intro qx (And.intro f1' (And.intro hy' (And.intro hxl' hset))))
   rw[List.append_nil]
   (refine run ?_;with_reducible repeat' first|exact trivial|(apply af.mk<;>intro hb)|apply ax.mk)
   refine fB hcall ?_
   rintro r H' ⟨rfl,rfl⟩
   cases hpx:p x
   ·simp only[hpx,Bool.not_false,if_true] at hfs
    have hF2:((l.take (m+1)).filter (fun n=>!p n)).length=F+1:=by rw[hfs,List.length_append,hF];rfl
    (refine run ?_;with_reducible repeat' first|exact trivial|(apply af.mk<;>intro hb)|apply ax.mk)
    refine hK _ _ (m+1,xs.set F x) (by simp only;omega) ⟨⟨by simp only;omega,by simpa using hxl⟩,fun q hq=>?_,by simp only[hF2];omega,?_⟩ ?_
    ·simp only at hq
     rw[List.getElem?_set_ne (by omega)]
     exact hxs q (by omega)
    ·show(xs.set F x).take ((l.take (m+1)).filter (fun n=>!p n)).length=(l.take (m+1)).filter (fun n=>!p n)
     rw[hF2,hfs,List.take_succ_eq_append_getElem (by simpa using hFx),List.getElem_set_self,List.take_set_of_le (Nat.le_refl _),htk]
    ·simp only[hF2]
     rw[List.append_nil]
     exact Wk.sub (by simp[bR,look])
   ·simp only[hpx,Bool.not_true,Bool.false_eq_true,if_false,List.append_nil] at hfs
    have hF2:((l.take (m+1)).filter (fun n=>!p n)).length=F:=by rw[hfs,hF]
    (refine run ?_;with_reducible repeat' first|exact trivial|(apply af.mk<;>intro hb)|apply ax.mk)
    refine hK _ _ (m+1,xs) (by simp only;omega) ⟨⟨by simp only;omega,hxl⟩,fun q hq=>hxs q (by simp only at hq;omega),by simp only[hF2];omega,?_⟩ ?_
    ·show xs.take ((l.take (m+1)).filter (fun n=>!p n)).length=(l.take (m+1)).filter (fun n=>!p n)
     rw[hF2,hfs];exact htk
    ·simp only[hF2]
     rw[List.append_nil]
     exact Wk.sub (by simp[bR,look])
  ·obtain rfl:m=l.length:=by omega
   rw[List.take_length] at*
   clear hK
   generalize hF:(l.filter (fun n=>!p n)).length=F at*
   have X:=And.intro aO (And.intro qx (And.intro hxl' (Int.lt_irrefl (l.length:Int))))
   rw[List.append_nil]
   (refine run ?_;with_reducible repeat' first|exact trivial|(apply af.mk<;>intro hb)|apply ax.mk)
   refine Fin.out hR ⟨List.replicate (l.length - F) []++xs.drop (F+(l.length - F)),congrArg Q ?_,rfl⟩
   rw[← htk,List.map_append,List.map_append,List.map_take,List.map_drop,List.map_replicate]
theorem Ch (G:Gl) (hG:aw G) (T:List aI) (s:aI) (H:List az) (pb mb tb g0:Nat) (nx:SV) (hp:H[pb]? =some (.cells 0 1 [.ptr mb g0 0 0])) (hm:H[mb]? =some (.cells g0 2 [.agg [nx,.map tb]])) (ht:H[tb]? =some (.map none (gT T))):
 ag Tryz.prog G 58 [.str s,.ptr pb 0 0 0] H (fun r H'=>H'=H∧r= .bool (decide (s∈T))):=by
 have l1:=(List.getElem?_eq_some_iff.1 hp).1
 have l2:=(List.getElem?_eq_some_iff.1 hm).1
 have l3:=(List.getElem?_eq_some_iff.1 ht).1
 have hf:=kH T s
 refine ag.aK TB [] aF _ Tryz.func58 rfl (by decide) Tryz.ntmps58 (by simp) rfl (by simp only[au,Nat.reduceAdd];rfl) fun C R' hR hC hcl hB=>?_;have X:=aO;have hC':=congrArg List.length hC
 have X:=And.intro aO (And.intro hp (And.intro hm (And.intro ht hf)))
 (refine run ?_;with_reducible repeat' first|exact trivial|(apply af.mk<;>intro hb)|apply ax.mk)
 exact Fin.out hR ⟨rfl,rfl⟩
theorem o7 {B:aI→Ex→Bool→Nat→List Sb×Nat}:∀ (l:List Ex) (n:Nat),∃ L:List (List Sb),(aM B l n).1.2=L.map Ar.bs
 |[],n=>⟨[],rfl⟩
 |e::r,n=>by
  rw[aM]
  split
  ·exact o7 r n
  ·obtain⟨L,hL⟩:=o7 (B:=B) r (B (eB bW n) e true (n+1)).2
   exact⟨(B (eB bW n) e true (n+1)).1::L,by simp only[hL,List.map_cons]⟩
theorem qP:∀ L:List (List Sb),dI (L.map Ar.bs)=L.flatten
 |[]=>rfl
 |l::r=>by rw[List.map_cons,dI,qP r,List.flatten_cons]
theorem AY {L:List (List Sb)} {i:Nat} (h:i<L.length):(L.take (i+1)).flatten=(L.take i).flatten++L[i]:=by rw[List.take_succ_eq_append_getElem h,List.flatten_append];simp
theorem AX (L:List (List Sb)) (i:Nat):(L.take i).flatten.length≤L.flatten.length:=by
 have h:L.flatten=(L.take i).flatten++(L.drop i).flatten:=by rw[← List.flatten_append,List.take_append_drop]
 rw[h,List.length_append];omega
theorem nK (top:List aI) (E:Ex→Nat→Sg×Nat) (B:aI→Ex→Bool→Nat→List Sb×Nat) (s:aI) (kd:Int) (nm:aI) (nn op:Int) (names:List aI) (ad:List Ex) (binds:List Bd) (alts:List Al) (up:Bool) (n:Nat):
 fK top E B s (.mk kd nm nn op names ad binds alts) up n=if kd=3 then ([.mk s 1 (iO top (.mk kd nm nn op names ad binds alts)) names false [] [] [(E (ad.headD bw) n).1]],(E (ad.headD bw) n).2)
  else if kd=7 then (dI (aM B ad n).1.2++[.mk s 3 [] [] false nm (aM B ad n).1.1 []],(aM B ad n).2)
  else ([.mk s 2 (iO top (.mk kd nm nn op names ad binds alts)) [] up [] [] [(E (.mk kd nm nn op names ad binds alts) n).1]],(E (.mk kd nm nn op names ad binds alts) n).2):=rfl
theorem E0 (G:Gl) (hG:aw G) (C0:Cx) (hb0:G.base=some C0) (hl0:gZ C0) (cs:List Cn) (T:List aI) (m:Nat) (E:Ex→Nat→Sg×Nat) (B:aI→Ex→Bool→Nat→List Sb×Nat)
 (hEx:vM G cs T (fun e=>qD e≤m) E) (hBd:vL G cs T (fun e=>l6 e≤m) B) (cE:o4 cs E) (cB:oZ cs B):vL G cs T (fun e=>l6 e≤m+1) (fK T E B):=by
 intro s e u H tb mb g0 nx0 hP hw hsh hnx h1 h2
 have l1:=(List.getElem?_eq_some_iff.1 h1).1
 have l2:=(List.getElem?_eq_some_iff.1 h2).1
 obtain⟨kd,nm,nn,op,names,ad,binds,alts⟩:=e
 have hlen:=Ex.cY kd nm nn op names ad binds alts
 have hww:(Ex.mk kd nm nn op names ad binds alts).wt=1+nm.length+cW names+bt ad+aW binds+cp alts:=by simp only[Ex.wt]
 have hnode:=hsh.node
 have hnl:=ea names
 have hnx:nx0+(Ex.mk kd nm nn op names ad binds alts).wt≤4294967290+(if kd=3 then 1 else 0):=hnx
 obtain⟨Q,q0,qd,hlenQ,qx,qc⟩:=KH h1 h2
 simp only[qd]
 rw[← q0]
 have hfl:(cz (Ex.mk kd nm nn op names ad binds alts)).length≤(Ex.mk kd nm nn op names ad binds alts).wt:=by
  have:=gS (Ex.mk kd nm nn op names ad binds alts).wt (.mk kd nm nn op names ad binds alts) ([],[])
  rw[cz,eP]
  simpa using this
 have hfree:=fun H=>zR G hG (.mk kd nm nn op names ad binds alts) H (by omega)
 have htop:iO T (.mk kd nm nn op names ad binds alts)=(cz (.mk kd nm nn op names ad binds alts)).filter (fun s=>!decide (s∈T)):=rfl
 rw[nK]
 generalize cz (.mk kd nm nn op names ad binds alts)=F at*
 generalize iO T (.mk kd nm nn op names ad binds alts)=F2 at*
 refine ag.aK TB [12] aF _ Tryz.func21 rfl (by decide) Tryz.ntmps21 (by simp) rfl (by simp only[au,Nat.reduceAdd];rfl) fun C R' hR hC hcl hB=>?_;have X:=aO;have hC':=congrArg List.length hC
 have hC':=hC'.trans (hlenQ _)
 have hcls:∀ nx,closed (Q nx):=fun nx=>qc (q0 ▸ hcl) nx
 clear q0 h1 h2
 generalize hn0:H.length=n0 at*
 have hx21:=hlenQ
 have hx22:∀ nx L,(Q nx++L)[n0]? =L[0]? :=fun nx L=>by rw[← hlenQ nx];exact dh _ _
 have hx23:∀ nx L k,(Q nx++L)[n0+k]? =L[k]? :=fun nx L k=>by rw[← hlenQ nx];exact bJ _ _ _
 have hx24:∀ nx L x,(Q nx++L).set n0 x=Q nx++L.set 0 x:=fun nx L x=>by rw[← hlenQ nx];exact dB _ _ _
 have hx25:∀ nx L k x,(Q nx++L).set (n0+k) x=Q nx++L.set k x:=fun nx L k x=>by rw[← hlenQ nx];exact cq _ _ _ _
 have X:=And.intro aO (And.intro qx (And.intro hx21 (And.intro hx22 (And.intro hx23 (And.intro hx24 hx25)))))
 (refine run ?_;with_reducible repeat' first|exact trivial|(apply af.mk<;>intro hb)|apply ax.mk)
 refine bh (hfree _) ?_
 rintro r H' ⟨rfl,rfl⟩
 rw[show(Q nx0++[az.cells 0 1 [.ptr mb g0 0 0],.cells 0 8 [.agg [.int .i64 kd,.str nm,.int .i64 nn,.int .i64 op,.list 1 (names.map .str),.list 8 (aj ad),.list 9 (ao binds),.list 12 (aA alts)]]]).length=n0+2 by rw[List.length_append,hlenQ];rfl]
 simp only[List.append_assoc,List.cons_append,List.nil_append]
 (refine run ?_;with_reducible repeat' first|exact trivial|(apply af.mk<;>intro hb)|apply ax.mk)
 have hdel:=AO G hG (.fn (.func 58) [] [.ptr n0 0 0 0]) (fun s=>decide (s∈T)) F [] (Q nx0++[az.cells 0 1 [.ptr mb g0 0 0],.cells 0 8 [.agg [.int .i64 kd,.str nm,.int .i64 nn,.int .i64 op,.list 1 (names.map .str),.list 8 (aj ad),.list 9 (ao binds),.list 12 (aA alts)]],.cells 0 1 (F.map .str)]) (n0+2) 0 (by rw[hx23];simp) (by omega) (by simp[SV.under,SV.aB,hlenQ])
  (fun n vs=>by
   rw[hx25]
   refine bL.of (first:=[]) (args:=[.str n]) (cap:=[.ptr n0 0 0 0]) (Ch G hG T n _ n0 mb tb g0 _ (by rw[hx22];rfl) (qx.1 _ _) (qx.2.1 _ _)))
 refine bh hdel ?_
 rintro r H' ⟨j',rfl,rfl⟩
 rw[hx25,← htop]
 simp only[List.set_cons_succ,List.set_cons_zero]
 have hF2:F2.length≤F.length:=by rw[htop];exact List.length_filter_le _ _
 have hfr:∀ (nx:Nat) (b0 b1:az) (L:List az),bV (Q nx++(b0::b1:: .cells 0 1 ((F2++j').map .str)::L)) n0 [] (.sl (n0+2) 0 0 F2.length) (.list 1 (F2.map .str)):=fun nx b0 b1 L=>
  bV.sf (g:=0) (sz:=1) (vals:=(F2++j').map .str) (by rw[hx23];rfl) (by omega) (by simp) (by rw[List.drop_zero,List.map_append,List.take_left' (by simp)]) (cm _ _)
 clear hdel hfree
 by_cases h3:kd=3
 ·rw[if_pos h3] at hR hnx
  subst h3
  have hs:ad.length=1:=by unfold dM at hnode;omega
  have h0:=b7 (l:=ad) (by omega)
  have hm:=cP (l:=ad) (by omega)
  have hcl3:=fun H=>nh G hG names H (by omega)
  have hsub:ad=[ad.headD bw]:=by
   match ad,hs with
   |[x],_=>rfl
  have hcx:=fun L=>hEx (ad.headD bw) (Q nx0++L) tb mb g0 nx0 (by unfold l6 at hP;have:=(l7 (e:= .mk 3 nm nn op names ad binds alts) (x:=ad.headD bw) (by omega)).1;omega) (by omega) (hsh.sub hm) (by omega) (qx.2.1 _ _) (qx.1 _ _)
  have hg0:(aj ad)[0]? =some (ad.headD bw).sv:=by rw[hsub];rfl
  generalize ad.headD bw=x at*
  have hx8:=x.aH
  have hx8d:=x.bY
  have hx8t:=x.aU
  generalize E x nx0=r0 at*
  obtain⟨y,nx2⟩:=r0
  simp only at hR hcx
  rw[show x.sv= .agg x.cells from rfl] at*
  generalize x.cells=xc at*
  have hy7:=y.aH
  have hy7t:=y.aU
  have hy7d:y.cells.drop 7=[]:=List.drop_eq_nil_of_le (by omega)
  have X:=And.intro (And.intro aO (And.intro qx (And.intro hx21 (And.intro hx22 (And.intro hx23 (And.intro hx24 hx25)))))) (And.intro hg0 (And.intro hx8 (And.intro hx8d (And.intro hx8t (And.intro hy7 (And.intro hy7t hy7d))))))
  (refine run ?_;with_reducible repeat' first|exact trivial|(apply af.mk<;>intro hb)|apply ax.mk)
  refine dq (hcl3 _) ?_
  rintro r H' ⟨rfl,rfl⟩
  simp only[List.length_append,hx21,List.length_cons,List.length_nil,List.append_assoc,List.cons_append,List.nil_append,Nat.reduceAdd]
  (refine run ?_;with_reducible repeat' first|exact trivial|(apply af.mk<;>intro hb)|apply ax.mk)
  refine dq (hcx _) ?_
  rintro v H' ⟨rfl,rfl⟩
  rw[qx.2.2,show y.sv= .agg y.cells from rfl]
  (refine run ?_;with_reducible repeat' first|exact trivial|(apply af.mk<;>intro hb)|apply ax.mk)
  exact aS (n0:=n0) hR hC' (hcls _) (.list _ _ _ (.cons _ _ _ _ (.agg _ _ (.cons _ _ _ _ (.same _ rfl) (.cons _ _ _ _ (.same _ rfl) (.cons _ _ _ _ (hfr _ _ _ _) (.cons _ _ _ _ (bV.sf (g:=0) (sz:=1) (vals:=names.map .str) (by rw[hx23];rfl) (by omega) (by simp) (by rw[List.drop_zero,List.take_of_length_le (by simp)]) (cm _ _)) (.cons _ _ _ _ (.same _ rfl) (.cons _ _ _ _ (.same _ rfl) (.cons _ _ _ _ (.same _ rfl) (.cons _ _ _ _ (.same _ (by simp only[SV.under,SV.aB,Sg.aP,Bool.and_self])) .nil))))))))) .nil)) ⟨rfl,rfl⟩ (hn:=hlenQ _)
 by_cases h7:kd=7
 ·rw[if_neg h3,if_pos h7] at hR
  rw[if_neg h3] at hnx
  subst h7
  have hcx:=fun L=>qX G hG C0 hb0 hl0 cs T (fun e=>l6 e≤m) B hBd cB ad (Q nx0++L) tb mb g0 nx0 (fun x hx=>⟨by unfold l6 at hP;have:=(l7 (e:= .mk 7 nm nn op names ad binds alts) (x:=x) (by have:=cH hx;omega)).2;omega,hsh.sub hx⟩) (by omega) (by omega) (qx.2.1 _ _) (qx.1 _ _)
  obtain⟨hc1,hc2,hc3,hc4⟩:=fH cB ad nx0 (fun x hx=>hsh.sub hx)
  obtain⟨W,hW⟩:=o7 (B:=B) ad nx0
  rw[hW,qP] at hR
  rw[hW,qP] at hc4
  rw[hW] at hc3
  simp only[hW] at hcx
  clear hW
  generalize aM B ad nx0=r0 at*
  obtain⟨⟨A,W0⟩,nx2⟩:=r0
  simp only at hR hcx hc2 hc3
  clear W0 hc1
  rw[List.length_map] at hc3
  have X:=And.intro aO (And.intro qx (And.intro hx21 (And.intro hx22 (And.intro hx23 (And.intro hx24 hx25)))))
  (refine run ?_;with_reducible repeat' first|exact trivial|(apply af.mk<;>intro hb)|apply ax.mk)
  refine bh (hcx _) ?_
  rintro v H' ⟨rfl,rfl⟩
  rw[qx.2.2]
  have hfl2:=fun i=>AX W i
  have hwl:(bO (W.map Ar.bs)).length=W.length:=by rw[e9,List.length_map]
  have X:=And.intro (And.intro aO (And.intro qx (And.intro hx21 (And.intro hx22 (And.intro hx23 (And.intro hx24 hx25)))))) hwl
  (refine run ?_;with_reducible repeat' first|exact trivial|(apply af.mk<;>intro hb)|apply ax.mk)
  have d3:=vi n0 [0,1,3] (by decide)
  have d4:=vi n0 [0,1,2] (by decide)
  refine aC (fun i:Nat=>[(1,.str s),(6,.ptr (n0+1) 0 0 0),(10,.list 2 (bq A)),(46,.list 9 (bO (W.map Ar.bs))),(47,.int .i64 W.length),(48,.int .i64 (i:Int)),(12,.sl (n0+2) 0 0 ((W.take i).flatten).length)])
   (fun i=>Q nx2++[.cells 0 1 [.ptr mb g0 0 0],.cells 0 8 [.agg [.int .i64 7,.str nm,.int .i64 nn,.int .i64 op,.list 1 (names.map .str),.list 8 (aj ad),.list 9 (ao binds),.list 12 (aA alts)]],.cells 0 8 (aX ((W.take i).flatten))]) (fun i=>W.length - i) (fun i=>i≤W.length) 0 (Nat.zero_le _) ?_ ?_
  ·simp only[List.take_zero,List.flatten_nil,show aX []=[] from rfl,List.length_nil]
   have bF:=bS
   have dp:=dD
   exact bB (n0:=n0) [(n0,0),(n0+1,0),(n0+3,0)] hG hB hC' (hcls _) (hn:=hlenQ _) (hd:=d3)
  rintro K i hi hK
  have hfi:=hfl2 i
  rcases Nat.lt_or_ge i W.length with hlt|hge
  ·have hft:=AY hlt
   have hfi1:=hfl2 (i+1)
   rw[hft,List.length_append] at hfi1
   have hwg:(bO (W.map Ar.bs))[i]? =some (.agg [.list 8 (aX W[i]),.str [],.int .i64 0,.str [],.int .i64 0,.nil,.nil,.nil,.nil]):=by simp[bO,hlt,Ar.cells,HF]
   generalize W[i]=w at*
   generalize (W.take i).flatten=D at*
   have hsn:=ff D w
   have hDl:=cc D
   have hwl2:=cc w
   have X:=And.intro (And.intro aO (And.intro qx (And.intro hx21 (And.intro hx22 (And.intro hx23 (And.intro hx24 hx25)))))) (And.intro hwg (And.intro hsn (And.intro hDl hwl2)))
   (refine run ?_;with_reducible repeat' first|exact trivial|(apply af.mk<;>intro hb)|apply ax.mk)
   refine hK _ _ (i+1) (by omega) (by omega) ?_
   rw[hft,List.length_append]
   have bF:=bS
   have dp:=dD
   have dJ:=aY
   exact bB (n0:=n0) [(n0,0),(n0+1,0),(n0+2,0)] hG hB hC' (hcls _) (hn:=hlenQ _) (hd:=d4)
  clear hK
  obtain rfl:i=W.length:=by omega
  rw[List.take_length] at*
  generalize W.flatten=D at*
  have hDl:=cc D
  have hsn:aX D++[.agg [.str s,.int .i64 3,.list 1 [],.list 1 [],.bool false,.str nm,.list 2 (bq A),.list 7 []]]=aX (D++[.mk s 3 [] [] false nm A []]):=vz D (.mk s 3 [] [] false nm A [])
  have X:=And.intro (And.intro aO (And.intro qx (And.intro hx21 (And.intro hx22 (And.intro hx23 (And.intro hx24 hx25)))))) (And.intro (Int.lt_irrefl (W.length:Int)) (And.intro hDl hsn))
  (refine run ?_;with_reducible repeat' first|exact trivial|(apply af.mk<;>intro hb)|apply ax.mk)
  exact aS (n0:=n0) hR hC' (hcls _) (bV.sf (g:=1) (sz:=8) (vals:=aX (D++[.mk s 3 [] [] false nm A []])) (by rw[hx23];rfl) (by omega) (by simp) (by rw[List.drop_zero,List.take_of_length_le (by rw[cc,List.length_append];exact Nat.le_refl _)]) (aY _ _)) ⟨rfl,rfl⟩ (hn:=hlenQ _)
 ·rw[if_neg h3,if_neg h7] at hR
  rw[if_neg h3] at hnx
  have hcx:=fun L=>hEx (.mk kd nm nn op names ad binds alts) (Q nx0++L) tb mb g0 nx0 (by show qD _≤m;unfold l6 at hP;unfold qD;rw[if_neg (show ¬ (Ex.mk kd nm nn op names ad binds alts).kind=3 from h3)];omega) hw hsh (by omega) (qx.2.1 _ _) (qx.1 _ _)
  generalize E (.mk kd nm nn op names ad binds alts) nx0=r0 at*
  obtain⟨y,nx2⟩:=r0
  simp only at hR hcx
  have hy7:=y.aH
  have hy7t:=y.aU
  have hy7d:y.cells.drop 7=[]:=List.drop_eq_nil_of_le (by omega)
  have X:=And.intro (And.intro aO (And.intro qx (And.intro hx21 (And.intro hx22 (And.intro hx23 (And.intro hx24 hx25)))))) (And.intro h3 (And.intro h7 (And.intro hy7 (And.intro hy7t hy7d))))
  (refine run ?_;with_reducible repeat' first|exact trivial|(apply af.mk<;>intro hb)|apply ax.mk)
  refine bh (hcx _) ?_
  rintro v H' ⟨rfl,rfl⟩
  rw[qx.2.2,show y.sv= .agg y.cells from rfl]
  (refine run ?_;with_reducible repeat' first|exact trivial|(apply af.mk<;>intro hb)|apply ax.mk)
  exact aS (n0:=n0) hR hC' (hcls _) (.list _ _ _ (.cons _ _ _ _ (.agg _ _ (.cons _ _ _ _ (.same _ rfl) (.cons _ _ _ _ (.same _ rfl) (.cons _ _ _ _ (hfr _ _ _ _) (.cons _ _ _ _ (.same _ rfl) (.cons _ _ _ _ (.same _ rfl) (.cons _ _ _ _ (.same _ rfl) (.cons _ _ _ _ (.same _ rfl) (.cons _ _ _ _ (.same _ (by simp only[SV.under,SV.aB,Sg.aP,Bool.and_self])) .nil))))))))) .nil)) ⟨rfl,rfl⟩ (hn:=hlenQ _)
def KC:TI:=⟨.struct [(0,3),(1,9),(2,3),(3,37),(4,38),(5,28),(6,42)] false,7,128,.agg [.int .i64 0,.str [],.int .i64 0,.nil,.nil,.nil,.nil]⟩
theorem Kt:aN Tryz.prog 44 KC:=ah (.agg [.int .i64 0,.str [],.int .i64 0,.nil,.nil,.nil,.nil]) (ay.refl _) ⟨⟨_,Tryz.underlying44,rfl⟩,fun h=>by cases h⟩ (by kernel_rfl)
def bI:aE:=(44,KC)::TB
set_option maxRecDepth 10000 in
theorem KR:aE.get bI 2=some ⟨.int .i64,1,8,.int .i64 0⟩∧
 aE.get bI 3=some ⟨.int .i64,1,8,.int .i64 0⟩∧
 aE.get bI 4=some ⟨.bool,1,1,.bool false⟩∧
 aE.get bI 5=some ⟨.int .u8,1,1,.int .u8 0⟩∧
 aE.get bI 9=some ⟨.str,1,16,.str []⟩∧
 aE.get bI 20=some ⟨.gW,1,16,.gW true⟩∧
 aE.get bI 21=some ⟨.int .i32,1,4,.int .i32 0⟩∧
 aE.get bI 22=some ⟨.slice 67,1,24,.nil⟩∧
 aE.get bI 23=some ⟨.slice 53,1,24,.nil⟩∧
 aE.get bI 24=some ⟨.struct [(0,22),(1,23)] false,2,48,.agg [.nil,.nil]⟩∧
 aE.get bI 25=some ⟨.struct [(0,22),(1,23)] false,2,48,.agg [.nil,.nil]⟩∧
 aE.get bI 26=some ⟨.func,1,8,.ae⟩∧
 aE.get bI 27=some ⟨.func,1,8,.ae⟩∧
 aE.get bI 28=some ⟨.slice 40,1,24,.nil⟩∧
 aE.get bI 29=some ⟨.struct [(0,22),(1,28)] false,2,48,.agg [.nil,.nil]⟩∧
 aE.get bI 30=some ⟨.struct [(0,22),(1,28)] false,2,48,.agg [.nil,.nil]⟩∧
 aE.get bI 31=some ⟨.int .i64,1,8,.int .i64 0⟩∧
 aE.get bI 33=some ⟨.func,1,8,.ae⟩∧
 aE.get bI 34=some ⟨.func,1,8,.ae⟩∧
 aE.get bI 35=some ⟨.func,1,8,.ae⟩∧
 aE.get bI 36=some ⟨.slice 9,1,24,.nil⟩∧
 aE.get bI 37=some ⟨.slice 58,1,24,.nil⟩∧
 aE.get bI 38=some ⟨.slice 44,1,24,.nil⟩∧
 aE.get bI 39=some ⟨.struct [(0,9),(1,3),(2,36),(3,36),(4,4),(5,9),(6,37),(7,38)] false,8,144,.agg [.str [],.int .i64 0,.nil,.nil,.bool false,.str [],.nil,.nil]⟩∧
 aE.get bI 40=some ⟨.struct [(0,9),(1,3),(2,36),(3,36),(4,4),(5,9),(6,37),(7,38)] false,8,144,.agg [.str [],.int .i64 0,.list 1 [],.list 1 [],.bool false,.str [],.list 2 [],.list 7 []]⟩∧
 aE.get bI 41=some ⟨.func,1,8,.ae⟩∧
 aE.get bI 42=some ⟨.slice 93,1,24,.nil⟩∧
 aE.get bI 43=some ⟨.struct [(0,3),(1,9),(2,3),(3,37),(4,38),(5,28),(6,42)] false,7,128,.agg [.int .i64 0,.str [],.int .i64 0,.nil,.nil,.nil,.nil]⟩∧
 aE.get bI 44=some ⟨.struct [(0,3),(1,9),(2,3),(3,37),(4,38),(5,28),(6,42)] false,7,128,.agg [.int .i64 0,.str [],.int .i64 0,.nil,.nil,.nil,.nil]⟩∧
 aE.get bI 45=some ⟨.map 9 4,1,8,.bM⟩∧
 aE.get bI 47=some ⟨.func,1,8,.ae⟩∧
 aE.get bI 48=some ⟨.slice 51,1,24,.nil⟩∧
 aE.get bI 49=some ⟨.slice 131,1,24,.nil⟩∧
 aE.get bI 50=some ⟨.struct [(0,3),(1,9),(2,3),(3,3),(4,36),(5,48),(6,23),(7,49)] false,8,136,.agg [.int .i64 0,.str [],.int .i64 0,.int .i64 0,.nil,.nil,.nil,.nil]⟩∧
 aE.get bI 51=some ⟨.struct [(0,3),(1,9),(2,3),(3,3),(4,36),(5,48),(6,23),(7,49)] false,8,136,.agg [.int .i64 0,.str [],.int .i64 0,.int .i64 0,.list 1 [],.list 8 [],.list 9 [],.list 12 []]⟩∧
 aE.get bI 52=some ⟨.struct [(0,9),(1,51)] false,9,152,.agg [.str [],.int .i64 0,.str [],.int .i64 0,.int .i64 0,.nil,.nil,.nil,.nil]⟩∧
 aE.get bI 53=some ⟨.struct [(0,9),(1,51)] false,9,152,.agg [.str [],.int .i64 0,.str [],.int .i64 0,.int .i64 0,.list 1 [],.list 8 [],.list 9 [],.list 12 []]⟩∧
 aE.get bI 54=some ⟨.func,1,8,.ae⟩∧
 aE.get bI 55=some ⟨.func,1,8,.ae⟩∧
 aE.get bI 56=some ⟨.func,1,8,.ae⟩∧
 aE.get bI 57=some ⟨.struct [(0,9),(1,3)] true,2,24,.agg [.str [],.int .i64 0]⟩∧
 aE.get bI 58=some ⟨.struct [(0,9),(1,3)] true,2,24,.agg [.str [],.int .i64 0]⟩∧
 aE.get bI 59=some ⟨.func,1,8,.ae⟩∧
 aE.get bI 60=some ⟨.func,1,8,.ae⟩∧
 aE.get bI 61=some ⟨.func,1,8,.ae⟩∧
 aE.get bI 62=some ⟨.ptr 64,1,8,.aV⟩∧
 aE.get bI 63=some ⟨.struct [(0,3),(1,45)] false,2,16,.agg [.int .i64 0,.bM]⟩∧
 aE.get bI 64=some ⟨.struct [(0,3),(1,45)] false,2,16,.agg [.int .i64 0,.bM]⟩∧
 aE.get bI 65=some ⟨.func,1,8,.ae⟩∧
 aE.get bI 66=some ⟨.struct [(0,9),(1,3),(2,3),(3,3)] true,4,40,.agg [.str [],.int .i64 0,.int .i64 0,.int .i64 0]⟩∧
 aE.get bI 67=some ⟨.struct [(0,9),(1,3),(2,3),(3,3)] true,4,40,.agg [.str [],.int .i64 0,.int .i64 0,.int .i64 0]⟩∧
 aE.get bI 68=some ⟨.func,1,8,.ae⟩∧
 aE.get bI 69=some ⟨.ptr 71,1,8,.aV⟩∧
 aE.get bI 70=some ⟨.struct [(0,3),(1,36)] false,2,32,.agg [.int .i64 0,.nil]⟩∧
 aE.get bI 71=some ⟨.struct [(0,3),(1,36)] false,2,32,.agg [.int .i64 0,.nil]⟩∧
 aE.get bI 72=some ⟨.func,1,8,.ae⟩∧
 aE.get bI 73=some ⟨.func,1,8,.ae⟩∧
 aE.get bI 74=some ⟨.func,1,8,.ae⟩∧
 aE.get bI 75=some ⟨.func,1,8,.ae⟩∧
 aE.get bI 76=some ⟨.func,1,8,.ae⟩∧
 aE.get bI 77=some ⟨.func,1,8,.ae⟩∧
 aE.get bI 78=some ⟨.func,1,8,.ae⟩∧
 aE.get bI 79=some ⟨.func,1,8,.ae⟩∧
 aE.get bI 80=some ⟨.func,1,8,.ae⟩∧
 aE.get bI 81=some ⟨.ptr 84,1,8,.aV⟩∧
 aE.get bI 82=some ⟨.map 9 67,1,8,.bM⟩∧
 aE.get bI 83=some ⟨.struct [(0,82)] false,1,8,.agg [.bM]⟩∧
 aE.get bI 84=some ⟨.struct [(0,82)] false,1,8,.agg [.bM]⟩∧
 aE.get bI 85=some ⟨.func,1,8,.ae⟩∧
 aE.get bI 86=some ⟨.map 9 3,1,8,.bM⟩∧
 aE.get bI 87=some ⟨.func,1,8,.ae⟩∧
 aE.get bI 88=some ⟨.func,1,8,.ae⟩∧
 aE.get bI 89=some ⟨.array 4 67,16,160,.agg [.str [],.int .i64 0,.int .i64 0,.int .i64 0,.str [],.int .i64 0,.int .i64 0,.int .i64 0,.str [],.int .i64 0,.int .i64 0,.int .i64 0,.str [],.int .i64 0,.int .i64 0,.int .i64 0]⟩∧
 aE.get bI 90=some ⟨.func,1,8,.ae⟩∧
 aE.get bI 91=some ⟨.func,1,8,.ae⟩∧
 aE.get bI 92=some ⟨.struct [(0,3),(1,9),(2,3),(3,36),(4,44)] false,11,184,.agg [.int .i64 0,.str [],.int .i64 0,.nil,.int .i64 0,.str [],.int .i64 0,.nil,.nil,.nil,.nil]⟩∧
 aE.get bI 93=some ⟨.struct [(0,3),(1,9),(2,3),(3,36),(4,44)] false,11,184,.agg [.int .i64 0,.str [],.int .i64 0,.list 1 [],.int .i64 0,.str [],.int .i64 0,.list 2 [],.list 7 [],.list 8 [],.list 11 []]⟩∧
 aE.get bI 94=some ⟨.func,1,8,.ae⟩∧
 aE.get bI 95=some ⟨.func,1,8,.ae⟩∧
 aE.get bI 96=some ⟨.func,1,8,.ae⟩∧
 aE.get bI 97=some ⟨.func,1,8,.ae⟩∧
 aE.get bI 98=some ⟨.func,1,8,.ae⟩∧
 aE.get bI 99=some ⟨.func,1,8,.ae⟩∧
 aE.get bI 101=some ⟨.func,1,8,.ae⟩∧
 aE.get bI 102=some ⟨.gW,1,16,.gW true⟩∧
 aE.get bI 103=some ⟨.gW,1,16,.gW true⟩∧
 aE.get bI 105=some ⟨.func,1,8,.ae⟩∧
 aE.get bI 106=some ⟨.func,1,8,.ae⟩∧
 aE.get bI 107=some ⟨.func,1,8,.ae⟩∧
 aE.get bI 108=some ⟨.func,1,8,.ae⟩∧
 aE.get bI 109=some ⟨.func,1,8,.ae⟩∧
 aE.get bI 110=some ⟨.slice 114,1,24,.nil⟩∧
 aE.get bI 112=some ⟨.func,1,8,.ae⟩∧
 aE.get bI 113=some ⟨.struct [(0,28),(1,9),(2,44)] false,9,168,.agg [.nil,.str [],.int .i64 0,.str [],.int .i64 0,.nil,.nil,.nil,.nil]⟩∧
 aE.get bI 114=some ⟨.struct [(0,28),(1,9),(2,44)] false,9,168,.agg [.nil,.str [],.int .i64 0,.str [],.int .i64 0,.nil,.nil,.nil,.nil]⟩∧
 aE.get bI 115=some ⟨.func,1,8,.ae⟩∧
 aE.get bI 116=some ⟨.func,1,8,.ae⟩∧
 aE.get bI 117=some ⟨.func,1,8,.ae⟩∧
 aE.get bI 118=some ⟨.func,1,8,.ae⟩∧
 aE.get bI 119=some ⟨.func,1,8,.ae⟩∧
 aE.get bI 120=some ⟨.func,1,8,.ae⟩∧
 aE.get bI 121=some ⟨.func,1,8,.ae⟩∧
 aE.get bI 122=some ⟨.func,1,8,.ae⟩∧
 aE.get bI 123=some ⟨.func,1,8,.ae⟩∧
 aE.get bI 124=some ⟨.int .u64,1,8,.int .u64 0⟩∧
 aE.get bI 125=some ⟨.func,1,8,.ae⟩∧
 aE.get bI 126=some ⟨.func,1,8,.ae⟩∧
 aE.get bI 127=some ⟨.func,1,8,.ae⟩∧
 aE.get bI 128=some ⟨.func,1,8,.ae⟩∧
 aE.get bI 129=some ⟨.func,1,8,.ae⟩∧
 aE.get bI 130=some ⟨.struct [(0,3),(1,9),(2,3),(3,36),(4,51)] false,12,192,.agg [.int .i64 0,.str [],.int .i64 0,.nil,.int .i64 0,.str [],.int .i64 0,.int .i64 0,.nil,.nil,.nil,.nil]⟩∧
 aE.get bI 131=some ⟨.struct [(0,3),(1,9),(2,3),(3,36),(4,51)] false,12,192,.agg [.int .i64 0,.str [],.int .i64 0,.list 1 [],.int .i64 0,.str [],.int .i64 0,.int .i64 0,.list 1 [],.list 8 [],.list 9 [],.list 12 []]⟩∧
 aE.get bI 132=some ⟨.func,1,8,.ae⟩∧
 aE.get bI 134=some ⟨.func,1,8,.ae⟩∧
 aE.get bI 135=some ⟨.map 3 4,1,8,.bM⟩∧
 aE.get bI 136=some ⟨.func,1,8,.ae⟩∧
 aE.get bI 137=some ⟨.struct [(0,9),(1,3),(2,4)] true,3,32,.agg [.str [],.int .i64 0,.bool false]⟩∧
 aE.get bI 138=some ⟨.struct [(0,9),(1,3),(2,4)] true,3,32,.agg [.str [],.int .i64 0,.bool false]⟩∧
 aE.get bI 139=some ⟨.func,1,8,.ae⟩∧
 aE.get bI 140=some ⟨.func,1,8,.ae⟩∧
 aE.get bI 141=some ⟨.func,1,8,.ae⟩∧
 aE.get bI 142=some ⟨.func,1,8,.ae⟩∧
 aE.get bI 143=some ⟨.func,1,8,.ae⟩∧
 aE.get bI 144=some ⟨.func,1,8,.ae⟩∧
 aE.get bI 145=some ⟨.func,1,8,.ae⟩∧
 aE.get bI 146=some ⟨.func,1,8,.ae⟩∧
 aE.get bI 147=some ⟨.func,1,8,.ae⟩∧
 aE.get bI 148=some ⟨.func,1,8,.ae⟩∧
 aE.get bI 149=some ⟨.func,1,8,.ae⟩∧
 aE.get bI 151=some ⟨.func,1,8,.ae⟩∧
 aE.get bI 152=some ⟨.func,1,8,.ae⟩∧
 aE.get bI 154=some ⟨.func,1,8,.ae⟩∧
 aE.get bI 155=some ⟨.func,1,8,.ae⟩∧
 aE.get bI 156=some ⟨.func,1,8,.ae⟩∧
 aE.get bI 157=some ⟨.func,1,8,.ae⟩∧
 aE.get bI 158=some ⟨.func,1,8,.ae⟩∧
 aE.get bI 159=some ⟨.func,1,8,.ae⟩∧
 aE.get bI 160=some ⟨.func,1,8,.ae⟩∧
 aE.get bI 161=some ⟨.func,1,8,.ae⟩∧
 aE.get bI 162=some ⟨.func,1,8,.ae⟩∧
 aE.get bI 163=some ⟨.int .i64,1,8,.int .i64 0⟩∧
 aE.get bI 165=some ⟨.func,1,8,.ae⟩∧
 aE.get bI 166=some ⟨.func,1,8,.ae⟩∧
 aE.get bI 167=some ⟨.func,1,8,.ae⟩∧
 aE.get bI 168=some ⟨.func,1,8,.ae⟩∧
 aE.get bI 169=some ⟨.func,1,8,.ae⟩∧
 aE.get bI 170=some ⟨.func,1,8,.ae⟩∧
 aE.get bI 171=some ⟨.int .u32,1,4,.int .u32 0⟩∧
 aE.get bI 172=some ⟨.func,1,8,.ae⟩∧
 aE.get bI 173=some ⟨.int .u64,1,8,.int .u64 0⟩∧
 aE.get bI 174=some ⟨.func,1,8,.ae⟩∧
 aE.get bI 175=some ⟨.ptr 138,1,8,.aV⟩∧
 aE.get bI 176=some ⟨.func,1,8,.ae⟩∧
 aE.get bI 177=some ⟨.func,1,8,.ae⟩∧
 aE.get bI 178=some ⟨.int .i64,1,8,.int .i64 0⟩∧
 aE.get bI 179=some ⟨.slice 5,1,24,.nil⟩∧
 aE.get bI 181=some ⟨.func,1,8,.ae⟩∧
 aE.get bI 182=some ⟨.ptr 200,1,8,.aV⟩∧
 aE.get bI 183=some ⟨.func,1,8,.ae⟩∧
 aE.get bI 184=some ⟨.func,1,8,.ae⟩∧
 aE.get bI 185=some ⟨.func,1,8,.ae⟩∧
 aE.get bI 186=some ⟨.func,1,8,.ae⟩∧
 aE.get bI 187=some ⟨.func,1,8,.ae⟩∧
 aE.get bI 188=some ⟨.func,1,8,.ae⟩∧
 aE.get bI 189=some ⟨.func,1,8,.ae⟩∧
 aE.get bI 190=some ⟨.int .u64,1,8,.int .u64 0⟩∧
 aE.get bI 191=some ⟨.func,1,8,.ae⟩∧
 aE.get bI 192=some ⟨.func,1,8,.ae⟩∧
 aE.get bI 193=some ⟨.func,1,8,.ae⟩∧
 aE.get bI 194=some ⟨.ptr 3,1,8,.aV⟩∧
 aE.get bI 195=some ⟨.func,1,8,.ae⟩∧
 aE.get bI 197=some ⟨.func,1,8,.ae⟩∧
 aE.get bI 198=some ⟨.func,1,8,.ae⟩∧
 aE.get bI 199=some ⟨.struct [(0,9),(1,9),(2,103)] false,3,48,.agg [.str [],.str [],.gW true]⟩∧
 aE.get bI 200=some ⟨.struct [(0,9),(1,9),(2,103)] false,3,48,.agg [.str [],.str [],.gW true]⟩∧
 aE.get bI 201=some ⟨.func,1,8,.ae⟩∧
 aE.get bI 202=some ⟨.array 24 5,24,24,.agg [.int .u8 0,.int .u8 0,.int .u8 0,.int .u8 0,.int .u8 0,.int .u8 0,.int .u8 0,.int .u8 0,.int .u8 0,.int .u8 0,.int .u8 0,.int .u8 0,.int .u8 0,.int .u8 0,.int .u8 0,.int .u8 0,.int .u8 0,.int .u8 0,.int .u8 0,.int .u8 0,.int .u8 0,.int .u8 0,.int .u8 0,.int .u8 0]⟩∧
 aE.get bI 203=some ⟨.func,1,8,.ae⟩∧
 aE.get bI 205=some ⟨.func,1,8,.ae⟩∧
 aE.get bI 206=some ⟨.func,1,8,.ae⟩∧
 aE.get bI 207=some ⟨.func,1,8,.ae⟩∧
 aE.get bI 208=some ⟨.ptr 190,1,8,.aV⟩∧
 aE.get bI 209=some ⟨.func,1,8,.ae⟩∧
 aE.get bI 210=some ⟨.func,1,8,.ae⟩∧
 aE.get bI 211=some ⟨.ptr 5,1,8,.aV⟩∧
 aE.get bI 212=some ⟨.ptr 214,1,8,.aV⟩∧
 aE.get bI 213=some ⟨.struct [(0,9)] true,1,16,.agg [.str []]⟩∧
 aE.get bI 214=some ⟨.struct [(0,9)] true,1,16,.agg [.str []]⟩∧
 aE.get bI 215=some ⟨.func,1,8,.ae⟩∧
 aE.get bI 216=some ⟨.array 20 173,20,160,.agg [.int .u64 0,.int .u64 0,.int .u64 0,.int .u64 0,.int .u64 0,.int .u64 0,.int .u64 0,.int .u64 0,.int .u64 0,.int .u64 0,.int .u64 0,.int .u64 0,.int .u64 0,.int .u64 0,.int .u64 0,.int .u64 0,.int .u64 0,.int .u64 0,.int .u64 0,.int .u64 0]⟩∧
 aE.get bI 217=some ⟨.array 65 5,65,65,.agg [.int .u8 0,.int .u8 0,.int .u8 0,.int .u8 0,.int .u8 0,.int .u8 0,.int .u8 0,.int .u8 0,.int .u8 0,.int .u8 0,.int .u8 0,.int .u8 0,.int .u8 0,.int .u8 0,.int .u8 0,.int .u8 0,.int .u8 0,.int .u8 0,.int .u8 0,.int .u8 0,.int .u8 0,.int .u8 0,.int .u8 0,.int .u8 0,.int .u8 0,.int .u8 0,.int .u8 0,.int .u8 0,.int .u8 0,.int .u8 0,.int .u8 0,.int .u8 0,.int .u8 0,.int .u8 0,.int .u8 0,.int .u8 0,.int .u8 0,.int .u8 0,.int .u8 0,.int .u8 0,.int .u8 0,.int .u8 0,.int .u8 0,.int .u8 0,.int .u8 0,.int .u8 0,.int .u8 0,.int .u8 0,.int .u8 0,.int .u8 0,.int .u8 0,.int .u8 0,.int .u8 0,.int .u8 0,.int .u8 0,.int .u8 0,.int .u8 0,.int .u8 0,.int .u8 0,.int .u8 0,.int .u8 0,.int .u8 0,.int .u8 0,.int .u8 0,.int .u8 0]⟩∧
 aE.get bI 218=some ⟨.func,1,8,.ae⟩∧
 aE.get bI 219=some ⟨.array 32 5,32,32,.agg [.int .u8 0,.int .u8 0,.int .u8 0,.int .u8 0,.int .u8 0,.int .u8 0,.int .u8 0,.int .u8 0,.int .u8 0,.int .u8 0,.int .u8 0,.int .u8 0,.int .u8 0,.int .u8 0,.int .u8 0,.int .u8 0,.int .u8 0,.int .u8 0,.int .u8 0,.int .u8 0,.int .u8 0,.int .u8 0,.int .u8 0,.int .u8 0,.int .u8 0,.int .u8 0,.int .u8 0,.int .u8 0,.int .u8 0,.int .u8 0,.int .u8 0,.int .u8 0]⟩∧
 aE.get bI 220=some ⟨.array 64 5,64,64,.agg [.int .u8 0,.int .u8 0,.int .u8 0,.int .u8 0,.int .u8 0,.int .u8 0,.int .u8 0,.int .u8 0,.int .u8 0,.int .u8 0,.int .u8 0,.int .u8 0,.int .u8 0,.int .u8 0,.int .u8 0,.int .u8 0,.int .u8 0,.int .u8 0,.int .u8 0,.int .u8 0,.int .u8 0,.int .u8 0,.int .u8 0,.int .u8 0,.int .u8 0,.int .u8 0,.int .u8 0,.int .u8 0,.int .u8 0,.int .u8 0,.int .u8 0,.int .u8 0,.int .u8 0,.int .u8 0,.int .u8 0,.int .u8 0,.int .u8 0,.int .u8 0,.int .u8 0,.int .u8 0,.int .u8 0,.int .u8 0,.int .u8 0,.int .u8 0,.int .u8 0,.int .u8 0,.int .u8 0,.int .u8 0,.int .u8 0,.int .u8 0,.int .u8 0,.int .u8 0,.int .u8 0,.int .u8 0,.int .u8 0,.int .u8 0,.int .u8 0,.int .u8 0,.int .u8 0,.int .u8 0,.int .u8 0,.int .u8 0,.int .u8 0,.int .u8 0]⟩∧
 aE.get bI 221=some ⟨.struct [(0,17),(1,17),(2,17),(3,9)] false,4,40,.agg [.aV,.aV,.aV,.str []]⟩∧
 aE.get bI 222=some ⟨.struct [(0,17),(1,17),(2,17),(3,9)] false,4,40,.agg [.aV,.aV,.aV,.str []]⟩∧
 aE.get bI 223=some ⟨.array 0 16,0,0,.agg []⟩∧
 aE.get bI 224=some ⟨.struct [(0,223)] false,0,0,.agg []⟩∧
 aE.get bI 225=some ⟨.struct [(0,223)] false,0,0,.agg []⟩∧
 aE.get bI 226=some ⟨.func,1,8,.ae⟩∧
 aE.get bI 227=some ⟨.int .u8,1,1,.int .u8 0⟩∧
 aE.get bI 228=some ⟨.int .u8,1,1,.int .u8 0⟩∧
 aE.get bI 229=some ⟨.func,1,8,.ae⟩∧
 aE.get bI 230=some ⟨.int .i32,1,4,.int .i32 0⟩∧
 aE.get bI 231=some ⟨.int .i32,1,4,.int .i32 0⟩∧
 aE.get bI 232=some ⟨.struct [(0,12),(1,12),(2,171),(3,227),(4,5),(5,5),(6,228),(7,229),(8,211),(9,230),(10,231)] false,11,48,.agg [.int .u64 0,.int .u64 0,.int .u32 0,.int .u8 0,.int .u8 0,.int .u8 0,.int .u8 0,.ae,.aV,.int .i32 0,.int .i32 0]⟩∧
 aE.get bI 233=some ⟨.struct [(0,12),(1,12),(2,171),(3,227),(4,5),(5,5),(6,228),(7,229),(8,211),(9,230),(10,231)] false,11,48,.agg [.int .u64 0,.int .u64 0,.int .u32 0,.int .u8 0,.int .u8 0,.int .u8 0,.int .u8 0,.ae,.aV,.int .i32 0,.int .i32 0]⟩:=
 ⟨rfl,rfl,rfl,rfl,rfl,rfl,rfl,rfl,rfl,rfl,rfl,rfl,rfl,rfl,rfl,rfl,rfl,rfl,rfl,rfl,rfl,rfl,rfl,rfl,rfl,rfl,rfl,rfl,rfl,rfl,rfl,rfl,rfl,rfl,rfl,rfl,rfl,rfl,rfl,rfl,rfl,rfl,rfl,rfl,rfl,rfl,rfl,rfl,rfl,rfl,rfl,rfl,rfl,rfl,rfl,rfl,rfl,rfl,rfl,rfl,rfl,rfl,rfl,rfl,rfl,rfl,rfl,rfl,rfl,rfl,rfl,rfl,rfl,rfl,rfl,rfl,rfl,rfl,rfl,rfl,rfl,rfl,rfl,rfl,rfl,rfl,rfl,rfl,rfl,rfl,rfl,rfl,rfl,rfl,rfl,rfl,rfl,rfl,rfl,rfl,rfl,rfl,rfl,rfl,rfl,rfl,rfl,rfl,rfl,rfl,rfl,rfl,rfl,rfl,rfl,rfl,rfl,rfl,rfl,rfl,rfl,rfl,rfl,rfl,rfl,rfl,rfl,rfl,rfl,rfl,rfl,rfl,rfl,rfl,rfl,rfl,rfl,rfl,rfl,rfl,rfl,rfl,rfl,rfl,rfl,rfl,rfl,rfl,rfl,rfl,rfl,rfl,rfl,rfl,rfl,rfl,rfl,rfl,rfl,rfl,rfl,rfl,rfl,rfl,rfl,rfl,rfl,rfl,rfl,rfl,rfl,rfl,rfl,rfl,rfl,rfl,rfl,rfl,rfl,rfl,rfl,rfl,rfl,rfl,rfl,rfl,rfl,rfl,rfl,rfl,rfl,rfl,rfl,rfl,rfl,rfl,rfl,rfl,rfl,rfl,rfl,rfl,rfl,rfl,rfl,rfl,rfl⟩
attribute [go_sem] KR
theorem Eh:aq Tryz.prog bI:=aq.cons Kt aF
section
section
variable (E:Ex→Nat→Sg×Nat) (B:aI→Ex→Bool→Nat→List Sb×Nat) (nm:aI) (nn op:Int) (names:List aI) (ad:List Ex) (binds:List Bd) (alts:List Al) (n:Nat)
theorem wO (kd:Int) (h:kd=1∨kd=2):eW E B (.mk kd nm nn op names ad binds alts) n=(.mk 1 [] 0 [⟨nm,nn⟩] [] [] [],n):=by rw[eW,if_pos h]
theorem tJ:eW E B (.mk 3 nm nn op names ad binds alts) n=(dy [.bs (B (eB bW n) (.mk 3 nm nn op names ad binds alts) true (n+1)).1] (.mk 1 [] 0 [⟨eB bW n,0⟩] [] [] []),(B (eB bW n) (.mk 3 nm nn op names ad binds alts) true (n+1)).2):=by
 rw[eW,if_neg (by omega),if_pos rfl]
theorem tI:eW E B (.mk 7 nm nn op names ad binds alts) n=(dy (aM B ad n).1.2 (.mk 3 nm 0 (aM B ad n).1.1 [] [] []),(aM B ad n).2):=by
 rw[eW,if_neg (by omega),if_neg (by omega),if_pos rfl]
theorem ru:eW E B (.mk 8 nm nn op names ad binds alts) n=(dy (bG E ad n).1.2 (.mk 4 [] op (bG E ad n).1.1 [] [] []),(bG E ad n).2):=by
 rw[eW,if_neg (by omega),if_neg (by omega),if_neg (by omega),if_pos rfl]
theorem tH:eW E B (.mk 4 nm nn op names ad binds alts) n=if (ad.headD bw).kind=1 then (dy (aM B (ad.drop 1) n).1.2 (.mk 2 (ad.headD bw).name 0 (aM B (ad.drop 1) n).1.1 [] [] []),(aM B (ad.drop 1) n).2)
 else (dy (.look (eB bW n) (E (ad.headD bw) (n+1)).1::(aM B (ad.drop 1) (E (ad.headD bw) (n+1)).2).1.2) (.mk 2 (eB bW n) 0 (aM B (ad.drop 1) (E (ad.headD bw) (n+1)).2).1.1 [] [] []),(aM B (ad.drop 1) (E (ad.headD bw) (n+1)).2).2):=by
 rw[eW,if_neg (by omega),if_neg (by omega),if_neg (by omega),if_neg (by omega),if_pos rfl]
theorem tK:eW E B (.mk 5 nm nn op names ad binds alts) n=(.mk 6 [] 0 [] [(E (ad.headD bw) (cF B (qo binds (ad.headD bw)) binds n).2).1] (cF B (qo binds (ad.headD bw)) binds n).1 [],(E (ad.headD bw) (cF B (qo binds (ad.headD bw)) binds n).2).2):=by
 rw[eW,if_neg (by omega),if_neg (by omega),if_neg (by omega),if_neg (by omega),if_neg (by omega),if_pos rfl]
theorem rr:eW E B (.mk 6 nm nn op names ad binds alts) n=(.mk 5 nm 0 [] [(E (ad.headD bw) n).1] [] (fO (lh E) alts (E (ad.headD bw) n).2).1,(fO (lh E) alts (E (ad.headD bw) n).2).2):=by
 rw[eW,if_neg (by omega),if_neg (by omega),if_neg (by omega),if_neg (by omega),if_neg (by omega),if_neg (by omega)]
end
theorem E7 (G:Gl) (hG:aw G) (hB0:eJ G 0) (C0:Cx) (hb0:G.base=some C0) (hl0:gZ C0) (cs:List Cn) (T:List aI) (m:Nat) (E:Ex→Nat→Sg×Nat) (B:aI→Ex→Bool→Nat→List Sb×Nat)
 (hEx:vM G cs T (fun e=>qD e≤m) E) (hBd:vL G cs T (fun e=>l6 e≤m) B) (cE:o4 cs E) (cB:oZ cs B) (nB:0<m→∀ s x u n,(B s x u n).1≠[]):vM G cs T (fun e=>qD e≤m+1) (eW E B):=by
 intro e H tb mb g0 nx0 hP hw hsh hnx h1 h2
 have hwp:=e.bz
 have nB:=nB (by have:qD e≤m+1:=hP;unfold qD at this;omega)
 have l1:=(List.getElem?_eq_some_iff.1 h1).1
 have l2:=(List.getElem?_eq_some_iff.1 h2).1
 obtain⟨kd,nm,nn,op,names,ad,binds,alts⟩:=e
 have hP:3*(Ex.mk kd nm nn op names ad binds alts).wt+(if kd=3 then 2 else 0)≤m+1:=hP
 have hlen:=Ex.cY kd nm nn op names ad binds alts
 have hww:(Ex.mk kd nm nn op names ad binds alts).wt=1+nm.length+cW names+bt ad+aW binds+cp alts:=by simp only[Ex.wt]
 have hnode:=hsh.node
 have hpE:∀ x:Ex,x.wt<(Ex.mk kd nm nn op names ad binds alts).wt→qD x≤m:=fun x h=>by have:=(l7 h).1;omega
 have hpB:∀ x:Ex,x.wt<(Ex.mk kd nm nn op names ad binds alts).wt→l6 x≤m:=fun x h=>by have:=(l7 h).2;omega
 have hxs:∀ x∈ad,x.wt<(Ex.mk kd nm nn op names ad binds alts).wt:=fun x hx=>by have:=cH hx;omega
 have hxa:∀ x∈alts,x.body.wt<(Ex.mk kd nm nn op names ad binds alts).wt:=fun x hx=>by have:=cN hx;have:=x.cZ;omega
 have hxb:∀ x∈binds,x.e.wt<(Ex.mk kd nm nn op names ad binds alts).wt:=fun x hx=>by have:=dH hx;have:=x.cZ;omega
 obtain⟨Q,q0,qd,hlenQ,qx,qc⟩:=KH h1 h2
 simp only[qd]
 rw[← q0]
 have aF:=Eh
 refine ag.aK bI [10,11,99] Eh _ Tryz.func59 rfl (by decide) Tryz.ntmps59 (by simp) rfl (by simp only[au,Nat.reduceAdd];rfl) fun C R' hR hC hcl hB=>?_;have X:=aO;have hC':=congrArg List.length hC
 have hC':=hC'.trans (hlenQ _)
 have hcls:∀ nx,closed (Q nx):=fun nx=>qc (q0 ▸ hcl) nx
 clear q0 h1 h2
 generalize hn0:H.length=n0 at*
 have hx21:=hlenQ
 have hx22:∀ nx L,(Q nx++L)[n0]? =L[0]? :=fun nx L=>by rw[← hlenQ nx];exact dh _ _
 have hx23:∀ nx L k,(Q nx++L)[n0+k]? =L[k]? :=fun nx L k=>by rw[← hlenQ nx];exact bJ _ _ _
 have hx24:∀ nx L x,(Q nx++L).set n0 x=Q nx++L.set 0 x:=fun nx L x=>by rw[← hlenQ nx];exact dB _ _ _
 have hx25:∀ nx L k x,(Q nx++L).set (n0+k) x=Q nx++L.set k x:=fun nx L k x=>by rw[← hlenQ nx];exact cq _ _ _ _
 have d3:=vi n0 [0,1,2] (by decide)
 have X:=And.intro aO (And.intro qx (And.intro hx21 (And.intro hx22 (And.intro hx23 (And.intro hx24 hx25)))))
 by_cases h12:kd=1∨kd=2
 ·rw[wO _ _ _ _ _ _ _ _ _ _ _ h12] at hR
  have c1:=fun H=>sj G hG (.mk kd nm nn op names ad binds alts) H
  simp only[Ex.name,Ex.n] at c1
  have hat:pn (.mk kd nm nn op names ad binds alts)=true:=by rcases h12 with h|h<;>simp[pn,Ex.kind,h]
  rw[hat] at c1
  rcases h12 with h|h<;>subst h
  ·have X:=And.intro aO (And.intro qx (And.intro hx21 (And.intro hx22 (And.intro hx23 (And.intro hx24 hx25)))))
   (refine run ?_;with_reducible repeat' first|exact trivial|(apply af.mk<;>intro hb)|apply ax.mk)
   exact aS (n0:=n0) hR hC' (hcls _) (.agg _ _ (.cons _ _ _ _ (.same _ rfl) (.cons _ _ _ _ (.same _ rfl) (.cons _ _ _ _ (.same _ rfl) (.cons _ _ _ _ (.same _ rfl) (.cons _ _ _ _ (.nil _) (.cons _ _ _ _ (.nil _) (.cons _ _ _ _ (.nil _) .nil)))))))) ⟨rfl,rfl⟩ (hn:=hlenQ _)
  ·have X:=And.intro (And.intro aO (And.intro qx (And.intro hx21 (And.intro hx22 (And.intro hx23 (And.intro hx24 hx25)))))) (show ¬ (2:Int)=1 by omega)
   (refine run ?_;with_reducible repeat' first|exact trivial|(apply af.mk<;>intro hb)|apply ax.mk)
   exact aS (n0:=n0) hR hC' (hcls _) (.agg _ _ (.cons _ _ _ _ (.same _ rfl) (.cons _ _ _ _ (.same _ rfl) (.cons _ _ _ _ (.same _ rfl) (.cons _ _ _ _ (.same _ rfl) (.cons _ _ _ _ (.nil _) (.cons _ _ _ _ (.nil _) (.cons _ _ _ _ (.nil _) .nil)))))))) ⟨rfl,rfl⟩ (hn:=hlenQ _)
 by_cases h5:kd=5
 ·subst h5
  rw[tK] at hR
  have hs:ad.length=1:=by unfold dM at hnode;omega
  have h0:=b7 (l:=ad) (by omega)
  have hmm:=cP (l:=ad) (by omega)
  have hg0:(aj ad)[0]? =some (ad.headD bw).sv:=by
   cases ad with
   |nil=>simp at hs
   |cons a r=>rfl
  have hcx:=fun nx L (h:nx+(ad.headD bw).wt≤4294967290)=>hEx (ad.headD bw) (Q nx++L) tb mb g0 nx (hpE _ (hxs _ hmm)) (by have:=hxs _ hmm;omega) (hsh.sub hmm) h (qx.2.1 _ _) (qx.1 _ _)
  have hst:=fun s H=>xY G hG hB0 cs (ad.headD bw) s H (by have:=hxs _ hmm;omega) (hsh.sub hmm)
  have hlc:=px cB (qo binds (ad.headD bw)) binds nx0 fun b hb=>hsh.bind hb
  have hx8:=(ad.headD bw).aH
  have hx8d:=(ad.headD bw).bY
  have hx8t:=(ad.headD bw).aU
  generalize (ad.headD bw).wt=xw at*
  generalize ad.headD bw=x0 at*
  rw[show x0.sv= .agg x0.cells from rfl] at*
  clear hmm
  generalize hxc:x0.cells=xc at*
  clear hxc
  have bF:=aY
  have d4:=vi n0 [0,1,2,3] (by decide)
  have X:=And.intro (And.intro aO (And.intro qx (And.intro hx21 (And.intro hx22 (And.intro hx23 (And.intro hx24 hx25)))))) (And.intro (show ¬ (5:Int)=1 by omega) (show ¬ (5:Int)=2 by omega))
  (refine run ?_;with_reducible repeat' first|exact trivial|(apply af.mk<;>intro hb)|apply ax.mk)
  refine aC (fun a:Nat×List Sb×Nat=>[(0,.ptr mb g0 0 0),(3,.ptr n0 0 0 0),(4,.ptr (n0+1) 0 0 0),(11,.sl (n0+3) 0 0 a.2.1.length),(115,.list 9 (ao binds)),(116,.int .i64 binds.length),(117,.int .i64 (a.1:Int))])
   (fun a=>Q a.2.2++[.cells 0 8 [.agg [.int .i64 5,.str nm,.int .i64 nn,.int .i64 op,.list 1 (names.map .str),.list 8 (aj ad),.list 9 (ao binds),.list 12 (aA alts)]],.cells 0 7 [.agg [.int .i64 0,.str [],.int .i64 0,.nil,.nil,.nil,.nil]],.cells 0 7 [.agg [.int .i64 0,.str nm,.int .i64 0,.nil,.nil,.nil,.nil]],.cells 0 8 (aX a.2.1)]) (fun a=>binds.length - a.1)
   (fun a=>(a.1≤binds.length∧a.2.1.length+aW (binds.drop a.1)≤aW binds∧a.2.2+aW (binds.drop a.1)≤nx0+aW binds)∧cF B (qo binds x0) binds nx0=(a.2.1++(cF B (qo binds x0) (binds.drop a.1) a.2.2).1,(cF B (qo binds x0) (binds.drop a.1) a.2.2).2)) (0,[],nx0) ⟨⟨Nat.zero_le _,by simp,Nat.le_refl _⟩,rfl⟩ ?_ ?_
  ·simp only[show aX []=[] from rfl,List.length_nil]
   exact bB (n0:=n0) [(n0,0),(n0+1,0),(n0+2,0),(n0+3,0)] hG hB hC' (hcls _) (hn:=hlenQ _) (hd:=d4)
  rintro K2 ⟨i,D,nx⟩ ⟨⟨hi1,hD,hnw⟩,hmp⟩ hK2
  simp only at hi1 hD hnw hmp
  dsimp only
  rcases Nat.lt_or_ge i binds.length with hlt|hge
  ·have hmem:=List.getElem_mem hlt
   have hxw:=dH hmem
   have hxg:=binds[i].cZ
   have hdr:=kA hlt
   have hcut:=mC hlt hmp
   have hcall:=fun L=>hBd binds[i].name binds[i].e (qo binds x0 binds[i]) (Q nx++L) tb mb g0 nx (hpB _ (hxb _ hmem)) (by have:=hxb _ hmem;omega) (hsh.bind hmem) (by split<;>omega) (qx.2.1 _ _) (qx.1 _ _)
   have hcn:=cB binds[i].name binds[i].e (qo binds x0 binds[i]) nx (hsh.bind hmem)
   have hup:qo binds x0 binds[i]=!(decide (binds.length=1)&&!decide (binds[i].name∈cz binds[i].e)&&oS x0 binds[i].name):=rfl
   have hcg:(ao binds)[i]? =some (.agg (.str binds[i].name::binds[i].e.cells)):=by rw[cr,List.getElem?_map,List.getElem?_eq_getElem hlt,Option.map_some,Bd.sv,Bd.df]
   have c3:=fun H=>hst binds[i].name H
   have hfl:(cz binds[i].e).length≤binds[i].e.wt:=by
    have:=gS binds[i].e.wt binds[i].e ([],[])
    rw[cz,eP]
    simpa using this
   have c2:=fun H=>gp G (cz binds[i].e) binds[i].name H (by omega)
   have c1:=fun H=>ag.KG (cm _ _) (List.length_map ..) (zR G hG binds[i].e H (by omega))
   generalize qo binds x0 binds[i]=u at*
   generalize oS x0 binds[i].name=sv at*
   generalize cz binds[i].e=F at*
   generalize binds[i].wt=wb at*
   generalize binds[i].name=bn at*
   generalize hbe:binds[i].e=be at*
   clear hbe hmem
   obtain⟨k2,n2,nn2,op2,ns2,ss2,bs2,as2⟩:=be
   generalize B bn (.mk k2 n2 nn2 op2 ns2 ss2 bs2 as2) u nx=r0 at*
   obtain⟨bs,nx2⟩:=r0
   simp only at hcall hcn hcut
   generalize (Ex.mk k2 n2 nn2 op2 ns2 ss2 bs2 as2).wt=ew at*
   rw[show(Ex.mk k2 n2 nn2 op2 ns2 ss2 bs2 as2).cells=[.int .i64 k2,.str n2,.int .i64 nn2,.int .i64 op2,.list 1 (ns2.map .str),.list 8 (aj ss2),.list 9 (ao bs2),.list 12 (aA as2)] from rfl] at hcg
   rw[show(Ex.mk k2 n2 nn2 op2 ns2 ss2 bs2 as2).sv= .agg [.int .i64 k2,.str n2,.int .i64 nn2,.int .i64 op2,.list 1 (ns2.map .str),.list 8 (aj ss2),.list 9 (ao bs2),.list 12 (aA as2)] from rfl] at*
   have hsn:=ff D bs
   have hDl:=cc D
   have hbl:=cc bs
   by_cases hb1:binds.length=1
   ·have hb1':(binds.length:Int)=1:=by omega
    by_cases hin:bn∈F
    ·rw[decide_eq_true hin,Bool.not_true,Bool.and_false,Bool.false_and,Bool.not_false] at hup
     rw[decide_eq_true hin] at c2
     subst hup
     have X:=And.intro (And.intro aO (And.intro qx (And.intro hx21 (And.intro hx22 (And.intro hx23 (And.intro hx24 hx25)))))) (And.intro hcg (And.intro hg0 (And.intro hx8 (And.intro hx8d (And.intro hx8t (And.intro hb1' (And.intro hsn (And.intro hDl hbl))))))))
     (refine run ?_;with_reducible repeat' first|exact trivial|(apply af.mk<;>intro hb)|apply ax.mk)
     (refine bh (hcall _) ?_;rintro r H' ⟨rfl,rfl⟩;rw[qx.2.2];(refine run ?_;with_reducible repeat' first|exact trivial|(apply af.mk<;>intro hb)|apply ax.mk);refine hK2 _ _ (i+1,D++bs,nx2) (by simp only;omega) ⟨⟨by simp only;omega,by simp only[List.length_append];omega,by simp only;omega⟩,hcut⟩ ?_;simp only[List.length_append];exact bB (n0:=n0) [(n0,0),(n0+1,0),(n0+2,0),(n0+3,0)] hG hB hC' (hcls _) (hn:=hlenQ _) (hd:=d4))
    ·rw[decide_eq_false hin,decide_eq_true hb1,Bool.not_false,Bool.and_true,Bool.true_and] at hup
     rw[decide_eq_false hin] at c2
     subst hup
     have X:=And.intro (And.intro aO (And.intro qx (And.intro hx21 (And.intro hx22 (And.intro hx23 (And.intro hx24 hx25)))))) (And.intro hcg (And.intro hg0 (And.intro hx8 (And.intro hx8d (And.intro hx8t (And.intro hb1' (And.intro hsn (And.intro hDl hbl))))))))
     (refine run ?_;with_reducible repeat' first|exact trivial|(apply af.mk<;>intro hb)|apply ax.mk)
     (refine bh (hcall _) ?_;rintro r H' ⟨rfl,rfl⟩;rw[qx.2.2];(refine run ?_;with_reducible repeat' first|exact trivial|(apply af.mk<;>intro hb)|apply ax.mk);refine hK2 _ _ (i+1,D++bs,nx2) (by simp only;omega) ⟨⟨by simp only;omega,by simp only[List.length_append];omega,by simp only;omega⟩,hcut⟩ ?_;simp only[List.length_append];exact bB (n0:=n0) [(n0,0),(n0+1,0),(n0+2,0),(n0+3,0)] hG hB hC' (hcls _) (hn:=hlenQ _) (hd:=d4))
   ·have hb1':¬ (binds.length:Int)=1:=by omega
    rw[decide_eq_false hb1,Bool.false_and,Bool.false_and,Bool.not_false] at hup
    subst hup
    have X:=And.intro (And.intro aO (And.intro qx (And.intro hx21 (And.intro hx22 (And.intro hx23 (And.intro hx24 hx25)))))) (And.intro hcg (And.intro hg0 (And.intro hx8 (And.intro hx8d (And.intro hx8t (And.intro hb1' (And.intro hsn (And.intro hDl hbl))))))))
    (refine run ?_;with_reducible repeat' first|exact trivial|(apply af.mk<;>intro hb)|apply ax.mk)
    (refine bh (hcall _) ?_;rintro r H' ⟨rfl,rfl⟩;rw[qx.2.2];(refine run ?_;with_reducible repeat' first|exact trivial|(apply af.mk<;>intro hb)|apply ax.mk);refine hK2 _ _ (i+1,D++bs,nx2) (by simp only;omega) ⟨⟨by simp only;omega,by simp only[List.length_append];omega,by simp only;omega⟩,hcut⟩ ?_;simp only[List.length_append];exact bB (n0:=n0) [(n0,0),(n0+1,0),(n0+2,0),(n0+3,0)] hG hB hC' (hcls _) (hn:=hlenQ _) (hd:=d4))
  clear hK2
  have hni:¬ (i:Int)<(binds.length:Int):=by omega
  rw[List.drop_eq_nil_of_le hge] at hmp hnw hD
  simp only[cF,List.append_nil] at hmp
  rw[hmp] at hR
  simp only at hR
  have hcx:=fun L=>hcx nx L (by simp only[aW] at hnw;omega)
  generalize E x0 nx=r1 at*
  obtain⟨y,nx3⟩:=r1
  simp only at hcx hR
  have hy7:=y.aH
  have hy7t:=y.aU
  have hy7d:y.cells.drop 7=[]:=List.drop_eq_nil_of_le (by omega)
  have X:=And.intro (And.intro aO (And.intro qx (And.intro hx21 (And.intro hx22 (And.intro hx23 (And.intro hx24 hx25)))))) (And.intro hni (And.intro hg0 (And.intro hx8 (And.intro hx8d (And.intro hx8t (And.intro hy7 (And.intro hy7t hy7d)))))))
  (refine run ?_;with_reducible repeat' first|exact trivial|(apply af.mk<;>intro hb)|apply ax.mk)
  refine bh (hcx _) ?_
  rintro r H' ⟨rfl,rfl⟩
  rw[qx.2.2,show y.sv= .agg y.cells from rfl]
  (refine run ?_;with_reducible repeat' first|exact trivial|(apply af.mk<;>intro hb)|apply ax.mk)
  exact aS (n0:=n0) hR hC' (hcls _) (.agg _ _ (.cons _ _ _ _ (.same _ rfl) (.cons _ _ _ _ (.same _ rfl) (.cons _ _ _ _ (.same _ rfl) (.cons _ _ _ _ (.nil _) (.cons _ _ _ _ (.same _ (by simp only[SV.under,SV.aB,Sg.aP,Bool.and_self])) (.cons _ _ _ _ (bV.sf (g:=0) (sz:=8) (vals:=aX D) (by rw[hx23];rfl) (by omega) (by simp) (by simp) (aY _ _)) (.cons _ _ _ _ (.nil _) .nil)))))))) ⟨rfl,rfl⟩ (hn:=hlenQ _)
 have hn1:¬ kd=1:=fun h=>h12 (.inl h)
 have hn2:¬ kd=2:=fun h=>h12 (.inr h)
 generalize hres:eW E B (.mk kd nm nn op names ad binds alts) nx0=res at hR
 have X:=And.intro aO (And.intro qx (And.intro hx21 (And.intro hx22 (And.intro hx23 (And.intro hx24 hx25)))))
 (refine vx ?_;with_reducible repeat' first|exact trivial|(apply af.mk<;>intro hb)|apply ax.mk)
 refine eT (fun a:Sg×List Ar×Nat=>[(4,.ptr (n0+1) 0 0 0),(5,.ptr (n0+2) 0 0 0),(6,.list 9 (bO a.2.1))])
  (fun a=>Q a.2.2++[.cells 0 8 [.agg [.int .i64 kd,.str nm,.int .i64 nn,.int .i64 op,.list 1 (names.map .str),.list 8 (aj ad),.list 9 (ao binds),.list 12 (aA alts)]],.cells 0 7 [.agg [.int .i64 0,.str [],.int .i64 0,.nil,.nil,.nil,.nil]],.cells 0 7 [.agg a.1.cells]]) (fun a=>(∀ x∈a.2.1,x.ok)∧a.2.1.length<1099511627776∧(dy a.2.1 a.1,a.2.2)=res) (fun K hK=>?_) ?_
 rotate_left
 ·rintro⟨e0,W,nx⟩ ⟨ha1,ha2,ha3⟩
  simp only at ha1 ha2 ha3
  subst ha3
  simp only at hR ⊢
  have he7:=e0.aH
  have he7t:=e0.aU
  have he7d:e0.cells.drop 7=[]:=List.drop_eq_nil_of_le (by omega)
  have c1:=fun H=>zx G hG W ha1 ha2 e0 H
  have hru:=fun n=>Sg.aP n (dy W e0)
  have hr7:=(dy W e0).aH
  have hr7t:=(dy W e0).aU
  rw[show(dy W e0).sv= .agg (dy W e0).cells from rfl] at*
  generalize (dy W e0).cells=rc at*
  have X:=And.intro (And.intro aO (And.intro qx (And.intro hx21 (And.intro hx22 (And.intro hx23 (And.intro hx24 hx25)))))) (And.intro he7 (And.intro he7t (And.intro he7d (And.intro hr7 hr7t))))
  (refine run ?_;with_reducible repeat' first|exact trivial|(apply af.mk<;>intro hb)|apply ax.mk)
  exact aS (n0:=n0) hR hC' (hcls _) (.same _ (by simp only[bA,SV.under,hru])) ⟨rfl,rfl⟩ (hn:=hlenQ _)
 have bF:=bS
 have dp:=dD
 have dJ:=aY
 have hjoin:∀ (e0:Sg) (W:List Ar) (nx:Nat),(∀ x∈W,x.ok)→W.length<1099511627776→(dy W e0,nx)=res→∀ env H',Wk G 204 C ⟨env,H'⟩ ⟨[(4,.ptr (n0+1) 0 0 0),(5,.ptr (n0+2) 0 0 0),(6,.list 9 (bO W))],Q nx++[.cells 0 8 [.agg [.int .i64 kd,.str nm,.int .i64 nn,.int .i64 op,.list 1 (names.map .str),.list 8 (aj ad),.list 9 (ao binds),.list 12 (aA alts)]],.cells 0 7 [.agg [.int .i64 0,.str [],.int .i64 0,.nil,.nil,.nil,.nil]],.cells 0 7 [.agg e0.cells]]⟩→K env H':=fun e0 W nx q1 q2 q3 env H' hw=>hK _ _ (e0,W,nx) ⟨q1,q2,q3⟩ hw
 clear hK hR
 by_cases h3:kd=3
 ·subst h3
  rw[tJ] at hres
  have hcb:=fun L=>hBd (eB bW nx0) (.mk 3 nm nn op names ad binds alts) true (Q (nx0+1)++L) tb mb g0 (nx0+1) (by show l6 _≤m;unfold l6;rw[if_pos rfl] at hP;omega) hw hsh (by show _≤4294967290+1;omega) (qx.2.1 _ _) (qx.1 _ _)
  have hbn:=nB (eB bW nx0) (.mk 3 nm nn op names ad binds alts) true (nx0+1)
  generalize B (eB bW nx0) (.mk 3 nm nn op names ad binds alts) true (nx0+1)=r0 at*
  obtain⟨bs,nx2⟩:=r0
  simp only at hcb hbn hres
  have X:=And.intro (And.intro aO (And.intro qx (And.intro hx21 (And.intro hx22 (And.intro hx23 (And.intro hx24 hx25)))))) (And.intro hn1 hn2)
  (refine run ?_;with_reducible repeat' first|exact trivial|(apply af.mk<;>intro hb)|apply ax.mk)
  refine bh (nU G hG C0 hb0 hl0 mb g0 nx0 (.map tb) _ (qx.1 _ _) (by omega)) ?_
  rintro r H' ⟨rfl,rfl⟩
  rw[qx.2.2]
  generalize eB bW nx0=tt at*
  (refine run ?_;with_reducible repeat' first|exact trivial|(apply af.mk<;>intro hb)|apply ax.mk)
  refine bh (hcb _) ?_
  rintro r H' ⟨rfl,rfl⟩
  rw[qx.2.2]
  (refine run ?_;with_reducible repeat' first|exact trivial|(apply af.mk<;>intro hb)|apply ax.mk)
  refine hjoin (.mk 1 [] 0 [⟨tt,0⟩] [] [] []) [.bs bs] nx2 (by intro x hx;rw[List.mem_singleton.1 hx];exact hbn) (by simp) hres _ _ ?_
  simp only[Sg.cells,bq,cJ,aX,bU,bO,List.map_cons,List.map_nil,Ar.cells,HF,At.cells]
  exact bB (n0:=n0) [(n0,0),(n0+1,0),(n0+2,0)] hG hB hC' (hcls _) (hn:=hlenQ _) (hd:=d3)
 by_cases h7:kd=7
 ·subst h7
  rw[tI] at hres
  have hcc:=fun L=>qX G hG C0 hb0 hl0 cs T (fun e=>l6 e≤m) B hBd cB ad (Q nx0++L) tb mb g0 nx0 (fun x hx=>⟨hpB x (hxs x hx),hsh.sub hx⟩) (by omega) (by omega) (qx.2.1 _ _) (qx.1 _ _)
  have hcn:=fH cB ad nx0 fun x hx=>hsh.sub hx
  have hok:=mn ad nx0 nB
  generalize aM B ad nx0=r0 at*
  obtain⟨⟨A,W⟩,nx2⟩:=r0
  simp only at hcc hcn hres hok
  have X:=And.intro (And.intro aO (And.intro qx (And.intro hx21 (And.intro hx22 (And.intro hx23 (And.intro hx24 hx25)))))) (And.intro hn1 (And.intro hn2 h3))
  (refine run ?_;with_reducible repeat' first|exact trivial|(apply af.mk<;>intro hb)|apply ax.mk)
  refine bh (hcc _) ?_
  rintro r H' ⟨rfl,rfl⟩
  rw[qx.2.2]
  (refine run ?_;with_reducible repeat' first|exact trivial|(apply af.mk<;>intro hb)|apply ax.mk)
  refine hjoin (.mk 3 nm 0 A [] [] []) W nx2 hok (by omega) hres _ _ ?_
  simp only[Sg.cells,cJ,aX,bU,List.map_cons,List.map_nil]
  exact bB (n0:=n0) [(n0,0),(n0+1,0),(n0+2,0)] hG hB hC' (hcls _) (hn:=hlenQ _) (hd:=d3)
 by_cases h8:kd=8
 ·subst h8
  rw[ru] at hres
  have hnm:nm=[]:=List.length_eq_zero_iff.1 (by unfold dM at hnode;omega)
  subst hnm
  have hcc:=fun L=>BL G hG C0 hb0 hl0 cs T (fun e=>qD e≤m) E hEx cE ad (Q nx0++L) tb mb g0 nx0 (fun x hx=>⟨hpE x (hxs x hx),hsh.sub hx⟩) (by omega) (by omega) (qx.2.1 _ _) (qx.1 _ _)
  have hcn:=pM cE ad nx0 fun x hx=>hsh.sub hx
  have hok:=sW (E:=E) ad nx0
  generalize bG E ad nx0=r0 at*
  obtain⟨⟨A,W⟩,nx2⟩:=r0
  simp only at hcc hcn hres hok
  have X:=And.intro (And.intro aO (And.intro qx (And.intro hx21 (And.intro hx22 (And.intro hx23 (And.intro hx24 hx25)))))) (And.intro hn1 (And.intro hn2 (And.intro h3 h7)))
  (refine run ?_;with_reducible repeat' first|exact trivial|(apply af.mk<;>intro hb)|apply ax.mk)
  all_goals
   refine bh (hcc _) ?_
   rintro r H' ⟨rfl,rfl⟩
   rw[qx.2.2]
   (refine run ?_;with_reducible repeat' first|exact trivial|(apply af.mk<;>intro hb)|apply ax.mk)
   refine hjoin (.mk 4 [] op A [] [] []) W nx2 hok (by omega) hres _ _ ?_
   simp only[Sg.cells,cJ,aX,bU,List.map_cons,List.map_nil]
   exact bB (n0:=n0) [(n0,0),(n0+1,0),(n0+2,0)] hG hB hC' (hcls _) (hn:=hlenQ _) (hd:=d3)
 by_cases h4:kd=4
 ·subst h4
  rw[tH] at hres
  have hr1:=fun h:(ad.headD bw).kind=1=>(if_pos h).symm.trans hres
  have hr2:=fun h:¬ (ad.headD bw).kind=1=>(if_neg h).symm.trans hres
  clear hres
  have hs:=hsh.app
  have h0:=b7 (l:=ad) (by omega)
  have hmm:=cP (l:=ad) (by omega)
  have hg0:(aj ad)[0]? =some (ad.headD bw).sv:=by
   cases ad with
   |nil=>simp at hs
   |cons a r=>rfl
  have hdr:(aj ad).drop 1=aj (ad.drop 1):=by rw[bQ,bQ,List.map_drop]
  have hsl:(aj ad).length=ad.length:=ct _
  have hs1:(1:Int)≤(ad.length:Int):=by omega
  have hcc:=fun nx L (h:nx+bt (ad.drop 1)+1≤4294967290)=>qX G hG C0 hb0 hl0 cs T (fun e=>l6 e≤m) B hBd cB (ad.drop 1) (Q nx++L) tb mb g0 nx (fun x hx=>⟨hpB x (hxs x (List.mem_of_mem_drop hx)),hsh.sub (List.mem_of_mem_drop hx)⟩) (by omega) h (qx.2.1 _ _) (qx.1 _ _)
  have hcn:=fun nx=>fH cB (ad.drop 1) nx fun x hx=>hsh.sub (List.mem_of_mem_drop hx)
  have hok:=fun nx=>mn (B:=B) (ad.drop 1) nx nB
  have hdl:(ad.drop 1).length+1=ad.length:=by rw[List.length_drop];omega
  have hcx:=fun L=>hEx (ad.headD bw) (Q (nx0+1)++L) tb mb g0 (nx0+1) (hpE _ (hxs _ hmm)) (by have:=hxs _ hmm;omega) (hsh.sub hmm) (by omega) (qx.2.1 _ _) (qx.1 _ _)
  have hce:=cE (ad.headD bw) (nx0+1) (hsh.sub hmm)
  have hpos:=(ad.headD bw).bz
  generalize (ad.headD bw).wt=xw at*
  generalize bt (ad.drop 1)=rw0 at*
  generalize ad.drop 1=rest at*
  generalize hx:ad.headD bw=x at*
  generalize E x (nx0+1)=r1 at*
  obtain⟨y,nx2⟩:=r1
  simp only at hcx hce hr2
  clear hx hmm
  have htk:List.take (ad.length - 1) (aj rest)=aj rest:=List.take_of_length_le (by rw[ct];omega)
  obtain⟨k2,n2,nn2,op2,ns2,ss2,bs2,as2⟩:=x
  rw[show(Ex.mk k2 n2 nn2 op2 ns2 ss2 bs2 as2).sv= .agg [.int .i64 k2,.str n2,.int .i64 nn2,.int .i64 op2,.list 1 (ns2.map .str),.list 8 (aj ss2),.list 9 (ao bs2),.list 12 (aA as2)] from rfl] at*
  by_cases hk:k2=1
  ·have hres:=hr1 hk
   clear hr1 hr2
   simp only[Ex.name] at hres
   have hcc:=fun L=>hcc nx0 L (by omega)
   have hcn:=hcn nx0
   have hok:=hok nx0
   generalize aM B rest nx0=r0 at*
   obtain⟨⟨A,W⟩,nx3⟩:=r0
   simp only at hcc hcn hres hok
   have X:=And.intro (And.intro aO (And.intro qx (And.intro hx21 (And.intro hx22 (And.intro hx23 (And.intro hx24 hx25)))))) (And.intro hn1 (And.intro hn2 (And.intro h3 (And.intro h7 (And.intro h8 (And.intro hg0 (And.intro hk (And.intro hdr (And.intro hsl (And.intro hs1 htk))))))))))
   have hWl:=e9 W
   have hln:(aj rest).length=rest.length:=ct _
   (refine run ?_;with_reducible repeat' first|exact trivial|(apply af.mk<;>intro hb)|apply ax.mk)
   refine bh (hcc _) ?_
   rintro r H' ⟨rfl,rfl⟩
   rw[qx.2.2]
   have X:=And.intro (And.intro aO (And.intro qx (And.intro hx21 (And.intro hx22 (And.intro hx23 (And.intro hx24 hx25)))))) hWl
   (refine run ?_;with_reducible repeat' first|exact trivial|(apply af.mk<;>intro hb)|apply ax.mk)
   refine hjoin (.mk 2 n2 0 A [] [] []) W nx3 hok (by omega) hres _ _ ?_
   simp only[Sg.cells,cJ,aX,bU,List.map_cons,List.map_nil]
   exact bB (n0:=n0) [(n0,0),(n0+1,0),(n0+2,0)] hG hB hC' (hcls _) (hn:=hlenQ _) (hd:=d3)
  ·have hres:=hr2 hk
   clear hr1 hr2
   have hcc:=fun L=>hcc nx2 L (by omega)
   have hcn:=hcn nx2
   have hok:=hok nx2
   generalize aM B rest nx2=r0 at*
   obtain⟨⟨A,W⟩,nx3⟩:=r0
   simp only at hcc hcn hres hok
   have hy7:=y.aH
   have hy7t:=y.aU
   have hy7d:y.cells.drop 7=[]:=List.drop_eq_nil_of_le (by omega)
   have X:=And.intro (And.intro aO (And.intro qx (And.intro hx21 (And.intro hx22 (And.intro hx23 (And.intro hx24 hx25)))))) (And.intro hn1 (And.intro hn2 (And.intro h3 (And.intro h7 (And.intro h8 (And.intro hg0 (And.intro hk (And.intro hdr (And.intro hsl (And.intro hs1 (And.intro htk (And.intro hy7 (And.intro hy7t hy7d)))))))))))))
   (refine run ?_;with_reducible repeat' first|exact trivial|(apply af.mk<;>intro hb)|apply ax.mk)
   refine bh (nU G hG C0 hb0 hl0 mb g0 nx0 (.map tb) _ (qx.1 _ _) (by omega)) ?_
   rintro r H' ⟨rfl,rfl⟩
   rw[qx.2.2]
   generalize eB bW nx0=tt at*
   (refine run ?_;with_reducible repeat' first|exact trivial|(apply af.mk<;>intro hb)|apply ax.mk)
   refine dq (hcx _) ?_
   rintro r H' ⟨rfl,rfl⟩
   rw[qx.2.2,show y.sv= .agg y.cells from rfl]
   (refine run ?_;with_reducible repeat' first|exact trivial|(apply af.mk<;>intro hb)|apply ax.mk)
   refine bh (hcc _) ?_
   rintro r H' ⟨rfl,rfl⟩
   rw[qx.2.2]
   have hWl:=e9 W
   have hcons:SV.agg (.nil:: .str tt::(y.cells++[]))::bO W=bO (.look tt y::W):=by rw[List.append_nil];rfl
   have X:=And.intro (And.intro aO (And.intro qx (And.intro hx21 (And.intro hx22 (And.intro hx23 (And.intro hx24 hx25)))))) (And.intro hWl (And.intro hy7 (And.intro hy7t (And.intro hy7d hcons))))
   (refine run ?_;with_reducible repeat' first|exact trivial|(apply af.mk<;>intro hb)|apply ax.mk)
   rw[show 1+W.length=(Ar.look tt y::W).length by simp only[List.length_cons];omega]
   refine hjoin (.mk 2 tt 0 A [] [] []) (.look tt y::W) nx3 (by intro x hx;rcases List.mem_cons.1 hx with rfl|hx;trivial;exact hok x hx) (by simp only[List.length_cons];omega) hres _ _ ?_
   generalize Ar.look tt y::W=W2 at*
   simp only[Sg.cells,cJ,aX,bU,List.map_cons,List.map_nil]
   exact bB (n0:=n0) [(n0,0),(n0+1,0),(n0+2,0)] hG hB hC' (hcls _) (hn:=hlenQ _) (hd:=d3)
 by_cases h6:kd=6
 ·subst h6
  rw[rr] at hres
  have hs:ad.length=1:=by unfold dM at hnode;omega
  have h0:=b7 (l:=ad) (by omega)
  have hmm:=cP (l:=ad) (by omega)
  have hg0:(aj ad)[0]? =some (ad.headD bw).sv:=by
   cases ad with
   |nil=>simp at hs
   |cons a r=>rfl
  have hcx:=fun L=>hEx (ad.headD bw) (Q nx0++L) tb mb g0 nx0 (hpE _ (hxs _ hmm)) (by have:=hxs _ hmm;omega) (hsh.sub hmm) (by omega) (qx.2.1 _ _) (qx.1 _ _)
  have hce:=cE (ad.headD bw) nx0 (hsh.sub hmm)
  have hx8:=(ad.headD bw).aH
  have hx8d:=(ad.headD bw).bY
  have hx8t:=(ad.headD bw).aU
  generalize (ad.headD bw).wt=xw at*
  generalize hx:ad.headD bw=x at*
  generalize E x nx0=r1 at*
  obtain⟨y,nx1⟩:=r1
  simp only at hcx hce hres
  rw[show x.sv= .agg x.cells from rfl] at*
  clear hx hmm
  generalize x.cells=xc at*
  have hy7:=y.aH
  have hy7t:=y.aU
  have hy7d:y.cells.drop 7=[]:=List.drop_eq_nil_of_le (by omega)
  have X:=And.intro (And.intro aO (And.intro qx (And.intro hx21 (And.intro hx22 (And.intro hx23 (And.intro hx24 hx25)))))) (And.intro hn1 (And.intro hn2 (And.intro h3 (And.intro h7 (And.intro h8 (And.intro h4 (And.intro hg0 (And.intro hx8 (And.intro hx8d (And.intro hx8t (And.intro hy7 (And.intro hy7t hy7d))))))))))))
  (refine run ?_;with_reducible repeat' first|exact trivial|(apply af.mk<;>intro hb)|apply ax.mk)
  refine bh (hcx _) ?_
  rintro r H' ⟨rfl,rfl⟩
  rw[qx.2.2,show y.sv= .agg y.cells from rfl]
  (refine run ?_;with_reducible repeat' first|exact trivial|(apply af.mk<;>intro hb)|apply ax.mk)
  have d4:=vi n0 [0,1,2,3] (by decide)
  refine aC (fun a:Nat×List Sl×Nat=>[(0,.ptr mb g0 0 0),(3,.ptr n0 0 0 0),(4,.ptr (n0+1) 0 0 0),(5,.ptr (n0+2) 0 0 0),(6,.nil),(175,.list 12 (aA alts)),(176,.int .i64 alts.length),(177,.int .i64 (a.1:Int))])
   (fun a=>Q a.2.2++[.cells 0 8 [.agg [.int .i64 6,.str nm,.int .i64 nn,.int .i64 op,.list 1 (names.map .str),.list 8 (aj ad),.list 9 (ao binds),.list 12 (aA alts)]],.cells 0 7 [.agg [.int .i64 0,.str [],.int .i64 0,.nil,.nil,.nil,.nil]],.cells 0 7 [.agg [.int .i64 5,.str nm,.int .i64 0,.nil,.list 7 [.agg y.cells],.nil,.sl (n0+3) 0 0 a.2.1.length]],.cells 0 11 (bU a.2.1)]) (fun a=>alts.length - a.1)
   (fun a=>(a.1≤alts.length∧a.2.1.length=a.1∧a.2.2+cp (alts.drop a.1)≤nx1+cp alts)∧fO (lh E) alts nx1=(a.2.1++(fO (lh E) (alts.drop a.1) a.2.2).1,(fO (lh E) (alts.drop a.1) a.2.2).2)) (0,[],nx1) ⟨⟨Nat.zero_le _,rfl,Nat.le_refl _⟩,rfl⟩ ?_ ?_
  ·refine Wk.trans (oW (id:=n0+2) (i:=0) (j:=6) 11 (by rw[hx23];rfl) rfl rfl) ?_
   simp only[hx25,hx21,List.set_cons_succ,List.set_cons_zero,List.append_assoc,List.cons_append,List.nil_append,List.length_append,List.length_cons,List.length_nil,Nat.reduceAdd,show bU []=[] from rfl]
   have dJ:=cg
   have ko:=Sg.aP
   exact bB (n0:=n0) [(n0,0),(n0+1,0),(n0+2,0),(n0+3,0)] hG hB hC' (hcls _) (hn:=hlenQ _) (hd:=d4)
  rintro K2 ⟨i,D,nx⟩ ⟨⟨hi1,hD,hnw⟩,hmp⟩ hK2
  simp only at hi1 hD hnw hmp
  dsimp only
  rcases Nat.lt_or_ge i alts.length with hlt|hge
  ·have hmem:=List.getElem_mem hlt
   have hxw:=cN hmem
   have hxg:=alts[i].cZ
   have hdr:=qN hlt
   have hnmw:=alts[i].ku
   have hcall:=fun L=>hEx alts[i].body (Q nx++L) tb mb g0 nx (hpE _ (hxa _ hmem)) (by have:=hxa _ hmem;omega) (hsh.alt hmem) (by omega) (qx.2.1 _ _) (qx.1 _ _)
   have hce2:=cE alts[i].body nx (hsh.alt hmem)
   have hmp2:=xh hlt hmp
   have hcg:(aA alts)[i]? =some (.agg (.int .i64 alts[i].kind:: .str alts[i].name:: .int .i64 alts[i].n:: .list 1 (alts[i].names.map .str)::alts[i].body.cells)):=by rw[gy,List.getElem?_eq_getElem hlt];rfl
   have c1:=fun H=>ag.KG (cm _ _) (List.length_map ..) (nh G hG alts[i].names H (by omega))
   simp only[lh] at hmp2
   generalize alts[i].wt=wa at*
   generalize alts[i].kind=ak at*
   generalize alts[i].name=an at*
   generalize alts[i].n=av at*
   generalize alts[i].names=ans at*
   generalize alts[i].body=bd at*
   generalize E bd nx=yy at*
   obtain⟨z,nx2⟩:=yy
   simp only at hcall hce2 hmp2
   have hb8:=bd.aH
   have hb8d:=bd.bY
   have hb8t:=bd.aU
   rw[show bd.sv= .agg bd.cells from rfl] at*
   generalize bd.cells=bc at*
   have hz7:=z.aH
   have hz7t:=z.aU
   have hz7d:z.cells.drop 7=[]:=List.drop_eq_nil_of_le (by omega)
   have hsn:bU D++[.agg (.int .i64 ak:: .str an:: .int .i64 av:: .list 1 (ans.map .str)::(z.cells++[]))]=bU (D++[.mk ak an av ans z]):=by rw[List.append_nil];exact oO D (.mk ak an av ans z)
   have hDl:=jk D
   have X:=And.intro (And.intro aO (And.intro qx (And.intro hx21 (And.intro hx22 (And.intro hx23 (And.intro hx24 hx25)))))) (And.intro hcg (And.intro hb8 (And.intro hb8d (And.intro hb8t (And.intro hz7 (And.intro hz7t (And.intro hz7d (And.intro hsn hDl))))))))
   (refine run ?_;with_reducible repeat' first|exact trivial|(apply af.mk<;>intro hb)|apply ax.mk)
   refine dq (hcall _) ?_
   rintro r H' ⟨rfl,rfl⟩
   rw[qx.2.2,show z.sv= .agg z.cells from rfl]
   (refine run ?_;with_reducible repeat' first|exact trivial|(apply af.mk<;>intro hb)|apply ax.mk)
   refine hK2 _ _ (i+1,D++[.mk ak an av ans z],nx2) (by simp only;omega) ⟨⟨by simp only;omega,by simp only[List.length_append,List.length_cons,List.length_nil];omega,by simp only;omega⟩,hmp2⟩ ?_
   simp only[List.length_append,List.length_cons,List.length_nil]
   have dJ:=cg
   have ko:=Sg.aP
   exact bB (n0:=n0) [(n0,0),(n0+1,0),(n0+2,0),(n0+3,0)] hG hB hC' (hcls _) (hn:=hlenQ _) (hd:=d4)
  clear hK2
  have hni:¬ (i:Int)<(alts.length:Int):=by omega
  rw[List.drop_eq_nil_of_le hge] at hmp
  simp only[fO,List.append_nil] at hmp
  rw[hmp] at hres
  simp only at hres
  have X:=And.intro (And.intro aO (And.intro qx (And.intro hx21 (And.intro hx22 (And.intro hx23 (And.intro hx24 hx25)))))) hni
  (refine run ?_;with_reducible repeat' first|exact trivial|(apply af.mk<;>intro hb)|apply ax.mk)
  refine hjoin (.mk 5 nm 0 [] [y] [] D) [] nx (by intro x hx;cases hx) (by simp) hres _ _ ?_
  simp only[Sg.cells,bq,cJ,aX,List.map_cons,List.map_nil,show bO []=[] from rfl]
  have dJ:=cg
  have ko:=Sg.aP
  exact bB (n0:=n0) [(n0,0),(n0+1,0),(n0+2,0)] hG hB hC' (hcls _) (hn:=hlenQ _) (hd:=d3)
 ·exfalso
  unfold dM at hnode
  omega
end
theorem Ek (G:Gl) (hG:aw G) (hB0:eJ G 0) (C0:Cx) (hb0:G.base=some C0) (hl0:gZ C0) (cs:List Cn) (T:List aI):∀ m,vM G cs T (fun e=>qD e≤m) (jF T m).1∧vL G cs T (fun e=>l6 e≤m) (jF T m).2
 |0=>⟨fun e H tb mb g0 nx hP _ _ _ _ _=>by have:=e.bz;have hP:qD e≤0:=hP;unfold qD at hP;omega,fun s e u H tb mb g0 nx hP _ _ _ _ _=>by have:=e.bz;have hP:l6 e≤0:=hP;unfold l6 at hP;omega⟩
 |m+1=>by
  obtain⟨h1,h2⟩:=Ek G hG hB0 C0 hb0 hl0 cs T m
  obtain⟨c1,c2,_⟩:=oU cs T m
  exact⟨E7 G hG hB0 C0 hb0 hl0 cs T m _ _ h1 h2 c1 c2 fun hm=>Hm T hm,E0 G hG C0 hb0 hl0 cs T m _ _ h1 h2 c1 c2⟩
def pK (l:List Bd):List aI:=(l.map Bd.name).foldl j9 []
def jN (p:Pg):Nat:=3*aW p.binds+3
def ED (p:Pg):List Sb:=(cF (jF (pK p.binds) (jN p)).2 (fun _=>true) p.binds (ql p.binds)).1
def BG (cons:List Cn) (l:List Sb):SV:= .agg [.list 4 (aQ cons),.list 8 (aX l)]
theorem Gs (G:Gl) (hG:aw G) (p:Pg) (H:List az) (hw:aW p.binds<67108864) (hcn:p.cons.length<1099511627776) (hne:¬ cV p=0):
 ag Tryz.prog G 7 [p.sv] H (fun r H'=>H'=H∧r= .tuple [.agg [.list 4 [],.list 8 []],.int .i64 (cV p)]):=by
 have c1:=fun H=>Ab G hG p H (by omega) hcn
 generalize cV p=S at*
 obtain⟨cons,binds⟩:=p
 rw[show(Pg.mk cons binds).sv= .agg [.list 4 (aQ cons),.list 9 (ao binds)] from rfl] at*
 refine ag.aK TB [] aF _ Tryz.func7 rfl (by decide) Tryz.ntmps7 (by simp) rfl (by simp only[au,Nat.reduceAdd];rfl) fun C R' hR hC hcl hB=>?_;have X:=aO;have hC':=congrArg List.length hC
 have X:=And.intro aO hne
 (refine run ?_;with_reducible repeat' first|exact trivial|(apply af.mk<;>intro hb)|apply ax.mk)
 exact Fin.dx (n0:=H.length) hR rfl hC' hcl (.tuple _ _ (.cons _ _ _ _ (.agg _ _ (.cons _ _ _ _ (.nil _) (.cons _ _ _ _ (.nil _) .nil))) (.cons _ _ _ _ (.same _ rfl) .nil))) ⟨rfl,rfl⟩
theorem F3 (G:Gl) (hG:aw G) (hB0:eJ G 0) (C0:Cx) (hb0:G.base=some C0) (hl0:gZ C0) (p:Pg) (H:List az) (hw:aW p.binds<67108864) (hcn:p.cons.length<1073741824) (hns:∀ s∈bj p.binds,s.length<4294967296) (h0:cV p=0):
 ag Tryz.prog G 7 [p.sv] H (fun r H'=>H'=H∧r= .tuple [BG p.cons (ED p),.int .i64 0]):=by
 have c1:=fun H=>Ab G hG p H (by omega) (by omega)
 rw[h0] at c1
 have hbd:=(Ek G hG hB0 C0 hb0 hl0 p.cons (pK p.binds) (jN p)).2
 have hcnt:=(oU p.cons (pK p.binds) (jN p)).2.1
 have hsh:∀ b∈p.binds,Sh p.cons b.e:=fun b hb=>⟨(p6 h0).BR b hb,(p6 h0).full b hb⟩
 have hfu:∀ b∈p.binds,l6 b.e≤jN p:=fun b hb=>by have:=dH hb;have:=b.cZ;unfold l6 jN;omega
 have hnl:=Af p.binds
 have hof:ED p=(cF (jF (pK p.binds) (jN p)).2 (fun _=>true) p.binds (ql p.binds)).1:=rfl
 rw[hof]
 clear hof h0
 generalize jN p=fu at*
 obtain⟨cons,binds⟩:=p
 simp only at*
 have hle:=dG binds
 have c2:=fun H=>Cv G hG C0 hb0 hl0 cons binds H (by omega) hns
 have hcc:=fun H=>pQ G hG (aQ cons) (fun n=>bN n cons) H (by rw[fL];omega)
 rw[fL] at hcc
 rw[show(Pg.mk cons binds).sv= .agg [.list 4 (aQ cons),.list 9 (ao binds)] from rfl] at*
 unfold BG
 have bF:=fun n=>bN n cons
 have dp:=aY
 generalize ql binds=nx0 at*
 obtain⟨T,hT⟩:∃ T:Nat→List aI,∀ i,T i=((binds.take i).map Bd.name).foldl j9 []:=⟨fun i=>_,fun i=>rfl⟩
 have hT0:T 0=[]:=by rw[hT];rfl
 have hTs:∀ i (h:i<binds.length),T (i+1)=j9 (T i) binds[i].name:=fun i h=>by rw[hT,hT,List.take_succ_eq_append_getElem h,List.map_append,List.foldl_append];rfl
 have hTe:pK binds=T binds.length:=by rw[hT,List.take_length];rfl
 rw[hTe] at hbd hcnt ⊢
 clear hT hTe
 refine ag.aK TB [] aF _ Tryz.func7 rfl (by decide) Tryz.ntmps7 (by simp) rfl (by simp only[au,Nat.reduceAdd];rfl) fun C R' hR hC hcl hB=>?_;have X:=aO;have hC':=congrArg List.length hC
 (refine run ?_;with_reducible repeat' first|exact trivial|(apply af.mk<;>intro hb)|apply ax.mk)
 have d4:=vi H.length [0,1,2,3] (by decide)
 have d7:=vi H.length [0,1,2,3,4,5,6] (by decide)
 refine aC (fun i:Nat=>[(1,.ptr H.length 0 0 0),(2,.ptr (H.length+1) 0 0 0),(5,.ptr (H.length+3) 0 0 0),(23,.list 9 (ao binds)),(24,.int .i64 binds.length),(25,.int .i64 (i:Int))])
  (fun i=>H++[.cells 0 2 [.agg [.list 4 (aQ cons),.list 9 (ao binds)]],.cells 0 2 [.agg [.nil,.nil]],.map none (gT (T i)),.cells 0 2 [.agg [.int .i64 (nx0:Int),.map (H.length+2)]]]) (fun i=>binds.length - i) (fun i=>i≤binds.length) 0 (Nat.zero_le _) ?_ ?_
 ·rw[hT0,show gT []=[] from rfl]
  exact bB (n0:=H.length) [(H.length,0),(H.length+1,0),(H.length+2,0),(H.length+3,0)] hG hB hC' hcl (hd:=d4)
 ·rintro K i hi hK
  rcases Nat.lt_or_ge i binds.length with hlt|hge
  ·have hcg:(ao binds)[i]? =some (.agg (.str binds[i].name::binds[i].e.cells)):=by rw[cr,List.getElem?_map,List.getElem?_eq_getElem hlt,Option.map_some,Bd.sv,Bd.df]
   have hst:=kl (T i) binds[i].name
   have hts:=hTs i hlt
   have hx8:=binds[i].e.aH
   generalize binds[i].name=bn at*
   generalize binds[i].e.cells=bc at*
   have X:=And.intro aO (And.intro hcg (And.intro hst hx8))
   (refine run ?_;with_reducible repeat' first|exact trivial|(apply af.mk<;>intro hb)|apply ax.mk)
   refine hK _ _ (i+1) (by omega) (by omega) ?_
   rw[hts]
   exact bB (n0:=H.length) [(H.length,0),(H.length+1,0),(H.length+2,0),(H.length+3,0)] hG hB hC' hcl (hd:=d4)
  clear hK
  obtain rfl:i=binds.length:=by omega
  generalize hTT:T binds.length=TT at*
  clear hTT hTs hT0
  clear T
  have X:=And.intro aO (Int.lt_irrefl (binds.length:Int))
  (refine run ?_;with_reducible repeat' first|exact trivial|(apply af.mk<;>intro hb)|apply ax.mk)
  refine bh (hcc _) ?_
  rintro r H' ⟨rfl,rfl⟩
  simp only[List.append_assoc,List.cons_append,List.nil_append,List.length_append,List.length_cons,List.length_nil,List.length_set,X,Nat.reduceAdd]
  (refine run ?_;with_reducible repeat' first|exact trivial|(apply af.mk<;>intro hb)|apply ax.mk)
  refine aC (fun a:Nat×List Sb×Nat=>[(2,.ptr (H.length+1) 0 0 0),(5,.ptr (H.length+3) 0 0 0),(8,.ptr (H.length+5) 0 0 0),(41,.list 9 (ao binds)),(42,.int .i64 binds.length),(43,.int .i64 (a.1:Int))])
   (fun a=>H++[.cells 0 2 [.agg [.list 4 (aQ cons),.list 9 (ao binds)]],.cells 0 2 [.agg [.nil,.nil]],.map none (gT TT),.cells 0 2 [.agg [.int .i64 (a.2.2:Int),.map (H.length+2)]],.cells 0 4 (aQ cons),.cells 0 2 [.agg [.sl (H.length+4) 0 0 cons.length,.sl (H.length+6) 0 0 a.2.1.length]],.cells 0 8 (aX a.2.1)]) (fun a=>binds.length - a.1)
   (fun a=>(a.1≤binds.length∧a.2.1.length+aW (binds.drop a.1)≤aW binds∧a.2.2+aW (binds.drop a.1)≤nx0+aW binds)∧cF (jF TT fu).2 (fun _=>true) binds nx0=(a.2.1++(cF (jF TT fu).2 (fun _=>true) (binds.drop a.1) a.2.2).1,(cF (jF TT fu).2 (fun _=>true) (binds.drop a.1) a.2.2).2)) (0,[],nx0) ⟨⟨Nat.zero_le _,by simp,Nat.le_refl _⟩,rfl⟩ ?_ ?_
  ·refine Wk.trans (oW (id:=H.length+5) (i:=0) (j:=1) 8 ((bJ ..).trans rfl) rfl rfl) ?_
   simp only[cq,List.set_cons_succ,List.set_cons_zero,List.append_assoc,List.cons_append,List.nil_append,List.length_append,List.length_cons,List.length_nil,Nat.reduceAdd,show aX []=[] from rfl]
   exact bB (n0:=H.length) [(H.length,0),(H.length+1,0),(H.length+2,0),(H.length+3,0),(H.length+4,0),(H.length+5,0),(H.length+6,0)] hG hB hC' hcl (hd:=d7)
  rintro K ⟨i,D,nx⟩ ⟨⟨hi1,hD,hnw⟩,hmp⟩ hK
  simp only at hi1 hD hnw hmp
  dsimp only
  rcases Nat.lt_or_ge i binds.length with hlt|hge
  ·have hmem:=List.getElem_mem hlt
   have hxw:=dH hmem
   have hxg:=binds[i].cZ
   have hdr:=kA hlt
   have hcut:=mC hlt hmp
   have hcall:=fun L=>hbd binds[i].name binds[i].e true (H++(.cells 0 2 [.agg [.list 4 (aQ cons),.list 9 (ao binds)]]:: .cells 0 2 [.agg [.nil,.nil]]:: .map none (gT TT):: .cells 0 2 [.agg [.int .i64 (nx:Int),.map (H.length+2)]]::L)) (H.length+2) (H.length+3) 0 nx (hfu _ hmem) (by omega) (hsh _ hmem) (by split<;>omega) (by rw[bJ];rfl) (by rw[bJ];rfl)
   have hcn:=hcnt binds[i].name binds[i].e true nx (hsh _ hmem)
   have hcg:(ao binds)[i]? =some (.agg (.str binds[i].name::binds[i].e.cells)):=by rw[cr,List.getElem?_map,List.getElem?_eq_getElem hlt,Option.map_some,Bd.sv,Bd.df]
   have hx8:=binds[i].e.aH
   have hx8d:=binds[i].e.bY
   have hx8t:=binds[i].e.aU
   generalize (jF TT fu).2 binds[i].name binds[i].e true nx=r0 at*
   obtain⟨bs,nx2⟩:=r0
   simp only at hcall hcn hcut
   rw[show binds[i].e.sv= .agg binds[i].e.cells from rfl] at*
   generalize binds[i].e.wt=ew at*
   generalize binds[i].wt=wb at*
   generalize binds[i].name=bn at*
   generalize binds[i].e.cells=bc at*
   have hsn:=ff D bs
   have hDl:=cc D
   have hbl:=cc bs
   have X:=And.intro aO (And.intro hcg (And.intro hx8 (And.intro hx8d (And.intro hx8t (And.intro hsn (And.intro hDl hbl))))))
   (refine run ?_;with_reducible repeat' first|exact trivial|(apply af.mk<;>intro hb)|apply ax.mk)
   refine dq (hcall _) ?_
   rintro v H' ⟨rfl,rfl⟩
   rw[cq]
   simp only[List.set_cons_succ,List.set_cons_zero]
   (refine run ?_;with_reducible repeat' first|exact trivial|(apply af.mk<;>intro hb)|apply ax.mk)
   refine hK _ _ (i+1,D++bs,nx2) (by simp only;omega) ⟨⟨by simp only;omega,by simp only[List.length_append];omega,by simp only;omega⟩,hcut⟩ ?_
   simp only[List.length_append]
   exact bB (n0:=H.length) [(H.length,0),(H.length+1,0),(H.length+2,0),(H.length+3,0),(H.length+4,0),(H.length+5,0),(H.length+6,0)] hG hB hC' hcl (hd:=d7)
  clear hK
  have hni:¬ (i:Int)<(binds.length:Int):=by omega
  rw[List.drop_eq_nil_of_le hge] at hmp
  simp only[cF,List.append_nil] at hmp
  rw[hmp] at hR
  simp only at hR
  have X:=And.intro aO hni
  (refine run ?_;with_reducible repeat' first|exact trivial|(apply af.mk<;>intro hb)|apply ax.mk)
  refine Fin.dx (n0:=H.length) hR rfl hC' hcl (.tuple _ _ (.cons _ _ _ _ (.agg _ _ (.cons _ _ _ _ ?_ (.cons _ _ _ _ ?_ .nil))) (.cons _ _ _ _ (.same _ rfl) .nil))) ⟨rfl,rfl⟩
  ·exact bV.sf (g:=0) (sz:=4) (vals:=aQ cons) (by rw[bJ];rfl) (by omega) (by simp) (by rw[List.drop_zero,List.take_of_length_le (by rw[fL];exact Nat.le_refl _)]) (bN _ _)
  ·exact bV.sf (g:=0) (sz:=8) (vals:=aX D) (by rw[bJ];rfl) (by omega) (by simp) (by simp) (aY _ _)
def Sb.body:Sb→List Sg| .mk _ _ _ _ _ _ _ b=>b
mutual
def Gg:List aI→Sg→Prop
 |S,.mk k nm op args ad binds alts=>(k=4→∀ a∈args,a.name=[]∨a.name∈S)∧Gf (if k=5 then nm::S else S) binds∧EC (if k=5 then nm::S else S) ad∧Ge (if k=5 then nm::S else S) alts
def EC:List aI→List Sg→Prop
 |_,[]=>True
 |S,e::r=>Gg S e∧EC S r
def HE:List aI→Sb→Prop
 |S,.mk _ _ _ _ _ _ _ body=>EC S body
def Gf:List aI→List Sb→Prop
 |_,[]=>True
 |S,b::r=>HE S b∧Gf S r
def HD:List aI→Sl→Prop
 |S,.mk _ _ _ _ e=>Gg S e
def Ge:List aI→List Sl→Prop
 |_,[]=>True
 |S,a::r=>HD S a∧Ge S r
end
mutual
theorem Gg.mono:∀ {e:Sg} {S S':List aI},(∀ t∈S,t∈S')→Gg S e→Gg S' e
 | .mk k nm op args ad binds alts,S,S',h,hg=>by
  simp only[Gg] at hg ⊢
  have h2:∀ t∈(if k=5 then nm::S else S),t∈(if k=5 then nm::S' else S'):=by
   intro t ht
   split at ht
   ·rename_i hk;rw[if_pos hk];exact(List.mem_cons.1 ht).elim (fun e=>List.mem_cons.2 (.inl e)) fun e=>List.mem_cons.2 (.inr (h t e))
   ·rename_i hk;rw[if_neg hk];exact h t ht
  exact⟨fun hk a ha=>(hg.1 hk a ha).imp id (h _),Gf.mono h2 hg.2.1,EC.mono h2 hg.2.2.1,Ge.mono h2 hg.2.2.2⟩
theorem EC.mono:∀ {l:List Sg} {S S':List aI},(∀ t∈S,t∈S')→EC S l→EC S' l
 |[],S,S',h,hg=>trivial
 |e::r,S,S',h,hg=>by simp only[EC] at hg ⊢;exact⟨Gg.mono h hg.1,EC.mono h hg.2⟩
theorem HE.mono:∀ {b:Sb} {S S':List aI},(∀ t∈S,t∈S')→HE S b→HE S' b
 | .mk _ _ _ _ _ _ _ body,S,S',h,hg=>by simp only[HE] at hg ⊢;exact EC.mono h hg
theorem Gf.mono:∀ {l:List Sb} {S S':List aI},(∀ t∈S,t∈S')→Gf S l→Gf S' l
 |[],S,S',h,hg=>trivial
 |e::r,S,S',h,hg=>by simp only[Gf] at hg ⊢;exact⟨HE.mono h hg.1,Gf.mono h hg.2⟩
theorem HD.mono:∀ {b:Sl} {S S':List aI},(∀ t∈S,t∈S')→HD S b→HD S' b
 | .mk _ _ _ _ e,S,S',h,hg=>by simp only[HD] at hg ⊢;exact Gg.mono h hg
theorem Ge.mono:∀ {l:List Sl} {S S':List aI},(∀ t∈S,t∈S')→Ge S l→Ge S' l
 |[],S,S',h,hg=>trivial
 |e::r,S,S',h,hg=>by simp only[Ge] at hg ⊢;exact⟨HD.mono h hg.1,Ge.mono h hg.2⟩
end
mutual
def Sg.sz:Sg→Nat
 | .mk _ _ _ args ad binds alts=>1+args.length+iM ad+ek binds+kS alts
def iM:List Sg→Nat
 |[]=>0
 |e::r=>e.sz+iM r
def Sb.sz:Sb→Nat
 | .mk _ _ _ _ _ _ args body=>1+args.length+iM body
def ek:List Sb→Nat
 |[]=>0
 |e::r=>e.sz+ek r
def Sl.sz:Sl→Nat
 | .mk _ _ _ _ e=>1+e.sz
def kS:List Sl→Nat
 |[]=>0
 |e::r=>e.sz+kS r
end
theorem Sg.sS (e:Sg):0<e.sz:=by cases e;simp only[Sg.sz];omega
theorem Sb.sS (e:Sb):0<e.sz:=by cases e;simp only[Sb.sz];omega
theorem Sl.qG (e:Sl):e.body.sz<e.sz:=by cases e;simp only[Sl.sz,Sl.body];omega
theorem Sb.qG (e:Sb):iM e.body<e.sz:=by cases e;simp only[Sb.sz,Sb.body];omega
theorem sJ:∀ {l:List Sg} {e:Sg},e∈l→e.sz≤iM l
 |x::r,e,h=>by
  simp only[iM]
  rcases List.mem_cons.1 h with rfl|h
  ·omega
  ·have:=sJ h;omega
theorem xP:∀ {l:List Sb} {e:Sb},e∈l→e.sz≤ek l
 |x::r,e,h=>by
  simp only[ek]
  rcases List.mem_cons.1 h with rfl|h
  ·omega
  ·have:=xP h;omega
theorem xT:∀ {l:List Sl} {e:Sl},e∈l→e.sz≤kS l
 |x::r,e,h=>by
  simp only[kS]
  rcases List.mem_cons.1 h with rfl|h
  ·omega
  ·have:=xT h;omega
theorem sI:∀ l:List Sg,l.length≤iM l
 |[]=>Nat.le_refl _
 |x::r=>by have:=sI r;have:=x.sS;simp only[iM,List.length_cons];omega
theorem xO:∀ l:List Sb,l.length≤ek l
 |[]=>Nat.le_refl _
 |x::r=>by have:=xO r;have:=x.sS;simp only[ek,List.length_cons];omega
theorem xS:∀ l:List Sl,l.length≤kS l
 |[]=>Nat.le_refl _
 |x::r=>by have:=xS r;have:=x.qG;simp only[kS,List.length_cons];omega
theorem oN:∀ a b:List Sb,ek (a++b)=ek a+ek b
 |[],b=>by simp[ek]
 |x::r,b=>by simp only[List.cons_append,ek,oN r b];omega
def nI:List Ar→Nat
 |[]=>0
 | .bs l::r=>1+ek l+nI r
 | .look _ x::r=>1+x.sz+nI r
theorem kY:∀ (W:List Ar) (e:Sg),(dy W e).sz≤e.sz+1*nI W+W.length
 |[],e=>by simp[dy,nI]
 | .bs l::W,e=>by
  have h:=kY W e
  show(Sg.mk 6 [] 0 [] [dy W e] l []).sz≤_
  simp only[Sg.sz,iM,kS,nI,List.length_nil,List.length_cons];omega
 | .look s x::W,e=>by
  have h:=kY W e
  show(Sg.mk 5 s 0 [] [x] [] [.mk 3 [] 0 [] (dy W e)]).sz≤_
  simp only[Sg.sz,iM,ek,kS,Sl.sz,nI,List.length_nil,List.length_cons];omega
def Hu (cs:List Cn) (E:Ex→Nat→Sg×Nat):Prop:=∀ e n,Sh cs e→(E e n).1.sz+5≤8*e.wt
def Ht (cs:List Cn) (B:aI→Ex→Bool→Nat→List Sb×Nat):Prop:=∀ s e u n,Sh cs e→ek (B s e u n).1+4≤8*e.wt
theorem mo {cs:List Cn} {B:aI→Ex→Bool→Nat→List Sb×Nat} (hB:Ht cs B):∀ (l:List Ex) (n:Nat),(∀ x∈l,Sh cs x)→
 (aM B l n).1.1.length+nI (aM B l n).1.2+(aM B l n).1.2.length≤8*bt l∧(aM B l n).1.1.length+ek (dI (aM B l n).1.2)≤8*bt l
 |[],n,_=>by simp[aM,bt,dI,nI,ek]
 |e::r,n,h=>by
  have hr:=fun n=>mo hB r n fun x hx=>h x (List.mem_cons_of_mem _ hx)
  have he:=fun s u n=>hB s e u n (h e (List.mem_cons_self ..))
  have hp:=e.bz
  rw[aM]
  split
  ·have h1:=hr n
   simp only[bt,List.length_cons]
   omega
  ·have h1:=he (eB bW n) true (n+1)
   have h2:=hr (B (eB bW n) e true (n+1)).2
   simp only[bt,List.length_cons,dI,oN,nI]
   omega
theorem x6 {cs:List Cn} {E:Ex→Nat→Sg×Nat} (hE:Hu cs E):∀ (l:List Ex) (n:Nat),(∀ x∈l,Sh cs x)→
 (bG E l n).1.1.length+nI (bG E l n).1.2+(bG E l n).1.2.length≤8*bt l
 |[],n,_=>by simp[bG,bt,nI]
 |e::r,n,h=>by
  have hr:=fun n=>x6 hE r n fun x hx=>h x (List.mem_cons_of_mem _ hx)
  have he:=fun n=>hE e n (h e (List.mem_cons_self ..))
  have hp:=e.bz
  rw[bG]
  split
  ·have h1:=hr n
   simp only[bt,List.length_cons]
   omega
  ·have h1:=he (n+1)
   have h2:=hr (E e (n+1)).2
   simp only[bt,List.length_cons,nI]
   omega
theorem rQ {cs:List Cn} {B:aI→Ex→Bool→Nat→List Sb×Nat} (hB:Ht cs B) (u:Bd→Bool):∀ (l:List Bd) (n:Nat),(∀ x∈l,Sh cs x.e)→ek (cF B u l n).1≤8*aW l
 |[],n,_=>by simp[cF,ek]
 |b::r,n,h=>by
  have h1:=hB b.name b.e (u b) n (h b (List.mem_cons_self ..))
  have h2:=rQ hB u r (B b.name b.e (u b) n).2 fun x hx=>h x (List.mem_cons_of_mem _ hx)
  have hp:=b.cZ
  simp only[cF,aW,oN]
  omega
theorem zC {cs:List Cn} {E:Ex→Nat→Sg×Nat} (hE:Hu cs E):∀ (l:List Al) (n:Nat),(∀ x∈l,Sh cs x.body)→kS (fO (lh E) l n).1≤8*cp l
 |[],n,_=>by simp[fO,kS]
 |a::r,n,h=>by
  have h1:=hE a.body n (h a (List.mem_cons_self ..))
  have h2:=zC hE r (E a.body n).2 fun x hx=>h x (List.mem_cons_of_mem _ hx)
  have hp:=a.cZ
  simp only[fO,lh,cp,kS,Sl.sz]
  omega
theorem CK {cs:List Cn} {E:Ex→Nat→Sg×Nat} {B:aI→Ex→Bool→Nat→List Sb×Nat} (hE:Hu cs E) (hB:Ht cs B)
 (hL:∀ s e u n,Sh cs e→e.kind=3→ek (B s e u n).1+10≤8*e.wt):Hu cs (eW E B):=by
 intro e n h
 have hp:=e.bz
 obtain⟨kd,nm,nn,op,names,ad,binds,alts⟩:=e
 have hnode:=h.node
 have hw:(Ex.mk kd nm nn op names ad binds alts).wt=1+nm.length+cW names+bt ad+aW binds+cp alts:=by simp only[Ex.wt]
 rw[eW]
 split
 ·simp only[Sg.sz,iM,ek,kS,List.length_cons,List.length_nil];omega
 split
 ·rename_i h3
  have:=hL (eB bW n) _ true (n+1) h h3
  have h2:=kY [.bs (B (eB bW n) (.mk kd nm nn op names ad binds alts) true (n+1)).1] (.mk 1 [] 0 [⟨eB bW n,0⟩] [] [] [])
  simp only[Sg.sz,iM,ek,kS,nI,List.length_cons,List.length_nil] at h2 ⊢;omega
 split
 ·have h1:=(mo hB ad n fun x hx=>h.sub hx).1
  have h2:=kY (aM B ad n).1.2 (.mk 3 nm 0 (aM B ad n).1.1 [] [] [])
  simp only[Sg.sz,iM,ek,kS] at h2 ⊢;omega
 split
 ·have h1:=x6 hE ad n fun x hx=>h.sub hx
  have h2:=kY (bG E ad n).1.2 (.mk 4 [] op (bG E ad n).1.1 [] [] [])
  simp only[Sg.sz,iM,ek,kS] at h2 ⊢;omega
 split
 ·rename_i h4
  subst h4
  have hs:=h.app
  have h0:=b7 (l:=ad) (by omega)
  have hc:=fun n=>(mo hB (ad.drop 1) n fun x hx=>h.sub (List.mem_of_mem_drop hx)).1
  have he:=fun n=>hE (ad.headD bw) n (h.sub (cP (by omega)))
  have hpe:=(ad.headD bw).bz
  split
  ·have h1:=hc n
   have h2:=kY (aM B (ad.drop 1) n).1.2 (.mk 2 (ad.headD bw).name 0 (aM B (ad.drop 1) n).1.1 [] [] [])
   simp only[Sg.sz,iM,ek,kS] at h2 ⊢;omega
  ·have h1:=he (n+1)
   have h3:=hc (E (ad.headD bw) (n+1)).2
   have h2:=kY (.look (eB bW n) (E (ad.headD bw) (n+1)).1::(aM B (ad.drop 1) (E (ad.headD bw) (n+1)).2).1.2) (.mk 2 (eB bW n) 0 (aM B (ad.drop 1) (E (ad.headD bw) (n+1)).2).1.1 [] [] [])
   simp only[Sg.sz,iM,ek,kS,nI,List.length_cons] at h2 ⊢;omega
 split
 ·rename_i h5
  subst h5
  have hs:ad.length=1:=by unfold dM at hnode;omega
  have h0:=b7 (l:=ad) (by omega)
  have h1:=rQ hB (qo binds (ad.headD bw)) binds n fun x hx=>h.bind hx
  have h2:=hE (ad.headD bw) (cF B (qo binds (ad.headD bw)) binds n).2 (h.sub (cP (by omega)))
  simp only[Sg.sz,iM,kS,List.length_nil];omega
 ·have hs:ad.length=1:=by unfold dM at hnode;omega
  have h0:=b7 (l:=ad) (by omega)
  have h1:=hE (ad.headD bw) n (h.sub (cP (by omega)))
  have h2:=zC hE alts (E (ad.headD bw) n).2 fun x hx=>h.alt hx
  simp only[Sg.sz,iM,ek,List.length_nil];omega
theorem Cj {cs:List Cn} {top:List aI} {E:Ex→Nat→Sg×Nat} {B:aI→Ex→Bool→Nat→List Sb×Nat} (hE:Hu cs E) (hB:Ht cs B):
 Ht cs (fK top E B)∧∀ s e u n,Sh cs e→e.kind=3→ek (fK top E B s e u n).1+10≤8*e.wt:=by
 have h3:∀ s e u n,Sh cs e→e.kind=3→ek (fK top E B s e u n).1+10≤8*e.wt:=by
  intro s e u n h hk
  have hp:=e.bz
  obtain⟨kd,nm,nn,op,names,ad,binds,alts⟩:=e
  have hnode:=h.node
  have hw:(Ex.mk kd nm nn op names ad binds alts).wt=1+nm.length+cW names+bt ad+aW binds+cp alts:=by simp only[Ex.wt]
  obtain rfl:kd=3:=hk
  have hs:ad.length=1:=by unfold dM at hnode;omega
  have h0:=b7 (l:=ad) (by omega)
  have h1:=hE (ad.headD bw) n (h.sub (cP (by omega)))
  rw[nK,if_pos rfl]
  simp only[ek,Sb.sz,iM,List.length_nil]
  omega
 refine⟨fun s e u n h=>?_,h3⟩
 by_cases hk:e.kind=3
 ·have:=h3 s e u n h hk;omega
 have hp:=e.bz
 obtain⟨kd,nm,nn,op,names,ad,binds,alts⟩:=e
 have hw:(Ex.mk kd nm nn op names ad binds alts).wt=1+nm.length+cW names+bt ad+aW binds+cp alts:=by simp only[Ex.wt]
 have h1:=hE _ n h
 have h2:=mo hB ad n fun x hx=>h.sub hx
 rw[nK,if_neg (show ¬ kd=3 from hk)]
 split
 ·simp only[ek,Sb.sz,iM,oN]
  omega
 ·simp only[ek,Sb.sz,iM,List.length_nil]
  omega
theorem El (cs:List Cn) (top:List aI):∀ m,Hu cs (jF top m).1∧Ht cs (jF top m).2∧∀ s e u n,Sh cs e→e.kind=3→ek ((jF top m).2 s e u n).1+10≤8*e.wt
 |0=>by
  refine⟨fun e n h=>?_,fun s e u n h=>?_,fun s e u n h hk=>?_⟩
  ·have:=e.bz;simp only[jF,Sg.sz,iM,ek,kS,List.length_nil];omega
  ·have:=e.bz;simp only[jF,ek];omega
  ·obtain⟨kd,nm,nn,op,names,ad,binds,alts⟩:=e
   have hnode:=h.node
   obtain rfl:kd=3:=hk
   have hs:ad.length=1:=by unfold dM at hnode;omega
   have h0:=b7 (l:=ad) (by omega)
   have:=(ad.headD bw).bz
   simp only[jF,ek,Ex.wt];omega
 |m+1=>by
  obtain⟨h1,h2,h3⟩:=El cs top m
  obtain⟨h4,h5⟩:=Cj (top:=top) h1 h2
  exact⟨CK h1 h2 h3,h4,h5⟩
theorem G5 (p:Pg) (h0:cV p=0):ek (ED p)≤8*aW p.binds:=
 rQ (El p.cons _ _).2.1 _ p.binds _ fun b hb=>⟨(p6 h0).BR b hb,(p6 h0).full b hb⟩
theorem sH {l:List Sg} {i:Nat} (h:i<l.length):(cJ l)[i]? =some (.agg l[i].cells):=by rw[l9];simp[h];rfl
theorem zh {l:List Sl} {i:Nat} (h:i<l.length):(bU l)[i]? =some (.agg (.int .i64 l[i].kind:: .str l[i].name:: .int .i64 l[i].n:: .list 1 (l[i].names.map .str)::l[i].body.cells)):=by rw[jl];simp[h,Sl.sv,Sl.df]
theorem xd (n:Nat):bW n=Lib.decDigits n:=by
 unfold bW Lib.itoa
 rw[if_neg (by omega)];rfl
def MX (G:Gl) (m:Nat):Prop:=∀ (n:Nat) (H:List az),n<m→n<4294967296→ag Tryz.prog G 151 [.int .i64 (n:Int)] H (fun r H'=>H'=H∧r= .str (Lib.decDigits n))
theorem sk (G:Gl) (hG:aw G):∀ m,MX G m
 |0,n,H,h,_=>absurd h (by omega)
 |m+1,n,H,h,hn=>by
  have hrec:=sk G hG m
  by_cases h10:n<10
  ·rw[Lib.decDigits_one h10]
   have hi:(n:Int)<10:=by omega
   have hwr:IntKind.wrap .u8 (48+(n:Int))=48+(n:Int):=by
    rw[show(48:Int)+(n:Int)=((48+n:Nat):Int) by omega];exact wrap_u8 (by omega)
   have ht:(48+(n:Int)).toNat=48+n:=by omega
   clear hrec
   refine ag.aK TB [] aF _ Tryz.func151 rfl (by decide) Tryz.ntmps151 (by simp) rfl (by simp only[au,Nat.reduceAdd];rfl) fun C R' hR hC hcl hB=>?_;have X:=aO;have hC':=congrArg List.length hC
   have X:=And.intro aO (And.intro hi (And.intro hwr ht))
   (refine run ?_;with_reducible repeat' first|exact trivial|(apply af.mk<;>intro hb)|apply ax.mk)
   exact Fin.out hR ⟨rfl,rfl⟩
  ·rw[Lib.decDigits,dif_neg h10]
   have hi:¬ (n:Int)<10:=by omega
   have c1:=fun H=>hrec (n / 10) H (by omega) (by omega)
   have hq:(n:Int).tdiv 10=((n / 10:Nat):Int):=(Int.ofNat_tdiv n 10).symm
   have hr:(n:Int).tmod 10=((n % 10:Nat):Int):=(Int.ofNat_tmod n 10).symm
   have hlt:n % 10<10:=by omega
   have hqd:n / 10≤n:=by omega
   have hwr:IntKind.wrap .u8 (48+((n % 10:Nat):Int))=48+((n % 10:Nat):Int):=by
    rw[show(48:Int)+((n % 10:Nat):Int)=((48+n % 10:Nat):Int) by omega];exact wrap_u8 (by omega)
   have ht:(48+((n % 10:Nat):Int)).toNat=48+n % 10:=by omega
   have hll:(Lib.decDigits (n / 10)).length≤20:=by rw[← xd];exact ou _ (by omega) (by omega)
   have hmx:(Lib.decDigits (n / 10)).length+1≤maxLen:=by unfold maxLen;omega
   generalize n % 10=r at*
   generalize n / 10=q at*
   refine ag.aK TB [] aF _ Tryz.func151 rfl (by decide) Tryz.ntmps151 (by simp) rfl (by simp only[au,Nat.reduceAdd];rfl) fun C R' hR hC hcl hB=>?_;have X:=aO;have hC':=congrArg List.length hC
   have X:=And.intro aO (And.intro hi (And.intro hq (And.intro hr (And.intro hwr (And.intro ht hmx)))))
   (refine run ?_;with_reducible repeat' first|exact trivial|(apply af.mk<;>intro hb)|apply ax.mk)
   exact Fin.out hR ⟨rfl,rfl⟩
theorem BV (G:Gl) (hG:aw G) (n:Nat) (hn:n<4294967296) (H:List az):
 ag Tryz.prog G 122 [.int .i64 (n:Int)] H (fun r H'=>H'=H∧r= .str (eB bW n)):=by
 have c1:=fun H=>sk G hG (n+1) n H (by omega) hn
 rw[← xd] at c1
 have hil:(bW n).length≤20:=ou _ (by omega) (by omega)
 have hmx:2+(bW n).length≤maxLen:=by unfold maxLen;omega
 unfold eB
 generalize bW n=s at*
 refine ag.aK TB [] aF _ Tryz.func122 rfl (by decide) Tryz.ntmps122 (by simp) rfl (by simp only[au,Nat.reduceAdd];rfl) fun C R' hR hC hcl hB=>?_;have X:=aO;have hC':=congrArg List.length hC
 have X:=And.intro aO hmx
 (refine run ?_;with_reducible repeat' first|exact trivial|(apply af.mk<;>intro hb)|apply ax.mk)
 exact Fin.out hR ⟨rfl,rfl⟩
theorem Bg {s:aI} {i n:Nat} (h:¬ (s.length<3∨11<s.length∨s.take 2≠[116,35]∨s[2]? =some 48)) (he:Lib.decFrom 0 (s.drop 2)=Lib.decFrom n (s.drop i)) {b:UInt8} (hb:s[i]? =some b) (hd:Lib.digitVal b=none):eh s=0:=by
 obtain⟨hlt,hbe⟩:=List.getElem?_eq_some_iff.1 hb
 unfold eh
 rw[if_neg h,he,List.drop_eq_getElem_cons hlt,hbe,Lib.decFrom,hd];rfl
theorem Bh {s:aI} {i n d:Nat} (he:Lib.decFrom 0 (s.drop 2)=Lib.decFrom n (s.drop i)) {b:UInt8} (hb:s[i]? =some b) (hd:Lib.digitVal b=some d):Lib.decFrom 0 (s.drop 2)=Lib.decFrom (n*10+d) (s.drop (i+1)):=by
 obtain⟨hlt,hbe⟩:=List.getElem?_eq_some_iff.1 hb
 rw[he,List.drop_eq_getElem_cons hlt,hbe,Lib.decFrom,hd]
theorem ze (G:Gl) (hG:aw G) (s:aI) (hs:s.length<4294967296) (H:List az):ag Tryz.prog G 47 [.str s] H (fun r H'=>H'=H∧r= .int .i64 (eh s:Nat)):=by
 by_cases hc:s.length<3∨11<s.length∨s.take 2≠[116,35]∨s[2]? =some 48
 ·rw[show eh s=0 by unfold eh;rw[if_pos hc]]
  by_cases h1:s.length<3
  ·have i1:(s.length:Int)<3:=by omega
   refine ag.aK TB [] aF _ Tryz.func47 rfl (by decide) Tryz.ntmps47 (by simp) rfl (by simp only[au,Nat.reduceAdd];rfl) fun C R' hR hC hcl hB=>?_;have X:=aO;have hC':=congrArg List.length hC
   have X:=And.intro aO i1
   (refine run ?_;with_reducible repeat' first|exact trivial|(apply af.mk<;>intro hb)|apply ax.mk)
   exact Fin.out hR ⟨rfl,rfl⟩
  have i1:¬ (s.length:Int)<3:=by omega
  by_cases h2:11<s.length
  ·have i2:(11:Int)<(s.length:Int):=by omega
   refine ag.aK TB [] aF _ Tryz.func47 rfl (by decide) Tryz.ntmps47 (by simp) rfl (by simp only[au,Nat.reduceAdd];rfl) fun C R' hR hC hcl hB=>?_;have X:=aO;have hC':=congrArg List.length hC
   have X:=And.intro aO (And.intro i1 i2)
   (refine run ?_;with_reducible repeat' first|exact trivial|(apply af.mk<;>intro hb)|apply ax.mk)
   exact Fin.out hR ⟨rfl,rfl⟩
  have i2:¬ (11:Int)<(s.length:Int):=by omega
  by_cases h3:s.take 2=[116,35]
  ·have h4:s[2]? =some 48:=by
    rcases hc with h|h|h|h
    ·exact absurd h h1
    ·exact absurd h h2
    ·exact absurd h3 h
    ·exact h
   refine ag.aK TB [] aF _ Tryz.func47 rfl (by decide) Tryz.ntmps47 (by simp) rfl (by simp only[au,Nat.reduceAdd];rfl) fun C R' hR hC hcl hB=>?_;have X:=aO;have hC':=congrArg List.length hC
   have X:=And.intro aO (And.intro i1 (And.intro i2 (And.intro h3 h4)))
   (refine run ?_;with_reducible repeat' first|exact trivial|(apply af.mk<;>intro hb)|apply ax.mk)
   exact Fin.out hR ⟨rfl,rfl⟩
  ·refine ag.aK TB [] aF _ Tryz.func47 rfl (by decide) Tryz.ntmps47 (by simp) rfl (by simp only[au,Nat.reduceAdd];rfl) fun C R' hR hC hcl hB=>?_;have X:=aO;have hC':=congrArg List.length hC
   have X:=And.intro aO (And.intro i1 (And.intro i2 h3))
   (refine run ?_;with_reducible repeat' first|exact trivial|(apply af.mk<;>intro hb)|apply ax.mk)
   exact Fin.out hR ⟨rfl,rfl⟩
 have i1:¬ (s.length:Int)<3:=fun h=>hc (.inl (by omega))
 have i2:¬ (11:Int)<(s.length:Int):=fun h=>hc (.inr (.inl (by omega)))
 have h3:s.take 2=[116,35]:=Decidable.byContradiction fun h=>hc (.inr (.inr (.inl h)))
 have h2l:2<s.length:=by omega
 have h2:s[2]? =some s[2]:=List.getElem?_eq_getElem h2l
 have h4:¬ (s[2].toNat:Int)=48:=fun h=>hc (.inr (.inr (.inr (by rw[h2];congr 1;exact UInt8.toNat_inj.1 (by rw[show(48:UInt8).toNat=48 from rfl];omega)))))
 refine ag.aK TB [] aF _ Tryz.func47 rfl (by decide) Tryz.ntmps47 (by simp) rfl (by simp only[au,Nat.reduceAdd];rfl) fun C R' hR hC hcl hB=>?_;have X:=aO;have hC':=congrArg List.length hC
 have X:=And.intro aO (And.intro i1 (And.intro i2 (And.intro h3 (And.intro h2 h4))))
 (refine run ?_;with_reducible repeat' first|exact trivial|(apply af.mk<;>intro hb)|apply ax.mk)
 have hpw:∀ i,2≤i→10 ^ (i+1 - 2)=10*10 ^ (i - 2):=fun i hi=>by rw[show i+1 - 2=(i - 2)+1 by omega,Nat.pow_succ];omega
 have hpm:∀ i,i≤11→10 ^ (i - 2)≤1000000000:=fun i hi=>Nat.le_trans (Nat.pow_le_pow_right (by omega) (show i - 2≤9 by omega)) (by omega)
 refine aC (fun a:Nat×Nat=>[(0,.str s),(3,.int .i64 (a.2:Int)),(4,.int .i64 (a.1:Int))]) (fun _=>H) (fun a=>s.length - a.1) (fun a=>((2≤a.1∧a.1≤s.length)∧a.2<10 ^ (a.1 - 2))∧Lib.decFrom 0 (s.drop 2)=Lib.decFrom a.2 (s.drop a.1)) (2,0) ⟨⟨⟨Nat.le_refl _,by simp only;omega⟩,by simp⟩,rfl⟩ (Wk.sub (by simp[bR,look])) ?_
 rintro K ⟨i,n⟩ ⟨⟨⟨hi1,hi2⟩,hn⟩,hdf⟩ hK
 simp only at hi1 hi2 hn hdf
 dsimp only
 have hp1:=hpw i hi1
 have hp2:=hpm i (by omega)
 generalize hPP:10 ^ (i - 2)=pp at*
 rcases Nat.lt_or_ge i s.length with hlt|hge
 ·have hg:s[i]? =some s[i]:=List.getElem?_eq_getElem hlt
  have hb8:s[i].toNat<256:=s[i].toNat_lt
  have hdn:s[i].toNat<48∨57<s[i].toNat→Lib.digitVal s[i]=none:=fun h=>by unfold Lib.digitVal;rw[if_neg (by omega)]
  have hds:¬ (s[i].toNat<48∨57<s[i].toNat)→Lib.digitVal s[i]=some (s[i].toNat - 48):=fun h=>by unfold Lib.digitVal;rw[if_pos (by omega)]
  have hne:=fun h=>Bg hc hdf hg (hdn h)
  have hst:=fun h=>Bh hdf hg (hds h)
  clear hdn hds
  generalize s[i]=b at*
  generalize hbn:b.toNat=bn at*
  have X:=And.intro aO (And.intro hg hbn)
  (refine run ?_;with_reducible repeat' first|exact trivial|(apply af.mk<;>intro hb)|apply ax.mk)
  ·rw[hne (by simp only[Bool.or_eq_true,decide_eq_true_eq] at hb;omega)] at hR
   exact Fin.out hR ⟨rfl,rfl⟩
  ·simp only[Bool.or_eq_false_iff,decide_eq_false_iff_not] at hb
   have hst:=hst (by omega)
   have hw8:IntKind.u8.wrap ((bn:Int) - 48)=((bn - 48:Nat):Int):=by rw[show(bn:Int) - 48=((bn - 48:Nat):Int) by omega];exact wrap_u8 (by omega)
   rw[hw8,wrap_i64 ((bn - 48:Nat):Int) (by omega),wrap_i64 _ (by omega),show 10*(n:Int)+((bn - 48:Nat):Int)=((n*10+(bn - 48):Nat):Int) by omega]
   exact hK _ _ (i+1,n*10+(bn - 48)) (by simp only;omega) ⟨⟨⟨by simp only;omega,by simp only;omega⟩,by simp only[hp1];omega⟩,hst⟩ (Wk.sub (by simp[bR,look]))
 ·have hni:¬ (i:Int)<(List.length s:Int):=by omega
  clear hK
  rw[List.drop_eq_nil_of_le hge,Lib.decFrom] at hdf
  have hns:eh s=n:=by unfold eh;rw[if_neg hc,hdf];rfl
  rw[hns] at hR
  have X:=And.intro aO hni
  (refine run ?_;with_reducible repeat' first|exact trivial|(apply af.mk<;>intro hb)|apply ax.mk)
  exact Fin.out hR ⟨rfl,rfl⟩
theorem DU (G:Gl) (hG:aw G) (cons:List Cn) (binds:List Bd) (H:List az) (hw:aW binds<4294967295) (hns:∀ s∈bj binds,s.length<4294967296):
 ag Tryz.prog G 13 [.agg [.list 4 (aQ cons),.list 9 (ao binds)]] H (fun r H'=>H'=H∧r= .int .i64 (ql binds:Nat)):=by
 have hln:=dQ binds
 have hnx:((ql binds:Nat):Int)=(((bj binds).foldl (fun n s=>max n (eh s)) 0:Nat):Int)+1:=by unfold ql;omega
 rw[hnx]
 clear hnx
 refine ag.aK TB [] aF _ Tryz.func13 rfl (by decide) Tryz.ntmps13 (by simp) rfl (by simp only[au,Nat.reduceAdd];rfl) fun C R' hR hC hcl hB=>?_;have X:=aO;have hC':=congrArg List.length hC
 (refine run ?_;with_reducible repeat' first|exact trivial|(apply af.mk<;>intro hb)|apply ax.mk)
 refine bh (uD G hG cons binds _ (by omega)) ?_
 rintro r H' ⟨rfl,rfl⟩
 have hfl:=fun i=>qz ((bj binds).take i) 0 (by decide)
 generalize bj binds=l at*
 (refine run ?_;with_reducible repeat' first|exact trivial|(apply af.mk<;>intro hb)|apply ax.mk)
 refine aC (fun i:Nat=>[(3,.int .i64 (((l.take i).foldl (fun n s=>max n (eh s)) 0:Nat):Int)),(4,.list 1 (l.map .str)),(5,.int .i64 (i:Int))]) (fun _=>H++[]) (fun i=>l.length - i) (fun i=>i≤l.length) 0 (Nat.zero_le _) ?_ ?_
 ·exact bB (n0:=H.length) [] hG hB hC' hcl
 rintro K i hi hK
 have hfi:=hfl i
 rcases Nat.lt_or_ge i l.length with hlt|hge
 ·have g1:(l.map SV.str)[i]? =some (.str l[i]):=by simp[hlt]
  have hst:(l.take (i+1)).foldl (fun n s=>max n (eh s)) 0=max ((l.take i).foldl (fun n s=>max n (eh s)) 0) (eh l[i]):=by rw[List.take_succ_eq_append_getElem hlt,List.foldl_append];rfl
  have hnum:=fun H=>ze G hG l[i] (hns _ (List.getElem_mem hlt)) H
  have hn2:=vk l[i]
  generalize l[i]=s at*
  generalize (l.take i).foldl (fun n s=>max n (eh s)) 0=n at*
  generalize eh s=n2 at*
  have X:=And.intro aO g1
  (refine run ?_;with_reducible repeat' first|exact trivial|(apply af.mk<;>intro hb)|apply ax.mk)
  refine bh (hnum _) ?_
  rintro r H' ⟨rfl,rfl⟩
  have hmm:=mD n n2
  have X:=And.intro aO (And.intro hmm (show IntKind.i64.min≤(n2:Int)∧(n2:Int)≤IntKind.i64.max from⟨by show(-9223372036854775808:Int)≤_;omega,by show _≤(9223372036854775807:Int);omega⟩))
  (refine run ?_;with_reducible repeat' first|exact trivial|(apply af.mk<;>intro hb)|apply ax.mk)
  refine hK _ _ (i+1) (by omega) (by omega) ?_
  rw[hst]
  exact bB (n0:=H.length) [] hG hB hC' hcl
 ·have hni:¬ (i:Int)<(l.length:Int):=by omega
  clear hK
  rw[List.take_of_length_le hge] at hfi ⊢
  have X:=And.intro aO hni
  (refine run ?_;with_reducible repeat' first|exact trivial|(apply af.mk<;>intro hb)|apply ax.mk)
  exact aS (n0:=H.length) hR hC' hcl (.same _ rfl) ⟨rfl,rfl⟩
theorem xL (G:Gl) (hG:aw G):∀ (m:Nat) (e:Ex) (s:aI) (H:List az),e.wt≤m→e.wt<4294967296→ag Tryz.prog G 149 [e.sv,.str s] H (fun r H'=>H'=H∧r= .tuple [.int .i64 (fX s e),.bool (eA s false e)])
 |0,e,s,H,hw,_=>by have:=e.bz;omega
 |m+1,e,s,H,hw,hw0=>by
  obtain⟨kd,nm,nn,op,names,ad,binds,alts⟩:=e
  have hlen:=Ex.cY kd nm nn op names ad binds alts
  refine ag.aK TB [7] aF _ Tryz.func149 rfl (by decide) Tryz.ntmps149 (by simp) rfl (by simp only[au,Nat.reduceAdd];rfl) fun C R' hR hC hcl hB=>?_;have X:=aO;have hC':=congrArg List.length hC
  have hC':C.H.length=H.length:=by rw[hC]
  (refine jD ?_;with_reducible repeat' first|exact trivial|(apply af.mk<;>intro hb)|apply ax.mk)
  refine nX rfl (fun hk=>?_) (fun hk=>?_)
  ·(refine run ?_;with_reducible repeat' first|exact trivial|(apply af.mk<;>intro hb)|apply ax.mk)
   ·refine Fin.dx (n0:=H.length) hR (by simp) hC' hcl (.same _ rfl) ?_
    simp[fX,eA,hk,hb,bA]
   ·refine Fin.dx (n0:=H.length) hR (by simp) hC' hcl (.same _ rfl) ?_
    simp[fX,eA,hk,hb,bA]
  have hk1:kd≠1:=hk
  refine zT ?_
  refine C2 ?_
  refine eT (fun _:Unit=>[(2,.ptr H.length 0 0 0),(1,.str s)]) (fun _=>H++[.cells 0 8 [.agg [.int .i64 kd,.str nm,.int .i64 nn,.int .i64 op,.list 1 (names.map .str),.list 8 (aj ad),.list 9 (ao binds),.list 12 (aA alts)]]]) (fun _=>¬ (kd=3∧s∈names)) (fun K hK=>?_) (fun _ ho=>?_)
  ·(refine run ?_;with_reducible repeat' first|exact trivial|(apply af.mk<;>intro hb)|apply ax.mk)
   ·refine fg ?_ rfl (gC G names s _ (by omega)) ?_
    ·exact cv
    rintro r H' ⟨rfl,rfl⟩
    (refine run ?_;with_reducible repeat' first|exact trivial|(apply af.mk<;>intro hb)|apply ax.mk)
    ·refine Fin.dx (n0:=H.length) hR (by simp) hC' hcl (.same _ rfl) ?_
     simp[fX,eA,hk1,bA,cT,‹kd=3›,‹s∈names›]
    ·apply hK _ _ () (fun h=> ‹¬ s∈names› h.2)
     exact bB (n0:=H.length) [(H.length,0)] hG hB (by rw[hC]) hcl
   ·apply hK _ _ () (fun h=> ‹¬ kd=3› h.1)
    exact bB (n0:=H.length) [(H.length,0)] hG hB (by rw[hC]) hcl
  (refine run ?_;with_reducible repeat' first|exact trivial|(apply af.mk<;>intro hb)|apply ax.mk)
  refine aC (fun i:Nat=>[(2,.ptr H.length 0 0 0),(1,.str s),(6,.int .i64 i)]) (fun _=>H++[.cells 0 8 [.agg [.int .i64 kd,.str nm,.int .i64 nn,.int .i64 op,.list 1 (names.map .str),.list 8 (aj ad),.list 9 (ao binds),.list 12 (aA alts)]]])
   (fun i=>binds.length - i) (fun i=>i≤binds.length∧(kd=5→s∉(binds.take i).map Bd.name)) 0 ⟨Nat.zero_le _,by simp⟩ ?_ ?_
  ·exact bB (n0:=H.length) [(H.length,0)] hG hB (by rw[hC]) hcl
  rintro K i ⟨hi,hn⟩ hK
  (refine run ?_;with_reducible repeat' first|exact trivial|(apply af.mk<;>intro hb)|apply ax.mk)
  ·obtain⟨h1,h2⟩:i<binds.length∧kd=5:=by simpa using hb
   (refine run ?_;with_reducible repeat' first|exact trivial|(apply af.mk<;>intro hb)|apply ax.mk)
   ·refine Fin.dx (n0:=H.length) hR (by simp) hC' hcl (.same _ rfl) ?_
    have h3:s∈cT kd names binds:=by
     rw[h2]
     simp only[cT]
     exact List.mem_map.2 ⟨_,List.getElem_mem _,by assumption⟩
    rw[fX,eA,if_neg hk1,if_neg hk1,if_pos h3,if_pos h3]
    exact⟨rfl,rfl⟩
   ·refine hK _ _ (i+1) (by omega) ⟨by omega,fun h5=>?_⟩ ?_
    ·rw[List.take_succ_eq_append_getElem h1]
     have:=hn h5
     simp only[List.map_append,List.map_cons,List.map_nil,List.mem_append,List.mem_singleton,not_or]
     exact⟨this,fun h=>by simp_all⟩
    ·exact bB (n0:=H.length) [(H.length,0)] hG hB (by rw[hC]) hcl
  have hown:s∉cT kd names binds:=by
   have h1:kd=5→i=binds.length:=fun h=>by
    simp only[Bool.and_eq_false_iff,decide_eq_false_iff_not] at hb
    omega
   unfold cT
   split
   ·exact fun h=>ho ⟨‹_›,h⟩
   ·split
    ·have h2:=hn ‹_›
     rwa[h1 ‹_›,List.take_length] at h2
    ·simp
  refine aC (fun i:Nat=>[(2,.ptr H.length 0 0 0),(1,.str s),(7,.sl (H.length+1) 0 0 (ad.length+i)),(8,.int .i64 i)]) (fun i=>H++[.cells 0 8 [.agg [.int .i64 kd,.str nm,.int .i64 nn,.int .i64 op,.list 1 (names.map .str),.list 8 (aj ad),.list 9 (ao binds),.list 12 (aA alts)]],.cells 0 8 (aj (ad++(binds.take i).map Bd.e))])
   (fun i=>binds.length - i) (fun i=>i≤binds.length) 0 (Nat.zero_le _) ?_ ?_
  ·simp only[List.take_zero,List.map_nil,List.append_nil,Nat.add_zero]
   exact bB (n0:=H.length) [(H.length,0),(H.length+1,0)] hG hB (by rw[hC]) hcl
  intro K2 i2 hi2 hK2
  (refine run ?_;with_reducible repeat' first|exact trivial|(apply af.mk<;>intro hb)|apply ax.mk)
  ·refine hK2 _ _ (i2+1) (by omega) (by omega) ?_
   simp only[List.take_succ_eq_append_getElem (show i2<binds.length by omega),List.map_append,List.map_cons,List.map_nil,pV,pW,List.append_assoc]
   exact bB (n0:=H.length) [(H.length,0),(H.length+1,0)] hG hB (by rw[hC]) hcl
  obtain rfl:i2=binds.length:=by omega
  refine aC (fun i:Nat=>[(2,.ptr H.length 0 0 0),(1,.str s),(7,.sl (H.length+1) 0 0 (ux s kd nm ad binds (alts.take i)).length),(9,.int .i64 i)]) (fun i=>H++[.cells 0 8 [.agg [.int .i64 kd,.str nm,.int .i64 nn,.int .i64 op,.list 1 (names.map .str),.list 8 (aj ad),.list 9 (ao binds),.list 12 (aA alts)]],.cells 0 8 (aj (ux s kd nm ad binds (alts.take i)))])
   (fun i=>alts.length - i) (fun i=>i≤alts.length) 0 (Nat.zero_le _) ?_ ?_
  ·have h0:ux s kd nm ad binds (alts.take 0)=ad++binds.map Bd.e:=by simp[ux]
   simp only[h0,List.take_length,List.length_append,List.length_map]
   exact bB (n0:=H.length) [(H.length,0),(H.length+1,0)] hG hB (by rw[hC]) hcl
  intro K3 i3 hi3 hK3
  have hul:(ux s kd nm ad binds (alts.take i3)).length≤ad.length+binds.length+i3:=by
   have:=List.length_filter_le (ox s (kd=6∧nm=s)) (alts.take i3)
   simp only[ux,List.length_append,List.length_map,List.length_take] at this ⊢
   omega
  generalize hu:ux s kd nm ad binds (alts.take i3)=u at hul
  (refine run ?_;with_reducible repeat' first|exact trivial|(apply af.mk<;>intro hb)|apply ax.mk)
  ·refine fg ?_ rfl (gC G (alts[i3]'(by omega)).names s _ (by have:=Al.j8 (kd:=kd) (nm:=nm) (nn:=nn) (op:=op) (names:=names) (ad:=ad) (binds:=binds) (show i3<alts.length by omega);omega)) ?_
   ·exact cv
   rintro r H' ⟨rfl,rfl⟩
   (refine run ?_;with_reducible repeat' first|exact trivial|(apply af.mk<;>intro hb)|apply ax.mk)
   all_goals
    have hut:=En (s:=s) (kd:=kd) (nm:=nm) (ad:=ad) (binds:=binds) (show i3<alts.length by omega)
    rw[hu] at hut
   ·rw[if_pos (by simp only[ox,lB,Bool.and_eq_true,decide_eq_true_eq,Bool.not_eq_true',Bool.and_eq_false_iff,decide_eq_false_iff_not] at hb ⊢;rcases hb with⟨h1,h2|h2⟩<;>simp[h1,h2])] at hut
    refine hK3 _ _ (i3+1) (by omega) (by omega) ?_
    simp only[hut,pV,pW,List.length_append,List.length_cons,List.length_nil]
    exact bB (n0:=H.length) [(H.length,0),(H.length+1,0)] hG hB (by rw[hC]) hcl
   ·rw[if_neg (by simp only[ox,lB,Bool.and_eq_true,decide_eq_true_eq,Bool.not_eq_true',Bool.and_eq_false_iff,decide_eq_false_iff_not,Bool.not_eq_false'] at hb ⊢;rcases hb with h1|⟨h1,h2⟩<;>simp_all),List.append_nil] at hut
    refine hK3 _ _ (i3+1) (by omega) (by omega) ?_
    simp only[hut]
    exact bB (n0:=H.length) [(H.length,0),(H.length+1,0)] hG hB (by rw[hC]) hcl
  obtain rfl:i3=alts.length:=by omega
  rw[List.take_length] at hu
  have hocc:fX s (Ex.mk kd nm nn op names ad binds alts)=fJ s u:=by rw[DM s hk1 hown,hu]
  have hins:eA s false (Ex.mk kd nm nn op names ad binds alts)=iI s (decide (kd=3)) u:=by rw[yT s _ hk1 hown,hu,Bool.false_or]
  have hole:=lX s (Ex.mk kd nm nn op names ad binds alts)
  have hmem:∀ i (h:i<u.length),u[i].wt<(Ex.mk kd nm nn op names ad binds alts).wt:=fun i h=>by
   have h1:u[i]∈ux s kd nm ad binds alts:=by rw[hu];exact List.getElem_mem h
   have:=Ex.cU (uz (nn:=nn) (op:=op) (names:=names) h1)
   omega
  refine aC (fun i:Nat=>[(2,.ptr H.length 0 0 0),(1,.str s),(7,.sl (H.length+1) 0 0 u.length),(11,.int .i64 (fJ s (u.take i))),(12,.bool (iI s (decide (kd=3)) (u.take i))),(13,.int .i64 i)]) (fun _=>H++[.cells 0 8 [.agg [.int .i64 kd,.str nm,.int .i64 nn,.int .i64 op,.list 1 (names.map .str),.list 8 (aj ad),.list 9 (ao binds),.list 12 (aA alts)]],.cells 0 8 (aj u)])
   (fun i=>u.length - i) (fun i=>i≤u.length) 0 (Nat.zero_le _) ?_ ?_
  ·simp only[List.take_zero,show fJ s []=0 from rfl,show iI s (decide (kd=3)) []=false from rfl]
   exact bB (n0:=H.length) [(H.length,0),(H.length+1,0)] hG hB (by rw[hC]) hcl
  intro K4 i4 hi4 hK4
  have ht:=tX s u i4
  (have X:=And.intro X (k9);refine run ?_;with_reducible repeat' first|exact trivial|(apply af.mk<;>intro hb)|apply ax.mk)
  ·have h4:i4<u.length:=by omega
   have hm4:=hmem i4 h4
   have ho4:=lX s u[i4]
   have ht4:=tX s u (i4+1)
   rw[tW h4] at ht4
   refine fg ?_ rfl (xL G hG m u[i4] s _ (by omega) (by omega)) ?_
   ·exact cv
   rintro r H' ⟨rfl,rfl⟩
   (refine run ?_;with_reducible repeat' first|exact trivial|(apply af.mk<;>intro hb)|apply ax.mk)
   have e12:(iI s (decide (kd=3)) (List.take i4 u)||eA s false u[i4]||decide (0<((fX s u[i4]:Nat):Int))&&decide (kd=3))=iI s (decide (kd=3)) (u.take (i4+1)):=by
    rw[A8 h4,← Df s (kd=3) u[i4],Bool.or_assoc,show decide (0<((fX s u[i4]:Nat):Int))=decide (0<fX s u[i4]) from decide_eq_decide.2 (by omega)]
   have e11:((fJ s (List.take i4 u):Nat):Int)+((fX s u[i4]:Nat):Int)=((fJ s (u.take (i4+1)):Nat):Int):=by rw[tW h4];omega
   rw[e12,e11]
   refine hK4 _ _ (i4+1) (by omega) (by omega) ?_
   exact bB (n0:=H.length) [(H.length,0),(H.length+1,0)] hG hB (by rw[hC]) hcl
  ·refine Fin.dx (n0:=H.length) hR (by simp) hC' hcl (.same _ rfl) ⟨rfl,?_⟩
   obtain rfl:i4=u.length:=by omega
   rw[hocc,hins,List.take_length]
   rfl
end Go.Proofs.YtedejleokilohaaGreatDoor
