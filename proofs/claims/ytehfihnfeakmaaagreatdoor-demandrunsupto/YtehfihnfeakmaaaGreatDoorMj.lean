/- A part of the proof: J4, J5, M0, J6a, J6, J7, F0, J8, J9, D2, I11, I12, K8, K9. Names and spaces are cut short by program. -/
import Derived.Test.YtehfihnfeakmaaaGreatDoorMi
set_option linter.unusedSimpArgs false
set_option linter.unusedVariables false
set_option maxRecDepth 10000
set_option maxHeartbeats 4000000
namespace Go.Proofs.YtehfihnfeakmaaaGreatDoor
open Go
theorem xz {l j:List aE} {i:Nat} (h:i<l.length):((l++j).map SV.str)[i]? =some (.str l[i]):=by
 rw[List.getElem?_map,List.getElem?_append_left h,List.getElem?_eq_getElem h];rfl
theorem Dv (G:Gl) (hG:au G) (l j:List aE) (v:aE) (H:List ax) (id g:Nat) (hid:H[id]? =some (.cells g 1 ((l++j).map .str))) (hl:l.length<1099511627776):
 af Tryz.prog G 145 [.sl id g 0 l.length,.str v] H (fun r H'=>H'=H∧r= .int .i64 (idxFrom 0 l v)):=by
 have key:∀ (l:List aE) (i n:Nat),i≤l.length→v∉l.take i→idxFrom n l v=idxFrom (n+i) (l.drop i) v:=by
  intro l
  induction l with
  |nil=>
   intro i n hi _
   have:i=0:=by simpa using hi
   subst this;rfl
  |cons x r ih=>
   intro i n hi hv
   cases i with
   |zero=>rfl
   |succ i=>
    rw[List.take_succ_cons,List.mem_cons] at hv
    have hx:¬ v=x:=fun e=>hv (.inl e)
    rw[idxFrom,if_neg (by first|exact hx|exact fun e=>hx e.symm),ih i (n+1) (by simpa using hi) (fun h=>hv (.inr h)),List.drop_succ_cons]
    congr 1;omega
 refine af.aD TB [] aA _ Tryz.func145 rfl (by decide) Tryz.ntmps145 (by simp) rfl (by simp only[ap,Nat.reduceAdd];rfl) fun C R' hR hC hcl hB=>?_;have X:=aF;have hC':=congrArg List.length hC
 have X:=And.intro X hid
 (refine run ?_;with_reducible repeat' first|exact trivial|(apply ad.mk<;>intro hb)|apply av.mk)
 refine az (fun i:Nat=>[(0,.sl id g 0 l.length),(1,.str v),(7,.int .i64 l.length),(8,.int .i64 i)]) (fun _=>H) (fun i=>l.length - i) (fun i=>i≤l.length∧v∉l.take i) 0 ⟨Nat.zero_le _,by simp⟩ (Wk.sub (by simp[bg,look])) ?_
 rintro K i ⟨hi,hno⟩ hK
 rcases Nat.lt_or_ge i l.length with hlt|hge
 ·have e1:=xz (j:=j) hlt
  have X:=And.intro X e1
  (refine run ?_;with_reducible repeat' first|exact trivial|(apply ad.mk<;>intro hb)|apply av.mk)
  ·refine Fin.out hR ⟨rfl,?_⟩
   rw[key l i 0 hi hno,List.drop_eq_getElem_cons hlt,idxFrom,if_pos (by first|exact hb|exact hb.symm),Nat.zero_add];rfl
  ·refine hK _ _ (i+1) (by omega) ⟨by omega,?_⟩ (Wk.sub (by simp[bg,look]))
   rw[List.take_succ_eq_append_getElem hlt,List.mem_append,List.mem_singleton]
   exact fun h=>h.elim hno hb
 ·obtain rfl:i=l.length:=by omega
  clear hK
  have X:=And.intro X (Int.lt_irrefl (l.length:Int))
  (refine run ?_;with_reducible repeat' first|exact trivial|(apply ad.mk<;>intro hb)|apply av.mk)
  refine Fin.out hR ⟨rfl,?_⟩
  rw[key l l.length 0 hi hno,List.drop_length];rfl
theorem o7 (G:Gl) (hG:au G) (l j:List aE) (v:aE) (H:List ax) (id g:Nat) (hid:H[id]? =some (.cells g 1 ((l++j).map .str))) (hl:l.length<1099511627776):
 af Tryz.prog G 119 [.sl id g 0 l.length,.str v] H (fun r H'=>H'=H∧r= .bool (decide (v∈l))):=by
 refine af.aD TB [] aA _ Tryz.func119 rfl (by decide) Tryz.ntmps119 (by simp) rfl (by simp only[ap,Nat.reduceAdd];rfl) fun C R' hR hC hcl hB=>?_;have X:=aF;have hC':=congrArg List.length hC
 (refine run ?_;with_reducible repeat' first|exact trivial|(apply ad.mk<;>intro hb)|apply av.mk)
 refine bt (Dv G hG l j v H id g hid hl) ?_
 rintro r H' ⟨rfl,rfl⟩
 (refine run ?_;with_reducible repeat' first|exact trivial|(apply ad.mk<;>intro hb)|apply av.mk)
 refine Fin.out hR ⟨rfl,?_⟩
 rcases jY l v 0 with h|h
 ·simp[h.1,h.2,bq]
 ·simp only[h.2,decide_true,SV.bool.injEq,decide_eq_true_eq,bq];omega
theorem tF (G:Gl) (hG:au G) (f:SV) (p:aE→Bool) (l j:List aE) (H:List ax) (id g:Nat) (hid:H[id]? =some (.cells g 1 ((l++j).map .str))) (hl:l.length<1099511627776) (hfu:f.under H.length=true)
 (hf:∀ n,bz Tryz.prog G f [.str n] H (fun r H'=>H'=H∧r= .bool (p n))):
 af Tryz.prog G 115 [.sl id g 0 l.length,f] H (fun r H'=>H'=H∧r= .int .i64 (match l.findIdx? p with|some i=>(i:Int)|none=> -1)):=by
 refine af.aD TB [] aA _ Tryz.func115 rfl (by decide) Tryz.ntmps115 (by simp) rfl (by simp only[ap,Nat.reduceAdd];rfl) fun C R' hR hC hcl hB=>?_;have X:=aF;have hC':=congrArg List.length hC
 have X:=And.intro X hid
 (refine run ?_;with_reducible repeat' first|exact trivial|(apply ad.mk<;>intro hb)|apply av.mk)
 refine az (fun i:Nat=>[(0,.sl id g 0 l.length),(1,f),(7,.int .i64 l.length),(8,.int .i64 i)]) (fun _=>H) (fun i=>l.length - i) (fun i=>i≤l.length∧∀ x∈l.take i,p x=false) 0 ⟨Nat.zero_le _,by simp⟩ (Wk.sub (by simp[bg,look])) ?_
 rintro K i ⟨hi,hno⟩ hK
 rcases Nat.lt_or_ge i l.length with hlt|hge
 ·have e1:=xz (j:=j) hlt
  have X:=And.intro X e1
  (refine run ?_;with_reducible repeat' first|exact trivial|(apply ad.mk<;>intro hb)|apply av.mk)
  refine eX (hf l[i]) ?_
  rintro r H' ⟨rfl,rfl⟩
  cases hb:p l[i]
  ·(refine run ?_;with_reducible repeat' first|exact trivial|(apply ad.mk<;>intro hb)|apply av.mk)
   refine hK _ _ (i+1) (by omega) ⟨by omega,?_⟩ (Wk.sub (by simp[bg,look]))
   rw[List.take_succ_eq_append_getElem hlt]
   intro x hx
   rcases List.mem_append.1 hx with hx|hx
   ·exact hno x hx
   ·rw[List.mem_singleton.1 hx];exact hb
  ·have hfi:l.findIdx? p=some i:=by
    rw[List.findIdx?_eq_some_iff_getElem]
    refine⟨hlt,hb,fun j hj=>?_⟩
    have:=hno (l[j]'(by omega)) (by rw[List.mem_take_iff_getElem];exact⟨j,by omega,rfl⟩)
    simp[this]
   (refine run ?_;with_reducible repeat' first|exact trivial|(apply ad.mk<;>intro hb)|apply av.mk)
   exact Fin.out hR ⟨rfl,by simp only[bq,hfi]⟩
 ·obtain rfl:i=l.length:=by omega
  clear hK
  have X:=And.intro X (Int.lt_irrefl (l.length:Int))
  (refine run ?_;with_reducible repeat' first|exact trivial|(apply ad.mk<;>intro hb)|apply av.mk)
  have hfi:l.findIdx? p=none:=by rw[List.findIdx?_eq_none_iff];rw[List.take_length] at hno;exact hno
  exact Fin.out hR ⟨rfl,by simp only[bq,hfi]⟩
theorem lH (p:aE→Bool):∀ l:List aE,(match l.findIdx? p with|some i=>l.take i|none=>l)=l.takeWhile (fun n=>!p n)∧(∀ i,l.findIdx? p=some i→i=(l.takeWhile (fun n=>!p n)).length)
 |[]=>⟨rfl,fun i h=>by simp at h⟩
 |x::r=>by
  have ih:=lH p r
  rw[List.findIdx?_cons,List.takeWhile_cons]
  cases hx:p x
  ·simp only[Bool.not_false,if_true,Bool.false_eq_true,if_false]
   cases hr:r.findIdx? p with
   |none=>rw[hr] at ih;refine⟨by simp only[Option.map_none];rw[← ih.1],fun i h=>by simp at h⟩
   |some i=>
    rw[hr] at ih
    refine⟨by simp only[Option.map_some,List.take_succ_cons];rw[← ih.1],fun k h=>?_⟩
    simp only[Option.map_some,Option.some.injEq] at h
    rw[List.length_cons,← ih.2 i rfl,h]
  ·simp
theorem Ca (G:Gl) (hG:au G) (names:List aE) (hn:names.length<1099511627776) (v:aE) (H:List ax) (nb:Nat) (hnb:H[nb]? =some (.cells 0 1 [.list 1 (names.map .str)])):
 af Tryz.prog G 116 [.str v,.ptr nb 0 0 0] H (fun r H'=>H'=H∧r= .bool (decide (v∈names))):=by
 refine af.aD TB [] aA _ Tryz.func116 rfl (by decide) Tryz.ntmps116 (by simp) rfl (by simp only[ap,Nat.reduceAdd];rfl) fun C R' hR hC hcl hB=>?_;have X:=aF;have hC':=congrArg List.length hC
 have c1:=fun H=>mh G names v H (by omega)
 have X:=And.intro X hnb
 (refine run ?_;with_reducible repeat' first|exact trivial|(apply ad.mk<;>intro hb)|apply av.mk)
 exact Fin.out hR ⟨rfl,rfl⟩
theorem yr (G:Gl) (hG:au G) (l j names:List aE) (H:List ax) (id g:Nat) (hid:H[id]? =some (.cells g 1 ((l++j).map .str))) (hl:l.length<1099511627776) (hn:names.length<1099511627776):
 af Tryz.prog G 66 [.sl id g 0 l.length,.list 1 (names.map .str)] H (fun r H'=>H'=H∧r= .sl id g 0 (cp l names).length):=by
 have li:=(List.getElem?_eq_some_iff.1 hid).1
 have hix:=tF G hG (.fn (.func 116) [] [.ptr H.length 0 0 0]) (fun n=>decide (n∈names)) l j (H++[.cells 0 1 [.list 1 (names.map .str)]]) id g (by rw[cA li];exact hid) hl (by simp[SV.under,SV.aB])
  (fun n=>bz.of (first:=[]) (args:=[.str n]) (cap:=[.ptr H.length 0 0 0]) (Ca G hG names hn n _ H.length (by simp)))
 have htk:=lH (fun n=>decide (n∈names)) l
 have hun:cp l names=l.takeWhile (fun n=>!decide (n∈names)):=rfl
 have hjl:((l++j).map SV.str).length=l.length+j.length:=by simp
 have hidx:=fun L=>(show(H++L)[id]? =some (.cells g 1 ((l++j).map .str)) by rw[cA li];exact hid)
 refine af.aD TB [] aA _ Tryz.func66 rfl (by decide) Tryz.ntmps66 (by simp) rfl (by simp only[ap,Nat.reduceAdd];rfl) fun C R' hR hC hcl hB=>?_;have X:=aF;have hC':=congrArg List.length hC
 have X:=And.intro X (And.intro hidx hjl)
 (refine run ?_;with_reducible repeat' first|exact trivial|(apply ad.mk<;>intro hb)|apply av.mk)
 refine bt hix ?_
 rintro r H' ⟨rfl,rfl⟩
 cases hr:l.findIdx? (fun n=>decide (n∈names)) with
 |none=>
  rw[hr] at htk
  have e:cp l names=l:=by rw[hun,← htk.1]
  simp only
  (refine run ?_;with_reducible repeat' first|exact trivial|(apply ad.mk<;>intro hb)|apply av.mk)
  exact aS (n0:=H.length) hR hC' hcl (.same _ (by simpa [SV.under,bq] using li)) ⟨rfl,by rw[e];rfl⟩
 |some i=>
  have e:=htk.2 i hr
  rw[← hun] at e
  have hil:i<l.length:=by
   obtain⟨h1,_⟩:=List.findIdx?_eq_some_iff_getElem.1 hr
   exact h1
  simp only
  (refine run ?_;with_reducible repeat' first|exact trivial|(apply ad.mk<;>intro hb)|apply av.mk)
  exact aS (n0:=H.length) hR hC' hcl (.same _ (by simpa [SV.under,bq] using li)) ⟨rfl,by rw[← e];rfl⟩
theorem kS (p:aE→Bool) (l:List aE) (x:aE):(l++[x]).filter p=l.filter p++if p x then [x] else []:=by
 rw[List.filter_append,List.filter_cons];rfl
theorem A8 (G:Gl) (hG:au G) (f:SV) (p:aE→Bool) (l j:List aE) (H:List ax) (id g:Nat) (hid:H[id]? =some (.cells g 1 ((l++j).map .str))) (hl:l.length<1099511627776) (hfu:f.under H.length=true)
 (hf:∀ (n:aE) (vs:List SV),bz Tryz.prog G f [.str n] (H.set id (.cells g 1 vs)) (fun r H'=>H'=H.set id (.cells g 1 vs)∧r= .bool (p n))):
 af Tryz.prog G 117 [.sl id g 0 l.length,f] H (fun r H'=>∃ j':List aE,H'=H.set id (.cells g 1 ((l.filter (fun n=>!p n)++j').map .str))∧r= .sl id g 0 (l.filter (fun n=>!p n)).length):=by
 have li:=(List.getElem?_eq_some_iff.1 hid).1
 obtain⟨Q,q0,qd,hlen,qx,qc⟩:=CJ hid
 simp only[← qd] at hf ⊢
 have hidx:=fun n=>hf n ((l++j).map .str)
 have hix:=tF G hG f p l j (Q ((l++j).map .str)) id g (qx.1 _) hl (by rw[hlen];exact hfu) hidx
 rw[← q0]
 refine af.aD TB [] aA _ Tryz.func117 rfl (by decide) Tryz.ntmps117 (by simp) rfl (by simp only[ap,Nat.reduceAdd];rfl) fun C R' hR hC hcl hB=>?_;have X:=aF;have hC':=congrArg List.length hC
 have hC':=hC'.trans (hlen _)
 have hcls:∀ xs:List aE,closed (Q (xs.map .str)):=fun xs=>qc (q0 ▸ hcl) _ (SV.bC fun _ _=>rfl)
 generalize H.length=n0 at*
 have X:=And.intro X qx
 (refine run ?_;with_reducible repeat' first|exact trivial|(apply ad.mk<;>intro hb)|apply av.mk)
 refine bt hix ?_
 rintro r H' ⟨rfl,rfl⟩
 cases hr:l.findIdx? p with
 |none=>
  simp only
  (refine run ?_;with_reducible repeat' first|exact trivial|(apply ad.mk<;>intro hb)|apply av.mk)
  have e:l.filter (fun n=>!p n)=l:=by
   rw[List.filter_eq_self]
   intro x hx
   rw[List.findIdx?_eq_none_iff] at hr
   simp[hr x hx]
  exact Fin.out hR ⟨j,by rw[e],by rw[e];rfl⟩
 |some i0=>
  obtain⟨hi0,hpi,hno⟩:=List.findIdx?_eq_some_iff_getElem.1 hr
  simp only
  have hne:¬ (i0:Int)= -1:=by omega
  have X:=And.intro X hne
  (refine run ?_;with_reducible repeat' first|exact trivial|(apply ad.mk<;>intro hb)|apply av.mk)
  have hf0:(l.take (i0+1)).filter (fun n=>!p n)=l.take i0:=by
   rw[List.take_succ_eq_append_getElem hi0,kS,hpi]
   simp only[Bool.not_true,Bool.false_eq_true,if_false,List.append_nil]
   rw[List.filter_eq_self]
   intro x hx
   obtain⟨q,hq,rfl⟩:=List.mem_take_iff_getElem.1 hx
   have:=hno q (by omega)
   simpa using this
  have hfl0:((l.take (i0+1)).filter (fun n=>!p n)).length=i0:=by rw[hf0,List.length_take];omega
  refine az (fun a:Nat×List aE=>[(0,.sl id g 0 l.length),(1,f),(5,.int .i64 (((l.take a.1).filter (fun n=>!p n)).length:Int)),(6,.int .i64 (a.1:Int))]) (fun a=>Q (a.2.map .str)++[]) (fun a=>l.length - a.1)
   (fun a=>(a.1≤l.length∧a.2.length=l.length+j.length)∧(∀ q,a.1≤q→a.2[q]? =(l++j)[q]?)∧((l.take a.1).filter (fun n=>!p n)).length<a.1∧a.2.take ((l.take a.1).filter (fun n=>!p n)).length=(l.take a.1).filter (fun n=>!p n)) (i0+1,l++j) ⟨⟨by simp only;omega,by simp⟩,fun q _=>rfl,by simp only;omega,?_⟩ ?_ ?_
  ·simp only
   rw[hfl0,hf0,List.take_append_of_le_length (by omega)]
  ·simp only[List.append_nil,hfl0]
   exact Wk.sub (by simp[bg,look])
  clear X
  rintro K ⟨m,xs⟩ ⟨⟨hm,hxl⟩,hxs,hlt0,htk⟩ hK
  simp only at hm hxl hxs hlt0 htk
  dsimp only
  have hxl':(xs.map SV.str).length=l.length+j.length:=by rw[List.length_map,hxl]
  rcases Nat.lt_or_ge m l.length with hlt|hge
  ·have ht:=List.take_succ_eq_append_getElem hlt
   have hfs:=kS (fun n=>!p n) (l.take m) l[m]
   rw[← ht] at hfs
   have f1:=hxs m (Nat.le_refl _)
   rw[List.getElem?_append_left hlt,List.getElem?_eq_getElem hlt] at f1
   have f1':(xs.map SV.str)[m]? =some (.str l[m]):=by rw[List.getElem?_map,f1];rfl
   have hcall:=hf l[m] (xs.map .str)
   generalize l[m]=x at*
   generalize hF:((l.take m).filter (fun n=>!p n)).length=F at*
   have hFx:F<xs.length:=by omega
   obtain⟨y,hy⟩:∃ y,xs[F]? =some y:=⟨_,List.getElem?_eq_getElem hFx⟩
   have hy':(xs.map SV.str)[F]? =some (.str y):=by rw[List.getElem?_map,hy];rfl
   have hset:(xs.map SV.str).set F (.str x)=(xs.set F x).map SV.str:=by rw[List.map_set]
   have X:=And.intro aF (And.intro qx (And.intro f1' (And.intro hy' (And.intro hxl' hset))))
   rw[List.append_nil]
   (refine run ?_;with_reducible repeat' first|exact trivial|(apply ad.mk<;>intro hb)|apply av.mk)
   refine eX hcall ?_
   rintro r H' ⟨rfl,rfl⟩
   cases hpx:p x
   ·simp only[hpx,Bool.not_false,if_true] at hfs
    have hF2:((l.take (m+1)).filter (fun n=>!p n)).length=F+1:=by rw[hfs,List.length_append,hF];rfl
    (refine run ?_;with_reducible repeat' first|exact trivial|(apply ad.mk<;>intro hb)|apply av.mk)
    refine hK _ _ (m+1,xs.set F x) (by simp only;omega) ⟨⟨by simp only;omega,by simpa using hxl⟩,fun q hq=>?_,by simp only[hF2];omega,?_⟩ ?_
    ·simp only at hq
     rw[List.getElem?_set_ne (by omega)]
     exact hxs q (by omega)
    ·show(xs.set F x).take ((l.take (m+1)).filter (fun n=>!p n)).length=(l.take (m+1)).filter (fun n=>!p n)
     rw[hF2,hfs,List.take_succ_eq_append_getElem (by simpa using hFx),List.getElem_set_self,List.take_set_of_le (Nat.le_refl _),htk]
    ·simp only[hF2]
     rw[List.append_nil]
     exact Wk.sub (by simp[bg,look])
   ·simp only[hpx,Bool.not_true,Bool.false_eq_true,if_false,List.append_nil] at hfs
    have hF2:((l.take (m+1)).filter (fun n=>!p n)).length=F:=by rw[hfs,hF]
    (refine run ?_;with_reducible repeat' first|exact trivial|(apply ad.mk<;>intro hb)|apply av.mk)
    refine hK _ _ (m+1,xs) (by simp only;omega) ⟨⟨by simp only;omega,hxl⟩,fun q hq=>hxs q (by simp only at hq;omega),by simp only[hF2];omega,?_⟩ ?_
    ·show xs.take ((l.take (m+1)).filter (fun n=>!p n)).length=(l.take (m+1)).filter (fun n=>!p n)
     rw[hF2,hfs];exact htk
    ·simp only[hF2]
     rw[List.append_nil]
     exact Wk.sub (by simp[bg,look])
  ·obtain rfl:m=l.length:=by omega
   rw[List.take_length] at*
   clear hK
   generalize hF:(l.filter (fun n=>!p n)).length=F at*
   have X:=And.intro aF (And.intro qx (And.intro hxl' (Int.lt_irrefl (l.length:Int))))
   rw[List.append_nil]
   (refine run ?_;with_reducible repeat' first|exact trivial|(apply ad.mk<;>intro hb)|apply av.mk)
   refine Fin.out hR ⟨List.replicate (l.length - F) []++xs.drop (F+(l.length - F)),congrArg Q ?_,rfl⟩
   rw[← htk,List.map_append,List.map_append,List.map_take,List.map_drop,List.map_replicate]
theorem zq (l more:List aE) (x:aE):cn l (more++[x])=fz (cn l more) x:=by rw[cn,List.foldl_append];rfl
theorem oE (l more:List aE):(cn l more).length≤l.length+more.length:=by
 induction more generalizing l with
 |nil=>exact Nat.le_refl _
 |cons x r ih=>
  rw[cn,List.foldl_cons,← cn]
  have:=ih (fz l x)
  have:=xY l x
  simp only[List.length_cons];omega
theorem Ax (G:Gl) (hG:au G) (l j more:List aE) (H:List ax) (id g:Nat) (hid:H[id]? =some (.cells g 1 ((l++j).map .str))) (hl:l.length+more.length<1099511627776):
 af Tryz.prog G 113 [.sl id g 0 l.length,.list 1 (more.map .str)] H (fun r H'=>∃ g',H'=H.set id (.cells g' 1 ((cn l more).map .str))∧r= .sl id g' 0 (cn l more).length):=by
 have li:=(List.getElem?_eq_some_iff.1 hid).1
 obtain⟨Q,qd⟩:∃ Q:Nat→List aE→List ax,∀ g xs,H.set id (.cells g 1 (xs.map .str))=Q g xs:=⟨fun g xs=>H.set id (.cells g 1 (xs.map .str)),fun _ _=>rfl⟩
 have hlen:∀ g xs,(Q g xs).length=H.length:=fun g xs=>by rw[← qd,List.length_set]
 have qx1:∀ g xs,(Q g xs)[id]? =some (.cells g 1 (xs.map .str)):=fun g xs=>by rw[← qd];exact List.getElem?_set_self li
 have qx2:∀ g xs b x,(Q g xs).set id (.cells b 1 (xs.map .str++[.str x]))=Q b (xs++[x]):=fun g xs b x=>by rw[← qd,List.set_set,← qd,List.map_append];rfl
 simp only[qd]
 refine af.aD TB [] aA _ Tryz.func113 rfl (by decide) Tryz.ntmps113 (by simp) rfl (by simp only[ap,Nat.reduceAdd];rfl) fun C R' hR hC hcl hB=>?_;have X:=aF;have hC':=congrArg List.length hC
 refine xo (t:=0) hid rfl (by simp) ?_
 rw[Nat.zero_add,List.map_append,List.take_left' (List.length_map ..),qd]
 have X:=And.intro X (And.intro qx1 qx2)
 (refine run ?_;with_reducible repeat' first|exact trivial|(apply ad.mk<;>intro hb)|apply av.mk)
 refine az (fun a:Nat×Nat=>[(0,.sl id a.2 0 (cn l (more.take a.1)).length),(7,.list 1 (more.map .str)),(8,.int .i64 more.length),(9,.int .i64 a.1)]) (fun a=>Q a.2 (cn l (more.take a.1))) (fun a=>more.length - a.1) (fun a=>a.1≤more.length) (0,g+1) (Nat.zero_le _) (Wk.sub (by simp[bg,look,cn])) ?_
 rintro K ⟨i,g1⟩ hi hK
 simp only at hi
 dsimp only
 rcases Nat.lt_or_ge i more.length with hlt|hge
 ·have ht:=List.take_succ_eq_append_getElem hlt
  have hs:=zq l (more.take i) more[i]
  rw[← ht] at hs
  have hjl:=oE l (more.take i)
  rw[List.length_take] at hjl
  have hidj:(Q g1 (cn l (more.take i)))[id]? =some (.cells g1 1 ((cn l (more.take i)++[]).map .str)):=by rw[List.append_nil];exact qx1 _ _
  have c1:=o7 G hG (cn l (more.take i)) [] more[i] (Q g1 (cn l (more.take i))) id g1 hidj (by omega)
  have hme:(more.map SV.str)[i]? =some (.str more[i]):=by simp[hlt]
  generalize more[i]=x at*
  generalize cn l (more.take i)=J at*
  have hml:(J.map SV.str).length=J.length:=List.length_map ..
  by_cases hx:x∈J
  ·rw[decide_eq_true hx] at c1
   have hs':cn l (more.take (i+1))=J:=by rw[hs,fz,if_pos hx]
   have X:=And.intro aF (And.intro qx1 (And.intro qx2 (And.intro hme hml)))
   (refine run ?_;with_reducible repeat' first|exact trivial|(apply ad.mk<;>intro hb)|apply av.mk)
   refine hK _ _ (i+1,g1) (by simp only;omega) (by simp only;omega) ?_
   simp only[hs']
   exact Wk.sub (by simp[bg,look])
  ·rw[decide_eq_false hx] at c1
   have hs':cn l (more.take (i+1))=J++[x]:=by rw[hs,fz,if_neg hx]
   have X:=And.intro aF (And.intro qx1 (And.intro qx2 (And.intro hme hml)))
   (refine run ?_;with_reducible repeat' first|exact trivial|(apply ad.mk<;>intro hb)|apply av.mk)
   refine hK _ _ (i+1,g1+1) (by simp only;omega) (by simp only;omega) ?_
   simp only[hs',List.length_append,List.length_singleton]
   exact Wk.sub (by simp[bg,look])
 ·obtain rfl:i=more.length:=by omega
  clear hK
  rw[List.take_length]
  have X:=And.intro aF (Int.lt_irrefl (more.length:Int))
  (refine run ?_;with_reducible repeat' first|exact trivial|(apply ad.mk<;>intro hb)|apply av.mk)
  exact Fin.out hR ⟨g1,rfl,rfl⟩
theorem af.fin {P:Program} {G:Gl} {f:FuncId} {args:List SV} {H:List ax} {R R':SV→List ax→Prop} (h:af P G f args H R)
 (hf:∀ C x H',C.H=H→closed H→R x H'→Fin C H' x R'):af P G f args H R':=
 ⟨h.1,fun c vs h1 h2 h3 h4=>(h.2 c vs h1 h2 h3 h4).mono fun e w' ⟨v,x,c',a1,a2,a3,a4,a5,a6⟩=>
  let ⟨c2,y,b1,b2,b3,b4,b5⟩:=hf c x c'.H h1 (h1 ▸ h2.closed) a3 c' v rfl a4 a5 a6
  ⟨v,y,c2,a1,b1.trans a2,b2,b3,b4,b5⟩⟩
theorem af.oh {P:Program} {G:Gl} {f:FuncId} {args args':List SV} {H:List ax} {R:SV→List ax→Prop} (h:af P G f args H R)
 (ha:∀ c vs,aC c args' vs→aC c args vs):af P G f args' H R:=
 ⟨h.1,fun c vs h1 h2 h3 h4=>h.2 c vs h1 h2 h3 (ha c vs h4)⟩
theorem af.Lw {P:Program} {G:Gl} {f:FuncId} {args:List SV} {H:List ax} {sz:Nat} {vs:List SV} {n:Nat} (hu:SV.aB H.length vs=true) (hn:vs.length=n)
 (h:af P G f args H (fun r H'=>H'=H++[.cells 0 sz vs]∧r= .sl H.length 0 0 n)):af P G f args H (fun r H'=>H'=H∧r= .list sz vs):=
 h.fin fun C x H' h1 hcl hr=>by
  obtain⟨rfl,rfl⟩:=hr
  exact Fin.bY (n0:=H.length) (R0:=fun r H'=>H'=H∧r= .list sz vs) (fun _ _ h=>h) rfl (by rw[h1]) hcl (bE.sf (g:=0) (sz:=sz) (vals:=vs) (List.getElem?_concat_length ..) (Nat.le_refl _) (by simp) (by rw[List.drop_zero,List.take_of_length_le (by omega)]) hu) ⟨rfl,rfl⟩
theorem aG.xO {c:Cx} {sz:Nat} {v:Value} (h:aG c .nil v):aG c (.list sz []) v:=by
 simp only[aG] at h ⊢
 exact⟨none,0,h,Nat.le_refl _,Nat.zero_le _,.inl trivial⟩
theorem nJ:∀ (l L:List aE),l.Nodup→(∀ x∈l,x∈L)→l.length≤L.length
 |[],L,_,_=>Nat.zero_le _
 |x::r,L,h,hs=>by
  obtain⟨a,b,rfl⟩:=List.append_of_mem (hs x (List.mem_cons_self ..))
  rw[List.nodup_cons] at h
  have:=nJ r (a++b) h.2 (fun y hy=>by
   have:=hs y (List.mem_cons_of_mem _ hy)
   rw[List.mem_append,List.mem_cons] at this
   rw[List.mem_append]
   rcases this with h1|h1|h1
   ·exact .inl h1
   ·exact absurd (h1 ▸ hy) h.1
   ·exact .inr h1)
  simp only[List.length_append,List.length_cons] at this ⊢
  omega
theorem tC {f:Ex→List aE}:∀ {l:List Ex},(∀ x∈l,(f x).length≤x.wt)→(l.flatMap f).length≤(l.map Ex.wt).sum
 |[],_=>by simp
 |x::r,h=>by
  have h2:=tC (l:=r) (fun y hy=>h y (List.mem_cons_of_mem _ hy))
  have h3:=h x (List.mem_cons_self ..)
  rw[List.flatMap_cons,List.length_append,List.map_cons,List.sum_cons]
  omega
theorem pY:∀ (m:Nat) (e:Ex),(mR m e).length≤e.wt
 |0,e=>Nat.zero_le _
 |m+1,e=>by
  have h1:=rO e
  have h2:=tC (f:=mR m) (l:=e.parts) fun x _=>pY m x
  rw[mR,List.length_append]
  split
  ·simp only[List.length_singleton];omega
  ·simp only[List.length_nil];omega
theorem sJ {m:Nat} {e p:Ex} (hp:p∈e.parts) {s:aE} (hs:s∈mR m p):s∈mR (m+1) e:=by
 rw[mR,List.mem_append]
 exact .inr (List.mem_flatMap.2 ⟨p,hp,hs⟩)
theorem pO (sim:Ex→Bool) (k:List Od) (s:aE):∀ (m:Nat) (e:Ex),s∈aZ sim k m e→s∈mR m e
 |0,e,h=>by cases h
 |m+1,.mk kd nm nn op names ae binds alts,h=>by
  have ih:=pO sim k s m
  have hin:∀ {x:Ex},x∈(Ex.mk kd nm nn op names ae binds alts).parts→s∈aZ sim k m x→s∈mR (m+1) (.mk kd nm nn op names ae binds alts):=fun hx hs=>sJ hx (ih _ hs)
  rw[Ex.bM] at hin
  have hsb:∀ {x:Ex},x∈ae→s∈aZ sim k m x→s∈mR (m+1) (.mk kd nm nn op names ae binds alts):=fun hx hs=>hin (List.mem_append_left _ hx) hs
  rw[aZ] at h
  split at h
  ·rename_i hk
   have h:=List.mem_singleton.1 h
   rw[mR,if_pos hk,h]
   exact List.mem_append_left _ (List.mem_singleton.2 rfl)
  ·have h:s∈(match ae with|[]=>[]|t::r=>(if kd=8 then (if 0<r.length∧1≤op∧op≤8 then fc (aZ sim k m) sim [] (ae.take 2) else aZ sim k m t) else if kd=4 then (if (cu k (.mk kd nm nn op names ae binds alts)).2 then fc (aZ sim k m) sim [] (fg ae (cu k (.mk kd nm nn op names ae binds alts)).1.bN) else aZ sim k m t) else if kd=5 then cp (aZ sim k m t) (binds.map Bd.name) else if kd=6 then qp (aZ sim k m) sim nm t alts else []:List aE)):=h
   cases hs0:ae with
   |nil=>rw[hs0] at h;cases h
   |cons t r=>
    have hm:t∈ae:=by rw[hs0];exact List.mem_cons_self ..
    rw[← hs0]
    simp only[hs0] at h
    rw[← hs0] at h
    split at h
    ·split at h
     ·rcases rX _ _ _ _ h with h|⟨x,h1,h2⟩
      ·cases h
      ·exact hsb (List.mem_of_mem_take h1) h2
     ·exact hsb hm h
    ·split at h
     ·split at h
      ·rcases rX _ _ _ _ h with h|⟨x,h1,h2⟩
       ·cases h
       ·exact hsb (ta _ _ h1) h2
      ·exact hsb hm h
     ·split at h
      ·exact hsb hm (rE h).1
      ·split at h
       ·unfold qp at h
        split at h
        ·rcases gD.1 h with h|h
         ·exact hsb hm h
         ·obtain⟨a,h1,h2⟩:=(CO _ _ _ (fun e=>gB sim k m e) alts).2 s h
          have h3:=(rE h2).1
          rw[List.mem_filter] at h3
          exact hin (List.mem_append_right _ (List.mem_append_right _ (List.mem_map.2 ⟨a,h1,rfl⟩))) h3.1
        ·exact hsb hm h
       ·cases h
theorem fq (sim:Ex→Bool) (k:List Od) (m:Nat) (e:Ex):(aZ sim k m e).length≤e.wt:=
 Nat.le_trans (nJ _ _ (gB sim k m e) fun s hs=>pO sim k s m e hs) (pY m e)
def EX (G:Gl) (k:List Od) (m:Nat):Prop:=∀ (e:Ex) (kb:Nat) (H:List ax),e.wt≤m→e.wt<4294967296→H[kb]? =some (.map none (ky k))→
 af Tryz.prog G 27 [.map kb,e.sv] H (fun r H'=>∃ j:List aE,H'=H++[.cells 0 1 ((aZ aU k m e++j).map .str)]∧r= .sl H.length 0 0 (aZ aU k m e).length)
theorem qR {G:Gl} {k:List Od} {m:Nat} (hrec:EX G k m) (e:Ex) (kb:Nat) (H:List ax) (he:e.wt≤m) (hw:e.wt<4294967296) (hkb:H[kb]? =some (.map none (ky k))):
 af Tryz.prog G 27 [.map kb,e.sv] H (fun r H'=>H'=H∧r= .list 1 ((aZ aU k m e).map .str)):=
 (hrec e kb H he hw hkb).fin fun C x H' h1 hcl hr=>by
  obtain⟨j,rfl,rfl⟩:=hr
  exact Fin.bY (n0:=H.length) (R0:=fun r H'=>H'=H∧r= .list 1 ((aZ aU k m e).map .str)) (fun _ _ h=>h) rfl (by rw[h1]) hcl
   (bE.sf (g:=0) (sz:=1) (vals:=(aZ aU k m e++j).map .str) (List.getElem?_concat_length ..) (Nat.le_refl _) (by simp) (by rw[List.drop_zero,List.map_append,List.take_left' (List.length_map ..)]) (SV.bC fun _ _=>rfl)) ⟨rfl,rfl⟩
theorem vD (G:Gl) (hG:au G) (k:List Od) (m:Nat) (hrec:EX G k m) (es:List Ex) (hes:∀ x∈es,x.wt≤m∧x.wt<4294967296) (hel:es.length<1099511627776) (L:List aE) (hL:L.length<549755813888) (hsub:∀ x∈es,∀ s∈aZ aU k m x,s∈L) (kb:Nat) (H:List ax) (hkb:H[kb]? =some (.map none (ky k))):
 af Tryz.prog G 64 [.map kb,.list 8 (ag es)] H (fun r H'=>H'=H++[.cells 0 1 ((fc (aZ aU k m) aU [] es).map .str)]∧r= .sl H.length 0 0 (fc (aZ aU k m) aU [] es).length):=by
 have lk:=(List.getElem?_eq_some_iff.1 hkb).1
 have hkx:=fun L=>(show(H++L)[kb]? =some (.map none (ky k)) by rw[cA lk];exact hkb)
 have hnd:=fun e=>gB aU k m e
 have hfl:=fun e=>fq aU k m e
 generalize hRR:fc (aZ aU k m) aU [] es=RR
 refine af.aD TB [5] aA _ Tryz.func64 rfl (by decide) Tryz.ntmps64 (by simp) rfl (by simp only[ap,Nat.reduceAdd];rfl) fun C R' hR hC hcl hB=>?_;have X:=aF;have hC':=congrArg List.length hC
 (refine run ?_;with_reducible repeat' first|exact trivial|(apply ad.mk<;>intro hb)|apply av.mk)
 refine az (fun a:Nat×List aE=>[(0,.map kb),(5,.sl H.length 0 0 a.2.length),(8,.list 8 (ag es)),(9,.int .i64 es.length),(10,.int .i64 a.1)]) (fun a=>H++[.cells 0 1 (a.2.map .str)]) (fun a=>es.length - a.1)
  (fun a=>a.1≤es.length∧fc (aZ aU k m) aU a.2 (es.drop a.1)=RR∧a.2.Nodup∧∀ s∈a.2,s∈L) (0,[]) ⟨Nat.zero_le _,hRR,List.nodup_nil,fun s h=>by cases h⟩ ?_ ?_
 ·simp only[List.length_nil,List.map_nil]
  exact aY (n0:=H.length) [(H.length,0)] hG hB hC' hcl
 rintro K ⟨i,out⟩ ⟨hi,hro,hon,hoL⟩ hK
 simp only at hi hro hon hoL
 dsimp only
 have hol:=nJ out L hon hoL
 rcases Nat.lt_or_ge i es.length with hlt|hge
 ·have hx:=hes es[i] (List.getElem_mem hlt)
  have c1:=fun L=>qR hrec es[i] kb (H++L) hx.1 hx.2 (hkx L)
  have c2:=fun H=>sw G hG es[i] hx.2 H
  rw[List.drop_eq_getElem_cons hlt,fc] at hro
  have hsx:=hsub es[i] (List.getElem_mem hlt)
  have hfx:=hfl es[i]
  have hxi:es[i]? =some es[i]:=List.getElem?_eq_getElem hlt
  generalize es[i]=x at*
  have hjl:=oE out (aZ aU k m x)
  have hjn:=fj (more:=aZ aU k m x) hon
  have hjL:∀ s∈cn out (aZ aU k m x),s∈L:=fun s hs=>(gD.1 hs).elim (hoL s) (hsx s)
  generalize aZ aU k m x=F at*
  have X:=And.intro aF (And.intro hkx hxi)
  (refine run ?_;with_reducible repeat' first|exact trivial|(apply ad.mk<;>intro hb)|apply av.mk)
  refine bt (Ax G hG out [] F _ H.length 0 (by simp) (by omega)) ?_
  rintro r H' ⟨g',rfl,rfl⟩
  simp only[fB,List.set_cons_zero]
  generalize cn out F=J at*
  (refine run ?_;with_reducible repeat' first|exact trivial|(apply ad.mk<;>intro hb)|apply av.mk)
  ·have hro:J=RR:=by rw[if_neg (by simpa using hb)] at hro;exact hro
   subst hro
   exact dp [(H.length,0)] (.sl H.length 0 0 J.length) [.cells 0 1 (J.map .str)] hR hC' hcl ⟨rfl,rfl⟩
  ·rw[if_pos (by simpa using hb)] at hro
   refine hK _ _ (i+1,J) (by simp only;omega) ⟨by simp only;omega,hro,hjn,hjL⟩ ?_
   dsimp only
   exact aY (n0:=H.length) [(H.length,0)] hG hB hC' hcl
 obtain rfl:i=es.length:=by omega
 clear hK
 rw[List.drop_length] at hro
 have hro:out=RR:=hro
 subst hro
 have X:=And.intro aF (Int.lt_irrefl (es.length:Int))
 (refine run ?_;with_reducible repeat' first|exact trivial|(apply ad.mk<;>intro hb)|apply av.mk)
 exact dp [(H.length,0)] (.sl H.length 0 0 out.length) [.cells 0 1 (out.map .str)] hR hC' hcl ⟨rfl,rfl⟩
theorem rv:∀ a:List aE,yD a a=a
 |[]=>by simp[yD]
 |x::a=>by rw[yD,if_pos rfl,rv a]
theorem lp:∀ (a b:List aE) (n:Nat),a.take n=b.take n→n≤a.length→n≤b.length→(∀ (h1:n<a.length) (h2:n<b.length),¬ a[n]=b[n])→yD a b=a.take n
 |[],b,n,_,h,_,_=>by simp[yD]
 |x::a,[],n,_,_,h,_=>by
  have:n=0:=by simpa using h
  subst this;simp[yD]
 |x::a,y::b,0,_,_,_,h=>by
  have:=h (by simp) (by simp)
  rw[yD,if_neg (by simpa using this)];rfl
 |x::a,y::b,n+1,ht,h1,h2,h3=>by
  rw[List.take_succ_cons,List.take_succ_cons,List.cons.injEq] at ht
  rw[yD,if_pos ht.1,lp a b n ht.2 (by simpa using h1) (by simpa using h2) (fun q1 q2=>by have:=h3 (by simpa using q1) (by simpa using q2);simpa using this),List.take_succ_cons]
theorem tg (f:Ex→List aE) (nm:aE) (out:List aE) (a:Al):∀ (l:List Al) (c:List aE),yT f nm out c (l++[a])=yD (yT f nm out c l) (pB f nm out a)
 |[],c=>rfl
 |b::r,c=>by rw[List.cons_append,yT,yT];exact tg f nm out a r _
theorem tf (f:Ex→List aE) (nm:aE) (out:List aE) (l:List Al) (a:Al):jQ f nm out (l++[a])=yD (if l.length=0 then pB f nm out a else jQ f nm out l) (pB f nm out a):=by
 cases l with
 |nil=>rw[List.length_nil,if_pos rfl,rv];rfl
 |cons b r=>rw[List.cons_append,jQ,jQ,tg,if_neg (by simp)]
theorem sI (l names:List aE):l.take (cp l names).length=cp l names:=by
 induction l with
 |nil=>rfl
 |cons x r ih=>
  rw[cp,List.takeWhile_cons]
  split
  ·rw[List.length_cons,List.take_succ_cons]
   congr 1
  ·rfl
theorem mQ (l names:List aE):(cp l names).length≤l.length:=(List.takeWhile_sublist _).length_le
theorem qu {f:Ex→List aE} {nm:aE} {out:List aE} {B:Nat}:∀ (l:List Al),(∀ a∈l,(f a.body).length≤B)→(jQ f nm out l).length≤B
 |[],_=>Nat.zero_le _
 |a::r,h=>by
  have h1:=(qw f nm out r (pB f nm out a)).length_le
  have h2:=mQ ((f a.body).filter fun n=>!(decide (n=nm)||decide (n∈out))) a.names
  have h3:((f a.body).filter fun n=>!(decide (n=nm)||decide (n∈out))).length≤(f a.body).length:=List.length_filter_le ..
  have h4:=h a (List.mem_cons_self ..)
  rw[jQ]
  unfold pB at h1 ⊢
  omega
theorem yO (G:Gl) (hG:au G) {kd:Int} {nm:aE} {nn op:Int} {names:List aE} {ae:List Ex} {binds:List Bd} {alts:List Al} (out j:List aE) (ho:out.length<1099511627776) (n:aE) (H:List ax) (eb ob oid og:Nat)
 (h1:H[eb]? =some (.cells 0 8 [.agg [.int .i64 kd,.str nm,.int .i64 nn,.int .i64 op,.list 1 (names.map .str),.list 8 (ag ae),.list 9 (ah binds),.list 12 (aw alts)]])) (h2:H[ob]? =some (.cells 0 1 [.sl oid og 0 out.length])) (h3:H[oid]? =some (.cells og 1 ((out++j).map .str))):
 af Tryz.prog G 118 [.str n,.ptr eb 0 0 0,.ptr ob 0 0 0] H (fun r H'=>H'=H∧r= .bool (decide (n=nm)||decide (n∈out))):=by
 have c1:=o7 G hG out j n H oid og h3 ho
 refine af.aD TB [] aA _ Tryz.func118 rfl (by decide) Tryz.ntmps118 (by simp) rfl (by simp only[ap,Nat.reduceAdd];rfl) fun C R' hR hC hcl hB=>?_;have X:=aF;have hC':=congrArg List.length hC
 have X:=And.intro X (And.intro h1 h2)
 (refine run ?_;with_reducible repeat' first|exact trivial|(apply ad.mk<;>intro hb)|apply av.mk)
 all_goals (refine Fin.out hR ⟨rfl,?_⟩;simp_all [bq])
theorem A3 (G:Gl) (hG:au G) (k:List Od) (m:Nat) (hrec:EX G k m) (nm:aE) (kd nn op:Int) (names:List aE) (s:Ex) (rs:List Ex) (binds:List Bd) (alts:List Al) (hw:(Ex.mk kd nm nn op names (s::rs) binds alts).wt≤m+1) (hw0:(Ex.mk kd nm nn op names (s::rs) binds alts).wt<4294967296) (kb:Nat) (H:List ax) (hkb:H[kb]? =some (.map none (ky k))):
 af Tryz.prog G 67 [.map kb,(Ex.mk kd nm nn op names (s::rs) binds alts).sv] H (fun r H'=>∃ j:List aE,H'=H++[.cells 0 1 ((qp (aZ aU k m) aU nm s alts++j).map .str)]∧r= .sl H.length 0 0 (qp (aZ aU k m) aU nm s alts).length):=by
 have lk:=(List.getElem?_eq_some_iff.1 hkb).1
 have hkx:=fun L=>(show(H++L)[kb]? =some (.map none (ky k)) by rw[cA lk];exact hkb)
 have hle:=Ex.cm kd nm nn op names (s::rs) binds alts
 have hpw:∀ p∈(Ex.mk kd nm nn op names (s::rs) binds alts).parts,p.wt≤m∧p.wt<4294967296:=fun p hp=>by have:=Ex.bT hp;exact⟨by omega,by omega⟩
 rw[Ex.bM] at hpw
 have hs:=hpw s (by simp)
 have hs0:(s::rs)[0]? =some s:=rfl
 have hsl:0<(s::rs).length:=by simp
 generalize hS:s::rs=ae at*
 have hfl:=fq aU k m s
 have hcf:qp (aZ aU k m) aU nm s alts=if aU s then cn (aZ aU k m s) (jQ (aZ aU k m) nm (aZ aU k m s) alts) else aZ aU k m s:=rfl
 rw[hcf]
 have c2:=fun H=>sw G hG s hs.2 H
 have hfirst:=fun L=>hrec s kb (H++L) hs.1 hs.2 (hkx L)
 generalize hF:aZ aU k m s=F at*
 refine af.aD TB [] aA _ Tryz.func67 rfl (by decide) Tryz.ntmps67 (by simp) rfl (by simp only[ap,Nat.reduceAdd];rfl) fun C R' hR hC hcl hB=>?_;have X:=aF;have hC':=congrArg List.length hC
 have X:=And.intro X (And.intro hkx hs0)
 (refine run ?_;with_reducible repeat' first|exact trivial|(apply ad.mk<;>intro hb)|apply av.mk)
 refine bt (hfirst _) ?_
 rintro r H' ⟨j0,rfl,rfl⟩
 simp only[List.append_assoc,List.cons_append,List.nil_append,List.length_append,List.length_cons,List.length_nil,List.length_set,X,Nat.reduceAdd]
 cases hsim:aU s
 ·rw[hsim] at c2
  simp only[hsim,Bool.false_eq_true,if_false] at hR
  (refine run ?_;with_reducible repeat' first|exact trivial|(apply ad.mk<;>intro hb)|apply av.mk)
  exact dp [(H.length+1,0)] (.sl H.length 0 0 F.length) [.cells 0 1 ((F++j0).map .str)] hR hC' hcl ⟨j0,rfl,rfl⟩
 rw[hsim] at c2
 simp only[hsim,if_true] at hR
 (refine run ?_;with_reducible repeat' first|exact trivial|(apply ad.mk<;>intro hb)|apply av.mk)
 refine az (fun i:Nat=>[(0,.map kb),(3,.ptr H.length 0 0 0),(5,.ptr (H.length+2) 0 0 0),(6,.list 1 ((jQ (aZ aU k m) nm F (alts.take i)).map .str)),(25,.list 12 (aw alts)),(26,.int .i64 alts.length),(27,.int .i64 i)]) (fun i=>H++[.cells 0 8 [.agg [.int .i64 kd,.str nm,.int .i64 nn,.int .i64 op,.list 1 (names.map .str),.list 8 (ag ae),.list 9 (ah binds),.list 12 (aw alts)]],.cells 0 1 ((F++j0).map .str),.cells 0 1 [.sl (H.length+1) 0 0 F.length]]) (fun i=>alts.length - i) (fun i=>i≤alts.length) 0 (Nat.zero_le _) ?_ ?_
 ·simp only[List.take_zero,show jQ (aZ aU k m) nm F []=[] from rfl,List.map_nil]
  exact aY (n0:=H.length) [(H.length,0),(H.length+1,0),(H.length+2,0)] hG hB hC' hcl
 rintro K i hi hK
 rcases Nat.lt_or_ge i alts.length with hlt|hge
 ·have ht:=List.take_succ_eq_append_getElem hlt
  have hcs:=tf (aZ aU k m) nm F (alts.take i) alts[i]
  rw[← ht,List.length_take,Nat.min_eq_left (by omega)] at hcs
  have hab:=hpw alts[i].body (List.mem_append_right _ (List.mem_append_right _ (List.mem_map.2 ⟨_,List.getElem_mem hlt,rfl⟩)))
  have hfa:=fun L=>hrec alts[i].body kb (H++L) hab.1 hab.2 (hkx L)
  have hfal:=fq aU k m alts[i].body
  have han:alts[i].names.length<4294967296:=by have:=Al.hY (kd:=kd) (nm:=nm) (nn:=nn) (op:=op) (names:=names) (ae:=ae) (binds:=binds) hlt;omega
  have hal:pB (aZ aU k m) nm F alts[i]=cp ((aZ aU k m alts[i].body).filter fun n=>!(decide (n=nm)||decide (n∈F))) alts[i].names:=rfl
  rw[hal] at hcs
  have hcw:=qu (f:=aZ aU k m) (nm:=nm) (out:=F) (B:=4294967295) (alts.take i) (fun a ha=>by
   have h1:=fq aU k m a.body
   have h2:=(hpw a.body (List.mem_append_right _ (List.mem_append_right _ (List.mem_map.2 ⟨a,List.mem_of_mem_take ha,rfl⟩)))).2
   omega)
  generalize hF2:aZ aU k m alts[i].body=F2 at*
  have hlen2:=mQ (F2.filter fun n=>!(decide (n=nm)||decide (n∈F))) alts[i].names
  have hfl2:(F2.filter fun n=>!(decide (n=nm)||decide (n∈F))).length≤F2.length:=List.length_filter_le ..
  generalize hc0:jQ (aZ aU k m) nm F (alts.take i)=c at*
  have X:=And.intro aF hkx
  (refine run ?_;with_reducible repeat' first|exact trivial|(apply ad.mk<;>intro hb)|apply av.mk)
  refine du (hfa _) ?_
  rintro r H' ⟨j1,rfl,rfl⟩
  simp only[List.append_assoc,List.cons_append,List.nil_append,List.length_append,List.length_cons,List.length_nil,List.length_set,X,Nat.reduceAdd]
  (refine run ?_;with_reducible repeat' first|exact trivial|(apply ad.mk<;>intro hb)|apply av.mk)
  refine du (A8 G hG (.fn (.func 118) [] [.ptr H.length 0 0 0,.ptr (H.length+2) 0 0 0]) (fun n=>decide (n=nm)||decide (n∈F)) F2 j1 _ (H.length+4) 0 (by simp) (by omega) (by simp[SV.under,SV.aB]) (fun n vs=>bz.of (first:=[]) (args:=[.str n]) (cap:=[.ptr H.length 0 0 0,.ptr (H.length+2) 0 0 0])
   (yO G hG (kd:=kd) (nn:=nn) (op:=op) (names:=names) (ae:=ae) (binds:=binds) (alts:=alts) F j0 (by omega) n _ H.length (H.length+2) (H.length+1) 0 (by simp[cB]) (by simp[cB]) (by simp[cB])))) ?_
  rintro r H' ⟨j2,rfl,rfl⟩
  simp only[cB,List.set_cons_succ,List.set_cons_zero]
  (refine run ?_;with_reducible repeat' first|exact trivial|(apply ad.mk<;>intro hb)|apply av.mk)
  generalize hfilt:F2.filter (fun n=>!(decide (n=nm)||decide (n∈F)))=fl at*
  refine du (yr G hG fl j2 alts[i].names _ (H.length+4) 0 (by simp) (by omega) (by omega)) ?_
  rintro r H' ⟨rfl,rfl⟩
  have htk:((fl++j2).map SV.str).take (cp fl alts[i].names).length=(cp fl alts[i].names).map SV.str:=by
   rw[← List.map_take,List.take_append_of_le_length hlen2,sI]
  have hul:(cp fl alts[i].names).length≤(fl++j2).length:=by rw[List.length_append];omega
  generalize hu:cp fl alts[i].names=u at*
  (refine dW ?_;with_reducible repeat' first|exact trivial|(apply ad.mk<;>intro hb)|apply av.mk)
  refine xo (t:=9) (id:=H.length+4) (by rw[bZ];rfl) rfl (by simpa using hul) ?_
  simp only[Nat.zero_add,htk,cB,List.set_cons_succ,List.set_cons_zero]
  refine dQ (fun _:Unit=>[(0,.map kb),(3,.ptr H.length 0 0 0),(5,.ptr (H.length+2) 0 0 0),(6,.list 1 ((if i=0 then u else c).map .str)),(9,.list 1 (u.map .str)),(25,.list 12 (aw alts)),(26,.int .i64 alts.length),(27,.int .i64 i)]) (fun _=>H++[.cells 0 8 [.agg [.int .i64 kd,.str nm,.int .i64 nn,.int .i64 op,.list 1 (names.map .str),.list 8 (ag ae),.list 9 (ah binds),.list 12 (aw alts)]],.cells 0 1 ((F++j0).map .str),.cells 0 1 [.sl (H.length+1) 0 0 F.length]]) (fun _=>True) (fun K2 hK2=>?_) (fun _ _=>?_)
  ·have X:=aF
   (refine run ?_;with_reducible repeat' first|exact trivial|(apply ad.mk<;>intro hb)|apply av.mk)
   ·refine hK2 _ _ () trivial ?_
    rw[if_pos (by omega)]
    exact aY (n0:=H.length) [(H.length,0),(H.length+1,0),(H.length+2,0)] hG hB hC' hcl
   ·refine hK2 _ _ () trivial ?_
    rw[if_neg (by omega)]
    exact aY (n0:=H.length) [(H.length,0),(H.length+1,0),(H.length+2,0)] hG hB hC' hcl
  have hcl2:(if i=0 then u else c).length<4294967296:=by
   split
   ·omega
   ·omega
  generalize (if i=0 then u else c)=c1 at*
  have X:=aF
  (refine run ?_;with_reducible repeat' first|exact trivial|(apply ad.mk<;>intro hb)|apply av.mk)
  refine az (fun n:Nat=>[(0,.map kb),(3,.ptr H.length 0 0 0),(5,.ptr (H.length+2) 0 0 0),(6,.list 1 (c1.map .str)),(9,.list 1 (u.map .str)),(10,.int .i64 n),(25,.list 12 (aw alts)),(26,.int .i64 alts.length),(27,.int .i64 i)]) (fun _=>H++[.cells 0 8 [.agg [.int .i64 kd,.str nm,.int .i64 nn,.int .i64 op,.list 1 (names.map .str),.list 8 (ag ae),.list 9 (ah binds),.list 12 (aw alts)]],.cells 0 1 ((F++j0).map .str),.cells 0 1 [.sl (H.length+1) 0 0 F.length]]) (fun n=>c1.length - n) (fun n=>n≤c1.length∧n≤u.length∧c1.take n=u.take n) 0 ⟨Nat.zero_le _,Nat.zero_le _,rfl⟩ ?_ ?_
  ·exact aY (n0:=H.length) [(H.length,0),(H.length+1,0),(H.length+2,0)] hG hB hC' hcl
  rintro K2 n ⟨hn1,hn2,hnt⟩ hK2
  have hmm:IntKind.i64.min≤(u.length:Int)∧(u.length:Int)≤IntKind.i64.max:=⟨by show(-9223372036854775808:Int)≤_;omega,by show _≤(9223372036854775807:Int);omega⟩
  by_cases hb1:n<c1.length∧n<u.length
  ·have hmin:(n:Int)<(if (u.length:Int)<(c1.length:Int) then (u.length:Int) else (c1.length:Int)):=by split<;>omega
   have g1:(c1.map SV.str)[n]? =some (.str c1[n]):=by simp[hb1.1]
   have g2:(u.map SV.str)[n]? =some (.str u[n]):=by simp[hb1.2]
   have X:=And.intro aF (And.intro hmm (And.intro hmin (And.intro g1 g2)))
   (refine run ?_;with_reducible repeat' first|exact trivial|(apply ad.mk<;>intro hb)|apply av.mk)
   ·have he:c1[n]=u[n]:=by simpa using hb
    refine hK2 _ _ (n+1) (by omega) ⟨by omega,by omega,by rw[List.take_succ_eq_append_getElem hb1.1,List.take_succ_eq_append_getElem hb1.2,hnt,he]⟩ ?_
    exact aY (n0:=H.length) [(H.length,0),(H.length+1,0),(H.length+2,0)] hG hB hC' hcl
   ·have he:¬ c1[n]=u[n]:=by simpa using hb
    have hlc:=lp c1 u n hnt hn1 hn2 (fun _ _=>he)
    refine hK _ _ (i+1) (by omega) (by omega) ?_
    rw[hcs,hlc,Nat.sub_zero,← List.map_take]
    exact aY (n0:=H.length) [(H.length,0),(H.length+1,0),(H.length+2,0)] hG hB hC' hcl
  ·have hmin:¬ (n:Int)<(if (u.length:Int)<(c1.length:Int) then (u.length:Int) else (c1.length:Int)):=by split<;>omega
   have X:=And.intro aF (And.intro hmm hmin)
   (refine run ?_;with_reducible repeat' first|exact trivial|(apply ad.mk<;>intro hb)|apply av.mk)
   have hlc:=lp c1 u n hnt hn1 hn2 (fun q1 q2=>absurd ⟨q1,q2⟩ hb1)
   refine hK _ _ (i+1) (by omega) (by omega) ?_
   rw[hcs,hlc,Nat.sub_zero,← List.map_take]
   exact aY (n0:=H.length) [(H.length,0),(H.length+1,0),(H.length+2,0)] hG hB hC' hcl
 obtain rfl:i=alts.length:=by omega
 clear hK
 rw[List.take_length]
 have hcw:=qu (f:=aZ aU k m) (nm:=nm) (out:=F) (B:=4294967295) alts (fun a ha=>by
  have h1:=fq aU k m a.body
  have h2:=(hpw a.body (List.mem_append_right _ (List.mem_append_right _ (List.mem_map.2 ⟨a,ha,rfl⟩)))).2
  omega)
 generalize jQ (aZ aU k m) nm F alts=c at*
 have X:=And.intro aF (Int.lt_irrefl (alts.length:Int))
 (refine run ?_;with_reducible repeat' first|exact trivial|(apply ad.mk<;>intro hb)|apply av.mk)
 refine bt (Ax G hG F j0 c _ (H.length+1) 0 (by simp) (by omega)) ?_
 rintro r H' ⟨g',rfl,rfl⟩
 simp only[cB,List.set_cons_succ,List.set_cons_zero]
 generalize cn F c=J at*
 (refine run ?_;with_reducible repeat' first|exact trivial|(apply ad.mk<;>intro hb)|apply av.mk)
 exact dp [(H.length+1,0)] (.sl H.length 0 0 J.length) [.cells 0 1 (J.map .str)] hR hC' hcl ⟨[],by rw[List.append_nil],rfl⟩
section
section
variable {P:Program} {G:Gl} {T:aT} {own:List Nat} {nt B:Nat} {ρ:Option Nat} {C:Cx} {rs:List ResultVar} {R:SV→List ax→Prop} {env env2:Env} {H X KB:List ax} {k:List It}
theorem Lx {p:Prop} (h:p:=by repeat' (first|exact cQ.nil|(refine cQ.cons _ _ _ _ ?_ ?_)|(apply bE.same;exact jF)|(apply bE.ks 3 rfl;(· exact dq);(· omega);(· omega);(· omega);(· omega))|(apply bE.ks 4 rfl;(· exact dq);(· omega);(· omega);(· omega);(· omega))|(apply bE.ks 5 rfl;(· exact dq);(· omega);(· omega);(· omega);(· omega))|(apply bE.ks 6 rfl;(· exact dq);(· omega);(· omega);(· omega);(· omega))|(apply bE.ks 7 rfl;(· exact dq);(· omega);(· omega);(· omega);(· omega))|fail)):p:=h
theorem Nn (ks:dD) {n0:Nat} (hG:au G) (hB:eS G C.H.length) (hC:C.H.length=n0) (hcl:closed H) (hn:H.length=n0:=by first|rfl|(simp;done)|exact hlen _)
 (hk:dx (H++X) n0 ks ks KB:=by
  repeat' (first|exact dx.nil|(apply dx.c;(· exact dq);(· omega);(· first|omega|(simp<;>omega));(· first|(apply cQ.same;exact jF)|(refine cQ.cons _ _ _ _ ?_ cQ.nil;apply bE.agg;exact Lx)|exact xi))|exact zl))
 (hd:(ks.map (·.1)).Nodup:=by first|rfl|decide|simp)
 (he:gz (H++X) n0 ks env2 env:=by
  repeat' (first|exact True.intro|(refine And.intro ⟨_,rfl,?_⟩ ?_)|(apply bE.fn;(· exact xi);(· exact xi))|(apply bE.kp 5 rfl;(· exact dq);(· omega);(· omega);(· omega))|(apply bE.kp 6 rfl;(· exact dq);(· omega);(· omega);(· omega))|(apply bE.kp 7 rfl;(· exact dq);(· omega);(· omega);(· omega))|exact zl)):Wk G nt C ⟨env,H++X⟩ ⟨env2,H++KB⟩:=Wk.xA ks hG hB hn hC hcl hk hd he
end
end
theorem u6 (l:List Ex) (n:Nat):(ag l).take n=ag (l.take n):=by simp[bh,List.map_take]
theorem fP (l:List Ex) (x:Ex):ag l++[.agg x.cells]=ag (l++[x]):=by simp[bh];rfl
def gH (ae:List Ex) (l:List Int):List Ex:=l.map fun n=>ae.getD (n.toNat+1) iO
theorem AY (ae:List Ex) (l:List Int) (n:Int):gH ae (l++[n])=gH ae l++[ae.getD (n.toNat+1) iO]:=by simp[gH]
theorem qP (G:Gl) (hG:au G) (k:List Od) (hkn:∀ s,(cN k s).bN.length<4294967296):∀ m,EX G k m
 |0,e,kb,H,h,_,_=>absurd e.b9 (by omega)
 |m+1,e,kb,H,hm,hw0,hkb=>by
  have hrec:=qP G hG k hkn m
  obtain⟨kd,nm,nn,op,names,ae,binds,alts⟩:=e
  have lk:=(List.getElem?_eq_some_iff.1 hkb).1
  have hkx:=fun L=>(show(H++L)[kb]? =some (.map none (ky k)) by rw[cA lk];exact hkb)
  have hle:=Ex.cm kd nm nn op names ae binds alts
  by_cases h1:kd=1
  ·have ef:aZ aU k (m+1) (.mk kd nm nn op names ae binds alts)=[nm]:=if_pos h1
   rw[ef]
   refine af.aD TB [4,18] aA _ Tryz.func27 rfl (by decide) Tryz.ntmps27 (by simp) rfl (by simp only[ap,Nat.reduceAdd];rfl) fun C R' hR hC hcl hB=>?_;have X:=aF;have hC':=congrArg List.length hC
   (refine dW ?_;with_reducible repeat' first|exact trivial|(apply ad.mk<;>intro hb)|apply av.mk)
   refine dP rfl h1 ?_
   (refine run ?_;with_reducible repeat' first|exact trivial|(apply ad.mk<;>intro hb)|apply av.mk)
   exact dp [(H.length+2,0)] (.sl H.length 0 0 1) [.cells 0 1 [.str nm]] hR hC' hcl ⟨[],rfl,rfl⟩
  rcases ae with _|⟨s,rs⟩
  ·have ef:aZ aU k (m+1) (.mk kd nm nn op names [] binds alts)=[]:=if_neg h1
   rw[ef]
   refine af.aD TB [4] aA _ Tryz.func27 rfl (by decide) Tryz.ntmps27 (by simp) rfl (by simp only[ap,Nat.reduceAdd];rfl) fun C R' hR hC hcl hB=>?_;have X:=aF;have hC':=congrArg List.length hC
   (refine dW ?_;with_reducible repeat' first|exact trivial|(apply ad.mk<;>intro hb)|apply av.mk)
   refine cP rfl h1 ?_
   (refine run ?_;with_reducible repeat' first|exact trivial|(apply ad.mk<;>intro hb)|apply av.mk)
   exact dp [(H.length+2,0)] (.sl H.length 0 0 0) [.cells 0 1 []] hR hC' hcl ⟨[],rfl,rfl⟩
  have ef:aZ aU k (m+1) (.mk kd nm nn op names (s::rs) binds alts)=if kd=8 then (if 0<rs.length∧1≤op∧op≤8 then fc (aZ aU k m) aU [] ((s::rs).take 2) else aZ aU k m s)
   else if kd=4 then (if (cu k (.mk kd nm nn op names (s::rs) binds alts)).2 then fc (aZ aU k m) aU [] (fg (s::rs) (cu k (.mk kd nm nn op names (s::rs) binds alts)).1.bN) else aZ aU k m s)
   else if kd=5 then cp (aZ aU k m s) (binds.map Bd.name) else if kd=6 then qp (aZ aU k m) aU nm s alts else []:=if_neg h1
  have hpw:∀ p∈(Ex.mk kd nm nn op names (s::rs) binds alts).parts,p.wt≤m∧p.wt<4294967296:=fun p hp=>by have:=Ex.bT hp;exact⟨by omega,by omega⟩
  have hpt:=Ex.bM kd nm nn op names (s::rs) binds alts
  have hvl:=pY (m+1) (.mk kd nm nn op names (s::rs) binds alts)
  have hvs:∀ x∈s::rs,∀ t∈aZ aU k m x,t∈mR (m+1) (.mk kd nm nn op names (s::rs) binds alts):=fun x hx t ht=>sJ (by rw[hpt];exact List.mem_append_left _ hx) (pO _ _ _ _ _ ht)
  have hsw:∀ x∈s::rs,x.wt≤m∧x.wt<4294967296:=fun x hx=>hpw x (by rw[hpt];exact List.mem_append_left _ hx)
  have hs:=hsw s (List.mem_cons_self ..)
  have hs0:(s::rs)[0]? =some s:=rfl
  have hlr:(s::rs).length=rs.length+1:=rfl
  have hch:=fun L=>A3 G hG k m hrec nm kd nn op names s rs binds alts hm hw0 kb (H++L) (hkx L)
  have c1:=fun L=>Fe G hG k kb (H++L) (hkx L) (.mk kd nm nn op names (s::rs) binds alts) hw0
  generalize hE:mR (m+1) (.mk kd nm nn op names (s::rs) binds alts)=V at*
  generalize hCO:cu k (.mk kd nm nn op names (s::rs) binds alts)=co at*
  have hnb:co.1.bN.length<4294967296:=by
   rw[← hCO]
   unfold cu
   simp only[Ex.ae]
   split
   ·show([]:List Int).length<_;simp
   ·exact hkn _
  clear hpt
  generalize hS:s::rs=ae at*
  have hz0:¬ (ae.length:Int)=0:=by omega
  have hfirst:=fun L=>hrec s kb (H++L) hs.1 hs.2 (hkx L)
  rw[ef]
  by_cases h8:kd=8
  ·rw[if_pos h8]
   by_cases hop:0<rs.length∧1≤op∧op≤8
   ·rw[if_pos hop]
    have q1:(1:Int)<(ae.length:Int):=by omega
    have q2:=hop.2.1
    have q3:=hop.2.2
    refine af.aD TB [4] aA _ Tryz.func27 rfl (by decide) Tryz.ntmps27 (by simp) rfl (by simp only[ap,Nat.reduceAdd];rfl) fun C R' hR hC hcl hB=>?_;have X:=aF;have hC':=congrArg List.length hC
    (refine dW ?_;with_reducible repeat' first|exact trivial|(apply ad.mk<;>intro hb)|apply av.mk)
    refine cP rfl h1 ?_
    have X:=And.intro aF (And.intro hkx (And.intro hs0 (And.intro hz0 (And.intro q1 (And.intro q2 (And.intro q3 (u6 ae 2)))))))
    (refine run ?_;with_reducible repeat' first|exact trivial|(apply ad.mk<;>intro hb)|apply av.mk)
    refine bt (vD G hG k m hrec (ae.take 2) (fun x hx=>hsw x (List.mem_of_mem_take hx)) (by rw[List.length_take];omega) V (by omega) (fun x hx t ht=>hvs x (List.mem_of_mem_take hx) t ht) kb _ (hkx _)) ?_
    rintro r H' ⟨rfl,rfl⟩
    simp only[List.append_assoc,List.cons_append,List.nil_append,List.length_append,List.length_cons,List.length_nil,List.length_set,X,Nat.reduceAdd]
    generalize fc (aZ aU k m) aU [] (ae.take 2)=R at*
    (refine run ?_;with_reducible repeat' first|exact trivial|(apply ad.mk<;>intro hb)|apply av.mk)
    exact dp [(H.length+2,0)] (.sl H.length 0 0 R.length) [.cells 0 1 (R.map .str)] hR hC' hcl ⟨[],by rw[List.append_nil],rfl⟩
   ·rw[if_neg hop]
    have q:(decide ((1:Int)<(ae.length:Int))&&decide (1≤op)&&decide (op≤8))=false:=by
     rw[Bool.eq_false_iff]
     intro h
     simp only[Bool.and_eq_true,decide_eq_true_eq] at h
     exact hop ⟨by omega,h.1.2,h.2⟩
    refine af.aD TB [4] aA _ Tryz.func27 rfl (by decide) Tryz.ntmps27 (by simp) rfl (by simp only[ap,Nat.reduceAdd];rfl) fun C R' hR hC hcl hB=>?_;have X:=aF;have hC':=congrArg List.length hC
    (refine dW ?_;with_reducible repeat' first|exact trivial|(apply ad.mk<;>intro hb)|apply av.mk)
    refine cP rfl h1 ?_
    have X:=And.intro aF (And.intro hkx (And.intro hs0 hz0))
    (refine run ?_;with_reducible repeat' first|exact trivial|(apply ad.mk<;>intro hb)|apply av.mk)
    ·rw[q] at hb;cases hb
    refine bt (hfirst _) ?_
    rintro r H' ⟨j0,rfl,rfl⟩
    simp only[List.append_assoc,List.cons_append,List.nil_append,List.length_append,List.length_cons,List.length_nil,List.length_set,X,Nat.reduceAdd]
    (refine run ?_;with_reducible repeat' first|exact trivial|(apply ad.mk<;>intro hb)|apply av.mk)
    exact dp [(H.length+2,0)] (.sl H.length 0 0 (aZ aU k m s).length) [.cells 0 1 ((aZ aU k m s++j0).map .str)] hR hC' hcl ⟨j0,rfl,rfl⟩
  rw[if_neg h8]
  by_cases h4:kd=4
  ·rw[if_pos h4]
   cases hc2:co.2
   ·rw[if_neg Bool.false_ne_true]
    rw[hc2] at c1
    refine af.aD TB [4] aA _ Tryz.func27 rfl (by decide) Tryz.ntmps27 (by simp) rfl (by simp only[ap,Nat.reduceAdd];rfl) fun C R' hR hC hcl hB=>?_;have X:=aF;have hC':=congrArg List.length hC
    (refine dW ?_;with_reducible repeat' first|exact trivial|(apply ad.mk<;>intro hb)|apply av.mk)
    refine cP rfl h1 ?_
    have X:=And.intro aF (And.intro hkx (And.intro hs0 hz0))
    (refine run ?_;with_reducible repeat' first|exact trivial|(apply ad.mk<;>intro hb)|apply av.mk)
    refine bt (hfirst _) ?_
    rintro r H' ⟨j0,rfl,rfl⟩
    simp only[List.append_assoc,List.cons_append,List.nil_append,List.length_append,List.length_cons,List.length_nil,List.length_set,X,Nat.reduceAdd]
    (refine run ?_;with_reducible repeat' first|exact trivial|(apply ad.mk<;>intro hb)|apply av.mk)
    exact dp [(H.length+3,0)] (.sl H.length 0 0 (aZ aU k m s).length) [.cells 0 1 ((aZ aU k m s++j0).map .str)] hR hC' hcl ⟨j0,rfl,rfl⟩
   rw[if_pos rfl]
   rw[hc2] at c1
   have hcc:co.1.cells=[.str co.1.name,.int .i64 co.1.arity,.list 1 (cc co.1.bN)]:=rfl
   rw[hcc] at c1
   have hargs:∀ i,i≤co.1.bN.length→(∀ x∈co.1.bN.take i,¬ (x<0∨(ae.length:Int) - 1≤x))→fg ae co.1.bN=gH ae (co.1.bN.take i)++fg ae (co.1.bN.drop i):=fun i=>by
    generalize co.1.bN=ns
    induction i generalizing ns with
    |zero=>intro _ _;rfl
    |succ i ih=>
     intro hi hx
     cases ns with
     |nil=>simp at hi
     |cons n r=>
      rw[List.take_succ_cons,fg,if_neg (hx n (by simp)),List.drop_succ_cons,ih r (by simpa using hi) (fun x hxx=>hx x (by simp[hxx]))]
      rfl
   have hAm:∀ i,(∀ x∈co.1.bN.take i,¬ (x<0∨(ae.length:Int) - 1≤x))→∀ x∈gH ae (co.1.bN.take i),x∈ae:=fun i hx x hm=>by
    obtain⟨n,hn,rfl⟩:=List.mem_map.1 hm
    have h:=hx n hn
    have hlt:n.toNat+1<ae.length:=by omega
    rw[List.getD_eq_getElem?_getD,List.getElem?_eq_getElem hlt]
    exact List.getElem_mem hlt
   refine af.aD TB [4,7] aA _ Tryz.func27 rfl (by decide) Tryz.ntmps27 (by simp) rfl (by simp only[ap,Nat.reduceAdd];rfl) fun C R' hR hC hcl hB=>?_;have X:=aF;have hC':=congrArg List.length hC
   (refine dW ?_;with_reducible repeat' first|exact trivial|(apply ad.mk<;>intro hb)|apply av.mk)
   refine cP rfl h1 ?_
   have X:=And.intro aF (And.intro hkx (And.intro hs0 hz0))
   (refine run ?_;with_reducible repeat' first|exact trivial|(apply ad.mk<;>intro hb)|apply av.mk)
   refine az (fun i:Nat=>[(0,.map kb),(3,.ptr H.length 0 0 0),(7,.sl (H.length+1) 0 0 i),(69,.list 1 (cc co.1.bN)),(70,.int .i64 co.1.bN.length),(71,.int .i64 i)]) (fun i=>H++[.cells 0 8 [.agg [.int .i64 kd,.str nm,.int .i64 nn,.int .i64 op,.list 1 (names.map .str),.list 8 (ag ae),.list 9 (ah binds),.list 12 (aw alts)]],.cells 0 8 (ag (gH ae (co.1.bN.take i)))]) (fun i=>co.1.bN.length - i)
    (fun i=>i≤co.1.bN.length∧∀ x∈co.1.bN.take i,¬ (x<0∨(ae.length:Int) - 1≤x)) 0 ⟨Nat.zero_le _,by simp⟩ ?_ ?_
   ·simp only[List.take_zero,gH,List.map_nil,ag]
    exact aY (n0:=H.length) [(H.length,0),(H.length+3,0)] hG hB hC' hcl
   rintro K i ⟨hi,hx⟩ hK
   have hA:=hAm i hx
   have hargi:=hargs i hi hx
   have hAl:(gH ae (co.1.bN.take i)).length=i:=by simp only[gH,List.length_map,List.length_take];omega
   have hAt:List.take i (ag (gH ae (co.1.bN.take i)))=ag (gH ae (co.1.bN.take i)):=List.take_of_length_le (by rw[cR,hAl];exact Nat.le_refl _)
   have hel:(ag (gH ae (co.1.bN.take i))).length=i:=by rw[cR,hAl]
   have hun:SV.aB H.length (List.take i (ag (gH ae (co.1.bN.take i))))=true:=by rw[hAt];exact dF _ _
   rcases Nat.lt_or_ge i co.1.bN.length with hlt|hge
   ·have g1:(cc co.1.bN)[i]? =some (.int .i64 co.1.bN[i]):=by simp[cc,hlt]
    have ht:=List.take_succ_eq_append_getElem hlt
    rw[List.drop_eq_getElem_cons hlt,fg] at hargi
    generalize co.1.bN[i]=n at*
    by_cases hbad:n<0∨(ae.length:Int) - 1≤n
    ·rw[if_pos hbad,List.append_nil] at hargi
     have hend:=hargi.symm
     have hbb:(decide (n<0)||decide ((ae.length:Int) - 1≤n))=true:=by
      rw[Bool.or_eq_true,decide_eq_true_eq,decide_eq_true_eq];exact hbad
     rcases hbad with hneg|hbig
     ·have X:=And.intro aF (And.intro hkx (And.intro g1 hneg))
      (refine dW ?_;with_reducible repeat' first|exact trivial|(apply ad.mk<;>intro hb)|apply av.mk)
      refine dP rfl (by omega) ?_
      (refine dW ?_;with_reducible repeat' first|exact trivial|(apply ad.mk<;>intro hb)|apply av.mk)
      refine np (by first|rfl|(simp[look,pk];done)) ?_
      refine qV [(0,.map kb),(3,.ptr H.length 0 0 0),(7,.list 8 (List.take i (ag (gH ae (co.1.bN.take i)))))] (H++[.cells 0 8 [.agg [.int .i64 kd,.str nm,.int .i64 nn,.int .i64 op,.list 1 (names.map .str),.list 8 (ag ae),.list 9 (ah binds),.list 12 (aw alts)]]]) (aY (n0:=H.length) [(H.length,0)] hG hB hC' hcl) ?_
      rw[hAt]
      have X:=And.intro aF hkx
      (refine run ?_;with_reducible repeat' first|exact trivial|(apply ad.mk<;>intro hb)|apply av.mk)
      refine bt (vD G hG k m hrec (gH ae (co.1.bN.take i)) (fun x hx=>hsw x (hA x hx)) (by rw[hAl];omega) V (by omega) (fun x hx t ht=>hvs x (hA x hx) t ht) kb _ (hkx _)) ?_
      rintro r H' ⟨rfl,rfl⟩
      simp only[List.append_assoc,List.cons_append,List.nil_append,List.length_append,List.length_cons,List.length_nil,List.length_set,X,Nat.reduceAdd]
      rw[hend]
      generalize fc (aZ aU k m) aU [] (fg ae co.1.bN)=R at*
      (refine run ?_;with_reducible repeat' first|exact trivial|(apply ad.mk<;>intro hb)|apply av.mk)
      exact dp [(H.length+1,0)] (.sl H.length 0 0 R.length) [.cells 0 1 (R.map .str)] hR hC' hcl ⟨[],by rw[List.append_nil],rfl⟩
     ·by_cases hneg:n<0
      ·exfalso;omega
      have X:=And.intro aF (And.intro hkx (And.intro g1 (And.intro hneg hbig)))
      (refine dW ?_;with_reducible repeat' first|exact trivial|(apply ad.mk<;>intro hb)|apply av.mk)
      refine dP rfl (by omega) ?_
      (refine dW ?_;with_reducible repeat' first|exact trivial|(apply ad.mk<;>intro hb)|apply av.mk)
      refine np (by first|rfl|(simp[look,pk];done)) ?_
      refine qV [(0,.map kb),(3,.ptr H.length 0 0 0),(7,.list 8 (List.take i (ag (gH ae (co.1.bN.take i)))))] (H++[.cells 0 8 [.agg [.int .i64 kd,.str nm,.int .i64 nn,.int .i64 op,.list 1 (names.map .str),.list 8 (ag ae),.list 9 (ah binds),.list 12 (aw alts)]]]) (aY (n0:=H.length) [(H.length,0)] hG hB hC' hcl) ?_
      rw[hAt]
      have X:=And.intro aF hkx
      (refine run ?_;with_reducible repeat' first|exact trivial|(apply ad.mk<;>intro hb)|apply av.mk)
      refine bt (vD G hG k m hrec (gH ae (co.1.bN.take i)) (fun x hx=>hsw x (hA x hx)) (by rw[hAl];omega) V (by omega) (fun x hx t ht=>hvs x (hA x hx) t ht) kb _ (hkx _)) ?_
      rintro r H' ⟨rfl,rfl⟩
      simp only[List.append_assoc,List.cons_append,List.nil_append,List.length_append,List.length_cons,List.length_nil,List.length_set,X,Nat.reduceAdd]
      rw[hend]
      generalize fc (aZ aU k m) aU [] (fg ae co.1.bN)=R at*
      (refine run ?_;with_reducible repeat' first|exact trivial|(apply ad.mk<;>intro hb)|apply av.mk)
      exact dp [(H.length+1,0)] (.sl H.length 0 0 R.length) [.cells 0 1 (R.map .str)] hR hC' hcl ⟨[],by rw[List.append_nil],rfl⟩
    ·have hneg:¬ n<0:=fun h=>hbad (.inl h)
     have hbig:¬ (ae.length:Int) - 1≤n:=fun h=>hbad (.inr h)
     have hnn:(n+1).toNat=n.toNat+1:=by omega
     have hlt2:n.toNat+1<ae.length:=by omega
     have hg2:ae[n.toNat+1]? =some ae[n.toNat+1]:=List.getElem?_eq_getElem hlt2
     have hsn:gH ae (co.1.bN.take (i+1))=gH ae (co.1.bN.take i)++[ae[n.toNat+1]]:=by
      rw[ht,AY,List.getD_eq_getElem?_getD,hg2];rfl
     have hec:=fP (gH ae (co.1.bN.take i)) ae[n.toNat+1]
     rw[← hsn] at hec
     generalize ae[n.toNat+1]=x at*
     have X:=And.intro aF (And.intro hkx (And.intro g1 (And.intro hneg (And.intro hbig (And.intro hnn (And.intro hg2 (And.intro hec (And.intro hel hAl))))))))
     (refine dW ?_;with_reducible repeat' first|exact trivial|(apply ad.mk<;>intro hb)|apply av.mk)
     refine dP rfl (by omega) ?_
     (refine dW ?_;with_reducible repeat' first|exact trivial|(apply ad.mk<;>intro hb)|apply av.mk)
     refine kY (by first|rfl|(simp[look,pk];done)) ?_
     (refine run ?_;with_reducible repeat' first|exact trivial|(apply ad.mk<;>intro hb)|apply av.mk)
     refine hK _ _ (i+1) (by omega) ⟨by omega,fun y hy=>?_⟩ ?_
     ·rw[ht] at hy
      rcases List.mem_append.1 hy with hy|hy
      ·exact hx y hy
      ·rw[List.mem_singleton.1 hy];exact hbad
     ·exact aY (n0:=H.length) [(H.length,0),(H.length+1,0)] hG hB hC' hcl
   ·obtain hil:i=co.1.bN.length:=by omega
    have hend:gH ae (co.1.bN.take i)=fg ae co.1.bN:=by rw[hargi,hil,List.drop_length];simp[fg]
    clear hK
    have X:=And.intro aF hkx
    (refine dW ?_;with_reducible repeat' first|exact trivial|(apply ad.mk<;>intro hb)|apply av.mk)
    refine cP rfl (by omega) ?_
    refine qV [(0,.map kb),(3,.ptr H.length 0 0 0),(7,.list 8 (List.take i (ag (gH ae (co.1.bN.take i)))))] (H++[.cells 0 8 [.agg [.int .i64 kd,.str nm,.int .i64 nn,.int .i64 op,.list 1 (names.map .str),.list 8 (ag ae),.list 9 (ah binds),.list 12 (aw alts)]]]) (aY (n0:=H.length) [(H.length,0)] hG hB hC' hcl) ?_
    rw[hAt]
    have X:=And.intro aF hkx
    (refine run ?_;with_reducible repeat' first|exact trivial|(apply ad.mk<;>intro hb)|apply av.mk)
    refine bt (vD G hG k m hrec (gH ae (co.1.bN.take i)) (fun x hx=>hsw x (hA x hx)) (by rw[hAl];omega) V (by omega) (fun x hx t ht=>hvs x (hA x hx) t ht) kb _ (hkx _)) ?_
    rintro r H' ⟨rfl,rfl⟩
    simp only[List.append_assoc,List.cons_append,List.nil_append,List.length_append,List.length_cons,List.length_nil,List.length_set,X,Nat.reduceAdd]
    rw[hend]
    generalize fc (aZ aU k m) aU [] (fg ae co.1.bN)=R at*
    (refine run ?_;with_reducible repeat' first|exact trivial|(apply ad.mk<;>intro hb)|apply av.mk)
    exact dp [(H.length+1,0)] (.sl H.length 0 0 R.length) [.cells 0 1 (R.map .str)] hR hC' hcl ⟨[],by rw[List.append_nil],rfl⟩
  rw[if_neg h4]
  by_cases h5:kd=5
  ·rw[if_pos h5]
   have hnl:∀ i,i≤binds.length→((((binds.take i).map Bd.name).map SV.str)).length=i:=fun i hi=>by simp only[List.length_map,List.length_take];omega
   have hut:=hsw
   refine af.aD TB [4,10] aA _ Tryz.func27 rfl (by decide) Tryz.ntmps27 (by simp) rfl (by simp only[ap,Nat.reduceAdd];rfl) fun C R' hR hC hcl hB=>?_;have X:=aF;have hC':=congrArg List.length hC
   (refine dW ?_;with_reducible repeat' first|exact trivial|(apply ad.mk<;>intro hb)|apply av.mk)
   refine cP rfl h1 ?_
   have X:=And.intro aF (And.intro hkx (And.intro hs0 hz0))
   (refine run ?_;with_reducible repeat' first|exact trivial|(apply ad.mk<;>intro hb)|apply av.mk)
   refine az (fun i:Nat=>[(0,.map kb),(3,.ptr H.length 0 0 0),(10,.sl (H.length+1) 0 0 i),(101,.list 9 (ah binds)),(102,.int .i64 binds.length),(103,.int .i64 i)]) (fun i=>H++[.cells 0 8 [.agg [.int .i64 kd,.str nm,.int .i64 nn,.int .i64 op,.list 1 (names.map .str),.list 8 (ag ae),.list 9 (ah binds),.list 12 (aw alts)]],.cells 0 1 (((binds.take i).map Bd.name).map SV.str)]) (fun i=>binds.length - i) (fun i=>i≤binds.length) 0 (Nat.zero_le _) ?_ ?_
   ·simp only[List.take_zero,List.map_nil]
    exact aY (n0:=H.length) [(H.length,0),(H.length+2,0)] hG hB hC' hcl
   rintro K i hi hK
   have hni:=hnl i hi
   rcases Nat.lt_or_ge i binds.length with hlt|hge
   ·have ht:=List.take_succ_eq_append_getElem hlt
    have hsn:((binds.take i).map Bd.name).map SV.str++[SV.str binds[i].name]=((binds.take (i+1)).map Bd.name).map SV.str:=by rw[ht,List.map_append,List.map_append];rfl
    have X:=And.intro aF (And.intro hkx (And.intro hni hsn))
    (refine run ?_;with_reducible repeat' first|exact trivial|(apply ad.mk<;>intro hb)|apply av.mk)
    refine hK _ _ (i+1) (by omega) (by omega) ?_
    exact aY (n0:=H.length) [(H.length,0),(H.length+1,0)] hG hB hC' hcl
   ·have hil:i=binds.length:=by omega
    clear hK
    have hAt:List.take i (((binds.take i).map Bd.name).map SV.str)=(binds.map Bd.name).map SV.str:=by rw[List.take_of_length_le (by omega),hil,List.take_length]
    have hun:SV.aB H.length (List.take i (((binds.take i).map Bd.name).map SV.str))=true:=by rw[hAt];exact bp _ _
    have X:=And.intro aF hkx
    (refine dW ?_;with_reducible repeat' first|exact trivial|(apply ad.mk<;>intro hb)|apply av.mk)
    refine cP rfl (by omega) ?_
    refine qV [(0,.map kb),(3,.ptr H.length 0 0 0),(10,.list 1 (List.take i (((binds.take i).map Bd.name).map SV.str)))] (H++[.cells 0 8 [.agg [.int .i64 kd,.str nm,.int .i64 nn,.int .i64 op,.list 1 (names.map .str),.list 8 (ag ae),.list 9 (ah binds),.list 12 (aw alts)]]]) (aY (n0:=H.length) [(H.length,0)] hG hB hC' hcl) ?_
    rw[hAt]
    have X:=And.intro aF (And.intro hkx (And.intro hs0 hz0))
    (refine run ?_;with_reducible repeat' first|exact trivial|(apply ad.mk<;>intro hb)|apply av.mk)
    refine bt (hfirst _) ?_
    rintro r H' ⟨j0,rfl,rfl⟩
    simp only[List.append_assoc,List.cons_append,List.nil_append,List.length_append,List.length_cons,List.length_nil,List.length_set,X,Nat.reduceAdd]
    (refine run ?_;with_reducible repeat' first|exact trivial|(apply ad.mk<;>intro hb)|apply av.mk)
    have hfl:=fq aU k m s
    refine bt (yr G hG (aZ aU k m s) j0 (binds.map Bd.name) _ (H.length+1) 0 (by simp) (by omega) (by rw[List.length_map];omega)) ?_
    rintro r H' ⟨rfl,rfl⟩
    have hj:aZ aU k m s++j0=cp (aZ aU k m s) (binds.map Bd.name)++((aZ aU k m s).drop (cp (aZ aU k m s) (binds.map Bd.name)).length++j0):=by
     rw[← List.append_assoc]
     congr 1
     conv=>lhs;rw[← List.take_append_drop (cp (aZ aU k m s) (binds.map Bd.name)).length (aZ aU k m s)]
     rw[sI]
    rw[hj]
    (refine run ?_;with_reducible repeat' first|exact trivial|(apply ad.mk<;>intro hb)|apply av.mk)
    exact dp [(H.length+1,0)] (.sl H.length 0 0 (cp (aZ aU k m s) (binds.map Bd.name)).length) [.cells 0 1 ((cp (aZ aU k m s) (binds.map Bd.name)++((aZ aU k m s).drop (cp (aZ aU k m s) (binds.map Bd.name)).length++j0)).map .str)] hR hC' hcl ⟨_,rfl,rfl⟩
  rw[if_neg h5]
  by_cases h6:kd=6
  ·rw[if_pos h6]
   refine af.aD TB [4] aA _ Tryz.func27 rfl (by decide) Tryz.ntmps27 (by simp) rfl (by simp only[ap,Nat.reduceAdd];rfl) fun C R' hR hC hcl hB=>?_;have X:=aF;have hC':=congrArg List.length hC
   (refine dW ?_;with_reducible repeat' first|exact trivial|(apply ad.mk<;>intro hb)|apply av.mk)
   refine cP rfl h1 ?_
   have X:=And.intro aF (And.intro hkx (And.intro hs0 hz0))
   (refine run ?_;with_reducible repeat' first|exact trivial|(apply ad.mk<;>intro hb)|apply av.mk)
   refine bt (hch _) ?_
   rintro r H' ⟨j0,rfl,rfl⟩
   simp only[List.append_assoc,List.cons_append,List.nil_append,List.length_append,List.length_cons,List.length_nil,List.length_set,X,Nat.reduceAdd]
   generalize qp (aZ aU k m) aU nm s alts=R at*
   (refine run ?_;with_reducible repeat' first|exact trivial|(apply ad.mk<;>intro hb)|apply av.mk)
   exact dp [(H.length+2,0)] (.sl H.length 0 0 R.length) [.cells 0 1 ((R++j0).map .str)] hR hC' hcl ⟨j0,rfl,rfl⟩
  ·rw[if_neg h6]
   refine af.aD TB [4] aA _ Tryz.func27 rfl (by decide) Tryz.ntmps27 (by simp) rfl (by simp only[ap,Nat.reduceAdd];rfl) fun C R' hR hC hcl hB=>?_;have X:=aF;have hC':=congrArg List.length hC
   (refine dW ?_;with_reducible repeat' first|exact trivial|(apply ad.mk<;>intro hb)|apply av.mk)
   refine cP rfl h1 ?_
   have X:=And.intro aF (And.intro hkx (And.intro hs0 hz0))
   (refine run ?_;with_reducible repeat' first|exact trivial|(apply ad.mk<;>intro hb)|apply av.mk)
   exact dp [(H.length+2,0)] (.sl H.length 0 0 0) [.cells 0 1 []] hR hC' hcl ⟨[],rfl,rfl⟩
theorem AA {l:List Od} {B:Nat} (h:∀ o∈l,o.bN.length<B) (hB:0<B) (s:aE):(cN l s).bN.length<B:=by
 unfold cN
 induction l with
 |nil=>exact hB
 |cons o r ih=>
  rw[bH]
  split
  ·exact h o (List.mem_cons_self ..)
  ·exact ih fun x hx=>h x (List.mem_cons_of_mem _ hx)
theorem lm:∀ (r k:List Od) {o:Od},o∈bc k r→o∈k∨o∈r
 |[],k,o,h=> .inl h
 |x::r,k,o,h=>by
  rw[bc] at h
  split at h
  ·exact(lm r k h).elim .inl fun h=> .inr (List.mem_cons_of_mem _ h)
  ·rcases lm r _ h with h|h
   ·rcases List.mem_append.1 h with h|h
    ·exact .inl h
    ·exact .inr (by rw[List.mem_singleton.1 h];exact List.mem_cons_self ..)
   ·exact .inr (List.mem_cons_of_mem _ h)
theorem th (l:List aE):∀ m,(dc l m).length=m→∀ i,i+1<m→l.getD (i+1) []≠l.getD i []
 |0,_,i,h=>by omega
 |m+1,hm,i,h=>by
  have h1:=wV l m
  rw[dc] at hm
  split at hm
  ·omega
  ·rename_i hc
   rw[List.length_append,List.length_singleton] at hm
   rcases Nat.lt_or_ge (i+1) m with h2|h2
   ·exact th l m (by omega) i h2
   ·obtain rfl:m=i+1:=by omega
    intro he
    exact hc ⟨by omega,by simpa using he⟩
theorem sA (l:List aE) {i j:Nat} (hj:j<(dU l).length) (hij:i<j):(dU l)[i]≤(dU l)[j]:=by
 have tr:∀ a b c:List UInt8,(decide (a≤b))=true→(decide (b≤c))=true→(decide (a≤c))=true:=fun a b c h1 h2=>by simp only[decide_eq_true_eq] at*;exact List.le_trans h1 h2
 have to:∀ a b:List UInt8,(decide (a≤b)||decide (b≤a))=true:=fun a b=>by simp only[Bool.or_eq_true,decide_eq_true_eq];exact List.le_total a b
 have h1:(dU l).Pairwise (fun x y:List UInt8=>(decide (x≤y))=true):=List.pairwise_mergeSort tr to _
 exact of_decide_eq_true (List.pairwise_iff_getElem.1 h1 i j (by omega) hj hij)
theorem nY (l:List aE) (h:(oq (dU l)).length=l.length):l.Nodup:=by
 have hl:(dU l).length=l.length:=fL _
 rw[oq,← hl] at h
 refine(fM _).nodup_iff.1 (List.pairwise_iff_getElem.2 fun i j hi hj hij he=>?_)
 have hadj:=th (dU l) _ h i (by omega)
 apply hadj
 rw[List.getD_eq_getElem?_getD,List.getD_eq_getElem?_getD,List.getElem?_eq_getElem (show i+1<(dU l).length by omega),List.getElem?_eq_getElem hi]
 simp only[Option.getD_some]
 have h1:=sA l (i:=i) (j:=i+1) (by omega) (by omega)
 rcases Nat.lt_or_ge (i+1) j with h2|h2
 ·have h3:=sA l hj h2
  rw[← he] at h3
  exact List.le_antisymm h3 h1
 ·obtain rfl:j=i+1:=by omega
  exact he.symm
theorem wl {l:List Bd} (h:(aP l).Nodup):(l.map Bd.name).Nodup:=by
 have:(l.map Bd.name).Sublist (aP l):=by
  clear h
  induction l with
  |nil=>exact List.Sublist.refl _
  |cons b r ih=>
   show(b.name::r.map Bd.name).Sublist ((b.name::pC b.e)++aP r)
   rw[List.cons_append]
   exact(ih.trans (List.sublist_append_right _ _)).cons_cons _
 exact this.nodup h
structure Iv (p:Pg):Prop where
 ER:∀ b∈p.binds,dn dN b.e=true
 cons:fY [] p.cons=true
 names:(aP p.binds).Nodup
 scope:∀ b∈p.binds,l9 (fp p.binds) b=true
 Nv:ln p.cons=true
 full:∀ b∈p.binds,dn (kW p.cons) b.e=true
 alts:∀ b∈p.binds,dn (kL p.cons) b.e=true
theorem ry {p:Pg} (h:bA p=0):Iv p:=by
 unfold bA at h
 split at h
 ·cases h
 split at h
 ·cases h
 split at h
 ·cases h
 rename_i h3
 split at h
 ·cases h
 rename_i h4
 split at h
 ·cases h
 rename_i h5
 split at h
 ·cases h
 rename_i h6
 split at h
 ·cases h
 rename_i h7
 split at h
 ·cases h
 rename_i h8
 simp only[Bool.not_eq_true',Bool.not_eq_false,Bool.and_eq_true,List.all_eq_true] at h3 h4 h6 h7 h8
 refine⟨h3,by simpa using h4,?_,h6,h7.1,h7.2,h8⟩
 unfold cK at h5
 simp only[Bool.or_eq_true,not_or,decide_eq_true_eq,Decidable.not_not] at h5
 exact nY _ h5.2
theorem xD {p:Pg} (h:bA p=0) {b:Bd} (hb:b∈p.binds) (hk:b.e.kind=3):b.e.ae.length=1:=by
 have h1:=(ry h).ER b hb
 rw[mU,Bool.and_eq_true] at h1
 have h2:=h1.1
 generalize b.e=e at*
 obtain⟨kd,nm,nn,op,names,ae,binds,alts⟩:=e
 obtain rfl:kd=3:=hk
 simp only[dN,Ex.kind,il,Bool.and_eq_true] at h2
 simp at h2
 simp only[Ex.ae]
 omega
def Is (G:Gl) (m:Nat):Prop:=∀ (e:Ex) (H:List ax),e.wt≤m→af Tryz.prog G 44 [e.sv] H (fun r H'=>H'=H∧r= .int .i64 (fD m e))
theorem lT (n d:Nat):(if (n:Int)<(d:Int) then (d:Int) else (n:Int))=((max n d:Nat):Int):=by
 split<;>omega
theorem A9 (G:Gl) (hG:au G) (m:Nat) (hm:m<4294967296) (hrec:Is G m) (p:Ex) (H:List ax) (n nb:Nat) (hp:p.wt≤m) (h1:H[nb]? =some (vQ n)) (hn:n<4294967296):
 af Tryz.prog G 101 [p.sv,.ptr nb 0 0 0] H (fun r H'=>H'=H.set nb (vQ (max n (fD m p):Nat))∧r= .bool true):=by
 have hlt:nb<H.length:=(List.getElem?_eq_some_iff.1 h1).1
 have hd:=jR m p
 have c1:=fun H=>hrec p H hp
 generalize fD m p=d at*
 refine af.aD TB [] aA _ Tryz.func101 rfl (by decide) Tryz.ntmps101 (by simp) rfl (by simp only[ap,Nat.reduceAdd];rfl) fun C R' hR hC hcl hB=>?_;have X:=aF;have hC':=congrArg List.length hC
 have X:=And.intro h1 (show IntKind.i64.min≤(d:Int)∧(d:Int)≤IntKind.i64.max from⟨by show(-9223372036854775808:Int)≤_;omega,by show _≤(9223372036854775807:Int);omega⟩)
 unfold vQ at X
 (refine run ?_;with_reducible repeat' first|exact trivial|(apply ad.mk<;>intro hb)|apply av.mk)
 rw[lT]
 exact Fin.bY (n0:=H.length) hR (by simp) hC' (hcl.set rfl) (.same _ rfl) ⟨rfl,rfl⟩
theorem BA (l:List Nat) (i:Nat) (h:i<l.length):fI (l.take (i+1))=max (fI (l.take i)) l[i]:=by
 rw[List.take_succ_eq_append_getElem h,rC]
theorem wW (G:Gl) (hG:au G):∀ m,m<4294967296→Is G m
 |0,_,e,_,h=>absurd e.b9 (by omega)
 |m+1,hm2,e,H,hm=>by
  have hrec:=wW G hG m (by omega)
  have hmx:∀ i,fI ((e.parts.map (fD m)).take i)≤m:=fun i=>pR fun x hx=>by
   obtain⟨p,_,rfl⟩:=List.mem_map.1 (List.mem_of_mem_take hx)
   exact jR m p
  refine af.aD TB [] aA _ Tryz.func44 rfl (by decide) Tryz.ntmps44 (by simp) rfl (by simp only[ap,Nat.reduceAdd];rfl) fun C R' hR hC hcl hB=>?_;have X:=aF;have hC':=congrArg List.length hC
  have heach:=Ai G hG e (by omega) (.fn (.func 101) [] [.ptr (H.length+1) 0 0 0]) (fun i=>H++[.cells 0 8 [.agg e.cells],vQ (fI ((e.parts.map (fD m)).take i):Nat)]) (H.length+2) (fun i=>by simp) (by simp[SV.under,SV.aB])
   (fun h i=>by
    have:=h.set (id:=H.length+1) (b:=vQ (fI ((e.parts.map (fD m)).take i):Nat)) rfl
    simpa using this) (fun i p X hp=>by
    have hpw:=Ex.bT (List.mem_of_getElem? hp)
    have hlp:=(List.getElem?_eq_some_iff.1 hp)
    have hli:i<(e.parts.map (fD m)).length:=by simpa using hlp.1
    have hnx:=BA (e.parts.map (fD m)) i hli
    have hget:(e.parts.map (fD m))[i]=fD m p:=by simp[hlp.2]
    rw[hget] at hnx
    have hi:=hmx i
    refine bz.of (first:=[]) (args:=[p.sv]) (cap:=[.ptr (H.length+1) 0 0 0]) ((A9 G hG m (by omega) hrec p _ (fI ((e.parts.map (fD m)).take i)) (H.length+1) (by omega) (by simp) (by omega)).mono ?_)
    rintro r H' ⟨rfl,rfl⟩
    refine⟨?_,rfl⟩
    rw[hnx]
    simp)
  have h0:fI ((e.parts.map (fD m)).take 0)=0:=rfl
  have hall:fI ((e.parts.map (fD m)).take e.parts.length)=fI (e.parts.map (fD m)):=by
   rw[List.take_of_length_le (by simp)]
  simp only[vQ,h0,hall] at heach
  have hmm:=hmx e.parts.length
  rw[hall] at hmm
  unfold fD at hR
  generalize fI (e.parts.map (fD m))=d at*
  (refine run ?_;with_reducible repeat' first|exact trivial|(apply ad.mk<;>intro hb)|apply av.mk)
  refine bt heach ?_
  rintro r H' ⟨rfl,rfl⟩
  (refine run ?_;with_reducible repeat' first|exact trivial|(apply ad.mk<;>intro hb)|apply av.mk)
  exact Fin.bY (n0:=H.length) hR (by simp) hC' hcl (.same _ rfl) ⟨rfl,by simp only[bq];rfl⟩
theorem CM (G:Gl) (hG:au G) (l:List aE) (H:List ax) (id g:Nat) (hid:H[id]? =some (.cells g 1 (l.map .str))) (hl:l.length<1099511627776):
 af Tryz.prog G 57 [.sl id g 0 l.length] H (fun r H'=>H'=H++[.cells 0 1 (l.map .str)]∧r= .sl H.length 0 0 l.length):=by
 have li:=(List.getElem?_eq_some_iff.1 hid).1
 have hlm:(l.map SV.str).length=l.length:=List.length_map ..
 have ht:List.take l.length (l.map SV.str)=l.map SV.str:=List.take_of_length_le (by omega)
 refine af.aD TB [2,5] aA _ Tryz.func57 rfl (by decide) Tryz.ntmps57 (by simp) rfl (by simp only[ap,Nat.reduceAdd];rfl) fun C R' hR hC hcl hB=>?_;have X:=aF;have hC':=congrArg List.length hC
 have X:=And.intro X (And.intro hid (And.intro hlm ht))
 (refine bL ?_;with_reducible repeat' first|exact trivial|(apply ad.mk<;>intro hb)|apply av.mk)
 ·obtain rfl:l=[]:=List.length_eq_zero_iff.1 hb
  exact dp [(H.length+1,0)] (.sl H.length 0 0 0) [.cells 0 1 []] hR hC' hcl ⟨rfl,rfl⟩
 ·exact dp [(H.length+1,0)] (.sl H.length 0 0 l.length) [.cells 0 1 (l.map .str)] hR hC' hcl ⟨rfl,rfl⟩
theorem AU:∀ (l:List Bd) (t:List (aE×Int)),(∀ s,0≤cv t s∧cv t s≤1)→∀ s,0≤cv (l.foldl (fun t b=>mN t b.name 1) t) s∧cv (l.foldl (fun t b=>mN t b.name 1) t) s≤1
 |[],t,h=>h
 |b::r,t,h=>by
  rw[List.foldl_cons]
  refine AU r _ fun s=>?_
  rw[mX]
  split
  ·omega
  ·exact h s
theorem Ew (l:List Bd) (s:aE):0≤cv (fp l) s∧cv (fp l) s≤1:=AU l [] (fun s=>by simp[cv]) s
theorem B6 (l:List Bd) (b:Bd):cG (pD (fp l)) (.str b.name) (.int .i64 1)=pD (fp (l++[b])):=by
 rw[oR,fp,fp,List.foldl_append];rfl
theorem sy (l:List Bd) (b:Bd):dK (l++[b])=dK l+b.e.size:=by simp[dK]
theorem tn (l:List Bd) (b:Bd):gM (l++[b])=max (gM l) (dep b.e):=by rw[gM,List.map_append,List.map_cons,List.map_nil,rC];rfl
theorem sx:∀ l:List Bd,dK l≤aM l
 |[]=>Nat.le_refl _
 |b::r=>by
  have h1:=sx r
  have h2:=ig b.e.wt b.e (Nat.le_refl _)
  have h3:=b.di
  simp only[dK,List.map_cons,List.sum_cons,aM] at*
  omega
theorem jM (l:List Bd) (i:Nat):aM (l.take i)≤aM l:=by
 induction l generalizing i with
 |nil=>simp
 |cons b r ih=>
  cases i with
  |zero=>simp[aM]
  |succ i=>simp only[List.take_succ_cons,aM];have:=ih i;omega
theorem CS (e:Ex):dep e≤e.wt:=jR _ _
theorem Fi (l:List Bd):gM l≤aM l:=pR fun x hx=>by
 obtain⟨b,hb,rfl⟩:=List.mem_map.1 hx
 have:=CS b.e
 have:=kn hb
 omega
theorem pQ (G:Gl) (hG:au G) (p:Pg) (H:List ax) (hw:aM p.binds<4294967295) (hcn:p.cons.length<1099511627776):
 af Tryz.prog G 19 [p.sv] H (fun r H'=>H'=H∧r= .int .i64 (bA p)):=by
 obtain⟨cons,binds⟩:=p
 simp only at hw hcn
 rw[show(Pg.mk cons binds).sv= .agg [.list 4 (aH cons),.list 9 (ah binds)] from rfl]
 have hle:=cC binds
 have hszl:=fun i=>Nat.le_trans (sx (binds.take i)) (jM binds i)
 have hdpl:=fun i=>Nat.le_trans (Fi (binds.take i)) (jM binds i)
 have bK:=fun n=>bf n cons
 generalize hS:bA ⟨cons,binds⟩=S
 refine af.aD TB [] aA _ Tryz.func19 rfl (by decide) Tryz.ntmps19 (by simp) rfl (by simp only[ap,Nat.reduceAdd];rfl) fun C R' hR hC hcl hB=>?_;have X:=aF;have hC':=congrArg List.length hC
 (refine run ?_;with_reducible repeat' first|exact trivial|(apply ad.mk<;>intro hb)|apply av.mk)
 refine az (fun i:Nat=>[(1,.ptr H.length 0 0 0),(2,.int .i64 0),(3,.int .i64 (dK (binds.take i):Int)),(4,.int .i64 (gM (binds.take i):Int)),(16,.list 9 (ah binds)),(17,.int .i64 binds.length),(18,.int .i64 i)])
  (fun i=>H++[.cells 0 2 [.agg [.list 4 (aH cons),.list 9 (ah binds)]]]) (fun i=>binds.length - i) (fun i=>i≤binds.length) 0 (Nat.zero_le _) ?_ ?_
 ·simp only[List.take_zero,show dK []=0 from rfl,show gM []=0 from rfl]
  exact aY (n0:=H.length) [(H.length,0)] hG hB hC' hcl
 rintro K i hi hK
 rcases Nat.lt_or_ge i binds.length with hlt|hge
 ·have hpb:=kn (List.getElem_mem hlt)
  have hsw:=ig binds[i].e.wt binds[i].e (Nat.le_refl _)
  have c1:=fun H=>Gm G hG binds[i].e H (by omega) (by omega)
  have c2:∀ H,af Tryz.prog G 44 [binds[i].e.sv] H (fun r H'=>H'=H∧r= .int .i64 (dep binds[i].e)):=fun H=>wW G hG binds[i].e.wt (by omega) binds[i].e H (Nat.le_refl _)
  have hdw:=CS binds[i].e
  have ht:=List.take_succ_eq_append_getElem hlt
  have e1:dK (binds.take (i+1))=dK (binds.take i)+binds[i].e.size:=by rw[ht,sy]
  have e2:gM (binds.take (i+1))=max (gM (binds.take i)) (dep binds[i].e):=by rw[ht,tn]
  have h1:=hszl i
  have h2:=hszl (i+1)
  have h3:=hdpl i
  have hmx:=lT (gM (binds.take i)) (dep binds[i].e)
  generalize binds[i].e.size=sz at*
  generalize dK (binds.take i)=s0 at*
  generalize gM (binds.take i)=d0 at*
  generalize dep binds[i].e=d1 at*
  have X:=And.intro aF (And.intro hmx (show IntKind.i64.min≤(d1:Int)∧(d1:Int)≤IntKind.i64.max from⟨by show(-9223372036854775808:Int)≤_;omega,by show _≤(9223372036854775807:Int);omega⟩))
  (refine run ?_;with_reducible repeat' first|exact trivial|(apply ad.mk<;>intro hb)|apply av.mk)
  refine hK _ _ (i+1) (by omega) (by omega) ?_
  rw[e1,e2]
  exact aY (n0:=H.length) [(H.length,0)] hG hB hC' hcl
 obtain rfl:i=binds.length:=by omega
 clear hK
 simp only[List.take_length]
 have X:=And.intro aF (Int.lt_irrefl (binds.length:Int))
 have hfc:(100000:Int)<(dK binds:Int)↔100000<dK binds:=by omega
 have hfd:(1000:Int)<(gM binds:Int)↔1000<gM binds:=by omega
 (refine run ?_;with_reducible repeat' first|exact trivial|(apply ad.mk<;>intro hb)|apply av.mk)
 ·have e:bA ⟨cons,binds⟩=3:=if_pos (hfc.1 hb)
  rw[← hS,e] at hR
  exact aS (n0:=H.length) hR hC' hcl (.same _ rfl) ⟨rfl,rfl⟩
 ·have q1:¬ (100000:Int)<(dK binds:Int):=by assumption
  have e:bA ⟨cons,binds⟩=4:=(if_neg (fun h=>q1 (hfc.2 h))).trans (if_pos (hfd.1 hb))
  rw[← hS,e] at hR
  exact aS (n0:=H.length) hR hC' hcl (.same _ rfl) ⟨rfl,rfl⟩
 have q1:¬ 100000<dK binds:=fun h=>absurd (hfc.2 h) (by assumption)
 have q2:¬ 1000<gM binds:=fun h=>hb (hfd.2 h)
 clear hfc hfd hb
 refine bt (oX G hG cons binds _ (by omega)) ?_
 rintro r H' ⟨rfl,rfl⟩
 simp only[List.append_assoc,List.cons_append,List.nil_append,List.length_append,List.length_cons,List.length_nil,List.length_set,X,Nat.reduceAdd]
 have hbl:=dy binds
 (refine run ?_;with_reducible repeat' first|exact trivial|(apply ad.mk<;>intro hb)|apply av.mk)
 refine bt (uj G (H.length+4) 0 (aP binds) _ (by simp) (by omega)) ?_
 rintro r H' ⟨rfl,rfl⟩
 simp only[cB,List.set_cons_succ,List.set_cons_zero]
 have hnl:(dU (aP binds)).length=(aP binds).length:=fL _
 rw[← hnl]
 generalize hNM:dU (aP binds)=nm at*
 (refine run ?_;with_reducible repeat' first|exact trivial|(apply ad.mk<;>intro hb)|apply av.mk)
 refine az (fun i:Nat=>[(1,.ptr H.length 0 0 0),(7,.fn (.func 45) [] [.ptr H.length 0 0 0]),(8,.ptr (H.length+3) 0 0 0),(9,.sl (H.length+4) 0 0 nm.length),(10,.ptr (H.length+6) 0 0 0),(49,.list 9 (ah binds)),(50,.int .i64 binds.length),(51,.int .i64 i)])
  (fun i=>H++[.cells 0 2 [.agg [.list 4 (aH cons),.list 9 (ah binds)]],.map none [],.cells 0 1 [.agg [.map (H.length+1)]],.cells 0 1 [.ptr (H.length+2) 0 0 0],.cells 0 1 (nm.map .str),.map none (pD (fp (binds.take i))),.cells 0 1 [.map (H.length+5)]]) (fun i=>binds.length - i) (fun i=>i≤binds.length) 0 (Nat.zero_le _) ?_ ?_
 ·exact Nn (n0:=H.length) [(H.length,0),(H.length+1,0),(H.length+2,0),(H.length+3,0),(H.length+4,0),(H.length+5,0),(H.length+6,0)] hG hB hC' hcl
 rintro K i hi hK
 rcases Nat.lt_or_ge i binds.length with hlt|hge
 ·have ht:=List.take_succ_eq_append_getElem hlt
  have hsn:=B6 (binds.take i) binds[i]
  rw[← ht] at hsn
  have X:=And.intro aF hsn
  (refine run ?_;with_reducible repeat' first|exact trivial|(apply ad.mk<;>intro hb)|apply av.mk)
  refine hK _ _ (i+1) (by omega) (by omega) ?_
  exact Nn (n0:=H.length) [(H.length,0),(H.length+1,0),(H.length+2,0),(H.length+3,0),(H.length+4,0),(H.length+5,0),(H.length+6,0)] hG hB hC' hcl
 obtain rfl:i=binds.length:=by omega
 clear hK
 simp only[List.take_length]
 have X:=And.intro aF (Int.lt_irrefl (binds.length:Int))
 (refine run ?_;with_reducible repeat' first|exact trivial|(apply ad.mk<;>intro hb)|apply av.mk)
 have hwb:∀ x:Ex,x.wt≤aM binds→x.wt<549755813888:=fun x hx=>by omega
 refine eX (bz.of (first:=[]) (args:=[.fn (.func 54) [] []]) (cap:=[.ptr H.length 0 0 0]) (qG G hG 54 [] [] dN cons binds (by omega) _ H.length (by simp) rfl
  (fun x hx X=>bz.of (first:=[]) (args:=[x.sv]) (cap:=[]) (B3 G hG x (hwb x hx) _)))) ?_
 rintro r H' ⟨rfl,rfl⟩
 cases q3:(binds.all fun b=>dn dN b.e)
 ·(refine run ?_;with_reducible repeat' first|exact trivial|(apply ad.mk<;>intro hb)|apply av.mk)
  have e:bA ⟨cons,binds⟩=120:=by unfold bA;rw[if_neg q1,if_neg q2,if_pos (by rw[q3];rfl)]
  rw[← hS,e] at hR
  exact aS (n0:=H.length) hR hC' hcl (.same _ rfl) ⟨rfl,rfl⟩
 (refine run ?_;with_reducible repeat' first|exact trivial|(apply ad.mk<;>intro hb)|apply av.mk)
 refine bt (FZ G hG _ (H.length+2) (H.length+1) cons (by simp) (by simp) hcn) ?_
 rintro r H' ⟨l,⟨rfl,rfl⟩,hl⟩
 simp only[cB,List.set_cons_succ,List.set_cons_zero]
 cases q4:fY [] cons
 ·(refine run ?_;with_reducible repeat' first|exact trivial|(apply ad.mk<;>intro hb)|apply av.mk)
  have e:bA ⟨cons,binds⟩=121:=by unfold bA;rw[if_neg q1,if_neg q2,if_neg (by rw[q3];exact Bool.false_ne_true),if_pos (by rw[q4];rfl)]
  rw[← hS,e] at hR
  exact aS (n0:=H.length) hR hC' hcl (.same _ rfl) ⟨rfl,rfl⟩
 obtain rfl:=hl q4
 (refine run ?_;with_reducible repeat' first|exact trivial|(apply ad.mk<;>intro hb)|apply av.mk)
 ·have q5:cK binds=true:=by
   unfold cK
   rw[hNM,← hnl,List.getD_eq_getElem?_getD,List.getElem?_eq_getElem (by omega)]
   simp only[Option.getD_some,GG,hb,decide_true,Bool.and_true,Bool.or_eq_true,decide_eq_true_eq]
   exact .inl (by omega)
  have e:bA ⟨l,binds⟩=122:=by unfold bA;rw[if_neg q1,if_neg q2,if_neg (by rw[q3];exact Bool.false_ne_true),if_neg (by rw[q4];exact Bool.false_ne_true),if_pos q5]
  rw[← hS,e] at hR
  exact aS (n0:=H.length) hR hC' hcl (.same _ rfl) ⟨rfl,rfl⟩
 all_goals
  have q50:(decide (0<(aP binds).length)&&GG ((dU (aP binds)).getD 0 []) [])=false:=by
   first
   |(rw[show decide (0<(aP binds).length)=false from decide_eq_false (by omega)];rfl)
   |(rw[hNM,List.getD_eq_getElem?_getD,List.getElem?_eq_getElem (by omega)];simp only[Option.getD_some,GG,hb,decide_false,Bool.and_false])
  refine bt (CM G hG nm _ (H.length+4) 0 (by simp) (by omega)) ?_
  rintro r H' ⟨rfl,rfl⟩
  simp only[List.append_assoc,List.cons_append,List.nil_append,List.length_append,List.length_cons,List.length_nil,List.length_set,X,Nat.reduceAdd]
  (refine run ?_;with_reducible repeat' first|exact trivial|(apply ad.mk<;>intro hb)|apply av.mk)
  refine bt (yU G hG nm _ (H.length+8) 0 (by simp) (by omega)) ?_
  rintro r H' ⟨vs,⟨rfl,rfl⟩,hvl,hvu⟩
  simp only[cB,List.set_cons_succ,List.set_cons_zero]
  have hbn:cK binds=decide ((oq nm).length≠nm.length):=by
   unfold cK
   rw[q50,hNM,Bool.false_or,hnl]
  by_cases hdn:(oq nm).length=nm.length
  rotate_left
  ·have hdi:¬ ((oq nm).length:Int)=(nm.length:Int):=by omega
   (refine run ?_;with_reducible repeat' first|exact trivial|(apply ad.mk<;>intro hb)|apply av.mk)
   have q5:cK binds=true:=by rw[hbn];exact decide_eq_true hdn
   have e:bA ⟨l,binds⟩=122:=by unfold bA;rw[if_neg q1,if_neg q2,if_neg (by rw[q3];exact Bool.false_ne_true),if_neg (by rw[q4];exact Bool.false_ne_true),if_pos q5]
   rw[← hS,e] at hR
   exact aS (n0:=H.length) hR hC' hcl (.same _ rfl) ⟨rfl,rfl⟩
  have q5:cK binds=false:=by rw[hbn];exact decide_eq_false (fun h=>h hdn)
  rw[hdn]
  have hany:(binds.any fun b=>!l9 (fp binds) b)=!(binds.all (l9 (fp binds))):=by rw[List.all_eq_not_any_not,Bool.not_not]
  (refine run ?_;with_reducible repeat' first|exact trivial|(apply ad.mk<;>intro hb)|apply av.mk)
  refine bt (v8 G hG (.fn (.func 58) [] [.ptr (H.length+7) 0 0 0]) (fun b=>!l9 (fp binds) b) binds _ (by omega) (by simp[SV.under,SV.aB]) (fun b hb=>bz.of (first:=[]) (args:=[b.sv]) (cap:=[.ptr (H.length+7) 0 0 0])
   (A1 G hG (fp binds) (Ew binds) b (hwb _ (Nat.le_of_lt (kn hb))) _ (H.length+7) (H.length+6) (H.length+5) (by simp) (by simp) (by simp)))) ?_
  rintro r H' ⟨rfl,rfl⟩
  rw[hany]
  cases q6:binds.all (l9 (fp binds))
  ·(refine run ?_;with_reducible repeat' first|exact trivial|(apply ad.mk<;>intro hb)|apply av.mk)
   have e:bA ⟨l,binds⟩=123:=by unfold bA;rw[if_neg q1,if_neg q2,if_neg (by rw[q3];exact Bool.false_ne_true),if_neg (by rw[q4];exact Bool.false_ne_true),if_neg (by rw[q5];exact Bool.false_ne_true),if_pos (by rw[q6];rfl)]
   rw[← hS,e] at hR
   exact aS (n0:=H.length) hR hC' hcl (.same _ rfl) ⟨rfl,rfl⟩
  (refine run ?_;with_reducible repeat' first|exact trivial|(apply ad.mk<;>intro hb)|apply av.mk)
  refine eX (bz.of (first:=[]) (args:=[]) (cap:=[.ptr (H.length+3) 0 0 0]) (DB G hG _ (H.length+2) (H.length+1) (H.length+3) l ⟨by simp,by simp⟩ (by simp))) ?_
  rintro r H' ⟨rfl,rfl⟩
  cases q7:ln l
  ·(refine run ?_;with_reducible repeat' first|exact trivial|(apply ad.mk<;>intro hb)|apply av.mk)
   have e:bA ⟨l,binds⟩=124:=by unfold bA;rw[if_neg q1,if_neg q2,if_neg (by rw[q3];exact Bool.false_ne_true),if_neg (by rw[q4];exact Bool.false_ne_true),if_neg (by rw[q5];exact Bool.false_ne_true),if_neg (by rw[q6];exact Bool.false_ne_true),if_pos (by rw[q7];rfl)]
   rw[← hS,e] at hR
   exact aS (n0:=H.length) hR hC' hcl (.same _ rfl) ⟨rfl,rfl⟩
  (refine run ?_;with_reducible repeat' first|exact trivial|(apply ad.mk<;>intro hb)|apply av.mk)
  refine eX (bz.of (first:=[]) (args:=[.fn (.func 59) [.ptr (H.length+2) 0 0 0] []]) (cap:=[.ptr H.length 0 0 0]) (qG G hG 59 [.ptr (H.length+2) 0 0 0] [] (kW l) l binds (by omega) _ H.length (by simp) (by simp[SV.under,SV.aB])
   (fun x hx X=>bz.of (first:=[.ptr (H.length+2) 0 0 0]) (args:=[x.sv]) (cap:=[]) (Fo G hG _ (H.length+2) (H.length+1) l ⟨by simp,by simp⟩ x (hwb x hx))))) ?_
  rintro r H' ⟨rfl,rfl⟩
  cases q8:(binds.all fun b=>dn (kW l) b.e)
  ·(refine run ?_;with_reducible repeat' first|exact trivial|(apply ad.mk<;>intro hb)|apply av.mk)
   have e:bA ⟨l,binds⟩=124:=by unfold bA;rw[if_neg q1,if_neg q2,if_neg (by rw[q3];exact Bool.false_ne_true),if_neg (by rw[q4];exact Bool.false_ne_true),if_neg (by rw[q5];exact Bool.false_ne_true),if_neg (by rw[q6];exact Bool.false_ne_true),if_pos (by rw[q7,q8];rfl)]
   rw[← hS,e] at hR
   exact aS (n0:=H.length) hR hC' hcl (.same _ rfl) ⟨rfl,rfl⟩
  (refine run ?_;with_reducible repeat' first|exact trivial|(apply ad.mk<;>intro hb)|apply av.mk)
  refine eX (bz.of (first:=[]) (args:=[.fn (.func 60) [.ptr (H.length+2) 0 0 0] []]) (cap:=[.ptr H.length 0 0 0]) (qG G hG 60 [.ptr (H.length+2) 0 0 0] [] (kL l) l binds (by omega) _ H.length (by simp) (by simp[SV.under,SV.aB])
   (fun x hx X=>bz.of (first:=[.ptr (H.length+2) 0 0 0]) (args:=[x.sv]) (cap:=[]) (A4 G hG _ (H.length+2) (H.length+1) l ⟨by simp,by simp⟩ x (hwb x hx))))) ?_
  rintro r H' ⟨rfl,rfl⟩
  cases q9:(binds.all fun b=>dn (kL l) b.e)
  ·(refine run ?_;with_reducible repeat' first|exact trivial|(apply ad.mk<;>intro hb)|apply av.mk)
   have e:bA ⟨l,binds⟩=125:=by unfold bA;rw[if_neg q1,if_neg q2,if_neg (by rw[q3];exact Bool.false_ne_true),if_neg (by rw[q4];exact Bool.false_ne_true),if_neg (by rw[q5];exact Bool.false_ne_true),if_neg (by rw[q6];exact Bool.false_ne_true),if_neg (by rw[q7,q8];exact Bool.false_ne_true),if_pos (by rw[q9];rfl)]
   rw[← hS,e] at hR
   exact aS (n0:=H.length) hR hC' hcl (.same _ rfl) ⟨rfl,rfl⟩
  by_cases qm:cv (fp binds) lu=0
  ·have qm':cv (fp binds) [77,97,105,110,46,109,97,105,110]=0:=qm
   have X:=And.intro aF qm'
   (refine run ?_;with_reducible repeat' first|exact trivial|(apply ad.mk<;>intro hb)|apply av.mk)
   have e:bA ⟨l,binds⟩=126:=by unfold bA;rw[if_neg q1,if_neg q2,if_neg (by rw[q3];exact Bool.false_ne_true),if_neg (by rw[q4];exact Bool.false_ne_true),if_neg (by rw[q5];exact Bool.false_ne_true),if_neg (by rw[q6];exact Bool.false_ne_true),if_neg (by rw[q7,q8];exact Bool.false_ne_true),if_neg (by rw[q9];exact Bool.false_ne_true),if_pos qm]
   rw[← hS,e] at hR
   exact aS (n0:=H.length) hR hC' hcl (.same _ rfl) ⟨rfl,rfl⟩
  ·have qm':¬ cv (fp binds) [77,97,105,110,46,109,97,105,110]=0:=qm
   have X:=aF
   (refine run ?_;with_reducible repeat' first|exact trivial|(apply ad.mk<;>intro hb)|apply av.mk)
   have e:bA ⟨l,binds⟩=0:=by unfold bA;rw[if_neg q1,if_neg q2,if_neg (by rw[q3];exact Bool.false_ne_true),if_neg (by rw[q4];exact Bool.false_ne_true),if_neg (by rw[q5];exact Bool.false_ne_true),if_neg (by rw[q6];exact Bool.false_ne_true),if_neg (by rw[q7,q8];exact Bool.false_ne_true),if_neg (by rw[q9];exact Bool.false_ne_true),if_neg qm]
   rw[← hS,e] at hR
   exact aS (n0:=H.length) hR hC' hcl (.same _ rfl) ⟨rfl,rfl⟩
def jX (k:List Od) (e:Ex):List aE:=aZ aU k e.wt e
def e9 (names:List aE):List aE→List Int
 |[]=>[]
 |n::r=>if n∈names then idxFrom 0 names n::e9 names r else []
def cx (l:List Bd):List Bd:=l.filter fun b=>decide (b.e.kind=3)
def kJ (e:Ex):Ex:=e.ae.getD 0 iO
def kH (b:Bd) (bN:List Int):Od:=⟨b.name,b.e.names.length,bN⟩
def sZ (lams:List Bd) (k:List Od):List Od:=lams.map fun b=>kH b (e9 b.e.names (jX k (kJ b.e)))
def dh (lams:List Bd):Nat→List Od
 |0=>lams.map fun b=>kH b []
 |n+1=>sZ lams (bc [] (dh lams n))
def fo (p:Pg):List Od:=dh (cx p.binds) 20
theorem rM (lams:List Bd) (k:List Od):(sZ lams k).length=lams.length:=by simp[sZ]
theorem ly (lams:List Bd):∀ n,(dh lams n).length=lams.length
 |0=>by simp[dh]
 |n+1=>by rw[dh,rM]
theorem xW (lams:List Bd) (n:Nat) {i:Nat} (h:i<lams.length):∃ bN,(dh lams n)[i]? =some (kH lams[i] bN):=by
 cases n with
 |zero=>exact⟨[],by simp[dh,h]⟩
 |succ n=>exact⟨_,by simp only[dh,sZ,List.getElem?_map,List.getElem?_eq_getElem h,Option.map_some];rfl⟩
theorem rL {lams:List Bd} {n:Nat} (h:dh lams (n+1)=dh lams n):∀ m,n≤m→dh lams m=dh lams n
 |0,hm=>by
  obtain rfl:n=0:=by omega
  rfl
 |m+1,hm=>by
  rcases Nat.eq_or_lt_of_le hm with he|hlt
  ·rw[← he]
  ·rw[dh,rL h m (by omega),← dh,h]
theorem jz (names:List aE):∀ l,(e9 names l).length≤l.length
 |[]=>Nat.le_refl _
 |n::r=>by
  rw[e9]
  split
  ·simp only[List.length_cons];have:=jz names r;omega
  ·simp
theorem zn:∀ (l:List aE) (v:aE) (i:Nat),v∈l→(i:Int)≤idxFrom i l v∧idxFrom i l v<i+l.length
 |[],v,i,h=>by cases h
 |x::r,v,i,h=>by
  rw[idxFrom]
  split
  ·simp only[List.length_cons];omega
  ·rename_i hne
   have hr:v∈r:=(List.mem_cons.1 h).elim (fun e=>absurd e (by first|exact hne|exact fun q=>hne q.symm)) id
   have:=zn r v (i+1) hr
   simp only[List.length_cons]
   omega
theorem vh:∀ (l:List aE) (v:aE) (i:Nat),v∈l→l[(idxFrom i l v - i).toNat]? =some v
 |[],v,i,h=>by cases h
 |x::r,v,i,h=>by
  rw[idxFrom]
  split
  ·rename_i he;rw[Int.sub_self];simp[he]
  ·rename_i hne
   have hr:v∈r:=(List.mem_cons.1 h).elim (fun e=>absurd e (by first|exact hne|exact fun q=>hne q.symm)) id
   have h1:=zn r v (i+1) hr
   have h2:=vh r v (i+1) hr
   have e:(idxFrom (i+1) r v - (i:Int)).toNat=(idxFrom (i+1) r v - ((i+1:Nat):Int)).toNat+1:=by omega
   rw[e,List.getElem?_cons_succ]
   exact h2
theorem FH {l:List aE} {v w:aE} (hv:v∈l) (hw:w∈l) (h:idxFrom 0 l v=idxFrom 0 l w):v=w:=by
 have h1:=vh l v 0 hv
 have h2:=vh l w 0 hw
 rw[h,h2] at h1
 exact(Option.some.inj h1).symm
theorem oL (names:List aE):∀ (l:List aE) {n:Int},n∈e9 names l→∃ s∈l,s∈names∧n=idxFrom 0 names s
 |[],n,h=>by cases h
 |s::r,n,h=>by
  rw[e9] at h
  split at h
  ·rename_i hs
   rcases List.mem_cons.1 h with rfl|h
   ·exact⟨s,List.mem_cons_self ..,hs,rfl⟩
   ·obtain⟨t,h1,h2⟩:=oL names r h
    exact⟨t,List.mem_cons_of_mem _ h1,h2⟩
  ·cases h
theorem pg (names:List aE):∀ (l:List aE),l.Nodup→(e9 names l).Nodup
 |[],_=>List.nodup_nil
 |s::r,h=>by
  rw[e9]
  rw[List.nodup_cons] at h
  split
  ·rename_i hs
   rw[List.nodup_cons]
   refine⟨fun hm=>?_,pg names r h.2⟩
   obtain⟨t,h1,h2,h3⟩:=oL names r hm
   have:=FH hs h2 h3
   exact h.1 (this ▸ h1)
  ·exact List.nodup_nil
def vT (o:Od):Prop:=(∀ n∈o.bN,0≤n∧n<o.arity)∧o.bN.Nodup
theorem F7 (p:Pg):∀ o∈fo p,vT o:=by
 intro o ho
 rw[fo,dh,sZ] at ho
 obtain⟨b,_,rfl⟩:=List.mem_map.1 ho
 refine⟨fun n hn=>?_,pg _ _ (gB _ _ _ _)⟩
 obtain⟨s,_,h2,rfl⟩:=oL _ _ hn
 have:=zn b.e.names s 0 h2
 simp only[kH]
 omega
theorem rH (names:List aE):∀ (l:List aE) (i:Nat),(∀ s∈l.take i,s∈names)→i≤l.length→e9 names l=(l.take i).map (idxFrom 0 names)++e9 names (l.drop i)
 |l,0,_,_=>rfl
 |[],i+1,_,h=>by simp at h
 |s::r,i+1,h,hi=>by
  rw[e9,if_pos (h s (by simp)),rH names r i (fun t ht=>h t (by simp[ht])) (by simpa using hi)]
  rfl
def yC (l:List Bd):List (SV×SV):=l.map fun b=>(.str b.name,.agg b.e.cells)
theorem ug:∀ (l:List Bd) (b:Bd),b.name∉l.map Bd.name→cG (yC l) (.str b.name) (.agg b.e.cells)=yC (l++[b])
 |[],c,_=>rfl
 |d::r,c,h=>by
  simp only[List.map_cons,List.mem_cons,not_or] at h
  simp only[yC,List.map_cons,cG,SV.dX,List.cons_append,beq_eq_false_iff_ne.2 h.1,if_false,Bool.false_eq_true]
  rw[show cG (List.map _ r) (.str c.name) _=_ from ug r c h.2]
  rfl
theorem qN:∀ (l:List Bd),(l.map Bd.name).Nodup→∀ i (h:i<l.length),bI (yC l) (.str l[i].name)=some (.agg l[i].e.cells)
 |[],_,i,h=>by simp at h
 |d::r,hn,i,h=>by
  simp only[List.map_cons,List.nodup_cons] at hn
  cases i with
  |zero=>simp[yC,bI,SV.dX]
  |succ i=>
   have hi:i<r.length:=by simpa using h
   have hne:¬ r[i].name=d.name:=fun e=>hn.1 (e ▸ List.mem_map.2 ⟨_,List.getElem_mem hi,rfl⟩)
   have:=qN r hn.2 i hi
   simp only[yC,List.map_cons,bI,SV.dX,List.getElem_cons_succ,beq_eq_false_iff_ne.2 hne,if_false,Bool.false_eq_true] at this ⊢
   exact this
theorem tv (n:Nat):∀ l:List Bd,cY n (yC l)=true
 |[]=>rfl
 |p::l=>by simp only[yC,List.map_cons,cY,SV.under,Ex.bD,Bool.and_self,Bool.true_and];exact tv n l
theorem j4 (l:List Od) (o:Od):aK l++[.agg [.str o.name,.int .i64 o.arity,.list 1 (cc o.bN)]]=aK (l++[o]):=by simp[aK,Od.sv,Od.cells]
theorem xU (l:List Od) (i:Nat) (o:Od):(aK l).set i (.agg [.str o.name,.int .i64 o.arity,.list 1 (cc o.bN)])=aK (l.set i o):=by simp[aK,List.map_set,Od.sv,Od.cells]
theorem tH (l:List Int) (n:Int):cc l++[.int .i64 n]=cc (l++[n]):=by simp[cc]
theorem zv (G:Gl) (hG:au G) (l:List Od) (hl:l.length<1099511627776) (H:List ax) (id g:Nat) (hid:H[id]? =some (.cells g 3 (aK l))):
 af Tryz.prog G 26 [.sl id g 0 l.length] H (fun r H'=>H'=H++[.map none (ky (bc [] l))]∧r= .map H.length):=by
 have fE:=iZ
 have li:=(List.getElem?_eq_some_iff.1 hid).1
 have hidx:=fun L=>(show(H++L)[id]? =some (.cells g 3 (aK l)) by rw[cA li];exact hid)
 refine af.aD TB [] aA _ Tryz.func26 rfl (by decide) Tryz.ntmps26 (by simp) rfl (by simp only[ap,Nat.reduceAdd];rfl) fun C R' hR hC hcl hB=>?_;have X:=aF;have hC':=congrArg List.length hC
 have X:=And.intro aF hid
 (refine run ?_;with_reducible repeat' first|exact trivial|(apply ad.mk<;>intro hb)|apply av.mk)
 refine az (fun i:Nat=>[(3,.map H.length),(9,.sl id g 0 l.length),(10,.int .i64 l.length),(11,.int .i64 i)]) (fun i=>H++[.map none (ky (bc [] (l.take i)))]) (fun i=>l.length - i) (fun i=>i≤l.length) 0 (Nat.zero_le _) ?_ ?_
 ·exact aY (n0:=H.length) [(H.length,0)] hG hB hC' hcl
 rintro K i hi hK
 rcases Nat.lt_or_ge i l.length with hlt|hge
 ·have ht:=List.take_succ_eq_append_getElem hlt
  have hk:=tK (l.take i) l[i]
  rw[← ht] at hk
  have hset:=oS (bc [] (l.take i)) l[i]
  have hz:=pT (bc [] (l.take i)) l[i].name
  have hh:=pL (bc [] (l.take i)) l[i].name
  cases hf:bH (bc [] (l.take i)) l[i].name with
  |none=>
   have hs2:=hset hf
   rw[hf] at hk hh
   have hk:bc [] (l.take (i+1))=bc [] (l.take i)++[l[i]]:=hk
   have hh:(bI (ky (bc [] (l.take i))) (.str l[i].name)).isSome=false:=hh
   rw[← hk] at hs2
   have X:=And.intro aF (And.intro hidx (And.intro hz (And.intro hh hs2)))
   (refine run ?_;with_reducible repeat' first|exact trivial|(apply ad.mk<;>intro hb)|apply av.mk)
   exact hK _ _ (i+1) (by omega) (by omega) (aY (n0:=H.length) [(H.length,0)] hG hB hC' hcl)
  |some o=>
   rw[hf] at hk hh
   have hk:bc [] (l.take (i+1))=bc [] (l.take i):=hk
   have hh:(bI (ky (bc [] (l.take i))) (.str l[i].name)).isSome=true:=hh
   have X:=And.intro aF (And.intro hidx (And.intro hz hh))
   (refine run ?_;with_reducible repeat' first|exact trivial|(apply ad.mk<;>intro hb)|apply av.mk)
   refine hK _ _ (i+1) (by omega) (by omega) ?_
   rw[hk]
   exact aY (n0:=H.length) [(H.length,0)] hG hB hC' hcl
 obtain rfl:i=l.length:=by omega
 clear hK
 simp only[List.take_length]
 have X:=And.intro aF (Int.lt_irrefl (l.length:Int))
 (refine run ?_;with_reducible repeat' first|exact trivial|(apply ad.mk<;>intro hb)|apply av.mk)
 exact dp [(H.length,0)] (.map H.length) [.map none (ky (bc [] l))] hR hC' hcl ⟨rfl,rfl⟩
end Go.Proofs.YtehfihnfeakmaaaGreatDoor
