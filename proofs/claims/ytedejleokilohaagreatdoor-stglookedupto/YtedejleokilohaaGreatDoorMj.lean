/- A part of the proof: T3, G6, G7, G8, G9, G10, G11, G12. Names and spaces are cut short by program. -/
import Derived.Test.YtedejleokilohaaGreatDoorMi
set_option linter.unusedSimpArgs false
set_option linter.unusedVariables false
set_option maxRecDepth 10000
set_option maxHeartbeats 4000000
namespace Go.Proofs.YtedejleokilohaaGreatDoor
open Go
theorem junk_get {l j:List Str} {i:Nat} (h:i<l.length):((l++j).map SV.str)[i]? =some (.str l[i]):=by
 rw[List.getElem?_map,List.getElem?_append_left h,List.getElem?_eq_getElem h];rfl
theorem indexF_sl (G:Gl) (hG:GClosed G) (f:SV) (p:Str→Bool) (l j:List Str) (H:List Blk) (id g:Nat) (hid:H[id]? =some (.cells g 1 ((l++j).map .str))) (hl:l.length<1099511627776) (hfu:f.under H.length=true)
 (hf:∀ n,ACallV Tryz.prog G f [.str n] H (fun r H'=>H'=H∧r= .bool (p n))):
 ACall Tryz.prog G 105 [.sl id g 0 l.length,f] H (fun r H'=>H'=H∧r= .int .i64 (match l.findIdx? p with|some i=>(i:Int)|none=> -1)):=by
 refine ACall.of_go TB [] tabOK _ Tryz.func105 rfl (by decide) Tryz.ntmps105 (by simp) rfl (by simp only[initEnv,Nat.reduceAdd];rfl) fun C R' hR hC hcl hB=>?_;have X:=noX;have hC':=congrArg List.length hC
 have X:=And.intro X hid
 (refine run ?_;with_reducible repeat' first|exact trivial|(apply Fork.mk<;>intro hb)|apply Two.mk)
 refine go_loop (fun i:Nat=>[(0,.sl id g 0 l.length),(1,f),(7,.int .i64 l.length),(8,.int .i64 i)]) (fun _=>H) (fun i=>l.length - i) (fun i=>i≤l.length∧∀ x∈l.take i,p x=false) 0 ⟨Nat.zero_le _,by simp⟩ (Wk.sub (by simp[subEnv,look])) ?_
 rintro K i ⟨hi,hno⟩ hK
 rcases Nat.lt_or_ge i l.length with hlt|hge
 ·have e1:=junk_get (j:=j) hlt
  have X:=And.intro X e1
  (refine run ?_;with_reducible repeat' first|exact trivial|(apply Fork.mk<;>intro hb)|apply Two.mk)
  refine callV (hf l[i]) ?_
  rintro r H' ⟨rfl,rfl⟩
  cases hb:p l[i]
  ·(refine run ?_;with_reducible repeat' first|exact trivial|(apply Fork.mk<;>intro hb)|apply Two.mk)
   refine hK _ _ (i+1) (by omega) ⟨by omega,?_⟩ (Wk.sub (by simp[subEnv,look]))
   rw[List.take_succ_eq_append_getElem hlt]
   intro x hx
   rcases List.mem_append.1 hx with hx|hx
   ·exact hno x hx
   ·rw[List.mem_singleton.1 hx];exact hb
  ·have hfi:l.findIdx? p=some i:=by
    rw[List.findIdx?_eq_some_iff_getElem]
    refine⟨hlt,hb,fun j hj=>?_⟩
    have:=hno (l[j]'(by omega)) (by rw[List.mem_take_iff_getElem];exact⟨j,by omega,rfl⟩)
    simp[this]
   (refine run ?_;with_reducible repeat' first|exact trivial|(apply Fork.mk<;>intro hb)|apply Two.mk)
   exact Fin.out hR ⟨rfl,by simp only[resSV,hfi]⟩
 ·obtain rfl:i=l.length:=by omega
  clear hK
  have X:=And.intro X (Int.lt_irrefl (l.length:Int))
  (refine run ?_;with_reducible repeat' first|exact trivial|(apply Fork.mk<;>intro hb)|apply Two.mk)
  have hfi:l.findIdx? p=none:=by rw[List.findIdx?_eq_none_iff];rw[List.take_length] at hno;exact hno
  exact Fin.out hR ⟨rfl,by simp only[resSV,hfi]⟩
theorem filter_snoc (p:Str→Bool) (l:List Str) (x:Str):(l++[x]).filter p=l.filter p++if p x then [x] else []:=by
 rw[List.filter_append,List.filter_cons];rfl
theorem delete_ok (G:Gl) (hG:GClosed G) (f:SV) (p:Str→Bool) (l j:List Str) (H:List Blk) (id g:Nat) (hid:H[id]? =some (.cells g 1 ((l++j).map .str))) (hl:l.length<1099511627776) (hfu:f.under H.length=true)
 (hf:∀ (n:Str) (vs:List SV),ACallV Tryz.prog G f [.str n] (H.set id (.cells g 1 vs)) (fun r H'=>H'=H.set id (.cells g 1 vs)∧r= .bool (p n))):
 ACall Tryz.prog G 56 [.sl id g 0 l.length,f] H (fun r H'=>∃ j':List Str,H'=H.set id (.cells g 1 ((l.filter (fun n=>!p n)++j').map .str))∧r= .sl id g 0 (l.filter (fun n=>!p n)).length):=by
 have li:=(List.getElem?_eq_some_iff.1 hid).1
 obtain⟨Q,q0,qd,hlen,qx,qc⟩:=cellsQ hid
 simp only[← qd] at hf ⊢
 have hidx:=fun n=>hf n ((l++j).map .str)
 have hix:=indexF_sl G hG f p l j (Q ((l++j).map .str)) id g (qx.1 _) hl (by rw[hlen];exact hfu) hidx
 rw[← q0]
 refine ACall.of_go TB [] tabOK _ Tryz.func56 rfl (by decide) Tryz.ntmps56 (by simp) rfl (by simp only[initEnv,Nat.reduceAdd];rfl) fun C R' hR hC hcl hB=>?_;have X:=noX;have hC':=congrArg List.length hC
 have hC':=hC'.trans (hlen _)
 have hcls:∀ xs:List Str,closed (Q (xs.map .str)):=fun xs=>qc (q0 ▸ hcl) _ (SV.underL_map fun _ _=>rfl)
 generalize H.length=n0 at*
 have X:=And.intro X qx
 (refine run ?_;with_reducible repeat' first|exact trivial|(apply Fork.mk<;>intro hb)|apply Two.mk)
 refine callS hix ?_
 rintro r H' ⟨rfl,rfl⟩
 cases hr:l.findIdx? p with
 |none=>
  simp only
  (refine run ?_;with_reducible repeat' first|exact trivial|(apply Fork.mk<;>intro hb)|apply Two.mk)
  have e:l.filter (fun n=>!p n)=l:=by
   rw[List.filter_eq_self]
   intro x hx
   rw[List.findIdx?_eq_none_iff] at hr
   simp[hr x hx]
  exact Fin.out hR ⟨j,by rw[e],by rw[e];rfl⟩
 |some i0=>
  obtain⟨hi0,hpi,hno⟩:=List.findIdx?_eq_some_iff_getElem.1 hr
  simp only
  have hne:¬ (i0:Int)= -1:=by omega
  have X:=And.intro X hne
  (refine run ?_;with_reducible repeat' first|exact trivial|(apply Fork.mk<;>intro hb)|apply Two.mk)
  have hf0:(l.take (i0+1)).filter (fun n=>!p n)=l.take i0:=by
   rw[List.take_succ_eq_append_getElem hi0,filter_snoc,hpi]
   simp only[Bool.not_true,Bool.false_eq_true,if_false,List.append_nil]
   rw[List.filter_eq_self]
   intro x hx
   obtain⟨q,hq,rfl⟩:=List.mem_take_iff_getElem.1 hx
   have:=hno q (by omega)
   simpa using this
  have hfl0:((l.take (i0+1)).filter (fun n=>!p n)).length=i0:=by rw[hf0,List.length_take];omega
  refine go_loop (fun a:Nat×List Str=>[(0,.sl id g 0 l.length),(1,f),(5,.int .i64 (((l.take a.1).filter (fun n=>!p n)).length:Int)),(6,.int .i64 (a.1:Int))]) (fun a=>Q (a.2.map .str)++[]) (fun a=>l.length - a.1)
   (fun a=>(a.1≤l.length∧a.2.length=l.length+j.length)∧(∀ q,a.1≤q→a.2[q]? =(l++j)[q]?)∧((l.take a.1).filter (fun n=>!p n)).length<a.1∧a.2.take ((l.take a.1).filter (fun n=>!p n)).length=(l.take a.1).filter (fun n=>!p n)) (i0+1,l++j) ⟨⟨by simp only;omega,by simp⟩,fun q _=>rfl,by simp only;omega,?_⟩ ?_ ?_
  ·simp only
   rw[hfl0,hf0,List.take_append_of_le_length (by omega)]
  ·simp only[List.append_nil,hfl0]
   exact Wk.sub (by simp[subEnv,look])
  clear X
  rintro K ⟨m,xs⟩ ⟨⟨hm,hxl⟩,hxs,hlt0,htk⟩ hK
  simp only at hm hxl hxs hlt0 htk
  dsimp only
  have hxl':(xs.map SV.str).length=l.length+j.length:=by rw[List.length_map,hxl]
  rcases Nat.lt_or_ge m l.length with hlt|hge
  ·have ht:=List.take_succ_eq_append_getElem hlt
   have hfs:=filter_snoc (fun n=>!p n) (l.take m) l[m]
   rw[← ht] at hfs
   have f1:=hxs m (Nat.le_refl _)
   rw[List.getElem?_append_left hlt,List.getElem?_eq_getElem hlt] at f1
   have f1':(xs.map SV.str)[m]? =some (.str l[m]):=by rw[List.getElem?_map,f1];rfl
   have hcall:=hf l[m] (xs.map .str)
   generalize l[m]=x at*
   generalize hF:((l.take m).filter (fun n=>!p n)).length=F at*
   have hFx:F<xs.length:=by omega
   obtain⟨y,hy⟩:∃ y,xs[F]? =some y:=⟨_,List.getElem?_eq_getElem hFx⟩
   have hy':(xs.map SV.str)[F]? =some (.str y):=by rw[List.getElem?_map,hy];rfl
   have hset:(xs.map SV.str).set F (.str x)=(xs.set F x).map SV.str:=by rw[List.map_set]
   have X:=And.intro noX (And.intro qx (And.intro f1' (And.intro hy' (And.intro hxl' hset))))
   rw[List.append_nil]
   (refine run ?_;with_reducible repeat' first|exact trivial|(apply Fork.mk<;>intro hb)|apply Two.mk)
   refine callV hcall ?_
   rintro r H' ⟨rfl,rfl⟩
   cases hpx:p x
   ·simp only[hpx,Bool.not_false,if_true] at hfs
    have hF2:((l.take (m+1)).filter (fun n=>!p n)).length=F+1:=by rw[hfs,List.length_append,hF];rfl
    (refine run ?_;with_reducible repeat' first|exact trivial|(apply Fork.mk<;>intro hb)|apply Two.mk)
    refine hK _ _ (m+1,xs.set F x) (by simp only;omega) ⟨⟨by simp only;omega,by simpa using hxl⟩,fun q hq=>?_,by simp only[hF2];omega,?_⟩ ?_
    ·simp only at hq
     rw[List.getElem?_set_ne (by omega)]
     exact hxs q (by omega)
    ·show(xs.set F x).take ((l.take (m+1)).filter (fun n=>!p n)).length=(l.take (m+1)).filter (fun n=>!p n)
     rw[hF2,hfs,List.take_succ_eq_append_getElem (by simpa using hFx),List.getElem_set_self,List.take_set_of_le (Nat.le_refl _),htk]
    ·simp only[hF2]
     rw[List.append_nil]
     exact Wk.sub (by simp[subEnv,look])
   ·simp only[hpx,Bool.not_true,Bool.false_eq_true,if_false,List.append_nil] at hfs
    have hF2:((l.take (m+1)).filter (fun n=>!p n)).length=F:=by rw[hfs,hF]
    (refine run ?_;with_reducible repeat' first|exact trivial|(apply Fork.mk<;>intro hb)|apply Two.mk)
    refine hK _ _ (m+1,xs) (by simp only;omega) ⟨⟨by simp only;omega,hxl⟩,fun q hq=>hxs q (by simp only at hq;omega),by simp only[hF2];omega,?_⟩ ?_
    ·show xs.take ((l.take (m+1)).filter (fun n=>!p n)).length=(l.take (m+1)).filter (fun n=>!p n)
     rw[hF2,hfs];exact htk
    ·simp only[hF2]
     rw[List.append_nil]
     exact Wk.sub (by simp[subEnv,look])
  ·obtain rfl:m=l.length:=by omega
   rw[List.take_length] at*
   clear hK
   generalize hF:(l.filter (fun n=>!p n)).length=F at*
   have X:=And.intro noX (And.intro qx (And.intro hxl' (Int.lt_irrefl (l.length:Int))))
   rw[List.append_nil]
   (refine run ?_;with_reducible repeat' first|exact trivial|(apply Fork.mk<;>intro hb)|apply Two.mk)
   refine Fin.out hR ⟨List.replicate (l.length - F) []++xs.drop (F+(l.length - F)),congrArg Q ?_,rfl⟩
   rw[← htk,List.map_append,List.map_append,List.map_take,List.map_drop,List.map_replicate]
theorem bind1_ok (G:Gl) (hG:GClosed G) (T:List Str) (s:Str) (H:List Blk) (pb mb tb g0:Nat) (nx:SV) (hp:H[pb]? =some (.cells 0 1 [.ptr mb g0 0 0])) (hm:H[mb]? =some (.cells g0 2 [.agg [nx,.map tb]])) (ht:H[tb]? =some (.map none (esO T))):
 ACall Tryz.prog G 58 [.str s,.ptr pb 0 0 0] H (fun r H'=>H'=H∧r= .bool (decide (s∈T))):=by
 have l1:=(List.getElem?_eq_some_iff.1 hp).1
 have l2:=(List.getElem?_eq_some_iff.1 hm).1
 have l3:=(List.getElem?_eq_some_iff.1 ht).1
 have hf:=findSV_esO T s
 refine ACall.of_go TB [] tabOK _ Tryz.func58 rfl (by decide) Tryz.ntmps58 (by simp) rfl (by simp only[initEnv,Nat.reduceAdd];rfl) fun C R' hR hC hcl hB=>?_;have X:=noX;have hC':=congrArg List.length hC
 have X:=And.intro noX (And.intro hp (And.intro hm (And.intro ht hf)))
 (refine run ?_;with_reducible repeat' first|exact trivial|(apply Fork.mk<;>intro hb)|apply Two.mk)
 exact Fin.out hR ⟨rfl,rfl⟩
theorem cellsF_bs {B:Str→Ex→Bool→Nat→List Sb×Nat}:∀ (l:List Ex) (n:Nat),∃ L:List (List Sb),(cellsF B l n).1.2=L.map Ar.bs
 |[],n=>⟨[],rfl⟩
 |e::r,n=>by
  rw[cellsF]
  split
  ·exact cellsF_bs r n
  ·obtain⟨L,hL⟩:=cellsF_bs (B:=B) r (B (itT itsL n) e true (n+1)).2
   exact⟨(B (itT itsL n) e true (n+1)).1::L,by simp only[hL,List.map_cons]⟩
theorem barsF_bs:∀ L:List (List Sb),barsF (L.map Ar.bs)=L.flatten
 |[]=>rfl
 |l::r=>by rw[List.map_cons,barsF,barsF_bs r,List.flatten_cons]
theorem flat_take {L:List (List Sb)} {i:Nat} (h:i<L.length):(L.take (i+1)).flatten=(L.take i).flatten++L[i]:=by rw[List.take_succ_eq_append_getElem h,List.flatten_append];simp
theorem flatS_len (L:List (List Sb)) (i:Nat):(L.take i).flatten.length≤L.flatten.length:=by
 have h:L.flatten=(L.take i).flatten++(L.drop i).flatten:=by rw[← List.flatten_append,List.take_append_drop]
 rw[h,List.length_append];omega
theorem bindB_mk (top:List Str) (E:Ex→Nat→Sg×Nat) (B:Str→Ex→Bool→Nat→List Sb×Nat) (s:Str) (kd:Int) (nm:Str) (nn op:Int) (names:List Str) (subs:List Ex) (binds:List Bd) (alts:List Al) (up:Bool) (n:Nat):
 bindB top E B s (.mk kd nm nn op names subs binds alts) up n=if kd=3 then ([.mk s 1 (topF top (.mk kd nm nn op names subs binds alts)) names false [] [] [(E (subs.headD noEx) n).1]],(E (subs.headD noEx) n).2)
  else if kd=7 then (barsF (cellsF B subs n).1.2++[.mk s 3 [] [] false nm (cellsF B subs n).1.1 []],(cellsF B subs n).2)
  else ([.mk s 2 (topF top (.mk kd nm nn op names subs binds alts)) [] up [] [] [(E (.mk kd nm nn op names subs binds alts) n).1]],(E (.mk kd nm nn op names subs binds alts) n).2):=rfl
theorem bind_ok (G:Gl) (hG:GClosed G) (C0:Cx) (hb0:G.base=some C0) (hl0:LibAt C0) (cs:List Cn) (T:List Str) (m:Nat) (E:Ex→Nat→Sg×Nat) (B:Str→Ex→Bool→Nat→List Sb×Nat)
 (hEx:ExC16 G cs T (fun e=>rqE e≤m) E) (hBd:BdC16 G cs T (fun e=>rqB e≤m) B) (cE:CntE cs E) (cB:CntB cs B):BdC16 G cs T (fun e=>rqB e≤m+1) (bindB T E B):=by
 intro s e u H tb mb g0 nx0 hP hw hsh hnx h1 h2
 have l1:=(List.getElem?_eq_some_iff.1 h1).1
 have l2:=(List.getElem?_eq_some_iff.1 h2).1
 obtain⟨kd,nm,nn,op,names,subs,binds,alts⟩:=e
 have hlen:=Ex.wt_lens kd nm nn op names subs binds alts
 have hww:(Ex.mk kd nm nn op names subs binds alts).wt=1+nm.length+strsWt names+exsWt subs+bdsWt binds+alsWt alts:=by simp only[Ex.wt]
 have hnode:=hsh.node
 have hnl:=strsWt_len names
 have hnx:nx0+(Ex.mk kd nm nn op names subs binds alts).wt≤4294967290+(if kd=3 then 1 else 0):=hnx
 obtain⟨Q,q0,qd,hlenQ,qx,qc⟩:=mkQ h1 h2
 simp only[qd]
 rw[← q0]
 have hfl:(freeS (Ex.mk kd nm nn op names subs binds alts)).length≤(Ex.mk kd nm nn op names subs binds alts).wt:=by
  have:=unb_len (Ex.mk kd nm nn op names subs binds alts).wt (.mk kd nm nn op names subs binds alts) ([],[])
  rw[freeS,sortS_len]
  simpa using this
 have hfree:=fun H=>free_ok G hG (.mk kd nm nn op names subs binds alts) H (by omega)
 have htop:topF T (.mk kd nm nn op names subs binds alts)=(freeS (.mk kd nm nn op names subs binds alts)).filter (fun s=>!decide (s∈T)):=rfl
 rw[bindB_mk]
 generalize freeS (.mk kd nm nn op names subs binds alts)=F at*
 generalize topF T (.mk kd nm nn op names subs binds alts)=F2 at*
 refine ACall.of_go TB [12] tabOK _ Tryz.func21 rfl (by decide) Tryz.ntmps21 (by simp) rfl (by simp only[initEnv,Nat.reduceAdd];rfl) fun C R' hR hC hcl hB=>?_;have X:=noX;have hC':=congrArg List.length hC
 have hC':=hC'.trans (hlenQ _)
 have hcls:∀ nx,closed (Q nx):=fun nx=>qc (q0 ▸ hcl) nx
 clear q0 h1 h2
 generalize hn0:H.length=n0 at*
 have hx21:=hlenQ
 have hx22:∀ nx L,(Q nx++L)[n0]? =L[0]? :=fun nx L=>by rw[← hlenQ nx];exact get_app0 _ _
 have hx23:∀ nx L k,(Q nx++L)[n0+k]? =L[k]? :=fun nx L k=>by rw[← hlenQ nx];exact get_app _ _ _
 have hx24:∀ nx L x,(Q nx++L).set n0 x=Q nx++L.set 0 x:=fun nx L x=>by rw[← hlenQ nx];exact set_app0 _ _ _
 have hx25:∀ nx L k x,(Q nx++L).set (n0+k) x=Q nx++L.set k x:=fun nx L k x=>by rw[← hlenQ nx];exact set_app _ _ _ _
 have X:=And.intro noX (And.intro qx (And.intro hx21 (And.intro hx22 (And.intro hx23 (And.intro hx24 hx25)))))
 (refine run ?_;with_reducible repeat' first|exact trivial|(apply Fork.mk<;>intro hb)|apply Two.mk)
 refine callS (hfree _) ?_
 rintro r H' ⟨rfl,rfl⟩
 rw[show(Q nx0++[Blk.cells 0 1 [.ptr mb g0 0 0],.cells 0 8 [.agg [.int .i64 kd,.str nm,.int .i64 nn,.int .i64 op,.list 1 (names.map .str),.list 8 (exCells subs),.list 9 (bdCells binds),.list 12 (alCells alts)]]]).length=n0+2 by rw[List.length_append,hlenQ];rfl]
 simp only[List.append_assoc,List.cons_append,List.nil_append]
 (refine run ?_;with_reducible repeat' first|exact trivial|(apply Fork.mk<;>intro hb)|apply Two.mk)
 have hdel:=delete_ok G hG (.fn (.func 58) [] [.ptr n0 0 0 0]) (fun s=>decide (s∈T)) F [] (Q nx0++[Blk.cells 0 1 [.ptr mb g0 0 0],.cells 0 8 [.agg [.int .i64 kd,.str nm,.int .i64 nn,.int .i64 op,.list 1 (names.map .str),.list 8 (exCells subs),.list 9 (bdCells binds),.list 12 (alCells alts)]],.cells 0 1 (F.map .str)]) (n0+2) 0 (by rw[hx23];simp) (by omega) (by simp[SV.under,SV.underL,hlenQ])
  (fun n vs=>by
   rw[hx25]
   refine ACallV.of (first:=[]) (args:=[.str n]) (cap:=[.ptr n0 0 0 0]) (bind1_ok G hG T n _ n0 mb tb g0 _ (by rw[hx22];rfl) (qx.1 _ _) (qx.2.1 _ _)))
 refine callS hdel ?_
 rintro r H' ⟨j',rfl,rfl⟩
 rw[hx25,← htop]
 simp only[List.set_cons_succ,List.set_cons_zero]
 have hF2:F2.length≤F.length:=by rw[htop];exact List.length_filter_le _ _
 have hfr:∀ (nx:Nat) (b0 b1:Blk) (L:List Blk),Frz (Q nx++(b0::b1:: .cells 0 1 ((F2++j').map .str)::L)) n0 [] (.sl (n0+2) 0 0 F2.length) (.list 1 (F2.map .str)):=fun nx b0 b1 L=>
  Frz.sf (g:=0) (sz:=1) (vals:=(F2++j').map .str) (by rw[hx23];rfl) (by omega) (by simp) (by rw[List.drop_zero,List.map_append,List.take_left' (by simp)]) (strs_under _ _)
 clear hdel hfree
 by_cases h3:kd=3
 ·rw[if_pos h3] at hR hnx
  subst h3
  have hs:subs.length=1:=by unfold shpP at hnode;omega
  have h0:=exsWt_drop1 (l:=subs) (by omega)
  have hm:=headD_mem (l:=subs) (by omega)
  have hcl3:=fun H=>clone_strs G hG names H (by omega)
  have hsub:subs=[subs.headD noEx]:=by
   match subs,hs with
   |[x],_=>rfl
  have hcx:=fun L=>hEx (subs.headD noEx) (Q nx0++L) tb mb g0 nx0 (by unfold rqB at hP;have:=(rq_sub (e:= .mk 3 nm nn op names subs binds alts) (x:=subs.headD noEx) (by omega)).1;omega) (by omega) (hsh.sub hm) (by omega) (qx.2.1 _ _) (qx.1 _ _)
  have hg0:(exCells subs)[0]? =some (subs.headD noEx).sv:=by rw[hsub];rfl
  generalize subs.headD noEx=x at*
  have hx8:=x.cells_len
  have hx8d:=x.cells_drop8
  have hx8t:=x.cells_take
  generalize E x nx0=r0 at*
  obtain⟨y,nx2⟩:=r0
  simp only at hR hcx
  rw[show x.sv= .agg x.cells from rfl] at*
  generalize x.cells=xc at*
  have hy7:=y.cells_len
  have hy7t:=y.cells_take
  have hy7d:y.cells.drop 7=[]:=List.drop_eq_nil_of_le (by omega)
  have X:=And.intro (And.intro noX (And.intro qx (And.intro hx21 (And.intro hx22 (And.intro hx23 (And.intro hx24 hx25)))))) (And.intro hg0 (And.intro hx8 (And.intro hx8d (And.intro hx8t (And.intro hy7 (And.intro hy7t hy7d))))))
  (refine run ?_;with_reducible repeat' first|exact trivial|(apply Fork.mk<;>intro hb)|apply Two.mk)
  refine xcallS (hcl3 _) ?_
  rintro r H' ⟨rfl,rfl⟩
  simp only[List.length_append,hx21,List.length_cons,List.length_nil,List.append_assoc,List.cons_append,List.nil_append,Nat.reduceAdd]
  (refine run ?_;with_reducible repeat' first|exact trivial|(apply Fork.mk<;>intro hb)|apply Two.mk)
  refine xcallS (hcx _) ?_
  rintro v H' ⟨rfl,rfl⟩
  rw[qx.2.2,show y.sv= .agg y.cells from rfl]
  (refine run ?_;with_reducible repeat' first|exact trivial|(apply Fork.mk<;>intro hb)|apply Two.mk)
  exact finS (n0:=n0) hR hC' (hcls _) (.list _ _ _ (.cons _ _ _ _ (.agg _ _ (.cons _ _ _ _ (.same _ rfl) (.cons _ _ _ _ (.same _ rfl) (.cons _ _ _ _ (hfr _ _ _ _) (.cons _ _ _ _ (Frz.sf (g:=0) (sz:=1) (vals:=names.map .str) (by rw[hx23];rfl) (by omega) (by simp) (by rw[List.drop_zero,List.take_of_length_le (by simp)]) (strs_under _ _)) (.cons _ _ _ _ (.same _ rfl) (.cons _ _ _ _ (.same _ rfl) (.cons _ _ _ _ (.same _ rfl) (.cons _ _ _ _ (.same _ (by simp only[SV.under,SV.underL,Sg.cells_under,Bool.and_self])) .nil))))))))) .nil)) ⟨rfl,rfl⟩ (hn:=hlenQ _)
 by_cases h7:kd=7
 ·rw[if_neg h3,if_pos h7] at hR
  rw[if_neg h3] at hnx
  subst h7
  have hcx:=fun L=>cells_ok G hG C0 hb0 hl0 cs T (fun e=>rqB e≤m) B hBd cB subs (Q nx0++L) tb mb g0 nx0 (fun x hx=>⟨by unfold rqB at hP;have:=(rq_sub (e:= .mk 7 nm nn op names subs binds alts) (x:=x) (by have:=exsWt_mem hx;omega)).2;omega,hsh.sub hx⟩) (by omega) (by omega) (qx.2.1 _ _) (qx.1 _ _)
  obtain⟨hc1,hc2,hc3,hc4⟩:=cellsF_cnt cB subs nx0 (fun x hx=>hsh.sub hx)
  obtain⟨W,hW⟩:=cellsF_bs (B:=B) subs nx0
  rw[hW,barsF_bs] at hR
  rw[hW,barsF_bs] at hc4
  rw[hW] at hc3
  simp only[hW] at hcx
  clear hW
  generalize cellsF B subs nx0=r0 at*
  obtain⟨⟨A,W0⟩,nx2⟩:=r0
  simp only at hR hcx hc2 hc3
  clear W0 hc1
  rw[List.length_map] at hc3
  have X:=And.intro noX (And.intro qx (And.intro hx21 (And.intro hx22 (And.intro hx23 (And.intro hx24 hx25)))))
  (refine run ?_;with_reducible repeat' first|exact trivial|(apply Fork.mk<;>intro hb)|apply Two.mk)
  refine callS (hcx _) ?_
  rintro v H' ⟨rfl,rfl⟩
  rw[qx.2.2]
  have hfl2:=fun i=>flatS_len W i
  have hwl:(arCells (W.map Ar.bs)).length=W.length:=by rw[arCells_len,List.length_map]
  have X:=And.intro (And.intro noX (And.intro qx (And.intro hx21 (And.intro hx22 (And.intro hx23 (And.intro hx24 hx25)))))) hwl
  (refine run ?_;with_reducible repeat' first|exact trivial|(apply Fork.mk<;>intro hb)|apply Two.mk)
  have d3:=ndK n0 [0,1,3] (by decide)
  have d4:=ndK n0 [0,1,2] (by decide)
  refine go_loop (fun i:Nat=>[(1,.str s),(6,.ptr (n0+1) 0 0 0),(10,.list 2 (atCells A)),(46,.list 9 (arCells (W.map Ar.bs))),(47,.int .i64 W.length),(48,.int .i64 (i:Int)),(12,.sl (n0+2) 0 0 ((W.take i).flatten).length)])
   (fun i=>Q nx2++[.cells 0 1 [.ptr mb g0 0 0],.cells 0 8 [.agg [.int .i64 7,.str nm,.int .i64 nn,.int .i64 op,.list 1 (names.map .str),.list 8 (exCells subs),.list 9 (bdCells binds),.list 12 (alCells alts)]],.cells 0 8 (sbCells ((W.take i).flatten))]) (fun i=>W.length - i) (fun i=>i≤W.length) 0 (Nat.zero_le _) ?_ ?_
  ·simp only[List.take_zero,List.flatten_nil,show sbCells []=[] from rfl,List.length_nil]
   have under_ints:=atCells_under
   have under_bools:=arCells_under
   exact wkS (n0:=n0) [(n0,0),(n0+1,0),(n0+3,0)] hG hB hC' (hcls _) (hn:=hlenQ _) (hd:=d3)
  rintro K i hi hK
  have hfi:=hfl2 i
  rcases Nat.lt_or_ge i W.length with hlt|hge
  ·have hft:=flat_take hlt
   have hfi1:=hfl2 (i+1)
   rw[hft,List.length_append] at hfi1
   have hwg:(arCells (W.map Ar.bs))[i]? =some (.agg [.list 8 (sbCells W[i]),.str [],.int .i64 0,.str [],.int .i64 0,.nil,.nil,.nil,.nil]):=by simp[arCells,hlt,Ar.cells,sgZ]
   generalize W[i]=w at*
   generalize (W.take i).flatten=D at*
   have hsn:=sbCells_app D w
   have hDl:=sbCells_len D
   have hwl2:=sbCells_len w
   have X:=And.intro (And.intro noX (And.intro qx (And.intro hx21 (And.intro hx22 (And.intro hx23 (And.intro hx24 hx25)))))) (And.intro hwg (And.intro hsn (And.intro hDl hwl2)))
   (refine run ?_;with_reducible repeat' first|exact trivial|(apply Fork.mk<;>intro hb)|apply Two.mk)
   refine hK _ _ (i+1) (by omega) (by omega) ?_
   rw[hft,List.length_append]
   have under_ints:=atCells_under
   have under_bools:=arCells_under
   have under_mint:=sbCells_under
   exact wkS (n0:=n0) [(n0,0),(n0+1,0),(n0+2,0)] hG hB hC' (hcls _) (hn:=hlenQ _) (hd:=d4)
  clear hK
  obtain rfl:i=W.length:=by omega
  rw[List.take_length] at*
  generalize W.flatten=D at*
  have hDl:=sbCells_len D
  have hsn:sbCells D++[.agg [.str s,.int .i64 3,.list 1 [],.list 1 [],.bool false,.str nm,.list 2 (atCells A),.list 7 []]]=sbCells (D++[.mk s 3 [] [] false nm A []]):=sbCells_snoc D (.mk s 3 [] [] false nm A [])
  have X:=And.intro (And.intro noX (And.intro qx (And.intro hx21 (And.intro hx22 (And.intro hx23 (And.intro hx24 hx25)))))) (And.intro (Int.lt_irrefl (W.length:Int)) (And.intro hDl hsn))
  (refine run ?_;with_reducible repeat' first|exact trivial|(apply Fork.mk<;>intro hb)|apply Two.mk)
  exact finS (n0:=n0) hR hC' (hcls _) (Frz.sf (g:=1) (sz:=8) (vals:=sbCells (D++[.mk s 3 [] [] false nm A []])) (by rw[hx23];rfl) (by omega) (by simp) (by rw[List.drop_zero,List.take_of_length_le (by rw[sbCells_len,List.length_append];exact Nat.le_refl _)]) (sbCells_under _ _)) ⟨rfl,rfl⟩ (hn:=hlenQ _)
 ·rw[if_neg h3,if_neg h7] at hR
  rw[if_neg h3] at hnx
  have hcx:=fun L=>hEx (.mk kd nm nn op names subs binds alts) (Q nx0++L) tb mb g0 nx0 (by show rqE _≤m;unfold rqB at hP;unfold rqE;rw[if_neg (show ¬ (Ex.mk kd nm nn op names subs binds alts).kind=3 from h3)];omega) hw hsh (by omega) (qx.2.1 _ _) (qx.1 _ _)
  generalize E (.mk kd nm nn op names subs binds alts) nx0=r0 at*
  obtain⟨y,nx2⟩:=r0
  simp only at hR hcx
  have hy7:=y.cells_len
  have hy7t:=y.cells_take
  have hy7d:y.cells.drop 7=[]:=List.drop_eq_nil_of_le (by omega)
  have X:=And.intro (And.intro noX (And.intro qx (And.intro hx21 (And.intro hx22 (And.intro hx23 (And.intro hx24 hx25)))))) (And.intro h3 (And.intro h7 (And.intro hy7 (And.intro hy7t hy7d))))
  (refine run ?_;with_reducible repeat' first|exact trivial|(apply Fork.mk<;>intro hb)|apply Two.mk)
  refine callS (hcx _) ?_
  rintro v H' ⟨rfl,rfl⟩
  rw[qx.2.2,show y.sv= .agg y.cells from rfl]
  (refine run ?_;with_reducible repeat' first|exact trivial|(apply Fork.mk<;>intro hb)|apply Two.mk)
  exact finS (n0:=n0) hR hC' (hcls _) (.list _ _ _ (.cons _ _ _ _ (.agg _ _ (.cons _ _ _ _ (.same _ rfl) (.cons _ _ _ _ (.same _ rfl) (.cons _ _ _ _ (hfr _ _ _ _) (.cons _ _ _ _ (.same _ rfl) (.cons _ _ _ _ (.same _ rfl) (.cons _ _ _ _ (.same _ rfl) (.cons _ _ _ _ (.same _ rfl) (.cons _ _ _ _ (.same _ (by simp only[SV.under,SV.underL,Sg.cells_under,Bool.and_self])) .nil))))))))) .nil)) ⟨rfl,rfl⟩ (hn:=hlenQ _)
def t44n:TI:=⟨.struct [(0,3),(1,9),(2,3),(3,37),(4,38),(5,28),(6,42)] false,7,128,.agg [.int .i64 0,.str [],.int .i64 0,.nil,.nil,.nil,.nil]⟩
theorem ok44n:tiOK Tryz.prog 44 t44n:=tiOK_of (.agg [.int .i64 0,.str [],.int .i64 0,.nil,.nil,.nil,.nil]) (Told2.refl _) ⟨⟨_,Tryz.underlying44,rfl⟩,fun h=>by cases h⟩ (by kernel_rfl)
def TBn:Tab:=(44,t44n)::TB
set_option maxRecDepth 10000 in
theorem TBng:Tab.get TBn 2=some ⟨.int .i64,1,8,.int .i64 0⟩∧
 Tab.get TBn 3=some ⟨.int .i64,1,8,.int .i64 0⟩∧
 Tab.get TBn 4=some ⟨.bool,1,1,.bool false⟩∧
 Tab.get TBn 5=some ⟨.int .u8,1,1,.int .u8 0⟩∧
 Tab.get TBn 9=some ⟨.str,1,16,.str []⟩∧
 Tab.get TBn 20=some ⟨.ifc,1,16,.ifc true⟩∧
 Tab.get TBn 21=some ⟨.int .i32,1,4,.int .i32 0⟩∧
 Tab.get TBn 22=some ⟨.slice 67,1,24,.nil⟩∧
 Tab.get TBn 23=some ⟨.slice 53,1,24,.nil⟩∧
 Tab.get TBn 24=some ⟨.struct [(0,22),(1,23)] false,2,48,.agg [.nil,.nil]⟩∧
 Tab.get TBn 25=some ⟨.struct [(0,22),(1,23)] false,2,48,.agg [.nil,.nil]⟩∧
 Tab.get TBn 26=some ⟨.func,1,8,.nilfn⟩∧
 Tab.get TBn 27=some ⟨.func,1,8,.nilfn⟩∧
 Tab.get TBn 28=some ⟨.slice 40,1,24,.nil⟩∧
 Tab.get TBn 29=some ⟨.struct [(0,22),(1,28)] false,2,48,.agg [.nil,.nil]⟩∧
 Tab.get TBn 30=some ⟨.struct [(0,22),(1,28)] false,2,48,.agg [.nil,.nil]⟩∧
 Tab.get TBn 31=some ⟨.int .i64,1,8,.int .i64 0⟩∧
 Tab.get TBn 33=some ⟨.func,1,8,.nilfn⟩∧
 Tab.get TBn 34=some ⟨.func,1,8,.nilfn⟩∧
 Tab.get TBn 35=some ⟨.func,1,8,.nilfn⟩∧
 Tab.get TBn 36=some ⟨.slice 9,1,24,.nil⟩∧
 Tab.get TBn 37=some ⟨.slice 58,1,24,.nil⟩∧
 Tab.get TBn 38=some ⟨.slice 44,1,24,.nil⟩∧
 Tab.get TBn 39=some ⟨.struct [(0,9),(1,3),(2,36),(3,36),(4,4),(5,9),(6,37),(7,38)] false,8,144,.agg [.str [],.int .i64 0,.nil,.nil,.bool false,.str [],.nil,.nil]⟩∧
 Tab.get TBn 40=some ⟨.struct [(0,9),(1,3),(2,36),(3,36),(4,4),(5,9),(6,37),(7,38)] false,8,144,.agg [.str [],.int .i64 0,.list 1 [],.list 1 [],.bool false,.str [],.list 2 [],.list 7 []]⟩∧
 Tab.get TBn 41=some ⟨.func,1,8,.nilfn⟩∧
 Tab.get TBn 42=some ⟨.slice 93,1,24,.nil⟩∧
 Tab.get TBn 43=some ⟨.struct [(0,3),(1,9),(2,3),(3,37),(4,38),(5,28),(6,42)] false,7,128,.agg [.int .i64 0,.str [],.int .i64 0,.nil,.nil,.nil,.nil]⟩∧
 Tab.get TBn 44=some ⟨.struct [(0,3),(1,9),(2,3),(3,37),(4,38),(5,28),(6,42)] false,7,128,.agg [.int .i64 0,.str [],.int .i64 0,.nil,.nil,.nil,.nil]⟩∧
 Tab.get TBn 45=some ⟨.map 9 4,1,8,.nilmap⟩∧
 Tab.get TBn 47=some ⟨.func,1,8,.nilfn⟩∧
 Tab.get TBn 48=some ⟨.slice 51,1,24,.nil⟩∧
 Tab.get TBn 49=some ⟨.slice 131,1,24,.nil⟩∧
 Tab.get TBn 50=some ⟨.struct [(0,3),(1,9),(2,3),(3,3),(4,36),(5,48),(6,23),(7,49)] false,8,136,.agg [.int .i64 0,.str [],.int .i64 0,.int .i64 0,.nil,.nil,.nil,.nil]⟩∧
 Tab.get TBn 51=some ⟨.struct [(0,3),(1,9),(2,3),(3,3),(4,36),(5,48),(6,23),(7,49)] false,8,136,.agg [.int .i64 0,.str [],.int .i64 0,.int .i64 0,.list 1 [],.list 8 [],.list 9 [],.list 12 []]⟩∧
 Tab.get TBn 52=some ⟨.struct [(0,9),(1,51)] false,9,152,.agg [.str [],.int .i64 0,.str [],.int .i64 0,.int .i64 0,.nil,.nil,.nil,.nil]⟩∧
 Tab.get TBn 53=some ⟨.struct [(0,9),(1,51)] false,9,152,.agg [.str [],.int .i64 0,.str [],.int .i64 0,.int .i64 0,.list 1 [],.list 8 [],.list 9 [],.list 12 []]⟩∧
 Tab.get TBn 54=some ⟨.func,1,8,.nilfn⟩∧
 Tab.get TBn 55=some ⟨.func,1,8,.nilfn⟩∧
 Tab.get TBn 56=some ⟨.func,1,8,.nilfn⟩∧
 Tab.get TBn 57=some ⟨.struct [(0,9),(1,3)] true,2,24,.agg [.str [],.int .i64 0]⟩∧
 Tab.get TBn 58=some ⟨.struct [(0,9),(1,3)] true,2,24,.agg [.str [],.int .i64 0]⟩∧
 Tab.get TBn 59=some ⟨.func,1,8,.nilfn⟩∧
 Tab.get TBn 60=some ⟨.func,1,8,.nilfn⟩∧
 Tab.get TBn 61=some ⟨.func,1,8,.nilfn⟩∧
 Tab.get TBn 62=some ⟨.ptr 64,1,8,.nilptr⟩∧
 Tab.get TBn 63=some ⟨.struct [(0,3),(1,45)] false,2,16,.agg [.int .i64 0,.nilmap]⟩∧
 Tab.get TBn 64=some ⟨.struct [(0,3),(1,45)] false,2,16,.agg [.int .i64 0,.nilmap]⟩∧
 Tab.get TBn 65=some ⟨.func,1,8,.nilfn⟩∧
 Tab.get TBn 66=some ⟨.struct [(0,9),(1,3),(2,3),(3,3)] true,4,40,.agg [.str [],.int .i64 0,.int .i64 0,.int .i64 0]⟩∧
 Tab.get TBn 67=some ⟨.struct [(0,9),(1,3),(2,3),(3,3)] true,4,40,.agg [.str [],.int .i64 0,.int .i64 0,.int .i64 0]⟩∧
 Tab.get TBn 68=some ⟨.func,1,8,.nilfn⟩∧
 Tab.get TBn 69=some ⟨.ptr 71,1,8,.nilptr⟩∧
 Tab.get TBn 70=some ⟨.struct [(0,3),(1,36)] false,2,32,.agg [.int .i64 0,.nil]⟩∧
 Tab.get TBn 71=some ⟨.struct [(0,3),(1,36)] false,2,32,.agg [.int .i64 0,.nil]⟩∧
 Tab.get TBn 72=some ⟨.func,1,8,.nilfn⟩∧
 Tab.get TBn 73=some ⟨.func,1,8,.nilfn⟩∧
 Tab.get TBn 74=some ⟨.func,1,8,.nilfn⟩∧
 Tab.get TBn 75=some ⟨.func,1,8,.nilfn⟩∧
 Tab.get TBn 76=some ⟨.func,1,8,.nilfn⟩∧
 Tab.get TBn 77=some ⟨.func,1,8,.nilfn⟩∧
 Tab.get TBn 78=some ⟨.func,1,8,.nilfn⟩∧
 Tab.get TBn 79=some ⟨.func,1,8,.nilfn⟩∧
 Tab.get TBn 80=some ⟨.func,1,8,.nilfn⟩∧
 Tab.get TBn 81=some ⟨.ptr 84,1,8,.nilptr⟩∧
 Tab.get TBn 82=some ⟨.map 9 67,1,8,.nilmap⟩∧
 Tab.get TBn 83=some ⟨.struct [(0,82)] false,1,8,.agg [.nilmap]⟩∧
 Tab.get TBn 84=some ⟨.struct [(0,82)] false,1,8,.agg [.nilmap]⟩∧
 Tab.get TBn 85=some ⟨.func,1,8,.nilfn⟩∧
 Tab.get TBn 86=some ⟨.map 9 3,1,8,.nilmap⟩∧
 Tab.get TBn 87=some ⟨.func,1,8,.nilfn⟩∧
 Tab.get TBn 88=some ⟨.func,1,8,.nilfn⟩∧
 Tab.get TBn 89=some ⟨.array 4 67,16,160,.agg [.str [],.int .i64 0,.int .i64 0,.int .i64 0,.str [],.int .i64 0,.int .i64 0,.int .i64 0,.str [],.int .i64 0,.int .i64 0,.int .i64 0,.str [],.int .i64 0,.int .i64 0,.int .i64 0]⟩∧
 Tab.get TBn 90=some ⟨.func,1,8,.nilfn⟩∧
 Tab.get TBn 91=some ⟨.func,1,8,.nilfn⟩∧
 Tab.get TBn 92=some ⟨.struct [(0,3),(1,9),(2,3),(3,36),(4,44)] false,11,184,.agg [.int .i64 0,.str [],.int .i64 0,.nil,.int .i64 0,.str [],.int .i64 0,.nil,.nil,.nil,.nil]⟩∧
 Tab.get TBn 93=some ⟨.struct [(0,3),(1,9),(2,3),(3,36),(4,44)] false,11,184,.agg [.int .i64 0,.str [],.int .i64 0,.list 1 [],.int .i64 0,.str [],.int .i64 0,.list 2 [],.list 7 [],.list 8 [],.list 11 []]⟩∧
 Tab.get TBn 94=some ⟨.func,1,8,.nilfn⟩∧
 Tab.get TBn 95=some ⟨.func,1,8,.nilfn⟩∧
 Tab.get TBn 96=some ⟨.func,1,8,.nilfn⟩∧
 Tab.get TBn 97=some ⟨.func,1,8,.nilfn⟩∧
 Tab.get TBn 98=some ⟨.func,1,8,.nilfn⟩∧
 Tab.get TBn 99=some ⟨.func,1,8,.nilfn⟩∧
 Tab.get TBn 101=some ⟨.func,1,8,.nilfn⟩∧
 Tab.get TBn 102=some ⟨.ifc,1,16,.ifc true⟩∧
 Tab.get TBn 103=some ⟨.ifc,1,16,.ifc true⟩∧
 Tab.get TBn 105=some ⟨.func,1,8,.nilfn⟩∧
 Tab.get TBn 106=some ⟨.func,1,8,.nilfn⟩∧
 Tab.get TBn 107=some ⟨.func,1,8,.nilfn⟩∧
 Tab.get TBn 108=some ⟨.func,1,8,.nilfn⟩∧
 Tab.get TBn 109=some ⟨.func,1,8,.nilfn⟩∧
 Tab.get TBn 110=some ⟨.slice 114,1,24,.nil⟩∧
 Tab.get TBn 112=some ⟨.func,1,8,.nilfn⟩∧
 Tab.get TBn 113=some ⟨.struct [(0,28),(1,9),(2,44)] false,9,168,.agg [.nil,.str [],.int .i64 0,.str [],.int .i64 0,.nil,.nil,.nil,.nil]⟩∧
 Tab.get TBn 114=some ⟨.struct [(0,28),(1,9),(2,44)] false,9,168,.agg [.nil,.str [],.int .i64 0,.str [],.int .i64 0,.nil,.nil,.nil,.nil]⟩∧
 Tab.get TBn 115=some ⟨.func,1,8,.nilfn⟩∧
 Tab.get TBn 116=some ⟨.func,1,8,.nilfn⟩∧
 Tab.get TBn 117=some ⟨.func,1,8,.nilfn⟩∧
 Tab.get TBn 118=some ⟨.func,1,8,.nilfn⟩∧
 Tab.get TBn 119=some ⟨.func,1,8,.nilfn⟩∧
 Tab.get TBn 120=some ⟨.func,1,8,.nilfn⟩∧
 Tab.get TBn 121=some ⟨.func,1,8,.nilfn⟩∧
 Tab.get TBn 122=some ⟨.func,1,8,.nilfn⟩∧
 Tab.get TBn 123=some ⟨.func,1,8,.nilfn⟩∧
 Tab.get TBn 124=some ⟨.int .u64,1,8,.int .u64 0⟩∧
 Tab.get TBn 125=some ⟨.func,1,8,.nilfn⟩∧
 Tab.get TBn 126=some ⟨.func,1,8,.nilfn⟩∧
 Tab.get TBn 127=some ⟨.func,1,8,.nilfn⟩∧
 Tab.get TBn 128=some ⟨.func,1,8,.nilfn⟩∧
 Tab.get TBn 129=some ⟨.func,1,8,.nilfn⟩∧
 Tab.get TBn 130=some ⟨.struct [(0,3),(1,9),(2,3),(3,36),(4,51)] false,12,192,.agg [.int .i64 0,.str [],.int .i64 0,.nil,.int .i64 0,.str [],.int .i64 0,.int .i64 0,.nil,.nil,.nil,.nil]⟩∧
 Tab.get TBn 131=some ⟨.struct [(0,3),(1,9),(2,3),(3,36),(4,51)] false,12,192,.agg [.int .i64 0,.str [],.int .i64 0,.list 1 [],.int .i64 0,.str [],.int .i64 0,.int .i64 0,.list 1 [],.list 8 [],.list 9 [],.list 12 []]⟩∧
 Tab.get TBn 132=some ⟨.func,1,8,.nilfn⟩∧
 Tab.get TBn 134=some ⟨.func,1,8,.nilfn⟩∧
 Tab.get TBn 135=some ⟨.map 3 4,1,8,.nilmap⟩∧
 Tab.get TBn 136=some ⟨.func,1,8,.nilfn⟩∧
 Tab.get TBn 137=some ⟨.struct [(0,9),(1,3),(2,4)] true,3,32,.agg [.str [],.int .i64 0,.bool false]⟩∧
 Tab.get TBn 138=some ⟨.struct [(0,9),(1,3),(2,4)] true,3,32,.agg [.str [],.int .i64 0,.bool false]⟩∧
 Tab.get TBn 139=some ⟨.func,1,8,.nilfn⟩∧
 Tab.get TBn 140=some ⟨.func,1,8,.nilfn⟩∧
 Tab.get TBn 141=some ⟨.func,1,8,.nilfn⟩∧
 Tab.get TBn 142=some ⟨.func,1,8,.nilfn⟩∧
 Tab.get TBn 143=some ⟨.func,1,8,.nilfn⟩∧
 Tab.get TBn 144=some ⟨.func,1,8,.nilfn⟩∧
 Tab.get TBn 145=some ⟨.func,1,8,.nilfn⟩∧
 Tab.get TBn 146=some ⟨.func,1,8,.nilfn⟩∧
 Tab.get TBn 147=some ⟨.func,1,8,.nilfn⟩∧
 Tab.get TBn 148=some ⟨.func,1,8,.nilfn⟩∧
 Tab.get TBn 149=some ⟨.func,1,8,.nilfn⟩∧
 Tab.get TBn 151=some ⟨.func,1,8,.nilfn⟩∧
 Tab.get TBn 152=some ⟨.func,1,8,.nilfn⟩∧
 Tab.get TBn 154=some ⟨.func,1,8,.nilfn⟩∧
 Tab.get TBn 155=some ⟨.func,1,8,.nilfn⟩∧
 Tab.get TBn 156=some ⟨.func,1,8,.nilfn⟩∧
 Tab.get TBn 157=some ⟨.func,1,8,.nilfn⟩∧
 Tab.get TBn 158=some ⟨.func,1,8,.nilfn⟩∧
 Tab.get TBn 159=some ⟨.func,1,8,.nilfn⟩∧
 Tab.get TBn 160=some ⟨.func,1,8,.nilfn⟩∧
 Tab.get TBn 161=some ⟨.func,1,8,.nilfn⟩∧
 Tab.get TBn 162=some ⟨.func,1,8,.nilfn⟩∧
 Tab.get TBn 163=some ⟨.int .i64,1,8,.int .i64 0⟩∧
 Tab.get TBn 165=some ⟨.func,1,8,.nilfn⟩∧
 Tab.get TBn 166=some ⟨.func,1,8,.nilfn⟩∧
 Tab.get TBn 167=some ⟨.func,1,8,.nilfn⟩∧
 Tab.get TBn 168=some ⟨.func,1,8,.nilfn⟩∧
 Tab.get TBn 169=some ⟨.func,1,8,.nilfn⟩∧
 Tab.get TBn 170=some ⟨.func,1,8,.nilfn⟩∧
 Tab.get TBn 171=some ⟨.int .u32,1,4,.int .u32 0⟩∧
 Tab.get TBn 172=some ⟨.func,1,8,.nilfn⟩∧
 Tab.get TBn 173=some ⟨.int .u64,1,8,.int .u64 0⟩∧
 Tab.get TBn 174=some ⟨.func,1,8,.nilfn⟩∧
 Tab.get TBn 175=some ⟨.ptr 138,1,8,.nilptr⟩∧
 Tab.get TBn 176=some ⟨.func,1,8,.nilfn⟩∧
 Tab.get TBn 177=some ⟨.func,1,8,.nilfn⟩∧
 Tab.get TBn 178=some ⟨.int .i64,1,8,.int .i64 0⟩∧
 Tab.get TBn 179=some ⟨.slice 5,1,24,.nil⟩∧
 Tab.get TBn 181=some ⟨.func,1,8,.nilfn⟩∧
 Tab.get TBn 182=some ⟨.ptr 200,1,8,.nilptr⟩∧
 Tab.get TBn 183=some ⟨.func,1,8,.nilfn⟩∧
 Tab.get TBn 184=some ⟨.func,1,8,.nilfn⟩∧
 Tab.get TBn 185=some ⟨.func,1,8,.nilfn⟩∧
 Tab.get TBn 186=some ⟨.func,1,8,.nilfn⟩∧
 Tab.get TBn 187=some ⟨.func,1,8,.nilfn⟩∧
 Tab.get TBn 188=some ⟨.func,1,8,.nilfn⟩∧
 Tab.get TBn 189=some ⟨.func,1,8,.nilfn⟩∧
 Tab.get TBn 190=some ⟨.int .u64,1,8,.int .u64 0⟩∧
 Tab.get TBn 191=some ⟨.func,1,8,.nilfn⟩∧
 Tab.get TBn 192=some ⟨.func,1,8,.nilfn⟩∧
 Tab.get TBn 193=some ⟨.func,1,8,.nilfn⟩∧
 Tab.get TBn 194=some ⟨.ptr 3,1,8,.nilptr⟩∧
 Tab.get TBn 195=some ⟨.func,1,8,.nilfn⟩∧
 Tab.get TBn 197=some ⟨.func,1,8,.nilfn⟩∧
 Tab.get TBn 198=some ⟨.func,1,8,.nilfn⟩∧
 Tab.get TBn 199=some ⟨.struct [(0,9),(1,9),(2,103)] false,3,48,.agg [.str [],.str [],.ifc true]⟩∧
 Tab.get TBn 200=some ⟨.struct [(0,9),(1,9),(2,103)] false,3,48,.agg [.str [],.str [],.ifc true]⟩∧
 Tab.get TBn 201=some ⟨.func,1,8,.nilfn⟩∧
 Tab.get TBn 202=some ⟨.array 24 5,24,24,.agg [.int .u8 0,.int .u8 0,.int .u8 0,.int .u8 0,.int .u8 0,.int .u8 0,.int .u8 0,.int .u8 0,.int .u8 0,.int .u8 0,.int .u8 0,.int .u8 0,.int .u8 0,.int .u8 0,.int .u8 0,.int .u8 0,.int .u8 0,.int .u8 0,.int .u8 0,.int .u8 0,.int .u8 0,.int .u8 0,.int .u8 0,.int .u8 0]⟩∧
 Tab.get TBn 203=some ⟨.func,1,8,.nilfn⟩∧
 Tab.get TBn 205=some ⟨.func,1,8,.nilfn⟩∧
 Tab.get TBn 206=some ⟨.func,1,8,.nilfn⟩∧
 Tab.get TBn 207=some ⟨.func,1,8,.nilfn⟩∧
 Tab.get TBn 208=some ⟨.ptr 190,1,8,.nilptr⟩∧
 Tab.get TBn 209=some ⟨.func,1,8,.nilfn⟩∧
 Tab.get TBn 210=some ⟨.func,1,8,.nilfn⟩∧
 Tab.get TBn 211=some ⟨.ptr 5,1,8,.nilptr⟩∧
 Tab.get TBn 212=some ⟨.ptr 214,1,8,.nilptr⟩∧
 Tab.get TBn 213=some ⟨.struct [(0,9)] true,1,16,.agg [.str []]⟩∧
 Tab.get TBn 214=some ⟨.struct [(0,9)] true,1,16,.agg [.str []]⟩∧
 Tab.get TBn 215=some ⟨.func,1,8,.nilfn⟩∧
 Tab.get TBn 216=some ⟨.array 20 173,20,160,.agg [.int .u64 0,.int .u64 0,.int .u64 0,.int .u64 0,.int .u64 0,.int .u64 0,.int .u64 0,.int .u64 0,.int .u64 0,.int .u64 0,.int .u64 0,.int .u64 0,.int .u64 0,.int .u64 0,.int .u64 0,.int .u64 0,.int .u64 0,.int .u64 0,.int .u64 0,.int .u64 0]⟩∧
 Tab.get TBn 217=some ⟨.array 65 5,65,65,.agg [.int .u8 0,.int .u8 0,.int .u8 0,.int .u8 0,.int .u8 0,.int .u8 0,.int .u8 0,.int .u8 0,.int .u8 0,.int .u8 0,.int .u8 0,.int .u8 0,.int .u8 0,.int .u8 0,.int .u8 0,.int .u8 0,.int .u8 0,.int .u8 0,.int .u8 0,.int .u8 0,.int .u8 0,.int .u8 0,.int .u8 0,.int .u8 0,.int .u8 0,.int .u8 0,.int .u8 0,.int .u8 0,.int .u8 0,.int .u8 0,.int .u8 0,.int .u8 0,.int .u8 0,.int .u8 0,.int .u8 0,.int .u8 0,.int .u8 0,.int .u8 0,.int .u8 0,.int .u8 0,.int .u8 0,.int .u8 0,.int .u8 0,.int .u8 0,.int .u8 0,.int .u8 0,.int .u8 0,.int .u8 0,.int .u8 0,.int .u8 0,.int .u8 0,.int .u8 0,.int .u8 0,.int .u8 0,.int .u8 0,.int .u8 0,.int .u8 0,.int .u8 0,.int .u8 0,.int .u8 0,.int .u8 0,.int .u8 0,.int .u8 0,.int .u8 0,.int .u8 0]⟩∧
 Tab.get TBn 218=some ⟨.func,1,8,.nilfn⟩∧
 Tab.get TBn 219=some ⟨.array 32 5,32,32,.agg [.int .u8 0,.int .u8 0,.int .u8 0,.int .u8 0,.int .u8 0,.int .u8 0,.int .u8 0,.int .u8 0,.int .u8 0,.int .u8 0,.int .u8 0,.int .u8 0,.int .u8 0,.int .u8 0,.int .u8 0,.int .u8 0,.int .u8 0,.int .u8 0,.int .u8 0,.int .u8 0,.int .u8 0,.int .u8 0,.int .u8 0,.int .u8 0,.int .u8 0,.int .u8 0,.int .u8 0,.int .u8 0,.int .u8 0,.int .u8 0,.int .u8 0,.int .u8 0]⟩∧
 Tab.get TBn 220=some ⟨.array 64 5,64,64,.agg [.int .u8 0,.int .u8 0,.int .u8 0,.int .u8 0,.int .u8 0,.int .u8 0,.int .u8 0,.int .u8 0,.int .u8 0,.int .u8 0,.int .u8 0,.int .u8 0,.int .u8 0,.int .u8 0,.int .u8 0,.int .u8 0,.int .u8 0,.int .u8 0,.int .u8 0,.int .u8 0,.int .u8 0,.int .u8 0,.int .u8 0,.int .u8 0,.int .u8 0,.int .u8 0,.int .u8 0,.int .u8 0,.int .u8 0,.int .u8 0,.int .u8 0,.int .u8 0,.int .u8 0,.int .u8 0,.int .u8 0,.int .u8 0,.int .u8 0,.int .u8 0,.int .u8 0,.int .u8 0,.int .u8 0,.int .u8 0,.int .u8 0,.int .u8 0,.int .u8 0,.int .u8 0,.int .u8 0,.int .u8 0,.int .u8 0,.int .u8 0,.int .u8 0,.int .u8 0,.int .u8 0,.int .u8 0,.int .u8 0,.int .u8 0,.int .u8 0,.int .u8 0,.int .u8 0,.int .u8 0,.int .u8 0,.int .u8 0,.int .u8 0,.int .u8 0]⟩∧
 Tab.get TBn 221=some ⟨.struct [(0,17),(1,17),(2,17),(3,9)] false,4,40,.agg [.nilptr,.nilptr,.nilptr,.str []]⟩∧
 Tab.get TBn 222=some ⟨.struct [(0,17),(1,17),(2,17),(3,9)] false,4,40,.agg [.nilptr,.nilptr,.nilptr,.str []]⟩∧
 Tab.get TBn 223=some ⟨.array 0 16,0,0,.agg []⟩∧
 Tab.get TBn 224=some ⟨.struct [(0,223)] false,0,0,.agg []⟩∧
 Tab.get TBn 225=some ⟨.struct [(0,223)] false,0,0,.agg []⟩∧
 Tab.get TBn 226=some ⟨.func,1,8,.nilfn⟩∧
 Tab.get TBn 227=some ⟨.int .u8,1,1,.int .u8 0⟩∧
 Tab.get TBn 228=some ⟨.int .u8,1,1,.int .u8 0⟩∧
 Tab.get TBn 229=some ⟨.func,1,8,.nilfn⟩∧
 Tab.get TBn 230=some ⟨.int .i32,1,4,.int .i32 0⟩∧
 Tab.get TBn 231=some ⟨.int .i32,1,4,.int .i32 0⟩∧
 Tab.get TBn 232=some ⟨.struct [(0,12),(1,12),(2,171),(3,227),(4,5),(5,5),(6,228),(7,229),(8,211),(9,230),(10,231)] false,11,48,.agg [.int .u64 0,.int .u64 0,.int .u32 0,.int .u8 0,.int .u8 0,.int .u8 0,.int .u8 0,.nilfn,.nilptr,.int .i32 0,.int .i32 0]⟩∧
 Tab.get TBn 233=some ⟨.struct [(0,12),(1,12),(2,171),(3,227),(4,5),(5,5),(6,228),(7,229),(8,211),(9,230),(10,231)] false,11,48,.agg [.int .u64 0,.int .u64 0,.int .u32 0,.int .u8 0,.int .u8 0,.int .u8 0,.int .u8 0,.nilfn,.nilptr,.int .i32 0,.int .i32 0]⟩:=
 ⟨rfl,rfl,rfl,rfl,rfl,rfl,rfl,rfl,rfl,rfl,rfl,rfl,rfl,rfl,rfl,rfl,rfl,rfl,rfl,rfl,rfl,rfl,rfl,rfl,rfl,rfl,rfl,rfl,rfl,rfl,rfl,rfl,rfl,rfl,rfl,rfl,rfl,rfl,rfl,rfl,rfl,rfl,rfl,rfl,rfl,rfl,rfl,rfl,rfl,rfl,rfl,rfl,rfl,rfl,rfl,rfl,rfl,rfl,rfl,rfl,rfl,rfl,rfl,rfl,rfl,rfl,rfl,rfl,rfl,rfl,rfl,rfl,rfl,rfl,rfl,rfl,rfl,rfl,rfl,rfl,rfl,rfl,rfl,rfl,rfl,rfl,rfl,rfl,rfl,rfl,rfl,rfl,rfl,rfl,rfl,rfl,rfl,rfl,rfl,rfl,rfl,rfl,rfl,rfl,rfl,rfl,rfl,rfl,rfl,rfl,rfl,rfl,rfl,rfl,rfl,rfl,rfl,rfl,rfl,rfl,rfl,rfl,rfl,rfl,rfl,rfl,rfl,rfl,rfl,rfl,rfl,rfl,rfl,rfl,rfl,rfl,rfl,rfl,rfl,rfl,rfl,rfl,rfl,rfl,rfl,rfl,rfl,rfl,rfl,rfl,rfl,rfl,rfl,rfl,rfl,rfl,rfl,rfl,rfl,rfl,rfl,rfl,rfl,rfl,rfl,rfl,rfl,rfl,rfl,rfl,rfl,rfl,rfl,rfl,rfl,rfl,rfl,rfl,rfl,rfl,rfl,rfl,rfl,rfl,rfl,rfl,rfl,rfl,rfl,rfl,rfl,rfl,rfl,rfl,rfl,rfl,rfl,rfl,rfl,rfl,rfl,rfl,rfl,rfl,rfl,rfl,rfl⟩
attribute [go_sem] TBng
theorem tabOKn:TabOK Tryz.prog TBn:=TabOK.cons ok44n tabOK
section
section
variable (E:Ex→Nat→Sg×Nat) (B:Str→Ex→Bool→Nat→List Sb×Nat) (nm:Str) (nn op:Int) (names:List Str) (subs:List Ex) (binds:List Bd) (alts:List Al) (n:Nat)
theorem exprB_at (kd:Int) (h:kd=1∨kd=2):exprB E B (.mk kd nm nn op names subs binds alts) n=(.mk 1 [] 0 [⟨nm,nn⟩] [] [] [],n):=by rw[exprB,if_pos h]
theorem exprB_lam:exprB E B (.mk 3 nm nn op names subs binds alts) n=(wrapF [.bs (B (itT itsL n) (.mk 3 nm nn op names subs binds alts) true (n+1)).1] (.mk 1 [] 0 [⟨itT itsL n,0⟩] [] [] []),(B (itT itsL n) (.mk 3 nm nn op names subs binds alts) true (n+1)).2):=by
 rw[exprB,if_neg (by omega),if_pos rfl]
theorem exprB_con:exprB E B (.mk 7 nm nn op names subs binds alts) n=(wrapF (cellsF B subs n).1.2 (.mk 3 nm 0 (cellsF B subs n).1.1 [] [] []),(cellsF B subs n).2):=by
 rw[exprB,if_neg (by omega),if_neg (by omega),if_pos rfl]
theorem exprB_prim:exprB E B (.mk 8 nm nn op names subs binds alts) n=(wrapF (valsF E subs n).1.2 (.mk 4 [] op (valsF E subs n).1.1 [] [] []),(valsF E subs n).2):=by
 rw[exprB,if_neg (by omega),if_neg (by omega),if_neg (by omega),if_pos rfl]
theorem exprB_app:exprB E B (.mk 4 nm nn op names subs binds alts) n=if (subs.headD noEx).kind=1 then (wrapF (cellsF B (subs.drop 1) n).1.2 (.mk 2 (subs.headD noEx).name 0 (cellsF B (subs.drop 1) n).1.1 [] [] []),(cellsF B (subs.drop 1) n).2)
 else (wrapF (.look (itT itsL n) (E (subs.headD noEx) (n+1)).1::(cellsF B (subs.drop 1) (E (subs.headD noEx) (n+1)).2).1.2) (.mk 2 (itT itsL n) 0 (cellsF B (subs.drop 1) (E (subs.headD noEx) (n+1)).2).1.1 [] [] []),(cellsF B (subs.drop 1) (E (subs.headD noEx) (n+1)).2).2):=by
 rw[exprB,if_neg (by omega),if_neg (by omega),if_neg (by omega),if_neg (by omega),if_pos rfl]
theorem exprB_let:exprB E B (.mk 5 nm nn op names subs binds alts) n=(.mk 6 [] 0 [] [(E (subs.headD noEx) (letsF B (upF binds (subs.headD noEx)) binds n).2).1] (letsF B (upF binds (subs.headD noEx)) binds n).1 [],(E (subs.headD noEx) (letsF B (upF binds (subs.headD noEx)) binds n).2).2):=by
 rw[exprB,if_neg (by omega),if_neg (by omega),if_neg (by omega),if_neg (by omega),if_neg (by omega),if_pos rfl]
theorem exprB_case:exprB E B (.mk 6 nm nn op names subs binds alts) n=(.mk 5 nm 0 [] [(E (subs.headD noEx) n).1] [] (mapN (altN E) alts (E (subs.headD noEx) n).2).1,(mapN (altN E) alts (E (subs.headD noEx) n).2).2):=by
 rw[exprB,if_neg (by omega),if_neg (by omega),if_neg (by omega),if_neg (by omega),if_neg (by omega),if_neg (by omega)]
end
theorem expr_ok (G:Gl) (hG:GClosed G) (hB0:Based G 0) (C0:Cx) (hb0:G.base=some C0) (hl0:LibAt C0) (cs:List Cn) (T:List Str) (m:Nat) (E:Ex→Nat→Sg×Nat) (B:Str→Ex→Bool→Nat→List Sb×Nat)
 (hEx:ExC16 G cs T (fun e=>rqE e≤m) E) (hBd:BdC16 G cs T (fun e=>rqB e≤m) B) (cE:CntE cs E) (cB:CntB cs B) (nB:0<m→∀ s x u n,(B s x u n).1≠[]):ExC16 G cs T (fun e=>rqE e≤m+1) (exprB E B):=by
 intro e H tb mb g0 nx0 hP hw hsh hnx h1 h2
 have hwp:=e.wt_pos
 have nB:=nB (by have:rqE e≤m+1:=hP;unfold rqE at this;omega)
 have l1:=(List.getElem?_eq_some_iff.1 h1).1
 have l2:=(List.getElem?_eq_some_iff.1 h2).1
 obtain⟨kd,nm,nn,op,names,subs,binds,alts⟩:=e
 have hP:3*(Ex.mk kd nm nn op names subs binds alts).wt+(if kd=3 then 2 else 0)≤m+1:=hP
 have hlen:=Ex.wt_lens kd nm nn op names subs binds alts
 have hww:(Ex.mk kd nm nn op names subs binds alts).wt=1+nm.length+strsWt names+exsWt subs+bdsWt binds+alsWt alts:=by simp only[Ex.wt]
 have hnode:=hsh.node
 have hpE:∀ x:Ex,x.wt<(Ex.mk kd nm nn op names subs binds alts).wt→rqE x≤m:=fun x h=>by have:=(rq_sub h).1;omega
 have hpB:∀ x:Ex,x.wt<(Ex.mk kd nm nn op names subs binds alts).wt→rqB x≤m:=fun x h=>by have:=(rq_sub h).2;omega
 have hxs:∀ x∈subs,x.wt<(Ex.mk kd nm nn op names subs binds alts).wt:=fun x hx=>by have:=exsWt_mem hx;omega
 have hxa:∀ x∈alts,x.body.wt<(Ex.mk kd nm nn op names subs binds alts).wt:=fun x hx=>by have:=alsWt_mem hx;have:=x.wt_gt;omega
 have hxb:∀ x∈binds,x.e.wt<(Ex.mk kd nm nn op names subs binds alts).wt:=fun x hx=>by have:=bdsWt_mem hx;have:=x.wt_gt;omega
 obtain⟨Q,q0,qd,hlenQ,qx,qc⟩:=mkQ h1 h2
 simp only[qd]
 rw[← q0]
 have tabOK:=tabOKn
 refine ACall.of_go TBn [10,11,99] tabOKn _ Tryz.func59 rfl (by decide) Tryz.ntmps59 (by simp) rfl (by simp only[initEnv,Nat.reduceAdd];rfl) fun C R' hR hC hcl hB=>?_;have X:=noX;have hC':=congrArg List.length hC
 have hC':=hC'.trans (hlenQ _)
 have hcls:∀ nx,closed (Q nx):=fun nx=>qc (q0 ▸ hcl) nx
 clear q0 h1 h2
 generalize hn0:H.length=n0 at*
 have hx21:=hlenQ
 have hx22:∀ nx L,(Q nx++L)[n0]? =L[0]? :=fun nx L=>by rw[← hlenQ nx];exact get_app0 _ _
 have hx23:∀ nx L k,(Q nx++L)[n0+k]? =L[k]? :=fun nx L k=>by rw[← hlenQ nx];exact get_app _ _ _
 have hx24:∀ nx L x,(Q nx++L).set n0 x=Q nx++L.set 0 x:=fun nx L x=>by rw[← hlenQ nx];exact set_app0 _ _ _
 have hx25:∀ nx L k x,(Q nx++L).set (n0+k) x=Q nx++L.set k x:=fun nx L k x=>by rw[← hlenQ nx];exact set_app _ _ _ _
 have d3:=ndK n0 [0,1,2] (by decide)
 have X:=And.intro noX (And.intro qx (And.intro hx21 (And.intro hx22 (And.intro hx23 (And.intro hx24 hx25)))))
 by_cases h12:kd=1∨kd=2
 ·rw[exprB_at _ _ _ _ _ _ _ _ _ _ _ h12] at hR
  have c1:=fun H=>plain_ok G hG (.mk kd nm nn op names subs binds alts) H
  simp only[Ex.name,Ex.n] at c1
  have hat:isAt (.mk kd nm nn op names subs binds alts)=true:=by rcases h12 with h|h<;>simp[isAt,Ex.kind,h]
  rw[hat] at c1
  rcases h12 with h|h<;>subst h
  ·have X:=And.intro noX (And.intro qx (And.intro hx21 (And.intro hx22 (And.intro hx23 (And.intro hx24 hx25)))))
   (refine run ?_;with_reducible repeat' first|exact trivial|(apply Fork.mk<;>intro hb)|apply Two.mk)
   exact finS (n0:=n0) hR hC' (hcls _) (.agg _ _ (.cons _ _ _ _ (.same _ rfl) (.cons _ _ _ _ (.same _ rfl) (.cons _ _ _ _ (.same _ rfl) (.cons _ _ _ _ (.same _ rfl) (.cons _ _ _ _ (.nil _) (.cons _ _ _ _ (.nil _) (.cons _ _ _ _ (.nil _) .nil)))))))) ⟨rfl,rfl⟩ (hn:=hlenQ _)
  ·have X:=And.intro (And.intro noX (And.intro qx (And.intro hx21 (And.intro hx22 (And.intro hx23 (And.intro hx24 hx25)))))) (show ¬ (2:Int)=1 by omega)
   (refine run ?_;with_reducible repeat' first|exact trivial|(apply Fork.mk<;>intro hb)|apply Two.mk)
   exact finS (n0:=n0) hR hC' (hcls _) (.agg _ _ (.cons _ _ _ _ (.same _ rfl) (.cons _ _ _ _ (.same _ rfl) (.cons _ _ _ _ (.same _ rfl) (.cons _ _ _ _ (.same _ rfl) (.cons _ _ _ _ (.nil _) (.cons _ _ _ _ (.nil _) (.cons _ _ _ _ (.nil _) .nil)))))))) ⟨rfl,rfl⟩ (hn:=hlenQ _)
 by_cases h5:kd=5
 ·subst h5
  rw[exprB_let] at hR
  have hs:subs.length=1:=by unfold shpP at hnode;omega
  have h0:=exsWt_drop1 (l:=subs) (by omega)
  have hmm:=headD_mem (l:=subs) (by omega)
  have hg0:(exCells subs)[0]? =some (subs.headD noEx).sv:=by
   cases subs with
   |nil=>simp at hs
   |cons a r=>rfl
  have hcx:=fun nx L (h:nx+(subs.headD noEx).wt≤4294967290)=>hEx (subs.headD noEx) (Q nx++L) tb mb g0 nx (hpE _ (hxs _ hmm)) (by have:=hxs _ hmm;omega) (hsh.sub hmm) h (qx.2.1 _ _) (qx.1 _ _)
  have hst:=fun s H=>straight_ok G hG hB0 cs (subs.headD noEx) s H (by have:=hxs _ hmm;omega) (hsh.sub hmm)
  have hlc:=letsF_cnt cB (upF binds (subs.headD noEx)) binds nx0 fun b hb=>hsh.bind hb
  have hx8:=(subs.headD noEx).cells_len
  have hx8d:=(subs.headD noEx).cells_drop8
  have hx8t:=(subs.headD noEx).cells_take
  generalize (subs.headD noEx).wt=xw at*
  generalize subs.headD noEx=x0 at*
  rw[show x0.sv= .agg x0.cells from rfl] at*
  clear hmm
  generalize hxc:x0.cells=xc at*
  clear hxc
  have under_ints:=sbCells_under
  have d4:=ndK n0 [0,1,2,3] (by decide)
  have X:=And.intro (And.intro noX (And.intro qx (And.intro hx21 (And.intro hx22 (And.intro hx23 (And.intro hx24 hx25)))))) (And.intro (show ¬ (5:Int)=1 by omega) (show ¬ (5:Int)=2 by omega))
  (refine run ?_;with_reducible repeat' first|exact trivial|(apply Fork.mk<;>intro hb)|apply Two.mk)
  refine go_loop (fun a:Nat×List Sb×Nat=>[(0,.ptr mb g0 0 0),(3,.ptr n0 0 0 0),(4,.ptr (n0+1) 0 0 0),(11,.sl (n0+3) 0 0 a.2.1.length),(115,.list 9 (bdCells binds)),(116,.int .i64 binds.length),(117,.int .i64 (a.1:Int))])
   (fun a=>Q a.2.2++[.cells 0 8 [.agg [.int .i64 5,.str nm,.int .i64 nn,.int .i64 op,.list 1 (names.map .str),.list 8 (exCells subs),.list 9 (bdCells binds),.list 12 (alCells alts)]],.cells 0 7 [.agg [.int .i64 0,.str [],.int .i64 0,.nil,.nil,.nil,.nil]],.cells 0 7 [.agg [.int .i64 0,.str nm,.int .i64 0,.nil,.nil,.nil,.nil]],.cells 0 8 (sbCells a.2.1)]) (fun a=>binds.length - a.1)
   (fun a=>(a.1≤binds.length∧a.2.1.length+bdsWt (binds.drop a.1)≤bdsWt binds∧a.2.2+bdsWt (binds.drop a.1)≤nx0+bdsWt binds)∧letsF B (upF binds x0) binds nx0=(a.2.1++(letsF B (upF binds x0) (binds.drop a.1) a.2.2).1,(letsF B (upF binds x0) (binds.drop a.1) a.2.2).2)) (0,[],nx0) ⟨⟨Nat.zero_le _,by simp,Nat.le_refl _⟩,rfl⟩ ?_ ?_
  ·simp only[show sbCells []=[] from rfl,List.length_nil]
   exact wkS (n0:=n0) [(n0,0),(n0+1,0),(n0+2,0),(n0+3,0)] hG hB hC' (hcls _) (hn:=hlenQ _) (hd:=d4)
  rintro K2 ⟨i,D,nx⟩ ⟨⟨hi1,hD,hnw⟩,hmp⟩ hK2
  simp only at hi1 hD hnw hmp
  dsimp only
  rcases Nat.lt_or_ge i binds.length with hlt|hge
  ·have hmem:=List.getElem_mem hlt
   have hxw:=bdsWt_mem hmem
   have hxg:=binds[i].wt_gt
   have hdr:=bdsWt_drop hlt
   have hcut:=letsF_cut hlt hmp
   have hcall:=fun L=>hBd binds[i].name binds[i].e (upF binds x0 binds[i]) (Q nx++L) tb mb g0 nx (hpB _ (hxb _ hmem)) (by have:=hxb _ hmem;omega) (hsh.bind hmem) (by split<;>omega) (qx.2.1 _ _) (qx.1 _ _)
   have hcn:=cB binds[i].name binds[i].e (upF binds x0 binds[i]) nx (hsh.bind hmem)
   have hup:upF binds x0 binds[i]=!(decide (binds.length=1)&&!decide (binds[i].name∈freeS binds[i].e)&&straS x0 binds[i].name):=rfl
   have hcg:(bdCells binds)[i]? =some (.agg (.str binds[i].name::binds[i].e.cells)):=by rw[bdCells_map,List.getElem?_map,List.getElem?_eq_getElem hlt,Option.map_some,Bd.sv,Bd.cells_eq]
   have c3:=fun H=>hst binds[i].name H
   have hfl:(freeS binds[i].e).length≤binds[i].e.wt:=by
    have:=unb_len binds[i].e.wt binds[i].e ([],[])
    rw[freeS,sortS_len]
    simpa using this
   have c2:=fun H=>contains_list G (freeS binds[i].e) binds[i].name H (by omega)
   have c1:=fun H=>ACall.frz (strs_under _ _) (List.length_map ..) (free_ok G hG binds[i].e H (by omega))
   generalize upF binds x0 binds[i]=u at*
   generalize straS x0 binds[i].name=sv at*
   generalize freeS binds[i].e=F at*
   generalize binds[i].wt=wb at*
   generalize binds[i].name=bn at*
   generalize hbe:binds[i].e=be at*
   clear hbe hmem
   obtain⟨k2,n2,nn2,op2,ns2,ss2,bs2,as2⟩:=be
   generalize B bn (.mk k2 n2 nn2 op2 ns2 ss2 bs2 as2) u nx=r0 at*
   obtain⟨bs,nx2⟩:=r0
   simp only at hcall hcn hcut
   generalize (Ex.mk k2 n2 nn2 op2 ns2 ss2 bs2 as2).wt=ew at*
   rw[show(Ex.mk k2 n2 nn2 op2 ns2 ss2 bs2 as2).cells=[.int .i64 k2,.str n2,.int .i64 nn2,.int .i64 op2,.list 1 (ns2.map .str),.list 8 (exCells ss2),.list 9 (bdCells bs2),.list 12 (alCells as2)] from rfl] at hcg
   rw[show(Ex.mk k2 n2 nn2 op2 ns2 ss2 bs2 as2).sv= .agg [.int .i64 k2,.str n2,.int .i64 nn2,.int .i64 op2,.list 1 (ns2.map .str),.list 8 (exCells ss2),.list 9 (bdCells bs2),.list 12 (alCells as2)] from rfl] at*
   have hsn:=sbCells_app D bs
   have hDl:=sbCells_len D
   have hbl:=sbCells_len bs
   by_cases hb1:binds.length=1
   ·have hb1':(binds.length:Int)=1:=by omega
    by_cases hin:bn∈F
    ·rw[decide_eq_true hin,Bool.not_true,Bool.and_false,Bool.false_and,Bool.not_false] at hup
     rw[decide_eq_true hin] at c2
     subst hup
     have X:=And.intro (And.intro noX (And.intro qx (And.intro hx21 (And.intro hx22 (And.intro hx23 (And.intro hx24 hx25)))))) (And.intro hcg (And.intro hg0 (And.intro hx8 (And.intro hx8d (And.intro hx8t (And.intro hb1' (And.intro hsn (And.intro hDl hbl))))))))
     (refine run ?_;with_reducible repeat' first|exact trivial|(apply Fork.mk<;>intro hb)|apply Two.mk)
     (refine callS (hcall _) ?_;rintro r H' ⟨rfl,rfl⟩;rw[qx.2.2];(refine run ?_;with_reducible repeat' first|exact trivial|(apply Fork.mk<;>intro hb)|apply Two.mk);refine hK2 _ _ (i+1,D++bs,nx2) (by simp only;omega) ⟨⟨by simp only;omega,by simp only[List.length_append];omega,by simp only;omega⟩,hcut⟩ ?_;simp only[List.length_append];exact wkS (n0:=n0) [(n0,0),(n0+1,0),(n0+2,0),(n0+3,0)] hG hB hC' (hcls _) (hn:=hlenQ _) (hd:=d4))
    ·rw[decide_eq_false hin,decide_eq_true hb1,Bool.not_false,Bool.and_true,Bool.true_and] at hup
     rw[decide_eq_false hin] at c2
     subst hup
     have X:=And.intro (And.intro noX (And.intro qx (And.intro hx21 (And.intro hx22 (And.intro hx23 (And.intro hx24 hx25)))))) (And.intro hcg (And.intro hg0 (And.intro hx8 (And.intro hx8d (And.intro hx8t (And.intro hb1' (And.intro hsn (And.intro hDl hbl))))))))
     (refine run ?_;with_reducible repeat' first|exact trivial|(apply Fork.mk<;>intro hb)|apply Two.mk)
     (refine callS (hcall _) ?_;rintro r H' ⟨rfl,rfl⟩;rw[qx.2.2];(refine run ?_;with_reducible repeat' first|exact trivial|(apply Fork.mk<;>intro hb)|apply Two.mk);refine hK2 _ _ (i+1,D++bs,nx2) (by simp only;omega) ⟨⟨by simp only;omega,by simp only[List.length_append];omega,by simp only;omega⟩,hcut⟩ ?_;simp only[List.length_append];exact wkS (n0:=n0) [(n0,0),(n0+1,0),(n0+2,0),(n0+3,0)] hG hB hC' (hcls _) (hn:=hlenQ _) (hd:=d4))
   ·have hb1':¬ (binds.length:Int)=1:=by omega
    rw[decide_eq_false hb1,Bool.false_and,Bool.false_and,Bool.not_false] at hup
    subst hup
    have X:=And.intro (And.intro noX (And.intro qx (And.intro hx21 (And.intro hx22 (And.intro hx23 (And.intro hx24 hx25)))))) (And.intro hcg (And.intro hg0 (And.intro hx8 (And.intro hx8d (And.intro hx8t (And.intro hb1' (And.intro hsn (And.intro hDl hbl))))))))
    (refine run ?_;with_reducible repeat' first|exact trivial|(apply Fork.mk<;>intro hb)|apply Two.mk)
    (refine callS (hcall _) ?_;rintro r H' ⟨rfl,rfl⟩;rw[qx.2.2];(refine run ?_;with_reducible repeat' first|exact trivial|(apply Fork.mk<;>intro hb)|apply Two.mk);refine hK2 _ _ (i+1,D++bs,nx2) (by simp only;omega) ⟨⟨by simp only;omega,by simp only[List.length_append];omega,by simp only;omega⟩,hcut⟩ ?_;simp only[List.length_append];exact wkS (n0:=n0) [(n0,0),(n0+1,0),(n0+2,0),(n0+3,0)] hG hB hC' (hcls _) (hn:=hlenQ _) (hd:=d4))
  clear hK2
  have hni:¬ (i:Int)<(binds.length:Int):=by omega
  rw[List.drop_eq_nil_of_le hge] at hmp hnw hD
  simp only[letsF,List.append_nil] at hmp
  rw[hmp] at hR
  simp only at hR
  have hcx:=fun L=>hcx nx L (by simp only[bdsWt] at hnw;omega)
  generalize E x0 nx=r1 at*
  obtain⟨y,nx3⟩:=r1
  simp only at hcx hR
  have hy7:=y.cells_len
  have hy7t:=y.cells_take
  have hy7d:y.cells.drop 7=[]:=List.drop_eq_nil_of_le (by omega)
  have X:=And.intro (And.intro noX (And.intro qx (And.intro hx21 (And.intro hx22 (And.intro hx23 (And.intro hx24 hx25)))))) (And.intro hni (And.intro hg0 (And.intro hx8 (And.intro hx8d (And.intro hx8t (And.intro hy7 (And.intro hy7t hy7d)))))))
  (refine run ?_;with_reducible repeat' first|exact trivial|(apply Fork.mk<;>intro hb)|apply Two.mk)
  refine callS (hcx _) ?_
  rintro r H' ⟨rfl,rfl⟩
  rw[qx.2.2,show y.sv= .agg y.cells from rfl]
  (refine run ?_;with_reducible repeat' first|exact trivial|(apply Fork.mk<;>intro hb)|apply Two.mk)
  exact finS (n0:=n0) hR hC' (hcls _) (.agg _ _ (.cons _ _ _ _ (.same _ rfl) (.cons _ _ _ _ (.same _ rfl) (.cons _ _ _ _ (.same _ rfl) (.cons _ _ _ _ (.nil _) (.cons _ _ _ _ (.same _ (by simp only[SV.under,SV.underL,Sg.cells_under,Bool.and_self])) (.cons _ _ _ _ (Frz.sf (g:=0) (sz:=8) (vals:=sbCells D) (by rw[hx23];rfl) (by omega) (by simp) (by simp) (sbCells_under _ _)) (.cons _ _ _ _ (.nil _) .nil)))))))) ⟨rfl,rfl⟩ (hn:=hlenQ _)
 have hn1:¬ kd=1:=fun h=>h12 (.inl h)
 have hn2:¬ kd=2:=fun h=>h12 (.inr h)
 generalize hres:exprB E B (.mk kd nm nn op names subs binds alts) nx0=res at hR
 have X:=And.intro noX (And.intro qx (And.intro hx21 (And.intro hx22 (And.intro hx23 (And.intro hx24 hx25)))))
 (refine runB ?_;with_reducible repeat' first|exact trivial|(apply Fork.mk<;>intro hb)|apply Two.mk)
 refine go_cut (fun a:Sg×List Ar×Nat=>[(4,.ptr (n0+1) 0 0 0),(5,.ptr (n0+2) 0 0 0),(6,.list 9 (arCells a.2.1))])
  (fun a=>Q a.2.2++[.cells 0 8 [.agg [.int .i64 kd,.str nm,.int .i64 nn,.int .i64 op,.list 1 (names.map .str),.list 8 (exCells subs),.list 9 (bdCells binds),.list 12 (alCells alts)]],.cells 0 7 [.agg [.int .i64 0,.str [],.int .i64 0,.nil,.nil,.nil,.nil]],.cells 0 7 [.agg a.1.cells]]) (fun a=>(∀ x∈a.2.1,x.ok)∧a.2.1.length<1099511627776∧(wrapF a.2.1 a.1,a.2.2)=res) (fun K hK=>?_) ?_
 rotate_left
 ·rintro⟨e0,W,nx⟩ ⟨ha1,ha2,ha3⟩
  simp only at ha1 ha2 ha3
  subst ha3
  simp only at hR ⊢
  have he7:=e0.cells_len
  have he7t:=e0.cells_take
  have he7d:e0.cells.drop 7=[]:=List.drop_eq_nil_of_le (by omega)
  have c1:=fun H=>wrapped_ok G hG W ha1 ha2 e0 H
  have hru:=fun n=>Sg.cells_under n (wrapF W e0)
  have hr7:=(wrapF W e0).cells_len
  have hr7t:=(wrapF W e0).cells_take
  rw[show(wrapF W e0).sv= .agg (wrapF W e0).cells from rfl] at*
  generalize (wrapF W e0).cells=rc at*
  have X:=And.intro (And.intro noX (And.intro qx (And.intro hx21 (And.intro hx22 (And.intro hx23 (And.intro hx24 hx25)))))) (And.intro he7 (And.intro he7t (And.intro he7d (And.intro hr7 hr7t))))
  (refine run ?_;with_reducible repeat' first|exact trivial|(apply Fork.mk<;>intro hb)|apply Two.mk)
  exact finS (n0:=n0) hR hC' (hcls _) (.same _ (by simp only[resSV,SV.under,hru])) ⟨rfl,rfl⟩ (hn:=hlenQ _)
 have under_ints:=atCells_under
 have under_bools:=arCells_under
 have under_mint:=sbCells_under
 have hjoin:∀ (e0:Sg) (W:List Ar) (nx:Nat),(∀ x∈W,x.ok)→W.length<1099511627776→(wrapF W e0,nx)=res→∀ env H',Wk G 204 C ⟨env,H'⟩ ⟨[(4,.ptr (n0+1) 0 0 0),(5,.ptr (n0+2) 0 0 0),(6,.list 9 (arCells W))],Q nx++[.cells 0 8 [.agg [.int .i64 kd,.str nm,.int .i64 nn,.int .i64 op,.list 1 (names.map .str),.list 8 (exCells subs),.list 9 (bdCells binds),.list 12 (alCells alts)]],.cells 0 7 [.agg [.int .i64 0,.str [],.int .i64 0,.nil,.nil,.nil,.nil]],.cells 0 7 [.agg e0.cells]]⟩→K env H':=fun e0 W nx q1 q2 q3 env H' hw=>hK _ _ (e0,W,nx) ⟨q1,q2,q3⟩ hw
 clear hK hR
 by_cases h3:kd=3
 ·subst h3
  rw[exprB_lam] at hres
  have hcb:=fun L=>hBd (itT itsL nx0) (.mk 3 nm nn op names subs binds alts) true (Q (nx0+1)++L) tb mb g0 (nx0+1) (by show rqB _≤m;unfold rqB;rw[if_pos rfl] at hP;omega) hw hsh (by show _≤4294967290+1;omega) (qx.2.1 _ _) (qx.1 _ _)
  have hbn:=nB (itT itsL nx0) (.mk 3 nm nn op names subs binds alts) true (nx0+1)
  generalize B (itT itsL nx0) (.mk 3 nm nn op names subs binds alts) true (nx0+1)=r0 at*
  obtain⟨bs,nx2⟩:=r0
  simp only at hcb hbn hres
  have X:=And.intro (And.intro noX (And.intro qx (And.intro hx21 (And.intro hx22 (And.intro hx23 (And.intro hx24 hx25)))))) (And.intro hn1 hn2)
  (refine run ?_;with_reducible repeat' first|exact trivial|(apply Fork.mk<;>intro hb)|apply Two.mk)
  refine callS (fresh_ok G hG C0 hb0 hl0 mb g0 nx0 (.map tb) _ (qx.1 _ _) (by omega)) ?_
  rintro r H' ⟨rfl,rfl⟩
  rw[qx.2.2]
  generalize itT itsL nx0=tt at*
  (refine run ?_;with_reducible repeat' first|exact trivial|(apply Fork.mk<;>intro hb)|apply Two.mk)
  refine callS (hcb _) ?_
  rintro r H' ⟨rfl,rfl⟩
  rw[qx.2.2]
  (refine run ?_;with_reducible repeat' first|exact trivial|(apply Fork.mk<;>intro hb)|apply Two.mk)
  refine hjoin (.mk 1 [] 0 [⟨tt,0⟩] [] [] []) [.bs bs] nx2 (by intro x hx;rw[List.mem_singleton.1 hx];exact hbn) (by simp) hres _ _ ?_
  simp only[Sg.cells,atCells,sgCells,sbCells,slCells,arCells,List.map_cons,List.map_nil,Ar.cells,sgZ,At.cells]
  exact wkS (n0:=n0) [(n0,0),(n0+1,0),(n0+2,0)] hG hB hC' (hcls _) (hn:=hlenQ _) (hd:=d3)
 by_cases h7:kd=7
 ·subst h7
  rw[exprB_con] at hres
  have hcc:=fun L=>cells_ok G hG C0 hb0 hl0 cs T (fun e=>rqB e≤m) B hBd cB subs (Q nx0++L) tb mb g0 nx0 (fun x hx=>⟨hpB x (hxs x hx),hsh.sub hx⟩) (by omega) (by omega) (qx.2.1 _ _) (qx.1 _ _)
  have hcn:=cellsF_cnt cB subs nx0 fun x hx=>hsh.sub hx
  have hok:=cellsF_ok subs nx0 nB
  generalize cellsF B subs nx0=r0 at*
  obtain⟨⟨A,W⟩,nx2⟩:=r0
  simp only at hcc hcn hres hok
  have X:=And.intro (And.intro noX (And.intro qx (And.intro hx21 (And.intro hx22 (And.intro hx23 (And.intro hx24 hx25)))))) (And.intro hn1 (And.intro hn2 h3))
  (refine run ?_;with_reducible repeat' first|exact trivial|(apply Fork.mk<;>intro hb)|apply Two.mk)
  refine callS (hcc _) ?_
  rintro r H' ⟨rfl,rfl⟩
  rw[qx.2.2]
  (refine run ?_;with_reducible repeat' first|exact trivial|(apply Fork.mk<;>intro hb)|apply Two.mk)
  refine hjoin (.mk 3 nm 0 A [] [] []) W nx2 hok (by omega) hres _ _ ?_
  simp only[Sg.cells,sgCells,sbCells,slCells,List.map_cons,List.map_nil]
  exact wkS (n0:=n0) [(n0,0),(n0+1,0),(n0+2,0)] hG hB hC' (hcls _) (hn:=hlenQ _) (hd:=d3)
 by_cases h8:kd=8
 ·subst h8
  rw[exprB_prim] at hres
  have hnm:nm=[]:=List.length_eq_zero_iff.1 (by unfold shpP at hnode;omega)
  subst hnm
  have hcc:=fun L=>values_ok G hG C0 hb0 hl0 cs T (fun e=>rqE e≤m) E hEx cE subs (Q nx0++L) tb mb g0 nx0 (fun x hx=>⟨hpE x (hxs x hx),hsh.sub hx⟩) (by omega) (by omega) (qx.2.1 _ _) (qx.1 _ _)
  have hcn:=valsF_cnt cE subs nx0 fun x hx=>hsh.sub hx
  have hok:=valsF_ok (E:=E) subs nx0
  generalize valsF E subs nx0=r0 at*
  obtain⟨⟨A,W⟩,nx2⟩:=r0
  simp only at hcc hcn hres hok
  have X:=And.intro (And.intro noX (And.intro qx (And.intro hx21 (And.intro hx22 (And.intro hx23 (And.intro hx24 hx25)))))) (And.intro hn1 (And.intro hn2 (And.intro h3 h7)))
  (refine run ?_;with_reducible repeat' first|exact trivial|(apply Fork.mk<;>intro hb)|apply Two.mk)
  all_goals
   refine callS (hcc _) ?_
   rintro r H' ⟨rfl,rfl⟩
   rw[qx.2.2]
   (refine run ?_;with_reducible repeat' first|exact trivial|(apply Fork.mk<;>intro hb)|apply Two.mk)
   refine hjoin (.mk 4 [] op A [] [] []) W nx2 hok (by omega) hres _ _ ?_
   simp only[Sg.cells,sgCells,sbCells,slCells,List.map_cons,List.map_nil]
   exact wkS (n0:=n0) [(n0,0),(n0+1,0),(n0+2,0)] hG hB hC' (hcls _) (hn:=hlenQ _) (hd:=d3)
 by_cases h4:kd=4
 ·subst h4
  rw[exprB_app] at hres
  have hr1:=fun h:(subs.headD noEx).kind=1=>(if_pos h).symm.trans hres
  have hr2:=fun h:¬ (subs.headD noEx).kind=1=>(if_neg h).symm.trans hres
  clear hres
  have hs:=hsh.app
  have h0:=exsWt_drop1 (l:=subs) (by omega)
  have hmm:=headD_mem (l:=subs) (by omega)
  have hg0:(exCells subs)[0]? =some (subs.headD noEx).sv:=by
   cases subs with
   |nil=>simp at hs
   |cons a r=>rfl
  have hdr:(exCells subs).drop 1=exCells (subs.drop 1):=by rw[exCells_map,exCells_map,List.map_drop]
  have hsl:(exCells subs).length=subs.length:=exCells_len _
  have hs1:(1:Int)≤(subs.length:Int):=by omega
  have hcc:=fun nx L (h:nx+exsWt (subs.drop 1)+1≤4294967290)=>cells_ok G hG C0 hb0 hl0 cs T (fun e=>rqB e≤m) B hBd cB (subs.drop 1) (Q nx++L) tb mb g0 nx (fun x hx=>⟨hpB x (hxs x (List.mem_of_mem_drop hx)),hsh.sub (List.mem_of_mem_drop hx)⟩) (by omega) h (qx.2.1 _ _) (qx.1 _ _)
  have hcn:=fun nx=>cellsF_cnt cB (subs.drop 1) nx fun x hx=>hsh.sub (List.mem_of_mem_drop hx)
  have hok:=fun nx=>cellsF_ok (B:=B) (subs.drop 1) nx nB
  have hdl:(subs.drop 1).length+1=subs.length:=by rw[List.length_drop];omega
  have hcx:=fun L=>hEx (subs.headD noEx) (Q (nx0+1)++L) tb mb g0 (nx0+1) (hpE _ (hxs _ hmm)) (by have:=hxs _ hmm;omega) (hsh.sub hmm) (by omega) (qx.2.1 _ _) (qx.1 _ _)
  have hce:=cE (subs.headD noEx) (nx0+1) (hsh.sub hmm)
  have hpos:=(subs.headD noEx).wt_pos
  generalize (subs.headD noEx).wt=xw at*
  generalize exsWt (subs.drop 1)=rw0 at*
  generalize subs.drop 1=rest at*
  generalize hx:subs.headD noEx=x at*
  generalize E x (nx0+1)=r1 at*
  obtain⟨y,nx2⟩:=r1
  simp only at hcx hce hr2
  clear hx hmm
  have htk:List.take (subs.length - 1) (exCells rest)=exCells rest:=List.take_of_length_le (by rw[exCells_len];omega)
  obtain⟨k2,n2,nn2,op2,ns2,ss2,bs2,as2⟩:=x
  rw[show(Ex.mk k2 n2 nn2 op2 ns2 ss2 bs2 as2).sv= .agg [.int .i64 k2,.str n2,.int .i64 nn2,.int .i64 op2,.list 1 (ns2.map .str),.list 8 (exCells ss2),.list 9 (bdCells bs2),.list 12 (alCells as2)] from rfl] at*
  by_cases hk:k2=1
  ·have hres:=hr1 hk
   clear hr1 hr2
   simp only[Ex.name] at hres
   have hcc:=fun L=>hcc nx0 L (by omega)
   have hcn:=hcn nx0
   have hok:=hok nx0
   generalize cellsF B rest nx0=r0 at*
   obtain⟨⟨A,W⟩,nx3⟩:=r0
   simp only at hcc hcn hres hok
   have X:=And.intro (And.intro noX (And.intro qx (And.intro hx21 (And.intro hx22 (And.intro hx23 (And.intro hx24 hx25)))))) (And.intro hn1 (And.intro hn2 (And.intro h3 (And.intro h7 (And.intro h8 (And.intro hg0 (And.intro hk (And.intro hdr (And.intro hsl (And.intro hs1 htk))))))))))
   have hWl:=arCells_len W
   have hln:(exCells rest).length=rest.length:=exCells_len _
   (refine run ?_;with_reducible repeat' first|exact trivial|(apply Fork.mk<;>intro hb)|apply Two.mk)
   refine callS (hcc _) ?_
   rintro r H' ⟨rfl,rfl⟩
   rw[qx.2.2]
   have X:=And.intro (And.intro noX (And.intro qx (And.intro hx21 (And.intro hx22 (And.intro hx23 (And.intro hx24 hx25)))))) hWl
   (refine run ?_;with_reducible repeat' first|exact trivial|(apply Fork.mk<;>intro hb)|apply Two.mk)
   refine hjoin (.mk 2 n2 0 A [] [] []) W nx3 hok (by omega) hres _ _ ?_
   simp only[Sg.cells,sgCells,sbCells,slCells,List.map_cons,List.map_nil]
   exact wkS (n0:=n0) [(n0,0),(n0+1,0),(n0+2,0)] hG hB hC' (hcls _) (hn:=hlenQ _) (hd:=d3)
  ·have hres:=hr2 hk
   clear hr1 hr2
   have hcc:=fun L=>hcc nx2 L (by omega)
   have hcn:=hcn nx2
   have hok:=hok nx2
   generalize cellsF B rest nx2=r0 at*
   obtain⟨⟨A,W⟩,nx3⟩:=r0
   simp only at hcc hcn hres hok
   have hy7:=y.cells_len
   have hy7t:=y.cells_take
   have hy7d:y.cells.drop 7=[]:=List.drop_eq_nil_of_le (by omega)
   have X:=And.intro (And.intro noX (And.intro qx (And.intro hx21 (And.intro hx22 (And.intro hx23 (And.intro hx24 hx25)))))) (And.intro hn1 (And.intro hn2 (And.intro h3 (And.intro h7 (And.intro h8 (And.intro hg0 (And.intro hk (And.intro hdr (And.intro hsl (And.intro hs1 (And.intro htk (And.intro hy7 (And.intro hy7t hy7d)))))))))))))
   (refine run ?_;with_reducible repeat' first|exact trivial|(apply Fork.mk<;>intro hb)|apply Two.mk)
   refine callS (fresh_ok G hG C0 hb0 hl0 mb g0 nx0 (.map tb) _ (qx.1 _ _) (by omega)) ?_
   rintro r H' ⟨rfl,rfl⟩
   rw[qx.2.2]
   generalize itT itsL nx0=tt at*
   (refine run ?_;with_reducible repeat' first|exact trivial|(apply Fork.mk<;>intro hb)|apply Two.mk)
   refine xcallS (hcx _) ?_
   rintro r H' ⟨rfl,rfl⟩
   rw[qx.2.2,show y.sv= .agg y.cells from rfl]
   (refine run ?_;with_reducible repeat' first|exact trivial|(apply Fork.mk<;>intro hb)|apply Two.mk)
   refine callS (hcc _) ?_
   rintro r H' ⟨rfl,rfl⟩
   rw[qx.2.2]
   have hWl:=arCells_len W
   have hcons:SV.agg (.nil:: .str tt::(y.cells++[]))::arCells W=arCells (.look tt y::W):=by rw[List.append_nil];rfl
   have X:=And.intro (And.intro noX (And.intro qx (And.intro hx21 (And.intro hx22 (And.intro hx23 (And.intro hx24 hx25)))))) (And.intro hWl (And.intro hy7 (And.intro hy7t (And.intro hy7d hcons))))
   (refine run ?_;with_reducible repeat' first|exact trivial|(apply Fork.mk<;>intro hb)|apply Two.mk)
   rw[show 1+W.length=(Ar.look tt y::W).length by simp only[List.length_cons];omega]
   refine hjoin (.mk 2 tt 0 A [] [] []) (.look tt y::W) nx3 (by intro x hx;rcases List.mem_cons.1 hx with rfl|hx;trivial;exact hok x hx) (by simp only[List.length_cons];omega) hres _ _ ?_
   generalize Ar.look tt y::W=W2 at*
   simp only[Sg.cells,sgCells,sbCells,slCells,List.map_cons,List.map_nil]
   exact wkS (n0:=n0) [(n0,0),(n0+1,0),(n0+2,0)] hG hB hC' (hcls _) (hn:=hlenQ _) (hd:=d3)
 by_cases h6:kd=6
 ·subst h6
  rw[exprB_case] at hres
  have hs:subs.length=1:=by unfold shpP at hnode;omega
  have h0:=exsWt_drop1 (l:=subs) (by omega)
  have hmm:=headD_mem (l:=subs) (by omega)
  have hg0:(exCells subs)[0]? =some (subs.headD noEx).sv:=by
   cases subs with
   |nil=>simp at hs
   |cons a r=>rfl
  have hcx:=fun L=>hEx (subs.headD noEx) (Q nx0++L) tb mb g0 nx0 (hpE _ (hxs _ hmm)) (by have:=hxs _ hmm;omega) (hsh.sub hmm) (by omega) (qx.2.1 _ _) (qx.1 _ _)
  have hce:=cE (subs.headD noEx) nx0 (hsh.sub hmm)
  have hx8:=(subs.headD noEx).cells_len
  have hx8d:=(subs.headD noEx).cells_drop8
  have hx8t:=(subs.headD noEx).cells_take
  generalize (subs.headD noEx).wt=xw at*
  generalize hx:subs.headD noEx=x at*
  generalize E x nx0=r1 at*
  obtain⟨y,nx1⟩:=r1
  simp only at hcx hce hres
  rw[show x.sv= .agg x.cells from rfl] at*
  clear hx hmm
  generalize x.cells=xc at*
  have hy7:=y.cells_len
  have hy7t:=y.cells_take
  have hy7d:y.cells.drop 7=[]:=List.drop_eq_nil_of_le (by omega)
  have X:=And.intro (And.intro noX (And.intro qx (And.intro hx21 (And.intro hx22 (And.intro hx23 (And.intro hx24 hx25)))))) (And.intro hn1 (And.intro hn2 (And.intro h3 (And.intro h7 (And.intro h8 (And.intro h4 (And.intro hg0 (And.intro hx8 (And.intro hx8d (And.intro hx8t (And.intro hy7 (And.intro hy7t hy7d))))))))))))
  (refine run ?_;with_reducible repeat' first|exact trivial|(apply Fork.mk<;>intro hb)|apply Two.mk)
  refine callS (hcx _) ?_
  rintro r H' ⟨rfl,rfl⟩
  rw[qx.2.2,show y.sv= .agg y.cells from rfl]
  (refine run ?_;with_reducible repeat' first|exact trivial|(apply Fork.mk<;>intro hb)|apply Two.mk)
  have d4:=ndK n0 [0,1,2,3] (by decide)
  refine go_loop (fun a:Nat×List Sl×Nat=>[(0,.ptr mb g0 0 0),(3,.ptr n0 0 0 0),(4,.ptr (n0+1) 0 0 0),(5,.ptr (n0+2) 0 0 0),(6,.nil),(175,.list 12 (alCells alts)),(176,.int .i64 alts.length),(177,.int .i64 (a.1:Int))])
   (fun a=>Q a.2.2++[.cells 0 8 [.agg [.int .i64 6,.str nm,.int .i64 nn,.int .i64 op,.list 1 (names.map .str),.list 8 (exCells subs),.list 9 (bdCells binds),.list 12 (alCells alts)]],.cells 0 7 [.agg [.int .i64 0,.str [],.int .i64 0,.nil,.nil,.nil,.nil]],.cells 0 7 [.agg [.int .i64 5,.str nm,.int .i64 0,.nil,.list 7 [.agg y.cells],.nil,.sl (n0+3) 0 0 a.2.1.length]],.cells 0 11 (slCells a.2.1)]) (fun a=>alts.length - a.1)
   (fun a=>(a.1≤alts.length∧a.2.1.length=a.1∧a.2.2+alsWt (alts.drop a.1)≤nx1+alsWt alts)∧mapN (altN E) alts nx1=(a.2.1++(mapN (altN E) (alts.drop a.1) a.2.2).1,(mapN (altN E) (alts.drop a.1) a.2.2).2)) (0,[],nx1) ⟨⟨Nat.zero_le _,rfl,Nat.le_refl _⟩,rfl⟩ ?_ ?_
  ·refine Wk.trans (wk_ghost (id:=n0+2) (i:=0) (j:=6) 11 (by rw[hx23];rfl) rfl rfl) ?_
   simp only[hx25,hx21,List.set_cons_succ,List.set_cons_zero,List.append_assoc,List.cons_append,List.nil_append,List.length_append,List.length_cons,List.length_nil,Nat.reduceAdd,show slCells []=[] from rfl]
   have under_mint:=slCells_under
   have under_bde:=Sg.cells_under
   exact wkS (n0:=n0) [(n0,0),(n0+1,0),(n0+2,0),(n0+3,0)] hG hB hC' (hcls _) (hn:=hlenQ _) (hd:=d4)
  rintro K2 ⟨i,D,nx⟩ ⟨⟨hi1,hD,hnw⟩,hmp⟩ hK2
  simp only at hi1 hD hnw hmp
  dsimp only
  rcases Nat.lt_or_ge i alts.length with hlt|hge
  ·have hmem:=List.getElem_mem hlt
   have hxw:=alsWt_mem hmem
   have hxg:=alts[i].wt_gt
   have hdr:=alsWt_drop hlt
   have hnmw:=alts[i].wt_names
   have hcall:=fun L=>hEx alts[i].body (Q nx++L) tb mb g0 nx (hpE _ (hxa _ hmem)) (by have:=hxa _ hmem;omega) (hsh.alt hmem) (by omega) (qx.2.1 _ _) (qx.1 _ _)
   have hce2:=cE alts[i].body nx (hsh.alt hmem)
   have hmp2:=mapN_cut hlt hmp
   have hcg:(alCells alts)[i]? =some (.agg (.int .i64 alts[i].kind:: .str alts[i].name:: .int .i64 alts[i].n:: .list 1 (alts[i].names.map .str)::alts[i].body.cells)):=by rw[alCells_get,List.getElem?_eq_getElem hlt];rfl
   have c1:=fun H=>ACall.frz (strs_under _ _) (List.length_map ..) (clone_strs G hG alts[i].names H (by omega))
   simp only[altN] at hmp2
   generalize alts[i].wt=wa at*
   generalize alts[i].kind=ak at*
   generalize alts[i].name=an at*
   generalize alts[i].n=av at*
   generalize alts[i].names=ans at*
   generalize alts[i].body=bd at*
   generalize E bd nx=yy at*
   obtain⟨z,nx2⟩:=yy
   simp only at hcall hce2 hmp2
   have hb8:=bd.cells_len
   have hb8d:=bd.cells_drop8
   have hb8t:=bd.cells_take
   rw[show bd.sv= .agg bd.cells from rfl] at*
   generalize bd.cells=bc at*
   have hz7:=z.cells_len
   have hz7t:=z.cells_take
   have hz7d:z.cells.drop 7=[]:=List.drop_eq_nil_of_le (by omega)
   have hsn:slCells D++[.agg (.int .i64 ak:: .str an:: .int .i64 av:: .list 1 (ans.map .str)::(z.cells++[]))]=slCells (D++[.mk ak an av ans z]):=by rw[List.append_nil];exact slCells_snoc D (.mk ak an av ans z)
   have hDl:=slCells_len D
   have X:=And.intro (And.intro noX (And.intro qx (And.intro hx21 (And.intro hx22 (And.intro hx23 (And.intro hx24 hx25)))))) (And.intro hcg (And.intro hb8 (And.intro hb8d (And.intro hb8t (And.intro hz7 (And.intro hz7t (And.intro hz7d (And.intro hsn hDl))))))))
   (refine run ?_;with_reducible repeat' first|exact trivial|(apply Fork.mk<;>intro hb)|apply Two.mk)
   refine xcallS (hcall _) ?_
   rintro r H' ⟨rfl,rfl⟩
   rw[qx.2.2,show z.sv= .agg z.cells from rfl]
   (refine run ?_;with_reducible repeat' first|exact trivial|(apply Fork.mk<;>intro hb)|apply Two.mk)
   refine hK2 _ _ (i+1,D++[.mk ak an av ans z],nx2) (by simp only;omega) ⟨⟨by simp only;omega,by simp only[List.length_append,List.length_cons,List.length_nil];omega,by simp only;omega⟩,hmp2⟩ ?_
   simp only[List.length_append,List.length_cons,List.length_nil]
   have under_mint:=slCells_under
   have under_bde:=Sg.cells_under
   exact wkS (n0:=n0) [(n0,0),(n0+1,0),(n0+2,0),(n0+3,0)] hG hB hC' (hcls _) (hn:=hlenQ _) (hd:=d4)
  clear hK2
  have hni:¬ (i:Int)<(alts.length:Int):=by omega
  rw[List.drop_eq_nil_of_le hge] at hmp
  simp only[mapN,List.append_nil] at hmp
  rw[hmp] at hres
  simp only at hres
  have X:=And.intro (And.intro noX (And.intro qx (And.intro hx21 (And.intro hx22 (And.intro hx23 (And.intro hx24 hx25)))))) hni
  (refine run ?_;with_reducible repeat' first|exact trivial|(apply Fork.mk<;>intro hb)|apply Two.mk)
  refine hjoin (.mk 5 nm 0 [] [y] [] D) [] nx (by intro x hx;cases hx) (by simp) hres _ _ ?_
  simp only[Sg.cells,atCells,sgCells,sbCells,List.map_cons,List.map_nil,show arCells []=[] from rfl]
  have under_mint:=slCells_under
  have under_bde:=Sg.cells_under
  exact wkS (n0:=n0) [(n0,0),(n0+1,0),(n0+2,0)] hG hB hC' (hcls _) (hn:=hlenQ _) (hd:=d3)
 ·exfalso
  unfold shpP at hnode
  omega
end
theorem trF_ok (G:Gl) (hG:GClosed G) (hB0:Based G 0) (C0:Cx) (hb0:G.base=some C0) (hl0:LibAt C0) (cs:List Cn) (T:List Str):∀ m,ExC16 G cs T (fun e=>rqE e≤m) (trF T m).1∧BdC16 G cs T (fun e=>rqB e≤m) (trF T m).2
 |0=>⟨fun e H tb mb g0 nx hP _ _ _ _ _=>by have:=e.wt_pos;have hP:rqE e≤0:=hP;unfold rqE at hP;omega,fun s e u H tb mb g0 nx hP _ _ _ _ _=>by have:=e.wt_pos;have hP:rqB e≤0:=hP;unfold rqB at hP;omega⟩
 |m+1=>by
  obtain⟨h1,h2⟩:=trF_ok G hG hB0 C0 hb0 hl0 cs T m
  obtain⟨c1,c2,_⟩:=trF_cnt cs T m
  exact⟨expr_ok G hG hB0 C0 hb0 hl0 cs T m _ _ h1 h2 c1 c2 fun hm=>trB_ne T hm,bind_ok G hG C0 hb0 hl0 cs T m _ _ h1 h2 c1 c2⟩
def topS (l:List Bd):List Str:=(l.map Bd.name).foldl putO []
def fuelS (p:Pg):Nat:=3*bdsWt p.binds+3
def ofS (p:Pg):List Sb:=(letsF (trF (topS p.binds) (fuelS p)).2 (fun _=>true) p.binds (nxtS p.binds)).1
def spSv (cons:List Cn) (l:List Sb):SV:= .agg [.list 4 (cnCells cons),.list 8 (sbCells l)]
theorem Of_ok (G:Gl) (hG:GClosed G) (hB0:Based G 0) (C0:Cx) (hb0:G.base=some C0) (hl0:LibAt C0) (p:Pg) (H:List Blk) (hw:bdsWt p.binds<67108864) (hcn:p.cons.length<1073741824) (hns:∀ s∈bindersP p.binds,s.length<4294967296) (h0:lintS p=0):
 ACall Tryz.prog G 7 [p.sv] H (fun r H'=>H'=H∧r= .tuple [spSv p.cons (ofS p),.int .i64 0]):=by
 have c1:=fun H=>lint_ok G hG p H (by omega) (by omega)
 rw[h0] at c1
 have hbd:=(trF_ok G hG hB0 C0 hb0 hl0 p.cons (topS p.binds) (fuelS p)).2
 have hcnt:=(trF_cnt p.cons (topS p.binds) (fuelS p)).2.1
 have hsh:∀ b∈p.binds,Sh p.cons b.e:=fun b hb=>⟨(lint0 h0).shp b hb,(lint0 h0).full b hb⟩
 have hfu:∀ b∈p.binds,rqB b.e≤fuelS p:=fun b hb=>by have:=bdsWt_mem hb;have:=b.wt_gt;unfold rqB fuelS;omega
 have hnl:=nxtS_lt p.binds
 have hof:ofS p=(letsF (trF (topS p.binds) (fuelS p)).2 (fun _=>true) p.binds (nxtS p.binds)).1:=rfl
 rw[hof]
 clear hof h0
 generalize fuelS p=fu at*
 obtain⟨cons,binds⟩:=p
 simp only at*
 have hle:=bdsWt_len binds
 have c2:=fun H=>cnext_ok G hG C0 hb0 hl0 cons binds H (by omega) hns
 have hcc:=fun H=>cloneC_list G hG (cnCells cons) (fun n=>cnCells_under n cons) H (by rw[cnCells_len];omega)
 rw[cnCells_len] at hcc
 rw[show(Pg.mk cons binds).sv= .agg [.list 4 (cnCells cons),.list 9 (bdCells binds)] from rfl] at*
 unfold spSv
 have under_ints:=fun n=>cnCells_under n cons
 have under_bools:=sbCells_under
 generalize nxtS binds=nx0 at*
 obtain⟨T,hT⟩:∃ T:Nat→List Str,∀ i,T i=((binds.take i).map Bd.name).foldl putO []:=⟨fun i=>_,fun i=>rfl⟩
 have hT0:T 0=[]:=by rw[hT];rfl
 have hTs:∀ i (h:i<binds.length),T (i+1)=putO (T i) binds[i].name:=fun i h=>by rw[hT,hT,List.take_succ_eq_append_getElem h,List.map_append,List.foldl_append];rfl
 have hTe:topS binds=T binds.length:=by rw[hT,List.take_length];rfl
 rw[hTe] at hbd hcnt ⊢
 clear hT hTe
 refine ACall.of_go TB [] tabOK _ Tryz.func7 rfl (by decide) Tryz.ntmps7 (by simp) rfl (by simp only[initEnv,Nat.reduceAdd];rfl) fun C R' hR hC hcl hB=>?_;have X:=noX;have hC':=congrArg List.length hC
 (refine run ?_;with_reducible repeat' first|exact trivial|(apply Fork.mk<;>intro hb)|apply Two.mk)
 have d4:=ndK H.length [0,1,2,3] (by decide)
 have d7:=ndK H.length [0,1,2,3,4,5,6] (by decide)
 refine go_loop (fun i:Nat=>[(1,.ptr H.length 0 0 0),(2,.ptr (H.length+1) 0 0 0),(5,.ptr (H.length+3) 0 0 0),(23,.list 9 (bdCells binds)),(24,.int .i64 binds.length),(25,.int .i64 (i:Int))])
  (fun i=>H++[.cells 0 2 [.agg [.list 4 (cnCells cons),.list 9 (bdCells binds)]],.cells 0 2 [.agg [.nil,.nil]],.map none (esO (T i)),.cells 0 2 [.agg [.int .i64 (nx0:Int),.map (H.length+2)]]]) (fun i=>binds.length - i) (fun i=>i≤binds.length) 0 (Nat.zero_le _) ?_ ?_
 ·rw[hT0,show esO []=[] from rfl]
  exact wkS (n0:=H.length) [(H.length,0),(H.length+1,0),(H.length+2,0),(H.length+3,0)] hG hB hC' hcl (hd:=d4)
 ·rintro K i hi hK
  rcases Nat.lt_or_ge i binds.length with hlt|hge
  ·have hcg:(bdCells binds)[i]? =some (.agg (.str binds[i].name::binds[i].e.cells)):=by rw[bdCells_map,List.getElem?_map,List.getElem?_eq_getElem hlt,Option.map_some,Bd.sv,Bd.cells_eq]
   have hst:=setSV_esO (T i) binds[i].name
   have hts:=hTs i hlt
   have hx8:=binds[i].e.cells_len
   generalize binds[i].name=bn at*
   generalize binds[i].e.cells=bc at*
   have X:=And.intro noX (And.intro hcg (And.intro hst hx8))
   (refine run ?_;with_reducible repeat' first|exact trivial|(apply Fork.mk<;>intro hb)|apply Two.mk)
   refine hK _ _ (i+1) (by omega) (by omega) ?_
   rw[hts]
   exact wkS (n0:=H.length) [(H.length,0),(H.length+1,0),(H.length+2,0),(H.length+3,0)] hG hB hC' hcl (hd:=d4)
  clear hK
  obtain rfl:i=binds.length:=by omega
  generalize hTT:T binds.length=TT at*
  clear hTT hTs hT0
  clear T
  have X:=And.intro noX (Int.lt_irrefl (binds.length:Int))
  (refine run ?_;with_reducible repeat' first|exact trivial|(apply Fork.mk<;>intro hb)|apply Two.mk)
  refine callS (hcc _) ?_
  rintro r H' ⟨rfl,rfl⟩
  simp only[List.append_assoc,List.cons_append,List.nil_append,List.length_append,List.length_cons,List.length_nil,List.length_set,X,Nat.reduceAdd]
  (refine run ?_;with_reducible repeat' first|exact trivial|(apply Fork.mk<;>intro hb)|apply Two.mk)
  refine go_loop (fun a:Nat×List Sb×Nat=>[(2,.ptr (H.length+1) 0 0 0),(5,.ptr (H.length+3) 0 0 0),(8,.ptr (H.length+5) 0 0 0),(41,.list 9 (bdCells binds)),(42,.int .i64 binds.length),(43,.int .i64 (a.1:Int))])
   (fun a=>H++[.cells 0 2 [.agg [.list 4 (cnCells cons),.list 9 (bdCells binds)]],.cells 0 2 [.agg [.nil,.nil]],.map none (esO TT),.cells 0 2 [.agg [.int .i64 (a.2.2:Int),.map (H.length+2)]],.cells 0 4 (cnCells cons),.cells 0 2 [.agg [.sl (H.length+4) 0 0 cons.length,.sl (H.length+6) 0 0 a.2.1.length]],.cells 0 8 (sbCells a.2.1)]) (fun a=>binds.length - a.1)
   (fun a=>(a.1≤binds.length∧a.2.1.length+bdsWt (binds.drop a.1)≤bdsWt binds∧a.2.2+bdsWt (binds.drop a.1)≤nx0+bdsWt binds)∧letsF (trF TT fu).2 (fun _=>true) binds nx0=(a.2.1++(letsF (trF TT fu).2 (fun _=>true) (binds.drop a.1) a.2.2).1,(letsF (trF TT fu).2 (fun _=>true) (binds.drop a.1) a.2.2).2)) (0,[],nx0) ⟨⟨Nat.zero_le _,by simp,Nat.le_refl _⟩,rfl⟩ ?_ ?_
  ·refine Wk.trans (wk_ghost (id:=H.length+5) (i:=0) (j:=1) 8 ((get_app ..).trans rfl) rfl rfl) ?_
   simp only[set_app,List.set_cons_succ,List.set_cons_zero,List.append_assoc,List.cons_append,List.nil_append,List.length_append,List.length_cons,List.length_nil,Nat.reduceAdd,show sbCells []=[] from rfl]
   exact wkS (n0:=H.length) [(H.length,0),(H.length+1,0),(H.length+2,0),(H.length+3,0),(H.length+4,0),(H.length+5,0),(H.length+6,0)] hG hB hC' hcl (hd:=d7)
  rintro K ⟨i,D,nx⟩ ⟨⟨hi1,hD,hnw⟩,hmp⟩ hK
  simp only at hi1 hD hnw hmp
  dsimp only
  rcases Nat.lt_or_ge i binds.length with hlt|hge
  ·have hmem:=List.getElem_mem hlt
   have hxw:=bdsWt_mem hmem
   have hxg:=binds[i].wt_gt
   have hdr:=bdsWt_drop hlt
   have hcut:=letsF_cut hlt hmp
   have hcall:=fun L=>hbd binds[i].name binds[i].e true (H++(.cells 0 2 [.agg [.list 4 (cnCells cons),.list 9 (bdCells binds)]]:: .cells 0 2 [.agg [.nil,.nil]]:: .map none (esO TT):: .cells 0 2 [.agg [.int .i64 (nx:Int),.map (H.length+2)]]::L)) (H.length+2) (H.length+3) 0 nx (hfu _ hmem) (by omega) (hsh _ hmem) (by split<;>omega) (by rw[get_app];rfl) (by rw[get_app];rfl)
   have hcn:=hcnt binds[i].name binds[i].e true nx (hsh _ hmem)
   have hcg:(bdCells binds)[i]? =some (.agg (.str binds[i].name::binds[i].e.cells)):=by rw[bdCells_map,List.getElem?_map,List.getElem?_eq_getElem hlt,Option.map_some,Bd.sv,Bd.cells_eq]
   have hx8:=binds[i].e.cells_len
   have hx8d:=binds[i].e.cells_drop8
   have hx8t:=binds[i].e.cells_take
   generalize (trF TT fu).2 binds[i].name binds[i].e true nx=r0 at*
   obtain⟨bs,nx2⟩:=r0
   simp only at hcall hcn hcut
   rw[show binds[i].e.sv= .agg binds[i].e.cells from rfl] at*
   generalize binds[i].e.wt=ew at*
   generalize binds[i].wt=wb at*
   generalize binds[i].name=bn at*
   generalize binds[i].e.cells=bc at*
   have hsn:=sbCells_app D bs
   have hDl:=sbCells_len D
   have hbl:=sbCells_len bs
   have X:=And.intro noX (And.intro hcg (And.intro hx8 (And.intro hx8d (And.intro hx8t (And.intro hsn (And.intro hDl hbl))))))
   (refine run ?_;with_reducible repeat' first|exact trivial|(apply Fork.mk<;>intro hb)|apply Two.mk)
   refine xcallS (hcall _) ?_
   rintro v H' ⟨rfl,rfl⟩
   rw[set_app]
   simp only[List.set_cons_succ,List.set_cons_zero]
   (refine run ?_;with_reducible repeat' first|exact trivial|(apply Fork.mk<;>intro hb)|apply Two.mk)
   refine hK _ _ (i+1,D++bs,nx2) (by simp only;omega) ⟨⟨by simp only;omega,by simp only[List.length_append];omega,by simp only;omega⟩,hcut⟩ ?_
   simp only[List.length_append]
   exact wkS (n0:=H.length) [(H.length,0),(H.length+1,0),(H.length+2,0),(H.length+3,0),(H.length+4,0),(H.length+5,0),(H.length+6,0)] hG hB hC' hcl (hd:=d7)
  clear hK
  have hni:¬ (i:Int)<(binds.length:Int):=by omega
  rw[List.drop_eq_nil_of_le hge] at hmp
  simp only[letsF,List.append_nil] at hmp
  rw[hmp] at hR
  simp only at hR
  have X:=And.intro noX hni
  (refine run ?_;with_reducible repeat' first|exact trivial|(apply Fork.mk<;>intro hb)|apply Two.mk)
  refine Fin.tellN (n0:=H.length) hR rfl hC' hcl (.tuple _ _ (.cons _ _ _ _ (.agg _ _ (.cons _ _ _ _ ?_ (.cons _ _ _ _ ?_ .nil))) (.cons _ _ _ _ (.same _ rfl) .nil))) ⟨rfl,rfl⟩
  ·exact Frz.sf (g:=0) (sz:=4) (vals:=cnCells cons) (by rw[get_app];rfl) (by omega) (by simp) (by rw[List.drop_zero,List.take_of_length_le (by rw[cnCells_len];exact Nat.le_refl _)]) (cnCells_under _ _)
  ·exact Frz.sf (g:=0) (sz:=8) (vals:=sbCells D) (by rw[get_app];rfl) (by omega) (by simp) (by simp) (sbCells_under _ _)
def Sb.body:Sb→List Sg| .mk _ _ _ _ _ _ _ b=>b
mutual
def gdE:List Str→Sg→Prop
 |S,.mk k nm op args subs binds alts=>(k=4→∀ a∈args,a.name=[]∨a.name∈S)∧gdB (if k=5 then nm::S else S) binds∧gdS (if k=5 then nm::S else S) subs∧gdA (if k=5 then nm::S else S) alts
def gdS:List Str→List Sg→Prop
 |_,[]=>True
 |S,e::r=>gdE S e∧gdS S r
def gdb:List Str→Sb→Prop
 |S,.mk _ _ _ _ _ _ _ body=>gdS S body
def gdB:List Str→List Sb→Prop
 |_,[]=>True
 |S,b::r=>gdb S b∧gdB S r
def gda:List Str→Sl→Prop
 |S,.mk _ _ _ _ e=>gdE S e
def gdA:List Str→List Sl→Prop
 |_,[]=>True
 |S,a::r=>gda S a∧gdA S r
end
mutual
theorem gdE.mono:∀ {e:Sg} {S S':List Str},(∀ t∈S,t∈S')→gdE S e→gdE S' e
 | .mk k nm op args subs binds alts,S,S',h,hg=>by
  simp only[gdE] at hg ⊢
  have h2:∀ t∈(if k=5 then nm::S else S),t∈(if k=5 then nm::S' else S'):=by
   intro t ht
   split at ht
   ·rename_i hk;rw[if_pos hk];exact(List.mem_cons.1 ht).elim (fun e=>List.mem_cons.2 (.inl e)) fun e=>List.mem_cons.2 (.inr (h t e))
   ·rename_i hk;rw[if_neg hk];exact h t ht
  exact⟨fun hk a ha=>(hg.1 hk a ha).imp id (h _),gdB.mono h2 hg.2.1,gdS.mono h2 hg.2.2.1,gdA.mono h2 hg.2.2.2⟩
theorem gdS.mono:∀ {l:List Sg} {S S':List Str},(∀ t∈S,t∈S')→gdS S l→gdS S' l
 |[],S,S',h,hg=>trivial
 |e::r,S,S',h,hg=>by simp only[gdS] at hg ⊢;exact⟨gdE.mono h hg.1,gdS.mono h hg.2⟩
theorem gdb.mono:∀ {b:Sb} {S S':List Str},(∀ t∈S,t∈S')→gdb S b→gdb S' b
 | .mk _ _ _ _ _ _ _ body,S,S',h,hg=>by simp only[gdb] at hg ⊢;exact gdS.mono h hg
theorem gdB.mono:∀ {l:List Sb} {S S':List Str},(∀ t∈S,t∈S')→gdB S l→gdB S' l
 |[],S,S',h,hg=>trivial
 |e::r,S,S',h,hg=>by simp only[gdB] at hg ⊢;exact⟨gdb.mono h hg.1,gdB.mono h hg.2⟩
theorem gda.mono:∀ {b:Sl} {S S':List Str},(∀ t∈S,t∈S')→gda S b→gda S' b
 | .mk _ _ _ _ e,S,S',h,hg=>by simp only[gda] at hg ⊢;exact gdE.mono h hg
theorem gdA.mono:∀ {l:List Sl} {S S':List Str},(∀ t∈S,t∈S')→gdA S l→gdA S' l
 |[],S,S',h,hg=>trivial
 |e::r,S,S',h,hg=>by simp only[gdA] at hg ⊢;exact⟨gda.mono h hg.1,gdA.mono h hg.2⟩
end
theorem gdS_mem:∀ {l:List Sg} {S:List Str} {x:Sg},gdS S l→x∈l→gdE S x
 |e::r,S,x,h,hx=>by
  simp only[gdS] at h
  rcases List.mem_cons.1 hx with rfl|hx
  ·exact h.1
  ·exact gdS_mem h.2 hx
theorem gdB_mem:∀ {l:List Sb} {S:List Str} {b:Sb},gdB S l→b∈l→gdS S b.body
 |e::r,S,b,h,hx=>by
  simp only[gdB] at h
  rcases List.mem_cons.1 hx with rfl|hx
  ·have h1:=h.1
   obtain⟨⟩:=b
   simpa only[gdb,Sb.body] using h1
  ·exact gdB_mem h.2 hx
theorem gdA_mem:∀ {l:List Sl} {S:List Str} {b:Sl},gdA S l→b∈l→gdE S b.body
 |e::r,S,b,h,hx=>by
  simp only[gdA] at h
  rcases List.mem_cons.1 hx with rfl|hx
  ·have h1:=h.1
   obtain⟨⟩:=b
   simpa only[gda,Sl.body] using h1
  ·exact gdA_mem h.2 hx
theorem gdB_app:∀ {a b:List Sb} {S:List Str},gdB S a→gdB S b→gdB S (a++b)
 |[],b,S,_,h=>h
 |x::a,b,S,h,h2=>by simp only[List.cons_append,gdB] at h ⊢;exact⟨h.1,gdB_app h.2 h2⟩
def Ar.gd:Ar→Prop
 | .bs l=>gdB [] l
 | .look _ x=>gdE [] x
def lnF:List Ar→List Str
 |[]=>[]
 | .bs _::r=>lnF r
 | .look s _::r=>s::lnF r
theorem wrap_gd:∀ (W:List Ar) (e0:Sg) (S:List Str),(∀ a∈W,a.gd)→(∀ S',(∀ t∈S,t∈S')→(∀ t∈lnF W,t∈S')→gdE S' e0)→gdE S (wrapF W e0)
 |[],e0,S,_,h=>h S (fun t ht=>ht) (fun t ht=>by cases ht)
 | .bs l::W,e0,S,hW,h=>by
  have h1:=wrap_gd W e0 S (fun a ha=>hW a (List.mem_cons_of_mem _ ha)) (fun S' hs hl=>h S' hs hl)
  have h2:gdB [] l:=hW _ (List.mem_cons_self ..)
  show gdE S (.mk 6 [] 0 [] [wrapF W e0] l [])
  simp only[gdE,gdS,gdA]
  exact⟨fun h=>by omega,gdB.mono (fun t ht=>by cases ht) h2,⟨by simpa using h1,trivial⟩,trivial⟩
 | .look s x::W,e0,S,hW,h=>by
  have h1:=wrap_gd W e0 (s::S) (fun a ha=>hW a (List.mem_cons_of_mem _ ha)) (fun S' hs hl=>h S' (fun t ht=>hs t (List.mem_cons_of_mem _ ht)) (fun t ht=>by
   simp only[lnF,List.mem_cons] at ht
   rcases ht with rfl|ht
   ·exact hs _ (List.mem_cons_self ..)
   ·exact hl t ht))
  have h2:gdE [] x:=hW _ (List.mem_cons_self ..)
  show gdE S (.mk 5 s 0 [] [x] [] [.mk 3 [] 0 [] (wrapF W e0)])
  simp only[gdE,gdS,gdA,gda,gdB,if_pos]
  exact⟨fun h=>by omega,trivial,⟨gdE.mono (fun t ht=>by cases ht) h2,trivial⟩,h1,trivial⟩
def GdE (cs:List Cn) (E:Ex→Nat→Sg×Nat):Prop:=∀ e n,Sh cs e→gdE [] (E e n).1
def GdB (cs:List Cn) (B:Str→Ex→Bool→Nat→List Sb×Nat):Prop:=∀ s e u n,Sh cs e→gdB [] (B s e u n).1
theorem cellsF_gd {cs:List Cn} {B:Str→Ex→Bool→Nat→List Sb×Nat} (hB:GdB cs B):∀ (l:List Ex) (n:Nat),(∀ x∈l,Sh cs x)→(∀ a∈(cellsF B l n).1.2,a.gd)∧gdB [] (barsF (cellsF B l n).1.2)
 |[],n,_=>⟨fun a ha=>by simp[cellsF] at ha,by simp[cellsF,barsF,gdB]⟩
 |e::r,n,h=>by
  have hr:=fun n=>cellsF_gd hB r n fun x hx=>h x (List.mem_cons_of_mem _ hx)
  have he:=fun s u n=>hB s e u n (h e (List.mem_cons_self ..))
  rw[cellsF]
  split
  ·exact hr n
  ·refine⟨fun a ha=>?_,gdB_app (he _ _ _) (hr _).2⟩
   simp only[List.mem_cons] at ha
   rcases ha with rfl|ha
   ·exact he _ _ _
   ·exact(hr _).1 a ha
theorem valsF_gd {cs:List Cn} {E:Ex→Nat→Sg×Nat} (hE:GdE cs E):∀ (l:List Ex) (n:Nat),(∀ x∈l,Sh cs x)→(∀ a∈(valsF E l n).1.2,a.gd)∧∀ a∈(valsF E l n).1.1,a.name=[]∨a.name∈lnF (valsF E l n).1.2
 |[],n,_=>⟨fun a ha=>by simp[valsF] at ha,fun a ha=>by simp[valsF] at ha⟩
 |e::r,n,h=>by
  have hr:=fun n=>valsF_gd hE r n fun x hx=>h x (List.mem_cons_of_mem _ hx)
  have hs:=h e (List.mem_cons_self ..)
  have he:=fun n=>hE e n hs
  rw[valsF]
  split
  ·rename_i hk
   refine⟨(hr n).1,fun a ha=>?_⟩
   simp only[List.mem_cons] at ha
   rcases ha with rfl|ha
   ·left
    obtain⟨kd,nm,nn,op,names,subs,binds,alts⟩:=e
    have hn:=hs.node
    obtain rfl:kd=2:=hk
    exact List.length_eq_zero_iff.1 (by unfold shpP at hn;simp only[atE,Ex.name];omega)
   ·exact(hr n).2 a ha
  ·refine⟨fun a ha=>?_,fun a ha=>?_⟩
   ·simp only[List.mem_cons] at ha
    rcases ha with rfl|ha
    ·exact he _
    ·exact(hr _).1 a ha
   ·simp only[List.mem_cons] at ha
    simp only[lnF,List.mem_cons]
    rcases ha with rfl|ha
    ·exact .inr (.inl rfl)
    ·exact((hr _).2 a ha).imp id .inr
theorem letsF_gd {cs:List Cn} {B:Str→Ex→Bool→Nat→List Sb×Nat} (hB:GdB cs B) (u:Bd→Bool):∀ (l:List Bd) (n:Nat),(∀ x∈l,Sh cs x.e)→gdB [] (letsF B u l n).1
 |[],n,_=>by simp[letsF,gdB]
 |b::r,n,h=>by
  rw[letsF]
  exact gdB_app (hB _ _ _ _ (h b (List.mem_cons_self ..))) (letsF_gd hB u r _ fun x hx=>h x (List.mem_cons_of_mem _ hx))
theorem letsF_ge {B:Str→Ex→Bool→Nat→List Sb×Nat} (hB:∀ s e u n,(B s e u n).1≠[]) (u:Bd→Bool):∀ (l:List Bd) (n:Nat),l.length≤(letsF B u l n).1.length
 |[],n=>Nat.zero_le _
 |b::r,n=>by
  rw[letsF]
  have h1:=List.length_pos_iff.2 (hB b.name b.e (u b) n)
  have h2:=letsF_ge hB u r (B b.name b.e (u b) n).2
  simp only[List.length_append,List.length_cons];omega
theorem altN_gd {cs:List Cn} {E:Ex→Nat→Sg×Nat} (hE:GdE cs E):∀ (l:List Al) (n:Nat),(∀ x∈l,Sh cs x.body)→gdA [] (mapN (altN E) l n).1
 |[],n,_=>by simp[mapN,gdA]
 |a::r,n,h=>by
  simp only[mapN,altN,gdA,gda]
  exact⟨hE _ _ (h a (List.mem_cons_self ..)),altN_gd hE r _ fun x hx=>h x (List.mem_cons_of_mem _ hx)⟩
theorem nil_sub {S:List Str}:∀ t∈([]:List Str),t∈S:=fun t ht=>by cases ht
theorem exprB_gd {cs:List Cn} {E:Ex→Nat→Sg×Nat} {B:Str→Ex→Bool→Nat→List Sb×Nat} (hE:GdE cs E) (hB:GdB cs B):GdE cs (exprB E B):=by
 intro e n h
 obtain⟨kd,nm,nn,op,names,subs,binds,alts⟩:=e
 have hnode:=h.node
 have hat:∀ (a:List At) S,gdE S (.mk 1 [] 0 a [] [] []):=fun a S=>by simp[gdE,gdB,gdS,gdA]
 rw[exprB]
 split
 ·exact hat _ _
 split
 ·refine wrap_gd _ _ _ (fun a ha=>?_) (fun S' _ _=>hat _ _)
  rw[List.mem_singleton.1 ha]
  exact hB _ _ _ _ h
 split
 ·refine wrap_gd _ _ _ (cellsF_gd hB subs n fun x hx=>h.sub hx).1 (fun S' _ _=>?_)
  simp[gdE,gdB,gdS,gdA]
 split
 ·obtain⟨h1,h2⟩:=valsF_gd hE subs n fun x hx=>h.sub hx
  refine wrap_gd _ _ _ h1 (fun S' _ hl=>?_)
  simp only[gdE,gdB,gdS,gdA,and_true]
  exact fun _ a ha=>(h2 a ha).imp id (hl _)
 split
 ·rename_i h4
  subst h4
  have hs:=h.app
  have hc:=fun n=>(cellsF_gd hB (subs.drop 1) n fun x hx=>h.sub (List.mem_of_mem_drop hx)).1
  split
  ·refine wrap_gd _ _ _ (hc n) (fun S' _ _=>?_)
   simp[gdE,gdB,gdS,gdA]
  ·refine wrap_gd _ _ _ (fun a ha=>?_) (fun S' _ _=>?_)
   ·rcases List.mem_cons.1 ha with rfl|ha
    ·exact hE _ _ (h.sub (headD_mem (by omega)))
    ·exact hc _ a ha
   ·simp[gdE,gdB,gdS,gdA]
 split
 ·rename_i h5
  subst h5
  have hs:subs.length=1:=by unfold shpP at hnode;omega
  simp only[gdE,gdS,gdA]
  exact⟨fun h=>by omega,letsF_gd hB _ binds n fun x hx=>h.bind hx,⟨hE _ _ (h.sub (headD_mem (by omega))),trivial⟩,trivial⟩
 ·have hs:subs.length=1:=by unfold shpP at hnode;omega
  simp only[gdE,gdS,gdB]
  exact⟨fun h=>by omega,trivial,⟨gdE.mono nil_sub (hE _ _ (h.sub (headD_mem (by omega)))),trivial⟩,gdA.mono nil_sub (altN_gd hE alts _ fun x hx=>h.alt hx)⟩
theorem bindB_gd {cs:List Cn} {top:List Str} {E:Ex→Nat→Sg×Nat} {B:Str→Ex→Bool→Nat→List Sb×Nat} (hE:GdE cs E) (hB:GdB cs B):GdB cs (bindB top E B):=by
 intro s e u n h
 unfold bindB
 split
 ·rename_i hk
  obtain⟨kd,nm,nn,op,names,subs,binds,alts⟩:=e
  have hnode:=h.node
  obtain rfl:kd=3:=hk
  have hs:subs.length=1:=by unfold shpP at hnode;omega
  simp only[gdB,gdb,gdS]
  exact⟨⟨hE _ _ (h.sub (headD_mem (by omega))),trivial⟩,trivial⟩
 split
 ·obtain⟨kd,nm,nn,op,names,subs,binds,alts⟩:=e
  refine gdB_app (cellsF_gd hB subs n fun x hx=>h.sub hx).2 ?_
  simp only[gdB,gdb,gdS,and_self]
 ·simp only[gdB,gdb,gdS]
  exact⟨⟨hE _ _ h,trivial⟩,trivial⟩
theorem trF_gd (cs:List Cn) (top:List Str):∀ m,GdE cs (trF top m).1∧GdB cs (trF top m).2
 |0=>⟨fun e n h=>by simp[trF,gdE,gdB,gdS,gdA],fun s e u n h=>by simp[trF,gdB]⟩
 |m+1=>by
  obtain⟨h1,h2⟩:=trF_gd cs top m
  exact⟨exprB_gd h1 h2,bindB_gd h1 h2⟩
theorem ofS_gd (p:Pg) (h0:lintS p=0):gdB [] (ofS p)∧p.binds.length≤(ofS p).length:=by
 have hsh:∀ b∈p.binds,Sh p.cons b.e:=fun b hb=>⟨(lint0 h0).shp b hb,(lint0 h0).full b hb⟩
 exact⟨letsF_gd (trF_gd p.cons _ _).2 _ p.binds _ hsh,letsF_ge (trB_ne _ (by unfold fuelS;omega)) _ _ _⟩
mutual
def Sg.sz:Sg→Nat
 | .mk _ _ _ args subs binds alts=>1+args.length+sgSz subs+sbSz binds+slSz alts
def sgSz:List Sg→Nat
 |[]=>0
 |e::r=>e.sz+sgSz r
def Sb.sz:Sb→Nat
 | .mk _ _ _ _ _ _ args body=>1+args.length+sgSz body
def sbSz:List Sb→Nat
 |[]=>0
 |e::r=>e.sz+sbSz r
def Sl.sz:Sl→Nat
 | .mk _ _ _ _ e=>1+e.sz
def slSz:List Sl→Nat
 |[]=>0
 |e::r=>e.sz+slSz r
end
theorem Sg.sz_pos (e:Sg):0<e.sz:=by cases e;simp only[Sg.sz];omega
theorem Sb.sz_pos (e:Sb):0<e.sz:=by cases e;simp only[Sb.sz];omega
theorem Sl.sz_body (e:Sl):e.body.sz<e.sz:=by cases e;simp only[Sl.sz,Sl.body];omega
theorem Sb.sz_body (e:Sb):sgSz e.body<e.sz:=by cases e;simp only[Sb.sz,Sb.body];omega
theorem sgSz_mem:∀ {l:List Sg} {e:Sg},e∈l→e.sz≤sgSz l
 |x::r,e,h=>by
  simp only[sgSz]
  rcases List.mem_cons.1 h with rfl|h
  ·omega
  ·have:=sgSz_mem h;omega
theorem sbSz_mem:∀ {l:List Sb} {e:Sb},e∈l→e.sz≤sbSz l
 |x::r,e,h=>by
  simp only[sbSz]
  rcases List.mem_cons.1 h with rfl|h
  ·omega
  ·have:=sbSz_mem h;omega
theorem slSz_mem:∀ {l:List Sl} {e:Sl},e∈l→e.sz≤slSz l
 |x::r,e,h=>by
  simp only[slSz]
  rcases List.mem_cons.1 h with rfl|h
  ·omega
  ·have:=slSz_mem h;omega
theorem sgSz_len:∀ l:List Sg,l.length≤sgSz l
 |[]=>Nat.le_refl _
 |x::r=>by have:=sgSz_len r;have:=x.sz_pos;simp only[sgSz,List.length_cons];omega
theorem sbSz_len:∀ l:List Sb,l.length≤sbSz l
 |[]=>Nat.le_refl _
 |x::r=>by have:=sbSz_len r;have:=x.sz_pos;simp only[sbSz,List.length_cons];omega
theorem slSz_len:∀ l:List Sl,l.length≤slSz l
 |[]=>Nat.le_refl _
 |x::r=>by have:=slSz_len r;have:=x.sz_body;simp only[slSz,List.length_cons];omega
theorem sbSz_app:∀ a b:List Sb,sbSz (a++b)=sbSz a+sbSz b
 |[],b=>by simp[sbSz]
 |x::r,b=>by simp only[List.cons_append,sbSz,sbSz_app r b];omega
def arSz:List Ar→Nat
 |[]=>0
 | .bs l::r=>1+sbSz l+arSz r
 | .look _ x::r=>1+x.sz+arSz r
theorem wrap_sz:∀ (W:List Ar) (e:Sg),(wrapF W e).sz≤e.sz+1*arSz W+W.length
 |[],e=>by simp[wrapF,arSz]
 | .bs l::W,e=>by
  have h:=wrap_sz W e
  show(Sg.mk 6 [] 0 [] [wrapF W e] l []).sz≤_
  simp only[Sg.sz,sgSz,slSz,arSz,List.length_nil,List.length_cons];omega
 | .look s x::W,e=>by
  have h:=wrap_sz W e
  show(Sg.mk 5 s 0 [] [x] [] [.mk 3 [] 0 [] (wrapF W e)]).sz≤_
  simp only[Sg.sz,sgSz,sbSz,slSz,Sl.sz,arSz,List.length_nil,List.length_cons];omega
def SzE (cs:List Cn) (E:Ex→Nat→Sg×Nat):Prop:=∀ e n,Sh cs e→(E e n).1.sz+5≤8*e.wt
def SzB (cs:List Cn) (B:Str→Ex→Bool→Nat→List Sb×Nat):Prop:=∀ s e u n,Sh cs e→sbSz (B s e u n).1+4≤8*e.wt
theorem cellsF_sz {cs:List Cn} {B:Str→Ex→Bool→Nat→List Sb×Nat} (hB:SzB cs B):∀ (l:List Ex) (n:Nat),(∀ x∈l,Sh cs x)→
 (cellsF B l n).1.1.length+arSz (cellsF B l n).1.2+(cellsF B l n).1.2.length≤8*exsWt l∧(cellsF B l n).1.1.length+sbSz (barsF (cellsF B l n).1.2)≤8*exsWt l
 |[],n,_=>by simp[cellsF,exsWt,barsF,arSz,sbSz]
 |e::r,n,h=>by
  have hr:=fun n=>cellsF_sz hB r n fun x hx=>h x (List.mem_cons_of_mem _ hx)
  have he:=fun s u n=>hB s e u n (h e (List.mem_cons_self ..))
  have hp:=e.wt_pos
  rw[cellsF]
  split
  ·have h1:=hr n
   simp only[exsWt,List.length_cons]
   omega
  ·have h1:=he (itT itsL n) true (n+1)
   have h2:=hr (B (itT itsL n) e true (n+1)).2
   simp only[exsWt,List.length_cons,barsF,sbSz_app,arSz]
   omega
theorem valsF_sz {cs:List Cn} {E:Ex→Nat→Sg×Nat} (hE:SzE cs E):∀ (l:List Ex) (n:Nat),(∀ x∈l,Sh cs x)→
 (valsF E l n).1.1.length+arSz (valsF E l n).1.2+(valsF E l n).1.2.length≤8*exsWt l
 |[],n,_=>by simp[valsF,exsWt,arSz]
 |e::r,n,h=>by
  have hr:=fun n=>valsF_sz hE r n fun x hx=>h x (List.mem_cons_of_mem _ hx)
  have he:=fun n=>hE e n (h e (List.mem_cons_self ..))
  have hp:=e.wt_pos
  rw[valsF]
  split
  ·have h1:=hr n
   simp only[exsWt,List.length_cons]
   omega
  ·have h1:=he (n+1)
   have h2:=hr (E e (n+1)).2
   simp only[exsWt,List.length_cons,arSz]
   omega
theorem letsF_sz {cs:List Cn} {B:Str→Ex→Bool→Nat→List Sb×Nat} (hB:SzB cs B) (u:Bd→Bool):∀ (l:List Bd) (n:Nat),(∀ x∈l,Sh cs x.e)→sbSz (letsF B u l n).1≤8*bdsWt l
 |[],n,_=>by simp[letsF,sbSz]
 |b::r,n,h=>by
  have h1:=hB b.name b.e (u b) n (h b (List.mem_cons_self ..))
  have h2:=letsF_sz hB u r (B b.name b.e (u b) n).2 fun x hx=>h x (List.mem_cons_of_mem _ hx)
  have hp:=b.wt_gt
  simp only[letsF,bdsWt,sbSz_app]
  omega
theorem altN_sz {cs:List Cn} {E:Ex→Nat→Sg×Nat} (hE:SzE cs E):∀ (l:List Al) (n:Nat),(∀ x∈l,Sh cs x.body)→slSz (mapN (altN E) l n).1≤8*alsWt l
 |[],n,_=>by simp[mapN,slSz]
 |a::r,n,h=>by
  have h1:=hE a.body n (h a (List.mem_cons_self ..))
  have h2:=altN_sz hE r (E a.body n).2 fun x hx=>h x (List.mem_cons_of_mem _ hx)
  have hp:=a.wt_gt
  simp only[mapN,altN,alsWt,slSz,Sl.sz]
  omega
theorem exprB_sz {cs:List Cn} {E:Ex→Nat→Sg×Nat} {B:Str→Ex→Bool→Nat→List Sb×Nat} (hE:SzE cs E) (hB:SzB cs B)
 (hL:∀ s e u n,Sh cs e→e.kind=3→sbSz (B s e u n).1+10≤8*e.wt):SzE cs (exprB E B):=by
 intro e n h
 have hp:=e.wt_pos
 obtain⟨kd,nm,nn,op,names,subs,binds,alts⟩:=e
 have hnode:=h.node
 have hw:(Ex.mk kd nm nn op names subs binds alts).wt=1+nm.length+strsWt names+exsWt subs+bdsWt binds+alsWt alts:=by simp only[Ex.wt]
 rw[exprB]
 split
 ·simp only[Sg.sz,sgSz,sbSz,slSz,List.length_cons,List.length_nil];omega
 split
 ·rename_i h3
  have:=hL (itT itsL n) _ true (n+1) h h3
  have h2:=wrap_sz [.bs (B (itT itsL n) (.mk kd nm nn op names subs binds alts) true (n+1)).1] (.mk 1 [] 0 [⟨itT itsL n,0⟩] [] [] [])
  simp only[Sg.sz,sgSz,sbSz,slSz,arSz,List.length_cons,List.length_nil] at h2 ⊢;omega
 split
 ·have h1:=(cellsF_sz hB subs n fun x hx=>h.sub hx).1
  have h2:=wrap_sz (cellsF B subs n).1.2 (.mk 3 nm 0 (cellsF B subs n).1.1 [] [] [])
  simp only[Sg.sz,sgSz,sbSz,slSz] at h2 ⊢;omega
 split
 ·have h1:=valsF_sz hE subs n fun x hx=>h.sub hx
  have h2:=wrap_sz (valsF E subs n).1.2 (.mk 4 [] op (valsF E subs n).1.1 [] [] [])
  simp only[Sg.sz,sgSz,sbSz,slSz] at h2 ⊢;omega
 split
 ·rename_i h4
  subst h4
  have hs:=h.app
  have h0:=exsWt_drop1 (l:=subs) (by omega)
  have hc:=fun n=>(cellsF_sz hB (subs.drop 1) n fun x hx=>h.sub (List.mem_of_mem_drop hx)).1
  have he:=fun n=>hE (subs.headD noEx) n (h.sub (headD_mem (by omega)))
  have hpe:=(subs.headD noEx).wt_pos
  split
  ·have h1:=hc n
   have h2:=wrap_sz (cellsF B (subs.drop 1) n).1.2 (.mk 2 (subs.headD noEx).name 0 (cellsF B (subs.drop 1) n).1.1 [] [] [])
   simp only[Sg.sz,sgSz,sbSz,slSz] at h2 ⊢;omega
  ·have h1:=he (n+1)
   have h3:=hc (E (subs.headD noEx) (n+1)).2
   have h2:=wrap_sz (.look (itT itsL n) (E (subs.headD noEx) (n+1)).1::(cellsF B (subs.drop 1) (E (subs.headD noEx) (n+1)).2).1.2) (.mk 2 (itT itsL n) 0 (cellsF B (subs.drop 1) (E (subs.headD noEx) (n+1)).2).1.1 [] [] [])
   simp only[Sg.sz,sgSz,sbSz,slSz,arSz,List.length_cons] at h2 ⊢;omega
 split
 ·rename_i h5
  subst h5
  have hs:subs.length=1:=by unfold shpP at hnode;omega
  have h0:=exsWt_drop1 (l:=subs) (by omega)
  have h1:=letsF_sz hB (upF binds (subs.headD noEx)) binds n fun x hx=>h.bind hx
  have h2:=hE (subs.headD noEx) (letsF B (upF binds (subs.headD noEx)) binds n).2 (h.sub (headD_mem (by omega)))
  simp only[Sg.sz,sgSz,slSz,List.length_nil];omega
 ·have hs:subs.length=1:=by unfold shpP at hnode;omega
  have h0:=exsWt_drop1 (l:=subs) (by omega)
  have h1:=hE (subs.headD noEx) n (h.sub (headD_mem (by omega)))
  have h2:=altN_sz hE alts (E (subs.headD noEx) n).2 fun x hx=>h.alt hx
  simp only[Sg.sz,sgSz,sbSz,List.length_nil];omega
theorem bindB_sz {cs:List Cn} {top:List Str} {E:Ex→Nat→Sg×Nat} {B:Str→Ex→Bool→Nat→List Sb×Nat} (hE:SzE cs E) (hB:SzB cs B):
 SzB cs (bindB top E B)∧∀ s e u n,Sh cs e→e.kind=3→sbSz (bindB top E B s e u n).1+10≤8*e.wt:=by
 have h3:∀ s e u n,Sh cs e→e.kind=3→sbSz (bindB top E B s e u n).1+10≤8*e.wt:=by
  intro s e u n h hk
  have hp:=e.wt_pos
  obtain⟨kd,nm,nn,op,names,subs,binds,alts⟩:=e
  have hnode:=h.node
  have hw:(Ex.mk kd nm nn op names subs binds alts).wt=1+nm.length+strsWt names+exsWt subs+bdsWt binds+alsWt alts:=by simp only[Ex.wt]
  obtain rfl:kd=3:=hk
  have hs:subs.length=1:=by unfold shpP at hnode;omega
  have h0:=exsWt_drop1 (l:=subs) (by omega)
  have h1:=hE (subs.headD noEx) n (h.sub (headD_mem (by omega)))
  rw[bindB_mk,if_pos rfl]
  simp only[sbSz,Sb.sz,sgSz,List.length_nil]
  omega
 refine⟨fun s e u n h=>?_,h3⟩
 by_cases hk:e.kind=3
 ·have:=h3 s e u n h hk;omega
 have hp:=e.wt_pos
 obtain⟨kd,nm,nn,op,names,subs,binds,alts⟩:=e
 have hw:(Ex.mk kd nm nn op names subs binds alts).wt=1+nm.length+strsWt names+exsWt subs+bdsWt binds+alsWt alts:=by simp only[Ex.wt]
 have h1:=hE _ n h
 have h2:=cellsF_sz hB subs n fun x hx=>h.sub hx
 rw[bindB_mk,if_neg (show ¬ kd=3 from hk)]
 split
 ·simp only[sbSz,Sb.sz,sgSz,sbSz_app]
  omega
 ·simp only[sbSz,Sb.sz,sgSz,List.length_nil]
  omega
theorem trF_sz (cs:List Cn) (top:List Str):∀ m,SzE cs (trF top m).1∧SzB cs (trF top m).2∧∀ s e u n,Sh cs e→e.kind=3→sbSz ((trF top m).2 s e u n).1+10≤8*e.wt
 |0=>by
  refine⟨fun e n h=>?_,fun s e u n h=>?_,fun s e u n h hk=>?_⟩
  ·have:=e.wt_pos;simp only[trF,Sg.sz,sgSz,sbSz,slSz,List.length_nil];omega
  ·have:=e.wt_pos;simp only[trF,sbSz];omega
  ·obtain⟨kd,nm,nn,op,names,subs,binds,alts⟩:=e
   have hnode:=h.node
   obtain rfl:kd=3:=hk
   have hs:subs.length=1:=by unfold shpP at hnode;omega
   have h0:=exsWt_drop1 (l:=subs) (by omega)
   have:=(subs.headD noEx).wt_pos
   simp only[trF,sbSz,Ex.wt];omega
 |m+1=>by
  obtain⟨h1,h2,h3⟩:=trF_sz cs top m
  obtain⟨h4,h5⟩:=bindB_sz (top:=top) h1 h2
  exact⟨exprB_sz h1 h2 h3,h4,h5⟩
theorem ofS_sz (p:Pg) (h0:lintS p=0):sbSz (ofS p)≤8*bdsWt p.binds:=
 letsF_sz (trF_sz p.cons _ _).2.1 _ p.binds _ fun b hb=>⟨(lint0 h0).shp b hb,(lint0 h0).full b hb⟩
theorem seenQ {H:List Blk} {sb:Nat} {S0:List Str} (h:H[sb]? =some (.map none (esO S0))):
 ∃ Q:List Str→List Blk,Q S0=H∧(∀ S,H.set sb (.map none (esO S))=Q S)∧(∀ S,(Q S).length=H.length)∧((∀ S L,(Q S++L)[sb]? =some (.map none (esO S)))∧(∀ S S' L,(Q S++L).set sb (.map none (esO S'))=Q S'++L))∧(closed H→∀ S,closed (Q S)):=by
 have l1:=(List.getElem?_eq_some_iff.1 h).1
 refine⟨fun S=>H.set sb (.map none (esO S)),set_same h,fun _=>rfl,fun S=>by simp,⟨fun S L=>?_,fun S S' L=>?_⟩,fun hc S=>hc.set (esO_under _ _)⟩
 ·rw[List.getElem?_append_left (by simpa using l1),List.getElem?_set_self (by simpa using l1)]
 ·rw[set_old (by simpa using l1),List.set_set]
def PlC (G:Gl) (m:Nat):Prop:=∀ (e:Sg) (S0 S:List Str) (H:List Blk) (sb:Nat),e.sz≤m→e.sz<4294967296→gdE S0 e→(∀ t∈S0,t∈S)→H[sb]? =some (.map none (esO S))→
 ACall Tryz.prog G 11 [e.sv,.map sb] H (fun r H'=>∃ S',(∀ t∈S,t∈S')∧H'=H.set sb (.map none (esO S'))∧r= .bool true)
theorem sgCells_at {l:List Sg} {i:Nat} (h:i<l.length):(sgCells l)[i]? =some (.agg l[i].cells):=by rw[sgCells_map];simp[h];rfl
theorem slCells_at {l:List Sl} {i:Nat} (h:i<l.length):(slCells l)[i]? =some (.agg (.int .i64 l[i].kind:: .str l[i].name:: .int .i64 l[i].n:: .list 1 (l[i].names.map .str)::l[i].body.cells)):=by rw[slCells_map];simp[h,Sl.sv,Sl.cells_eq]
theorem plain16_ok (G:Gl) (hG:GClosed G):∀ m,PlC G m
 |0,e,_,_,_,_,h,_,_,_,_=>absurd e.sz_pos (by omega)
 |m+1,e,S0,S,H,sb,hm,hw,hgd,hsub,h1=>by
  have hrec:=plain16_ok G hG m
  have l1:=(List.getElem?_eq_some_iff.1 h1).1
  obtain⟨k,nm,op,args,subs,binds,alts⟩:=e
  have hww:(Sg.mk k nm op args subs binds alts).sz=1+args.length+sgSz subs+sbSz binds+slSz alts:=by simp only[Sg.sz]
  have n1:=sgSz_len subs
  have n2:=sbSz_len binds
  have n3:=slSz_len alts
  simp only[gdE] at hgd
  obtain⟨g1,g2,g3,g4⟩:=hgd
  obtain⟨Q,q0,qd,hlenQ,qx,qc⟩:=seenQ h1
  simp only[qd]
  rw[← q0]
  refine ACall.of_go TB [] tabOK _ Tryz.func11 rfl (by decide) Tryz.ntmps11 (by simp) rfl (by simp only[initEnv,Nat.reduceAdd];rfl) fun C R' hR hC hcl hB=>?_;have X:=noX;have hC':=congrArg List.length hC
  have hC':=hC'.trans (hlenQ _)
  have hcls:∀ S,closed (Q S):=fun S=>qc (q0 ▸ hcl) S
  clear q0 h1
  generalize hn0:H.length=n0 at*
  have hx21:=hlenQ
  have hx22:∀ S L,(Q S++L)[n0]? =L[0]? :=fun S L=>by rw[← hlenQ S];exact get_app0 _ _
  have hx23:∀ S L k,(Q S++L)[n0+k]? =L[k]? :=fun S L k=>by rw[← hlenQ S];exact get_app _ _ _
  have hx24:∀ S L x,(Q S++L).set n0 x=Q S++L.set 0 x:=fun S L x=>by rw[← hlenQ S];exact set_app0 _ _ _
  have hx25:∀ S L k x,(Q S++L).set (n0+k) x=Q S++L.set k x:=fun S L k x=>by rw[← hlenQ S];exact set_app _ _ _ _
  have under_ints:=atCells_under
  have under_bools:=sgCells_under
  have under_mint:=sbCells_under
  have under_mbool:=slCells_under
  have d1:=ndK n0 [0] (by decide)
  
  have X:=And.intro noX (And.intro qx (And.intro hx21 (And.intro hx22 (And.intro hx23 (And.intro hx24 hx25)))))
  (refine runC ?_;with_reducible repeat' first|exact trivial|(apply Fork.mk<;>intro hb)|apply Two.mk)
  refine go_cut (fun _:Unit=>[(1,.map sb),(2,.ptr n0 0 0 0)]) (fun _=>Q S++[.cells 0 7 [.agg [.int .i64 k,.str nm,.int .i64 op,.list 2 (atCells args),.list 7 (sgCells subs),.list 8 (sbCells binds),.list 11 (slCells alts)]]]) (fun _=>True) (fun K hK=>?_) (fun _ _=>?_)
  ·by_cases hk:k=4
   rotate_left
   ·have X:=And.intro (And.intro noX (And.intro qx (And.intro hx21 (And.intro hx22 (And.intro hx23 (And.intro hx24 hx25)))))) hk
    (refine run ?_;with_reducible repeat' first|exact trivial|(apply Fork.mk<;>intro hb)|apply Two.mk)
    refine hK _ _ () trivial ?_
    exact wkS (n0:=n0) [(n0,0)] hG hB hC' (hcls _) (hn:=hlenQ _) (hd:=d1)
   have g1:=g1 hk
   have X:=And.intro (And.intro noX (And.intro qx (And.intro hx21 (And.intro hx22 (And.intro hx23 (And.intro hx24 hx25)))))) hk
   (refine run ?_;with_reducible repeat' first|exact trivial|(apply Fork.mk<;>intro hb)|apply Two.mk)
   refine go_loop (fun i:Nat=>[(1,.map sb),(2,.ptr n0 0 0 0),(5,.int .i64 (i:Int))]) (fun _=>Q S++[.cells 0 7 [.agg [.int .i64 k,.str nm,.int .i64 op,.list 2 (atCells args),.list 7 (sgCells subs),.list 8 (sbCells binds),.list 11 (slCells alts)]]]) (fun i=>args.length - i) (fun i=>i≤args.length) 0 (Nat.zero_le _) ?_ ?_
   ·subst hk
    exact wkS (n0:=n0) [(n0,0)] hG hB hC' (hcls _) (hn:=hlenQ _) (hd:=d1)
   rintro K2 i hi hK2
   rcases Nat.lt_or_ge i args.length with hlt|hge
   ·have hcg:(atCells args)[i]? =some (.agg [.str args[i].name,.int .i64 args[i].n]):=by simp[atCells,hlt,At.cells]
    have ga:=g1 args[i] (List.getElem_mem hlt)
    have hf:=findSV_esO S args[i].name
    have hal:=atCells_len args
    generalize args[i].name=an at*
    generalize args[i].n=av at*
    by_cases han:an=[]
    ·subst han
     have X:=And.intro (And.intro noX (And.intro qx (And.intro hx21 (And.intro hx22 (And.intro hx23 (And.intro hx24 hx25)))))) (And.intro hcg hal)
     (refine run ?_;with_reducible repeat' first|exact trivial|(apply Fork.mk<;>intro hb)|apply Two.mk)
     refine hK2 _ _ (i+1) (by omega) (by omega) ?_
     exact wkS (n0:=n0) [(n0,0)] hG hB hC' (hcls _) (hn:=hlenQ _) (hd:=d1)
    ·have hin:=hsub _ (ga.resolve_left han)
     rw[decide_eq_true hin] at hf
     have X:=And.intro (And.intro noX (And.intro qx (And.intro hx21 (And.intro hx22 (And.intro hx23 (And.intro hx24 hx25)))))) (And.intro hcg (And.intro hal (And.intro hf han)))
     (refine run ?_;with_reducible repeat' first|exact trivial|(apply Fork.mk<;>intro hb)|apply Two.mk)
     refine hK2 _ _ (i+1) (by omega) (by omega) ?_
     exact wkS (n0:=n0) [(n0,0)] hG hB hC' (hcls _) (hn:=hlenQ _) (hd:=d1)
   clear hK2
   obtain rfl:i=args.length:=by omega
   have hal:=atCells_len args
   have X:=And.intro (And.intro noX (And.intro qx (And.intro hx21 (And.intro hx22 (And.intro hx23 (And.intro hx24 hx25)))))) (And.intro (Int.lt_irrefl (args.length:Int)) hal)
   (refine run ?_;with_reducible repeat' first|exact trivial|(apply Fork.mk<;>intro hb)|apply Two.mk)
   refine hK _ _ () trivial ?_
   exact wkS (n0:=n0) [(n0,0)] hG hB hC' (hcls _) (hn:=hlenQ _) (hd:=d1)
  
  have X:=And.intro noX (And.intro qx (And.intro hx21 (And.intro hx22 (And.intro hx23 (And.intro hx24 hx25)))))
  (refine runC ?_;with_reducible repeat' first|exact trivial|(apply Fork.mk<;>intro hb)|apply Two.mk)
  refine go_cut (fun S':List Str=>[(1,.map sb),(2,.ptr n0 0 0 0)]) (fun S'=>Q S'++[.cells 0 7 [.agg [.int .i64 k,.str nm,.int .i64 op,.list 2 (atCells args),.list 7 (sgCells subs),.list 8 (sbCells binds),.list 11 (slCells alts)]]]) (fun S'=>(∀ t∈S,t∈S')∧∀ t∈(if k=5 then nm::S0 else S0),t∈S') (fun K hK=>?_) ?_
  ·by_cases hk:k=5
   ·have hst:=setSV_esO S nm
    have X:=And.intro (And.intro noX (And.intro qx (And.intro hx21 (And.intro hx22 (And.intro hx23 (And.intro hx24 hx25)))))) (And.intro hk hst)
    (refine run ?_;with_reducible repeat' first|exact trivial|(apply Fork.mk<;>intro hb)|apply Two.mk)
    refine hK _ _ (putO S nm) ⟨fun t ht=>mem_putO.2 (.inl ht),fun t ht=>?_⟩ ?_
    ·rw[if_pos hk] at ht
     rcases List.mem_cons.1 ht with rfl|ht
     ·exact mem_putO.2 (.inr rfl)
     ·exact mem_putO.2 (.inl (hsub t ht))
    ·subst hk
     exact wkS (n0:=n0) [(n0,0)] hG hB hC' (hcls _) (hn:=hlenQ _) (hd:=d1)
   ·have X:=And.intro (And.intro noX (And.intro qx (And.intro hx21 (And.intro hx22 (And.intro hx23 (And.intro hx24 hx25)))))) hk
    (refine run ?_;with_reducible repeat' first|exact trivial|(apply Fork.mk<;>intro hb)|apply Two.mk)
    refine hK _ _ S ⟨fun t ht=>ht,fun t ht=>?_⟩ ?_
    ·rw[if_neg hk] at ht
     exact hsub t ht
    ·exact wkS (n0:=n0) [(n0,0)] hG hB hC' (hcls _) (hn:=hlenQ _) (hd:=d1)
  generalize (if k=5 then nm::S0 else S0)=S2 at*
  rintro S1 ⟨hs1,hs2⟩
  have X:=And.intro noX (And.intro qx (And.intro hx21 (And.intro hx22 (And.intro hx23 (And.intro hx24 hx25)))))
  (refine run ?_;with_reducible repeat' first|exact trivial|(apply Fork.mk<;>intro hb)|apply Two.mk)
  refine go_loop (fun a:Nat×List Str=>[(1,.map sb),(2,.ptr n0 0 0 0),(6,.int .i64 (a.1:Int))]) (fun a=>Q a.2++[.cells 0 7 [.agg [.int .i64 k,.str nm,.int .i64 op,.list 2 (atCells args),.list 7 (sgCells subs),.list 8 (sbCells binds),.list 11 (slCells alts)]]]) (fun a=>binds.length - a.1) (fun a=>a.1≤binds.length∧(∀ t∈S,t∈a.2)∧∀ t∈S2,t∈a.2) (0,S1) ⟨Nat.zero_le _,hs1,hs2⟩ ?_ ?_
  ·exact wkS (n0:=n0) [(n0,0)] hG hB hC' (hcls _) (hn:=hlenQ _) (hd:=d1)
  clear hs1 hs2
  rintro K ⟨i,S1⟩ ⟨hi,hs1,hs2⟩ hK
  simp only at hi hs1 hs2
  dsimp only
  have hbl:=sbCells_len binds
  rcases Nat.lt_or_ge i binds.length with hlt|hge
  ·have hgb:=gdB_mem g2 (List.getElem_mem hlt)
   have hsz:=sbSz_mem (List.getElem_mem hlt)
   have hszb:=binds[i].sz_body
   have hcg:(sbCells binds)[i]? =some binds[i].sv:=by rw[sbCells_map];simp[hlt]
   generalize binds[i]=b at*
   obtain⟨bn,bk,bf,bp,bu,bc,ba,bb⟩:=b
   simp only[Sb.body] at hgb hszb
   rw[show(Sb.mk bn bk bf bp bu bc ba bb).sv= .agg [.str bn,.int .i64 bk,.list 1 (bf.map .str),.list 1 (bp.map .str),.bool bu,.str bc,.list 2 (atCells ba),.list 7 (sgCells bb)] from rfl] at hcg
   have hbbl:=sgSz_len bb
   have hsl:=sgCells_len bb
   have X:=And.intro (And.intro noX (And.intro qx (And.intro hx21 (And.intro hx22 (And.intro hx23 (And.intro hx24 hx25)))))) (And.intro hcg hbl)
   (refine run ?_;with_reducible repeat' first|exact trivial|(apply Fork.mk<;>intro hb)|apply Two.mk)
   refine go_loop (fun a:Nat×List Str=>[(1,.map sb),(2,.ptr n0 0 0 0),(6,.int .i64 (i:Int)),(7,.int .i64 (a.1:Int))]) (fun a=>Q a.2++[.cells 0 7 [.agg [.int .i64 k,.str nm,.int .i64 op,.list 2 (atCells args),.list 7 (sgCells subs),.list 8 (sbCells binds),.list 11 (slCells alts)]]]) (fun a=>bb.length - a.1) (fun a=>a.1≤bb.length∧(∀ t∈S,t∈a.2)∧∀ t∈S2,t∈a.2) (0,S1) ⟨Nat.zero_le _,hs1,hs2⟩ ?_ ?_
   ·exact wkS (n0:=n0) [(n0,0)] hG hB hC' (hcls _) (hn:=hlenQ _) (hd:=d1)
   clear hs1 hs2
   rintro K2 ⟨j,S1⟩ ⟨hj,hs1,hs2⟩ hK2
   simp only at hj hs1 hs2
   dsimp only
   rcases Nat.lt_or_ge j bb.length with hltj|hgej
   ·have hm2:=List.getElem_mem hltj
    have hsz2:=sgSz_mem hm2
    have hcj:=sgCells_at hltj
    have hcall:=fun L=>hrec bb[j] S2 S1 (Q S1++L) sb (by omega) (by omega) (gdS_mem hgb hm2) hs2 (qx.1 _ _)
    rw[show bb[j].sv= .agg bb[j].cells from rfl] at hcall
    have hx7:=bb[j].cells_len
    have hx7t:=bb[j].cells_take
    have hx7d:bb[j].cells.drop 7=[]:=List.drop_eq_nil_of_le (by omega)
    generalize bb[j].cells=xc at*
    have X:=And.intro (And.intro noX (And.intro qx (And.intro hx21 (And.intro hx22 (And.intro hx23 (And.intro hx24 hx25)))))) (And.intro hcg (And.intro hbl (And.intro hsl (And.intro hcj (And.intro hx7 (And.intro hx7t hx7d))))))
    (refine run ?_;with_reducible repeat' first|exact trivial|(apply Fork.mk<;>intro hb)|apply Two.mk)
    refine callS (hcall _) ?_
    rintro r H' ⟨S3,h3,rfl,rfl⟩
    rw[qx.2]
    (refine run ?_;with_reducible repeat' first|exact trivial|(apply Fork.mk<;>intro hb)|apply Two.mk)
    refine hK2 _ _ (j+1,S3) (by simp only;omega) ⟨by simp only;omega,fun t ht=>h3 t (hs1 t ht),fun t ht=>h3 t (hs2 t ht)⟩ ?_
    exact wkS (n0:=n0) [(n0,0)] hG hB hC' (hcls _) (hn:=hlenQ _) (hd:=d1)
   clear hK2
   obtain rfl:j=bb.length:=by omega
   have X:=And.intro (And.intro noX (And.intro qx (And.intro hx21 (And.intro hx22 (And.intro hx23 (And.intro hx24 hx25)))))) (And.intro hcg (And.intro hbl (And.intro hsl (Int.lt_irrefl (bb.length:Int)))))
   (refine run ?_;with_reducible repeat' first|exact trivial|(apply Fork.mk<;>intro hb)|apply Two.mk)
   refine hK _ _ (i+1,S1) (by simp only;omega) ⟨by simp only;omega,hs1,hs2⟩ ?_
   exact wkS (n0:=n0) [(n0,0)] hG hB hC' (hcls _) (hn:=hlenQ _) (hd:=d1)
  clear hK
  obtain rfl:i=binds.length:=by omega
  have X:=And.intro (And.intro noX (And.intro qx (And.intro hx21 (And.intro hx22 (And.intro hx23 (And.intro hx24 hx25)))))) (And.intro (Int.lt_irrefl (binds.length:Int)) hbl)
  (refine run ?_;with_reducible repeat' first|exact trivial|(apply Fork.mk<;>intro hb)|apply Two.mk)
  refine go_loop (fun a:Nat×List Str=>[(1,.map sb),(2,.ptr n0 0 0 0),(8,.int .i64 (a.1:Int))]) (fun a=>Q a.2++[.cells 0 7 [.agg [.int .i64 k,.str nm,.int .i64 op,.list 2 (atCells args),.list 7 (sgCells subs),.list 8 (sbCells binds),.list 11 (slCells alts)]]]) (fun a=>subs.length - a.1) (fun a=>a.1≤subs.length∧(∀ t∈S,t∈a.2)∧∀ t∈S2,t∈a.2) (0,S1) ⟨Nat.zero_le _,hs1,hs2⟩ ?_ ?_
  ·exact wkS (n0:=n0) [(n0,0)] hG hB hC' (hcls _) (hn:=hlenQ _) (hd:=d1)
  clear hs1 hs2
  rintro K ⟨j,S1⟩ ⟨hj,hs1,hs2⟩ hK
  simp only at hj hs1 hs2
  dsimp only
  have hsl:=sgCells_len subs
  rcases Nat.lt_or_ge j subs.length with hltj|hgej
  ·have hm2:=List.getElem_mem hltj
   have hsz2:=sgSz_mem hm2
   have hcj:=sgCells_at hltj
   have hcall:=fun L=>hrec subs[j] S2 S1 (Q S1++L) sb (by omega) (by omega) (gdS_mem g3 hm2) hs2 (qx.1 _ _)
   rw[show subs[j].sv= .agg subs[j].cells from rfl] at hcall
   have hx7:=subs[j].cells_len
   have hx7t:=subs[j].cells_take
   have hx7d:subs[j].cells.drop 7=[]:=List.drop_eq_nil_of_le (by omega)
   generalize subs[j].cells=xc at*
   have X:=And.intro (And.intro noX (And.intro qx (And.intro hx21 (And.intro hx22 (And.intro hx23 (And.intro hx24 hx25)))))) (And.intro hsl (And.intro hcj (And.intro hx7 (And.intro hx7t hx7d))))
   (refine run ?_;with_reducible repeat' first|exact trivial|(apply Fork.mk<;>intro hb)|apply Two.mk)
   refine callS (hcall _) ?_
   rintro r H' ⟨S3,h3,rfl,rfl⟩
   rw[qx.2]
   (refine run ?_;with_reducible repeat' first|exact trivial|(apply Fork.mk<;>intro hb)|apply Two.mk)
   refine hK _ _ (j+1,S3) (by simp only;omega) ⟨by simp only;omega,fun t ht=>h3 t (hs1 t ht),fun t ht=>h3 t (hs2 t ht)⟩ ?_
   exact wkS (n0:=n0) [(n0,0)] hG hB hC' (hcls _) (hn:=hlenQ _) (hd:=d1)
  clear hK
  obtain rfl:j=subs.length:=by omega
  have X:=And.intro (And.intro noX (And.intro qx (And.intro hx21 (And.intro hx22 (And.intro hx23 (And.intro hx24 hx25)))))) (And.intro (Int.lt_irrefl (subs.length:Int)) hsl)
  (refine run ?_;with_reducible repeat' first|exact trivial|(apply Fork.mk<;>intro hb)|apply Two.mk)
  refine go_loop (fun a:Nat×List Str=>[(1,.map sb),(2,.ptr n0 0 0 0),(9,.int .i64 (a.1:Int))]) (fun a=>Q a.2++[.cells 0 7 [.agg [.int .i64 k,.str nm,.int .i64 op,.list 2 (atCells args),.list 7 (sgCells subs),.list 8 (sbCells binds),.list 11 (slCells alts)]]]) (fun a=>alts.length - a.1) (fun a=>a.1≤alts.length∧(∀ t∈S,t∈a.2)∧∀ t∈S2,t∈a.2) (0,S1) ⟨Nat.zero_le _,hs1,hs2⟩ ?_ ?_
  ·exact wkS (n0:=n0) [(n0,0)] hG hB hC' (hcls _) (hn:=hlenQ _) (hd:=d1)
  clear hs1 hs2
  rintro K ⟨j,S1⟩ ⟨hj,hs1,hs2⟩ hK
  simp only at hj hs1 hs2
  dsimp only
  have hal:=slCells_len alts
  rcases Nat.lt_or_ge j alts.length with hltj|hgej
  ·have hm2:=List.getElem_mem hltj
   have hsz2:=slSz_mem hm2
   have hsz3:=alts[j].sz_body
   have hcj:=slCells_at hltj
   have hcall:=fun L=>hrec alts[j].body S2 S1 (Q S1++L) sb (by omega) (by omega) (gdA_mem g4 hm2) hs2 (qx.1 _ _)
   rw[show alts[j].body.sv= .agg alts[j].body.cells from rfl] at hcall
   have hx7:=alts[j].body.cells_len
   have hx7t:=alts[j].body.cells_take
   have hx7d:alts[j].body.cells.drop 7=[]:=List.drop_eq_nil_of_le (by omega)
   generalize alts[j].body.cells=xc at*
   generalize alts[j].kind=y1 at*
   generalize alts[j].name=y2 at*
   generalize alts[j].n=y3 at*
   generalize alts[j].names=y4 at*
   have X:=And.intro (And.intro noX (And.intro qx (And.intro hx21 (And.intro hx22 (And.intro hx23 (And.intro hx24 hx25)))))) (And.intro hal (And.intro hcj (And.intro hx7 (And.intro hx7t hx7d))))
   (refine run ?_;with_reducible repeat' first|exact trivial|(apply Fork.mk<;>intro hb)|apply Two.mk)
   refine callS (hcall _) ?_
   rintro r H' ⟨S3,h3,rfl,rfl⟩
   rw[qx.2]
   (refine run ?_;with_reducible repeat' first|exact trivial|(apply Fork.mk<;>intro hb)|apply Two.mk)
   refine hK _ _ (j+1,S3) (by simp only;omega) ⟨by simp only;omega,fun t ht=>h3 t (hs1 t ht),fun t ht=>h3 t (hs2 t ht)⟩ ?_
   exact wkS (n0:=n0) [(n0,0)] hG hB hC' (hcls _) (hn:=hlenQ _) (hd:=d1)
  clear hK
  obtain rfl:j=alts.length:=by omega
  have X:=And.intro (And.intro noX (And.intro qx (And.intro hx21 (And.intro hx22 (And.intro hx23 (And.intro hx24 hx25)))))) (And.intro (Int.lt_irrefl (alts.length:Int)) hal)
  (refine run ?_;with_reducible repeat' first|exact trivial|(apply Fork.mk<;>intro hb)|apply Two.mk)
  exact finS (n0:=n0) hR hC' (hcls _) (.same _ rfl) ⟨S1,hs1,rfl,rfl⟩ (hn:=hlenQ _)
end Go.Proofs.YtedejleokilohaaGreatDoor
