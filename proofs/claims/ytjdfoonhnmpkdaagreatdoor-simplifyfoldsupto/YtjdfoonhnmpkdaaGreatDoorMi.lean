/- A part of the proof: QG, A7, Gr1, Gr2, A5, A6L, A8, Y3, A9, A10, A10b, B6, B7. Names and spaces are cut short by program. -/
import Derived.Test.YtjdfoonhnmpkdaaGreatDoorMh
import Derived.Shelf.Spec.SlicesGrow
set_option linter.unusedSimpArgs false
set_option linter.unusedVariables false
set_option maxRecDepth 10000
set_option maxHeartbeats 4000000
namespace Go.Proofs.YtjdfoonhnmpkdaaGreatDoor
open Go
theorem rv (s:aD):∀ l:List (aD×Int),bO (kG l) (.str s)=(Ao l s).map (SV.int .i64)
 |[]=>rfl
 |(k,n)::r=>by
  have ih:=rv s r
  simp only[kG,List.map_cons,bO,SV.ey,Ao] at ih ⊢
  by_cases h:s=k
  ·subst h;simp
  ·have h2:(s==k)=false:=by simpa using h
   simp only[h2,Bool.false_eq_true,if_false,ih,h]
theorem CG {s:aD} {n:Int}:∀ {l:List (aD×Int)},Ao l s=none→cN (kG l) (.str s) (.int .i64 n)=kG (l++[(s,n)])
 |[],_=>rfl
 |(k,m)::r,h=>by
  have h1:¬ s=k:=fun e=>by simp[Ao,e] at h
  have ih:=CG (s:=s) (n:=n) (l:=r) (by simpa [Ao,h1] using h)
  have h2:(s==k)=false:=by simpa using h1
  simp only[kG,List.map_cons,cN,SV.ey,List.cons_append,h2,Bool.false_eq_true,if_false] at ih ⊢
  rw[ih]
theorem IH {nms:List aD} {i:Nat} (hi:i<nms.length) (h:Ao (jl nms i) nms[i]=none):jl nms (i+1)=jl nms i++[(nms[i],(i:Int))]:=by
 rw[jl,List.getElem?_eq_getElem hi];simp[h]
theorem II {nms:List aD} {i:Nat} {x:Int} (hi:i<nms.length) (h:Ao (jl nms i) nms[i]=some x):jl nms (i+1)=jl nms i:=by
 rw[jl,List.getElem?_eq_getElem hi];simp[h]
def uC (binds:List Bd) (i:Nat):List SV:=(List.range binds.length).map fun j=>if j<i then gL (eo binds j) else .nil
def uL (binds:List Bd):List SV:=(List.range binds.length).map fun j=>gL (eo binds j)
theorem nN (m:Nat) (g:List Nat):(gL g).under m=true:=by
 show SV.aj m (g.map iv)=true
 exact SV.aT fun _ _=>rfl
theorem qV (m:Nat) (binds:List Bd) (i:Nat):SV.aj m (uC binds i)=true:=SV.aT fun j _=>by
 split
 ·exact nN _ _
 ·rfl
theorem CP (m:Nat) (binds:List Bd):SV.aj m (uL binds)=true:=SV.aT fun j _=>nN _ _
theorem Kt (binds:List Bd) (i:Nat):(uC binds i).length=binds.length:=by simp[uC]
theorem Eh (binds:List Bd):(uL binds).length=binds.length:=by simp[uL]
theorem Ku {binds:List Bd} {j:Nat} (h:j<binds.length):(uL binds)[j]? =some (gL (eo binds j)):=by simp[uL,h]
theorem OQ {binds:List Bd} {i:Nat} (h:i<binds.length):(uC binds i)[i]? =some .nil:=by simp[uC,h]
theorem MR (binds:List Bd):List.replicate binds.length SV.nil=uC binds 0:=(List.eq_replicate_iff.2 ⟨by simp[uC],by simp[uC]⟩).symm
theorem OP (binds:List Bd):uC binds binds.length=uL binds:=List.map_congr_left fun j hj=>by rw[if_pos (List.mem_range.1 hj)]
theorem OR {binds:List Bd} {i:Nat} (h:i<binds.length):(uC binds i).set i (gL (eo binds i))=uC binds (i+1):=by
 apply List.ext_getElem?
 intro k
 rw[List.getElem?_set]
 unfold uC
 simp only[List.getElem?_map,List.length_map,List.length_range]
 by_cases hk:k<binds.length
 ·simp only[List.getElem?_range hk,Option.map_some]
  by_cases e:i=k
  ·subst e;simp[h]
  ·rw[if_neg e]
   congr 1
   by_cases h2:k<i
   ·rw[if_pos h2,if_pos (by omega)]
   ·rw[if_neg h2,if_neg (by omega)]
 ·have hn:(List.range binds.length)[k]? =none:=List.getElem?_eq_none (by simp;omega)
  rw[hn]
  split
  ·rename_i e
   exact absurd h (by omega)
  ·rfl
theorem b7.setAt {H:List av} {n:Nat} {ks:dP} {x y:SV} (hx:bF H n ks x y):∀ {xs:List SV} {i:Nat},SV.aj n xs=true→b7 H n ks (xs.set i x) (xs.set i y)
 |[],_,_=> .nil
 |z::xs,0,h=>by
  simp only[SV.aj,Bool.and_eq_true] at h
  exact .cons _ _ _ _ hx (b7.same h.2)
 |z::xs,i+1,h=>by
  simp only[SV.aj,Bool.and_eq_true] at h
  exact .cons _ _ _ _ (.same _ h.1) (b7.setAt hx h.2)
def Ba (n i:Nat) (rs:List SV):List SV:=rs++List.replicate (n - i) .b9
structure Hu (R:cP) (i:Nat) (rs:List SV):Prop where
 len:rs.length=i
 at_:∀ j (h:j<i),∃ x,rs[j]? =some x∧FU R j x
theorem Jn {R:cP} {j:Nat} {V:List Nat} (i:Nat) (hV:∀ y,y∈V↔R j y=true):(bO ((kI V).zip (vI V)) (iv i)).getD (.bool false)= .bool (R j i):=by
 rw[EM,uF];congr 1
 have:=hV i
 cases hb:R j i<;>simp_all
theorem nK (n:Nat):∀ V:List Nat,dq n (Bl V)=true
 |[]=>rfl
 |x::V=>by simp only[Bl,List.map_cons,dq,SV.under,Bool.true_and];exact nK n V
theorem EG {n i:Nat} {R:cP} {rs:List SV} (h:Hu R i rs) (hi:i≤n):(Ba n i rs).length=n:=by simp[Ba,h.len];omega
theorem Hu.under {R:cP} {i:Nat} {rs:List SV} (h:Hu R i rs) (m:Nat):SV.aj m rs=true:=by
 have key:∀ l:List SV,(∀ x∈l,x.under m=true)→SV.aj m l=true:=fun l=>by
  induction l with
  |nil=>intro _;rfl
  |cons x r ih=>intro hx;simp only[SV.aj,hx x (List.mem_cons_self ..),ih fun y hy=>hx y (List.mem_cons_of_mem _ hy),Bool.and_self]
 refine key rs fun x hx=>?_
 obtain⟨j,hj,rfl⟩:=List.mem_iff_getElem.1 hx
 obtain⟨y,hy,hr⟩:=h.at_ j (by rw[← h.len];exact hj)
 rw[List.getElem?_eq_getElem hj] at hy
 cases hy
 exact hr.under m
theorem vU {m:Nat}:∀ {a b:List SV},SV.aj m a=true→SV.aj m b=true→SV.aj m (a++b)=true
 |[],b,_,h=>h
 |x::a,b,h,h'=>by
  simp only[SV.aj,Bool.and_eq_true] at h
  simp only[List.cons_append,SV.aj,h.1,vU h.2 h',Bool.and_self]
theorem vV {m:Nat} {x:SV} (h:x.under m=true):∀ k,SV.aj m (List.replicate k x)=true
 |0=>rfl
 |k+1=>by simp only[List.replicate_succ,SV.aj,h,vV h k,Bool.and_self]
theorem rl (m:Nat) (R:cP) (n:Nat) {i:Nat} {rs:List SV} (h:Hu R i rs):SV.aj m (Ba n i rs)=true:=vU (h.under m) (vV rfl _)
theorem NS {n i:Nat} {R:cP} {rs:List SV} (h:Hu R i rs) (hi:i<n) (x:SV):((Ba n i rs).set i x)[i]? =some x:=List.getElem?_set_self (by rw[EG h (by omega)];exact hi)
theorem Lt {n i:Nat} {R:cP} {rs:List SV} (h:Hu R i rs) (hi:i<n):(Ba n i rs)[i]? =some .b9:=by
 unfold Ba
 rw[List.getElem?_append_right (by rw[h.len];exact Nat.le_refl _),h.len,Nat.sub_self]
 obtain⟨d,hd⟩:∃ d,n - i=d+1:=⟨n - i - 1,by omega⟩
 rw[hd];rfl
theorem H5 {n i:Nat} {R:cP} {rs:List SV} (h:Hu R i rs) (hi:i<n) (x:SV):(Ba n i rs).set i x=Ba n (i+1) (rs++[x]):=by
 unfold Ba
 rw[List.set_append_right _ _ (by rw[h.len];exact Nat.le_refl _),h.len,Nat.sub_self]
 obtain⟨d,hd⟩:∃ d,n - i=d+1:=⟨n - i - 1,by omega⟩
 rw[hd,List.replicate_succ,List.set_cons_zero,List.append_assoc,show n - (i+1)=d by omega]
 rfl
theorem Hu.snoc {R:cP} {i:Nat} {rs:List SV} (h:Hu R i rs) {x:SV} (hx:FU R i x):Hu R (i+1) (rs++[x]):=by
 refine⟨by simp[h.len],fun j hj=>?_⟩
 rcases Nat.lt_or_ge j i with h2|h2
 ·obtain⟨y,hy,hr⟩:=h.at_ j h2
  exact⟨y,by rw[List.getElem?_append_left (by rw[h.len];exact h2)];exact hy,hr⟩
 ·obtain rfl:j=i:=by omega
  exact⟨x,by rw[List.getElem?_append_right (by rw[h.len];exact Nat.le_refl _),h.len,Nat.sub_self];rfl,hx⟩
theorem Dc (G:Gl) (hG:ah G) (binds:List Bd) (hn:binds.length<131072) (hw:∀ b∈binds,b.e.wt<549755813888) (H:List av):
 aq Tryz.prog G 121 [.list 9 (ad binds)] H (fun r H'=>H'=H∧r= .list 1 ((gj binds.length (jz binds)).map gL)):=by
 refine bP [21,24] Tryz.func121 Tryz.ntmps121 fun C R' hR hC hcl hB hC' X=>?_
 (refine run ?_)
 generalize hnms:binds.map Bd.name=nms
 have hnl:nms.length=binds.length:=by rw[← hnms];simp
 refine aA (fun i:Nat=>[(0,.list 9 (ad binds)),(3,.map H.length),(27,.list 9 (ad binds)),(28,.int .i64 binds.length),(29,.int .i64 i)]) (fun i=>H++[.map none (kG (jl nms i))]) (fun i=>binds.length - i) (fun i=>i≤binds.length) 0 (Nat.zero_le _) (bI (n0:=H.length) [(H.length,0)] hG hB hC' hcl) ?_
 rintro K i hi hK
 rcases Nat.lt_or_ge i binds.length with hlt|hge
 ·have hni:nms[i]'(by omega)=binds[i].name:=by subst hnms;simp
  have hf:=rv binds[i].name (jl nms i)
  cases hl:Ao (jl nms i) binds[i].name with
  |none=>
   have hs:=CG (n:=(i:Int)) hl
   have hnew:=IH (nms:=nms) (i:=i) (by omega) (by rw[hni];exact hl)
   rw[hl] at hf
   have X:=fc aO hf hs
   (refine run ?_;with_reducible repeat' first|exact trivial|(apply aJ.mk<;>intro hb)|apply bN.mk)
   refine hK _ _ (i+1) (by omega) (by omega) ?_
   rw[hnew,hni]
   exact bI (n0:=H.length) [(H.length,0)] hG hB hC' hcl
  |some x=>
   have hold:=II (nms:=nms) (i:=i) (by omega) (by rw[hni];exact hl)
   rw[hl] at hf
   have X:=And.intro aO hf
   (refine run ?_;with_reducible repeat' first|exact trivial|(apply aJ.mk<;>intro hb)|apply bN.mk)
   refine hK _ _ (i+1) (by omega) (by omega) ?_
   rw[hold]
   exact bI (n0:=H.length) [(H.length,0)] hG hB hC' hcl
 obtain rfl:i=binds.length:=by omega
 clear hK
 have X:=And.intro aO (Int.lt_irrefl (binds.length:Int))
 (refine run ?_)
 clear X
 rw[MR]
 refine aA (fun i:Nat=>[(0,.list 9 (ad binds)),(3,.map H.length),(8,.sl (H.length+1) 0 0 binds.length),(51,.list 9 (ad binds)),(52,.int .i64 binds.length),(53,.int .i64 i)]) (fun i=>H++[.map none (kG (jl nms binds.length)),.cells 0 1 (uC binds i)]) (fun i=>binds.length - i) (fun i=>i≤binds.length) 0 (Nat.zero_le _) ?_ ?_
 ·have u:=qV H.length binds 0
  exact bI (n0:=H.length) [(H.length,0),(H.length+1,0)] hG hB hC' hcl
 rintro K i hi hK
 rcases Nat.lt_or_ge i binds.length with hlt|hge
 ·have c1:=fun H=>ID G hG binds[i].e (by have:=hw binds[i] (List.getElem_mem hlt);omega) H
  have hus:eo binds i=(de binds[i].e).filterMap (iz nms):=by subst hnms;unfold eo;rw[List.getElem?_eq_getElem hlt]
  have hFl:(de binds[i].e).length≤binds[i].e.wt:=by
   have:=qW binds[i].e.wt binds[i].e ([],[])
   rw[de,iV]
   simpa using this
  have hwi:=hw binds[i] (List.getElem_mem hlt)
  generalize de binds[i].e=F at*
  have X:=aO
  (refine run ?_;with_reducible repeat' first|exact trivial|(apply aJ.mk<;>intro hb)|apply bN.mk)
  have u:SV.aj H.length (List.drop 0 (uC binds i))=true:=qV H.length binds i
  refine ke [(0,.list 9 (ad binds)),(3,.map H.length),(8,.sl (H.length+1) 0 0 binds.length),(9,.int .i64 i),(51,.list 9 (ad binds)),(52,.int .i64 binds.length),(53,.int .i64 i),(60,.list 1 (F.map .str)),(61,.int .i64 F.length),(62,.int .i64 0)] (H++[.map none (kG (jl nms binds.length)),.cells 0 1 (uC binds i)]) (bI (n0:=H.length) [(H.length,0),(H.length+1,0)] hG hB hC' hcl) ?_
  refine ke _ _ (Hl (id:=H.length+1) (g:=0) (s:=1) (i:=i) (vals:=uC binds i) 1 (by simp) (OQ hlt)) ?_
  simp only[bW,List.set_cons_succ,List.set_cons_zero,List.length_append,List.length_cons,List.length_nil,List.append_assoc,List.cons_append,List.nil_append,Nat.zero_add,Nat.reduceAdd]
  refine aA (fun p:Nat=>[(0,.list 9 (ad binds)),(3,.map H.length),(8,.sl (H.length+1) 0 0 binds.length),(9,.int .i64 i),(51,.list 9 (ad binds)),(52,.int .i64 binds.length),(53,.int .i64 i),(60,.list 1 (F.map .str)),(61,.int .i64 F.length),(62,.int .i64 p)])
   (fun p=>H++[.map none (kG (jl nms binds.length)),.cells 0 1 ((uC binds i).set i (.sl (H.length+2) 0 0 ((F.take p).filterMap (iz nms)).length)),.cells 0 1 (((F.take p).filterMap (iz nms)).map iv)]) (fun p=>F.length - p) (fun p=>p≤F.length) 0 (Nat.zero_le _) ?_ ?_
  ·simp only[List.take_zero,List.filterMap_nil,List.length_nil,List.map_nil]
   exact Wk.sub (by simp[aW,look])
  rintro K2 p hp hK2
  have ust:∀ x,((uC binds i).set i x)[i]? =some x:=fun x=>List.getElem?_set_self (by rw[Kt];exact hlt)
  have usl:∀ x,((uC binds i).set i x).length=binds.length:=fun x=>by rw[List.length_set,Kt]
  have hacc:((F.take p).filterMap (iz nms)).length≤F.length:=Nat.le_trans (List.length_filterMap_le ..) (by simp;omega)
  rcases Nat.lt_or_ge p F.length with hlp|hgp
  ·have hf:=rv F[p] (jl nms nms.length)
   rw[IG,hnl] at hf
   have htk:(F.take (p+1)).filterMap (iz nms)=(F.take p).filterMap (iz nms)++[F[p]].filterMap (iz nms):=by rw[List.take_succ_eq_append_getElem hlp,List.filterMap_append]
   cases hl:iz nms F[p] with
   |none=>
    rw[hl] at hf
    have htk2:(F.take (p+1)).filterMap (iz nms)=(F.take p).filterMap (iz nms):=by rw[htk];simp[hl]
    have X:=And.intro aO hf
    (refine run ?_;with_reducible repeat' first|exact trivial|(apply aJ.mk<;>intro hb)|apply bN.mk)
    refine hK2 _ _ (p+1) (by omega) (by omega) ?_
    rw[htk2]
    exact Wk.sub (by simp[aW,look])
   |some x=>
    rw[hl] at hf
    have htk2:(F.take (p+1)).filterMap (iz nms)=(F.take p).filterMap (iz nms)++[x]:=by rw[htk];simp[hl]
    generalize (F.take p).filterMap (iz nms)=acc at*
    have X:=j8 aO hf (ust (.sl (H.length+2) 0 0 acc.length)) (usl (.sl (H.length+2) 0 0 acc.length)) (show(acc.map iv).length=acc.length from List.length_map ..)
    (refine run ?_;with_reducible repeat' first|exact trivial|(apply aJ.mk<;>intro hb)|apply bN.mk)
    refine hK2 _ _ (p+1) (by omega) (by omega) ?_
    rw[htk2,List.length_append,List.length_singleton,List.map_append,List.map_singleton]
    simp only[Option.getD_some]
    have uacc:SV.aj H.length (acc.map iv++[iv x])=true:=by
     have h:SV.aj H.length ((acc++[x]).map iv)=true:=SV.aT fun _ _=>rfl
     rwa[List.map_append,List.map_singleton] at h
    exact bI (n0:=H.length) [(H.length,0),(H.length+1,0),(H.length+2,0)] hG hB hC' hcl (hk:=bH.m (by rw[bL];rfl) (Nat.le_refl _) (iw.same (gB _ _)) (bH.c (by rw[aH];rfl) (by omega) (Nat.zero_le _) (b7.setAt (by exact kc) (qV _ _ _)) (bH.c (by rw[aH];rfl) (by omega) (Nat.zero_le _) (b7.same uacc) .nil)))
  ·have hpe:p=F.length:=by omega
   have X:=And.intro aO (show ¬ ((p:Int)<(F.length:Int)) from by omega)
   subst hpe
   rw[List.take_length,← hus]
   (refine run ?_)
   refine hK _ _ (i+1) (by omega) (by omega) ?_
   rw[← OR hlt]
   exact bI (n0:=H.length) [(H.length,0),(H.length+1,0)] hG hB hC' hcl (hk:=bH.m (by rw[bL];rfl) (Nat.le_refl _) (iw.same (gB _ _)) (bH.c (by rw[aH];rfl) (by omega) (Nat.zero_le _) (b7.setAt (bF.sf (by rw[aH];rfl) (by omega) (by simp) (by rw[List.drop_zero,List.take_of_length_le (by simp)]) (SV.aT fun _ _=>rfl)) (qV _ _ _)) .nil))
 obtain rfl:i=binds.length:=by omega
 clear hK
 rw[OP]
 have X:=aO
 (refine iu ?_)
 refine eh rfl (by omega) ?_
 refine ke [(0,.list 9 (ad binds)),(8,.list 1 (uL binds))] (H++[]) ?_ ?_
 ·exact Wk.xJ [] hG hB rfl hC' hcl .nil (by simp) ⟨⟨_,rfl,.same _ jF⟩,⟨_,rfl,bF.sf (by rw[aH];rfl) (by omega) (by simp) (by rw[List.drop_zero,List.take_of_length_le (by rw[Eh];exact Nat.le_refl _)]) (CP _ _)⟩,trivial⟩
 rw[List.append_nil]
 have u8:(SV.list 1 (uL binds)).under H.length=true:=CP _ _
 (refine run ?_)
 clear X
 have hBn:∀ i,(eo binds i).length≤131072:=fun i=>by have:=Kw binds i;omega
 have hRn:∀ i j,jz binds i j=true→j<binds.length:=fun i j h=>FG h
 refine aA (fun a:Nat×List SV=>[(0,.list 9 (ad binds)),(8,.list 1 (uL binds)),(15,.ptr (H.length+1) 0 0 0),(89,.int .i64 binds.length),(90,.int .i64 a.1)]) (fun a=>H++[.cells 0 1 (Ba binds.length a.1 a.2),.cells 0 1 [.sl H.length 0 0 binds.length]]) (fun a=>binds.length - a.1) (fun a=>a.1≤binds.length∧Hu (jz binds) a.1 a.2) (0,[]) ⟨Nat.zero_le _,rfl,fun j h=>by omega⟩ ?_ ?_
 ·have u:=rl H.length (jz binds) binds.length (rs:=[]) (i:=0) ⟨rfl,fun j h=>by omega⟩
  exact bI (n0:=H.length) [(H.length,0),(H.length+1,0)] hG hB hC' hcl
 rintro K ⟨i,rs⟩ ⟨hi,hrs⟩ hK
 dsimp only at hi hrs ⊢
 have u:=rl H.length (jz binds) binds.length hrs
 have ud:SV.aj H.length (List.drop 0 (Ba binds.length i rs))=true:=u
 have hcl0:=EG hrs hi
 rcases Nat.lt_or_ge i binds.length with hlt|hge
 ·have c1:=fun H=>Dh G hG (eo binds i) H (by have:=hBn i;omega)
  have X:=j8 aO (Lt hrs hlt) hcl0 (Eh binds) (show(uL binds)[i]? =some (.list 1 ((eo binds i).map iv)) from Ku hlt)
  (refine run ?_;with_reducible repeat' first|exact trivial|(apply aJ.mk<;>intro hb)|apply bN.mk)
  clear X
  refine aA (fun a:List Nat×List Nat=>[(0,.list 9 (ad binds)),(8,.list 1 (uL binds)),(15,.ptr (H.length+1) 0 0 0),(16,.int .i64 i),(17,.sl (H.length+3) 0 0 a.2.length),(89,.int .i64 binds.length),(90,.int .i64 i)])
   (fun a=>H++[.cells 0 1 ((Ba binds.length i rs).set i (.map (H.length+2))),.cells 0 1 [.sl H.length 0 0 binds.length],.map (some .i64) (Bl a.1),.cells 0 1 (a.2.map iv)]) (fun a=>Dz binds.length 131072 a.1 a.2) (fun a=>Au binds 131072 i a.1 a.2) ([],eo binds i) (Gb binds hBn i) ?_ ?_
  ·dsimp only
   simp only[List.length_append,List.length_cons,List.length_nil,List.append_assoc,List.cons_append,List.nil_append,Nat.reduceAdd,Nat.zero_add]
   rw[show([]:List (SV×SV))=Bl [] from rfl]
   exact bI (n0:=H.length) [(H.length,0),(H.length+1,0),(H.length+2,0),(H.length+3,0)] hG hB hC' hcl (hk:=bH.c (by rw[bL];rfl) (Nat.le_refl _) (Nat.zero_le _) (b7.setAt (by exact kc) u) (bH.c (by rw[aH];rfl) (by omega) (Nat.zero_le _) (by exact gi) (bH.m (by rw[aH];rfl) (by omega) (iw.same (nK _ _)) (bH.c (by rw[aH];rfl) (by omega) (Nat.zero_le _) (b7.same (SV.aT fun _ _=>rfl)) .nil))))
  rintro K2 ⟨V,todo⟩ hdf hK2
  dsimp only at hdf ⊢
  have ust:∀ x,((Ba binds.length i rs).set i x)[i]? =some x:=NS hrs hlt
  have usl:∀ x,((Ba binds.length i rs).set i x).length=binds.length:=fun x=>by rw[List.length_set];exact hcl0
  have hVn:=Nd hdf
  rcases List.eq_nil_or_concat todo with rfl|⟨td,k,rfl⟩
  ·have X:=aO
   (refine iu ?_)
   refine eh rfl (by simp) ?_
   refine LZ (io:=H.length+2) (jo:=H.length) (i:=i) (by rw[aH];rfl) (by rw[bL];rfl) (ust _) (by omega) hB (fun b clk born hb1 hb2=>?_)
   rw[LD,LF,List.set_set]
   have hx:FU (jz binds) i (.eC b clk born (some .i64) (kI V) (vI V)):=⟨b,clk,born,V,rfl,by rw[hb1];simp[Bl],hb2,fun y=>Lw hdf y⟩
   have hrs2:=hrs.snoc hx
   generalize SV.eC b clk born (some .i64) (kI V) (vI V)=x at*
   rw[H5 hrs hlt x]
   simp only[bW,du,List.set_cons_succ,List.set_cons_zero]
   (refine run ?_)
   have u2:SV.aj H.length (List.drop 0 (Ba binds.length (i+1) (rs++[x])))=true:=rl H.length (jz binds) binds.length hrs2
   refine hK _ _ (i+1,rs++[x]) (by dsimp only;omega) ⟨hlt,hrs2⟩ ?_
   dsimp only
   exact bI (n0:=H.length) [(H.length,0),(H.length+1,0)] hG hB hC' hcl
  ·rw[List.concat_eq_append] at hdf hK2 ⊢
   have hkn:k<binds.length:=hRn _ _ (hdf.st k (List.mem_append_right _ (List.mem_singleton_self k)))
   have htl:=hdf.tl
   rw[List.length_append,List.length_singleton] at htl ⊢
   have e1:((td.length+1:Nat):Int) - 1=(td.length:Int):=by omega
   have e2:(td.length:Int)+1 - 1=(td.length:Int):=by omega
   have e3:((td++[k]).map iv)[td.length]? =some (iv k):=by rw[List.map_append,List.getElem?_append_right (by simp)];simp
   have e4:((td++[k]).map iv).length=td.length+1:=by simp
   have e5:=uF k V
   have hul:=hBn k
   have htl2:td.length+1≤17180000256:=Nat.le_trans htl (Nat.mul_le_mul_right 131072 (show V.length+1≤131073 by omega))
   have X:=C3 aO e1 e2 e3 e4 e5 (ust (.map (H.length+2))) (usl (.map (H.length+2))) (show((0:Int)<((td.length+1:Nat):Int)) from by omega)
   (refine iu ?_)
   refine kN rfl trivial ?_
   (refine iu ?_)
   refine IT (t:=17) (id:=H.length+3) (by rw[aH];rfl) rfl (by simp) ?_
   have e6:List.take (0+(td.length - 0)) ((td++[k]).map iv)=td.map iv:=by
    rw[Nat.zero_add,Nat.sub_zero,List.map_append,List.take_append_of_le_length (by simp),List.take_of_length_le (by simp)]
   rw[e6,Nat.sub_zero]
   simp only[bW,List.set_cons_succ,List.set_cons_zero]
   clear X
   by_cases hkV:k∈V
   ·have X:=aO
    refine eh rfl (fun h=>h hkV) ?_
    (refine run ?_)
    refine hK2 _ _ (V,td) Ia (Ly hdf hkV) ?_
    dsimp only
    exact bI (n0:=H.length) [(H.length,0),(H.length+1,0),(H.length+2,0),(H.length+3,0)] hG hB hC' hcl (hk:=bH.c (by rw[bL];rfl) (Nat.le_refl _) (Nat.zero_le _) (b7.setAt (by exact kc) u) (bH.c (by rw[aH];rfl) (by omega) (Nat.zero_le _) (by exact gi) (bH.m (by rw[aH];rfl) (by omega) (iw.same (nK _ _)) (bH.c (by rw[aH];rfl) (by omega) (Nat.zero_le _) (b7.same (SV.aT fun _ _=>rfl)) .nil))))
   ·rw[decide_eq_false hkV]
    have hset:=yb hkV
    have hnew:=Lx hBn hdf hkV
    have hVl:V.length<binds.length:=by
     have:=Nd hnew
     rw[List.length_append,List.length_singleton] at this
     omega
    have X:=FW aO hset (Eh binds) (show(uL binds)[k]? =some (.list 1 ((eo binds k).map iv)) from Ku hkn) (ust (.map (H.length+2))) (usl (.map (H.length+2))) (show(td.map iv).length=td.length from List.length_map ..) (show((eo binds k).map iv).length=(eo binds k).length from List.length_map ..)
    (refine run ?_)
    refine hK2 _ _ (V++[k],td++eo binds k) (H9 hVl hul) hnew ?_
    dsimp only
    rw[← List.map_append,List.length_append]
    exact bI (n0:=H.length) [(H.length,0),(H.length+1,0),(H.length+2,0),(H.length+3,0)] hG hB hC' hcl (hk:=bH.c (by rw[bL];rfl) (Nat.le_refl _) (Nat.zero_le _) (b7.setAt (by exact kc) u) (bH.c (by rw[aH];rfl) (by omega) (Nat.zero_le _) (by exact gi) (bH.m (by rw[aH];rfl) (by omega) (iw.same (nK _ _)) (bH.c (by rw[aH];rfl) (by omega) (Nat.zero_le _) (b7.same (SV.aT fun _ _=>rfl)) .nil))))
 obtain rfl:i=binds.length:=by omega
 clear hK
 have hcs:Ba binds.length binds.length rs=rs:=by simp[Ba]
 rw[hcs]
 have hR0:Qu binds.length (jz binds) rs:=⟨hrs.len,hrs.at_,hRn⟩
 have ur:SV.aj H.length (List.drop 0 rs)=true:=hrs.under _
 have hrl:=hrs.len
 have htr:=zV binds
 clear hRn hBn u ud hcl0 hrs hcs u8 hw
 generalize jz binds=R at*
 have X:=And.intro aO (Int.lt_irrefl (binds.length:Int))
 (refine run ?_)
 clear X
 rw[F2]
 have hgf:gj binds.length R=fL binds.length R (dV binds.length fun _=>false) fun _=>false:=by rw[mq];rfl
 rw[hgf] at hR
 generalize hnn:binds.length=n at*
 refine aA (fun a:(Nat→Bool)×List (List Nat)=>[(0,.list 9 (ad binds)),(15,.ptr (H.length+1) 0 0 0),(19,.ptr (H.length+3) 0 0 0),(20,.fn (.func 156) [] [.ptr (H.length+3) 0 0 0,.ptr (H.length+1) 0 0 0]),(21,.sl (H.length+4) 0 0 a.2.length),(22,.int .i64 (dV n a.1))])
  (fun a=>H++[.cells 0 1 rs,.cells 0 1 [.sl H.length 0 0 n],.cells 0 1 (Am n a.1),.cells 0 1 [.sl (H.length+2) 0 0 n],.cells 0 1 (a.2.map gL)]) (fun a=>dV n a.1) (fun a=>(K7 n R a.1∧dV n a.1≤n∧a.2.length+dV n a.1≤n)∧a.2++fL n R (dV n a.1) a.1=fL n R (dV n fun _=>false) fun _=>false) (fun _=>false,[]) ⟨⟨(fun j k _ h=>by cases h),(by simp only[mq];exact Nat.le_refl _),(by simp only[mq,List.length_nil];omega)⟩,rfl⟩ ?_ ?_
 ·simp only[mq,List.length_nil,List.map_nil]
  exact tD (n0:=H.length) [(H.length,0),(H.length+1,0),(H.length+2,0),(H.length+3,0),(H.length+4,0)] hG hB hC' hcl
 rintro K ⟨D,outs⟩ ⟨⟨hD,hcn,hol⟩,heq⟩ hK
 simp only at hD hcn hol heq
 dsimp only
 have u1:SV.aj H.length (List.drop 0 (outs.map gL))=true:=mJ _ _
 have u2:(SV.list 1 (outs.map gL)).under H.length=true:=mJ _ _
 rcases Nat.eq_zero_or_pos (dV n D) with h0|h0
 ·rw[xz h0,List.append_nil] at heq
  have X:=And.intro aO (show ¬ ((0:Int)<(dV n D:Int)) from by omega)
  (refine run ?_)
  exact aZ (n0:=H.length) (y:= .list 1 (outs.map gL)) hR hC' hcl (bF.sf (by rw[aH];rfl) (by omega) (by simp) (by rw[List.drop_zero,List.take_of_length_le (by simp)]) (mJ _ _)) ⟨rfl,by rw[heq]⟩
 ·obtain⟨i0,hi0,hr0,hn0,hok0,hc0,hp0,hnew0,hst⟩:=xA htr hD h0
  have X:=And.intro aO (show((0:Int)<(dV n D:Int)) from by omega)
  (refine run ?_)
  clear X
  have X:=aO
  refine aA (fun i:Nat=>[(0,.list 9 (ad binds)),(15,.ptr (H.length+1) 0 0 0),(19,.ptr (H.length+3) 0 0 0),(20,.fn (.func 156) [] [.ptr (H.length+3) 0 0 0,.ptr (H.length+1) 0 0 0]),(21,.sl (H.length+4) 0 0 outs.length),(22,.int .i64 (dV n D)),(23,.int .i64 i)])
   (fun _=>H++[.cells 0 1 rs,.cells 0 1 [.sl H.length 0 0 n],.cells 0 1 (Am n D),.cells 0 1 [.sl (H.length+2) 0 0 n],.cells 0 1 (outs.map gL)]) (fun i=>n - i) (fun i=>i≤i0) 0 (Nat.zero_le _) (tD (n0:=H.length) [(H.length,0),(H.length+1,0),(H.length+2,0),(H.length+3,0),(H.length+4,0)] hG hB hC' hcl) ?_
  rintro K2 i hi hK2
  have hin:i<n:=by omega
  have v1:=aY.of (first:=[]) (args:=[.int .i64 i]) (cap:=[.ptr (H.length+3) 0 0 0,.ptr (H.length+1) 0 0 0]) (J8 G hG n (by omega) R D rs hR0 i hin (H.length+3) (H.length+2) 0 (H.length+1) H.length 0 (H++[.cells 0 1 rs,.cells 0 1 [.sl H.length 0 0 n],.cells 0 1 (Am n D),.cells 0 1 [.sl (H.length+2) 0 0 n],.cells 0 1 (outs.map gL)]) (by rw[aH];rfl) (by rw[aH];rfl) (by rw[aH];rfl) (by rw[bL];rfl))
  rcases Nat.lt_or_ge i i0 with hii|hii
  ·rw[hn0 i hii] at v1
   (refine run ?_)
   exact hK2 _ _ (i+1) (by omega) (by omega) (tD (n0:=H.length) [(H.length,0),(H.length+1,0),(H.length+2,0),(H.length+3,0),(H.length+4,0)] hG hB hC' hcl)
  ·obtain rfl:i=i0:=by omega
   rw[hr0] at v1
   (refine run ?_)
   rw[hnn]
   refine aA (fun k:Nat=>[(0,.list 9 (ad binds)),(15,.ptr (H.length+1) 0 0 0),(19,.ptr (H.length+3) 0 0 0),(20,.fn (.func 156) [] [.ptr (H.length+3) 0 0 0,.ptr (H.length+1) 0 0 0]),(21,.sl (H.length+4) 0 0 outs.length),(22,.int .i64 ((dV n D:Int) - ((oz R i k).length:Int))),(23,.int .i64 i),(24,.sl (H.length+5) 0 0 (oz R i k).length),(150,.int .i64 n),(151,.int .i64 k)])
    (fun k=>H++[.cells 0 1 rs,.cells 0 1 [.sl H.length 0 0 n],.cells 0 1 (Am n (GL R i k D)),.cells 0 1 [.sl (H.length+2) 0 0 n],.cells 0 1 (outs.map gL),.cells 0 1 ((oz R i k).map iv)]) (fun k=>n - k) (fun k=>k≤n) 0 (Nat.zero_le _) ?_ ?_
   ·rw[JV]
    have e:oz R i 0=[]:=rfl
    rw[e]
    simp only[List.length_nil,List.map_nil,Int.ofNat_zero,Int.sub_zero]
    exact tD (n0:=H.length) [(H.length,0),(H.length+1,0),(H.length+2,0),(H.length+3,0),(H.length+4,0),(H.length+5,0)] hG hB hC' hcl
   rintro K4 k hk hK4
   have hgl:=sy R i hk
   rcases Nat.lt_or_ge k n with hlk|hgk
   ·have hmr:jL R i k=(decide ((k:Int)=(i:Int))||(R i k&&R k i)):=by
     unfold jL
     congr 1
     by_cases h:k=i
     ·subst h;simp
     ·have h':¬ (k:Int)=(i:Int):=by omega
      simp[h,h']
    have es:=Gv R i k
    have hsl:=sy R i (show k+1≤n by omega)
    obtain⟨b1,q1,w1,V1,d1,_,_,hV1⟩:=hR0.get hin
    obtain⟨b2,q2,w2,V2,d2,_,_,hV2⟩:=hR0.get hlk
    have d3:=Jn k hV1
    have d4:=Jn i hV2
    have X:=wh aO (nE n (GL R i k D)) hrl d1 d2 d3 d4 (pJ (D:=GL R i k D) hlk) (show((k:Int)<(n:Int)) from by omega) (show((oz R i k).map iv).length=(oz R i k).length from List.length_map ..)
    have hrs:jL R i k=true→(oz R i (k+1)).length=(oz R i k).length+1:=fun h=>by rw[es,if_pos h,List.length_append,List.length_singleton]
    (refine run ?_;with_reducible repeat' first|exact trivial|(apply aJ.mk<;>intro hb)|apply bN.mk)
    ·rw[← hmr] at hb
     refine hK4 _ _ (k+1) (by omega) (by omega) ?_
     rw[hrs hb,es,if_pos hb,List.map_append,List.map_singleton,Ln,MC hb]
     have e5:(dV n D:Int) - ((oz R i k).length:Int) - 1=(dV n D:Int) - (((oz R i k).length+1:Nat):Int):=by omega
     rw[e5]
     exact tD (n0:=H.length) [(H.length,0),(H.length+1,0),(H.length+2,0),(H.length+3,0),(H.length+4,0),(H.length+5,0)] hG hB hC' hcl
    ·rw[← hmr] at hb
     refine hK4 _ _ (k+1) (by omega) (by omega) ?_
     rw[es,if_neg (by simp[hb]),List.append_nil,OB hb]
     exact tD (n0:=H.length) [(H.length,0),(H.length+1,0),(H.length+2,0),(H.length+3,0),(H.length+4,0),(H.length+5,0)] hG hB hC' hcl
   ·have hkn:k=n:=by omega
    subst hkn
    have hgf2:oz R i k=oy k R i:=rfl
    rw[hgf2,F1 fun b hb=>MB b hb]
    have X:=aO
    (refine iu ?_)
    refine eh rfl (by omega) ?_
    refine ke [(0,.list 9 (ad binds)),(15,.ptr (H.length+1) 0 0 0),(19,.ptr (H.length+3) 0 0 0),(20,.fn (.func 156) [] [.ptr (H.length+3) 0 0 0,.ptr (H.length+1) 0 0 0]),(21,.sl (H.length+4) 0 0 outs.length),(22,.int .i64 (dV k (we R i D))),(24,gL (oy k R i))] (H++[.cells 0 1 rs,.cells 0 1 [.sl H.length 0 0 k],.cells 0 1 (Am k (we R i D)),.cells 0 1 [.sl (H.length+2) 0 0 k],.cells 0 1 (outs.map gL)]) ?_ ?_
    ·have e5:(dV k D:Int) - ((oy k R i).length:Int)=(dV k (we R i D):Int):=by omega
     rw[e5]
     unfold gL
     exact tD (n0:=H.length) [(H.length,0),(H.length+1,0),(H.length+2,0),(H.length+3,0),(H.length+4,0)] hG hB hC' hcl
    have X:=And.intro aO (show(outs.map gL).length=outs.length from List.length_map ..)
    (refine run ?_)
    have u3:SV.aj H.length (List.drop 0 (outs.map gL++[gL (oy k R i)]))=true:=by
     have:=mJ H.length (outs++[oy k R i])
     rwa[List.map_append,List.map_singleton] at this
    refine hK _ _ (we R i D,outs++[oy k R i]) (by simp only;omega) ⟨⟨hok0,(by simp only;omega),(by simp only[List.length_append,List.length_singleton];omega)⟩,?_⟩ ?_
    ·simp only
     rw[List.append_assoc,List.singleton_append,← hst]
     exact heq
    ·simp only[List.map_append,List.map_singleton,List.length_append,List.length_singleton]
     exact tD (n0:=H.length) [(H.length,0),(H.length+1,0),(H.length+2,0),(H.length+3,0),(H.length+4,0)] hG hB hC' hcl
theorem HL (G:Gl) (hG:ah G) (l:List aD) (H:List av):aq Tryz.prog G 161 [.list 1 (l.map .str)] H (fun r H'=>H'=H∧r= .fn (.func 176) [] [.gM (.list 1 (l.map .str))]):=by
 refine bP [] Tryz.func161 Tryz.ntmps161 fun C R' hR hC hcl hB hC' X=>?_
 (refine bK ?_)
 refine Fin.aS (n0:=H.length) hR (by simp) (by rw[hC]) hcl (.fn _ _ _ _ _ .nil (.cons _ _ _ _ ?_ .nil)) ⟨rfl,rfl⟩
 refine .ptr _ _ _ _ _ _ _ (by exact dA) (Nat.le_refl _) (by simp) rfl (.same _ ?_)
 exact jF
theorem wL (G:Gl) (l:List aD) (hl:l.length<1099511627776) (n1:Nat) (Hs:Nat→List av)
 (hy:∀ i (h:i<l.length) X,aY Tryz.prog G (.it n1) [.int .i64 i,.str l[i]] (Hs (i+1)++X) (fun r H'=>H'=Hs i++X∧r= .bool true)):
 aq Tryz.prog G 176 [.it n1,.gM (.list 1 (l.map .str))] (Hs l.length) (fun r H'=>H'=Hs 0):=by
 refine bP [] Tryz.func176 Tryz.ntmps176 fun C R' hR hC hcl hB hC' X=>?_
 (refine bK ?_)
 refine aA (fun a:Nat=>[(0,.it n1),(1,.gM (.list 1 (l.map .str))),(3,.int .i64 ((a:Int) - 1))]) (fun a=>Hs a) (fun a=>a) (fun a=>a≤l.length) l.length (Nat.le_refl _) (Wk.sub (by simp[aW,look])) ?_
 intro K a ha hK
 (refine bK ?_;with_reducible repeat' first|exact trivial|(apply aJ.mk<;>intro hb)|apply bN.mk)
 ·have hlt:((a:Int) - 1).toNat<l.length:=by omega
  have e:((a:Int) - 1)=(((a:Int) - 1).toNat:Nat):=by omega
  have e2:a=((a:Int) - 1).toNat+1:=by omega
  have hcall:=hy ((a:Int) - 1).toNat hlt []
  rw[← e,← e2,List.append_nil,List.append_nil] at hcall
  refine kM rfl ?_ rfl hcall ?_
  ·exact cw
  rintro r H' ⟨rfl,rfl⟩
  (refine bK ?_)
  refine hK _ _ ((a:Int) - 1).toNat (by omega) (by omega) (Wk.sub ?_)
  rw[← e]
  exact⟨rfl,rfl,rfl,trivial⟩
 ·have:a=0:=by omega
  subst this
  exact Fin.out hR rfl
theorem HK (G:Gl) (hG:ah G) (l:List (List Nat)) (H:List av):aq Tryz.prog G 122 [.list 1 (l.map gL)] H (fun r H'=>H'=H∧r= .fn (.func 157) [] [.gM (.list 1 (l.map gL))]):=by
 refine bP [] Tryz.func122 Tryz.ntmps122 fun C R' hR hC hcl hB hC' X=>?_
 (refine bK ?_)
 refine Fin.aS (n0:=H.length) hR (by simp) (by rw[hC]) hcl (.fn _ _ _ _ _ .nil (.cons _ _ _ _ ?_ .nil)) ⟨rfl,rfl⟩
 refine .ptr _ _ _ _ _ _ _ (by exact dA) (Nat.le_refl _) (by simp) rfl (.same _ ?_)
 simp only[SV.under];exact mJ _ _
theorem F0 (G:Gl) (l:List (List Nat)) (hl:l.length<1099511627776) (n1:Nat) (Hs:Nat→List av)
 (hy:∀ i (h:i<l.length) X,aY Tryz.prog G (.it n1) [.int .i64 i,gL l[i]] (Hs (i+1)++X) (fun r H'=>H'=Hs i++X∧r= .bool true)):
 aq Tryz.prog G 157 [.it n1,.gM (.list 1 (l.map gL))] (Hs l.length) (fun r H'=>H'=Hs 0):=by
 refine bP [] Tryz.func157 Tryz.ntmps157 fun C R' hR hC hcl hB hC' X=>?_
 (refine bK ?_)
 refine aA (fun a:Nat=>[(0,.it n1),(1,.gM (.list 1 (l.map gL))),(3,.int .i64 ((a:Int) - 1))]) (fun a=>Hs a) (fun a=>a) (fun a=>a≤l.length) l.length (Nat.le_refl _) (Wk.sub (by simp[aW,look])) ?_
 intro K a ha hK
 (refine bK ?_;with_reducible repeat' first|exact trivial|(apply aJ.mk<;>intro hb)|apply bN.mk)
 ·have hlt:((a:Int) - 1).toNat<l.length:=by omega
  have e:((a:Int) - 1)=(((a:Int) - 1).toNat:Nat):=by omega
  have e2:a=((a:Int) - 1).toNat+1:=by omega
  have hcall:=hy ((a:Int) - 1).toNat hlt []
  rw[← e,← e2,List.append_nil,List.append_nil] at hcall
  refine kM rfl ?_ rfl hcall ?_
  ·exact cw
  rintro r H' ⟨rfl,rfl⟩
  (refine bK ?_)
  refine hK _ _ ((a:Int) - 1).toNat (by omega) (by omega) (Wk.sub ?_)
  rw[← e]
  exact⟨rfl,rfl,rfl,trivial⟩
 ·have:a=0:=by omega
  subst this
  exact Fin.out hR rfl
end Go.Proofs.YtjdfoonhnmpkdaaGreatDoor
section
open Go
namespace Go.Proofs
open Go.Shelf
def Tryz.gI:Go.Shelf.Ren:=⟨fun|4=>126|n=>n,fun|22=>38|25=>9|n=>n,fun|n=>n⟩
theorem Tryz.Oi:Lays8.n4 Tryz.prog Tryz.gI:={
 mixed:=by kernel_rfl
 f4:=⟨ "slices.Grow[[]string,string]",by decide,by kernel_rfl⟩
 t0:=Tryz.underlying0
 a0:=Tryz.isAgg0
 z0:=Tryz.sizeOf0
 v0:=Tryz.zeroValue0
 t3:=Tryz.underlying3
 a3:=Tryz.isAgg3
 z3:=Tryz.sizeOf3
 v3:=Tryz.zeroValue3
 t4:=Tryz.underlying4
 a4:=Tryz.isAgg4
 z4:=Tryz.sizeOf4
 v4:=Tryz.zeroValue4
 t9:=Tryz.underlying9
 a9:=Tryz.isAgg9
 z9:=Tryz.sizeOf9
 v9:=Tryz.zeroValue9
 t20:=Tryz.underlying20
 a20:=Tryz.isAgg20
 z20:=Tryz.sizeOf20
 v20:=Tryz.zeroValue20
 t22:=Tryz.underlying38
 a22:=Tryz.isAgg38
 z22:=Tryz.sizeOf38
 v22:=Tryz.zeroValue38}
namespace YtjdfoonhnmpkdaaGreatDoor
theorem aq.JO (G:Gl) (n:Nat) (h0:0<n) (hn:n≤274877906944) (H:List av):aq Tryz.prog G 126 [.nil,.int .i64 n] H (fun r H'=>H'=H++[.cells 0 1 []]∧r= .sl H.length 0 0 0):=by
 refine⟨⟨_,Tryz.func126,by decide,rfl⟩,fun c vs e1 hh hG hv=>?_⟩
 subst e1
 obtain⟨v,us,hv1,hv2,rfl⟩:=ax.bg.1 hv
 obtain⟨v',us',hv3,hv4,rfl⟩:=ax.bg.1 hv2
 rw[ax.dm.1 hv4]
 simp only[aB] at hv1 hv3
 subst hv1
 obtain⟨rfl,_⟩:=hv3
 obtain⟨_,info,z,i1,i2,i3,i4,i5,i6⟩:=(show bT Tryz.prog 9 t9 from RT)
 have hb:info.bytes=16:=i3
 refine(callsIn_wide (n:=0)).2 ?_
 have hsz:info.size=1:=i2
 have h:=Go.Proofs.Any8.slices_Grow_grow Tryz.Oi info z i1 i4 (by rw[hsz];decide) none 0 0 n [] c.w (Nat.le_refl _) (by omega) (by rw[Nat.zero_add,hb];omega) (by omega) (by simp) (fun _=>rfl) (fun a h=>by cases h)
 refine h.mono ?_
 rintro e w' ⟨rfl,rfl⟩
 simp only[Nat.zero_add,Nat.sub_zero]
 have hcap:=grownCap_ge c.w n 0 (Tryz.gI.t 25)
 have hcap2:=grownCap_le_maxLen c.w n 0 (Tryz.gI.t 25) (by unfold maxLen;omega)
 generalize grownCap c.w n 0 (Tryz.gI.t 25)=cap at hcap hcap2
 have hz:z.cells.size=1:=i6
 obtain⟨g1,g2⟩:=fY (sz:=1) hh (xs:=[]) (vs:=[]) ax.bQ (fun u hu=>by cases hu) (#[]++Builtin.zeroCells z.cells n++Builtin.zeroCells z.cells (cap - n)) (#[]++Builtin.zeroCells z.cells n++Builtin.zeroCells z.cells (cap - n)).toList (by simp[cellsOf]) (Tryz.gI.t 25) (0,0) (.inl rfl) (w0:=c.w.drew) rfl rfl rfl rfl
 refine⟨_,_,_,rfl,rfl,⟨rfl,rfl⟩,g2,?_,g1⟩
 refine eZ c 1 [] _ _ (Nat.zero_le _) hcap2 (.inr ⟨c.w.heap.size,_,Tryz.gI.t 25,(0,0),rfl,rfl,heap_alloc_new c.w.drew _,?_⟩)
 rw[Array.size_append,Array.size_append,iW hz,iW hz]
 simp only[List.size_toArray,List.length_nil,Nat.zero_add]
 omega
end YtjdfoonhnmpkdaaGreatDoor
end Go.Proofs
end
namespace Go.Proofs.YtjdfoonhnmpkdaaGreatDoor
open Go
end Go.Proofs.YtjdfoonhnmpkdaaGreatDoor
section
open Go
namespace Go.Proofs
open Go.Shelf
def Tryz.gH:Go.Shelf.Ren:=⟨fun|4=>159|n=>n,fun|22=>44|25=>47|n=>n,fun|n=>n⟩
theorem Tryz.Oh:Lays8.n4 Tryz.prog Tryz.gH:={
 mixed:=by kernel_rfl
 f4:=⟨ "slices.Grow[[]teasel/api.Expr,teasel/api.Expr]",by decide,by kernel_rfl⟩
 t0:=Tryz.underlying0
 a0:=Tryz.isAgg0
 z0:=Tryz.sizeOf0
 v0:=Tryz.zeroValue0
 t3:=Tryz.underlying3
 a3:=Tryz.isAgg3
 z3:=Tryz.sizeOf3
 v3:=Tryz.zeroValue3
 t4:=Tryz.underlying4
 a4:=Tryz.isAgg4
 z4:=Tryz.sizeOf4
 v4:=Tryz.zeroValue4
 t9:=Tryz.underlying9
 a9:=Tryz.isAgg9
 z9:=Tryz.sizeOf9
 v9:=Tryz.zeroValue9
 t20:=Tryz.underlying20
 a20:=Tryz.isAgg20
 z20:=Tryz.sizeOf20
 v20:=Tryz.zeroValue20
 t22:=Tryz.underlying44
 a22:=Tryz.isAgg44
 z22:=Tryz.sizeOf44
 v22:=Tryz.zeroValue44}
namespace YtjdfoonhnmpkdaaGreatDoor
theorem aq.JN (G:Gl) (n:Nat) (h0:0<n) (hn:n≤274877906944) (H:List av):aq Tryz.prog G 159 [.nil,.int .i64 n] H (fun r H'=>H'=H++[.cells 0 8 []]∧r= .sl H.length 0 0 0):=by
 refine⟨⟨_,Tryz.func159,by decide,rfl⟩,fun c vs e1 hh hG hv=>?_⟩
 subst e1
 obtain⟨v,us,hv1,hv2,rfl⟩:=ax.bg.1 hv
 obtain⟨v',us',hv3,hv4,rfl⟩:=ax.bg.1 hv2
 rw[ax.dm.1 hv4]
 simp only[aB] at hv1 hv3
 subst hv1
 obtain⟨rfl,_⟩:=hv3
 obtain⟨_,info,z,i1,i2,i3,i4,i5,i6⟩:=(show bT Tryz.prog 47 t47 from Qg)
 have hb:info.bytes=136:=i3
 refine(callsIn_wide (n:=0)).2 ?_
 have hsz:info.size=8:=i2
 have h:=Go.Proofs.Any8.slices_Grow_grow Tryz.Oh info z i1 i4 (by rw[hsz];decide) none 0 0 n [] c.w (Nat.le_refl _) (by omega) (by rw[Nat.zero_add,hb];omega) (by omega) (by simp) (fun _=>rfl) (fun a h=>by cases h)
 refine h.mono ?_
 rintro e w' ⟨rfl,rfl⟩
 simp only[Nat.zero_add,Nat.sub_zero]
 have hcap:=grownCap_ge c.w n 0 (Tryz.gH.t 25)
 have hcap2:=grownCap_le_maxLen c.w n 0 (Tryz.gH.t 25) (by unfold maxLen;omega)
 generalize grownCap c.w n 0 (Tryz.gH.t 25)=cap at hcap hcap2
 have hz:z.cells.size=8:=i6
 obtain⟨g1,g2⟩:=fY (sz:=8) hh (xs:=[]) (vs:=[]) ax.bQ (fun u hu=>by cases hu) (#[]++Builtin.zeroCells z.cells n++Builtin.zeroCells z.cells (cap - n)) (#[]++Builtin.zeroCells z.cells n++Builtin.zeroCells z.cells (cap - n)).toList (by simp[cellsOf]) (Tryz.gH.t 25) (0,0) (.inl rfl) (w0:=c.w.drew) rfl rfl rfl rfl
 refine⟨_,_,_,rfl,rfl,⟨rfl,rfl⟩,g2,?_,g1⟩
 refine eZ c 8 [] _ _ (Nat.zero_le _) hcap2 (.inr ⟨c.w.heap.size,_,Tryz.gH.t 25,(0,0),rfl,rfl,heap_alloc_new c.w.drew _,?_⟩)
 rw[Array.size_append,Array.size_append,iW hz,iW hz]
 simp only[List.size_toArray,List.length_nil,Nat.zero_add]
 omega
end YtjdfoonhnmpkdaaGreatDoor
end Go.Proofs
end
namespace Go.Proofs.YtjdfoonhnmpkdaaGreatDoor
open Go
theorem Dl (G:Gl) (hG:ah G) (a b:List aD) (h0:0<a.length+b.length) (hl:a.length+b.length≤274877906944) (H:List av):
 aq Tryz.prog G 92 [.list 1 [.list 1 (a.map SV.str),.list 1 (b.map SV.str)]] H (fun r H'=>H'=H∧r= .list 1 ((a++b).map SV.str)):=by
 have c1:=fun H=>aq.JO G (a.length+b.length) h0 hl H
 have e1:IntKind.i64.wrap ((a.length:Int)+(b.length:Int))=((a.length+b.length:Nat):Int):=by rw[wrap_i64 _ (by omega)];omega
 have e0:IntKind.i64.wrap ((a.length:Int))=(a.length:Int):=wrap_i64 _ (by omega)
 have hu:SV.aj H.length ((a++b).map SV.str)=true:=bj H.length (a++b)
 have hua:SV.aj H.length (a.map SV.str)=true:=bj H.length a
 have hub:SV.aj H.length (b.map SV.str)=true:=bj H.length b
 have hcab:(a++b).map SV.str=a.map SV.str++b.map SV.str:=List.map_append
 rw[hcab] at hu ⊢
 have ha:(a.map SV.str).length=a.length:=by simp
 have hb:(b.map SV.str).length=b.length:=by simp
 have hfr:(xs:List SV)→(xs++[])=xs:=fun xs=>List.append_nil xs
 clear hcab
 generalize a.map SV.str=xa at*
 generalize b.map SV.str=xb at*
 have hna:¬ (a.length:Int)<0:=by omega
 have hnb:¬ ((a.length+b.length:Nat):Int)<0:=by omega
 have hab:(xa++xb).length=a.length+b.length:=by rw[List.length_append];omega
 refine bP [6] Tryz.func92 Tryz.ntmps92 fun C R' hR hC hcl hB hC' X=>?_
 have X:=j8 aO ha hb e1 e0
 (refine run ?_)
 refine aA (fun i:Nat=>[(0,.list 1 [.list 1 xa,.list 1 xb]),(3,.int .i64 ((if i=0 then 0 else if i=1 then a.length else a.length+b.length:Nat):Int)),(9,.list 1 [.list 1 xa,.list 1 xb]),(10,.int .i64 2),(11,.int .i64 (i:Int))]) (fun _=>H) (fun i=>2 - i) (fun i=>i≤2) 0 (Nat.zero_le _) (Wk.sub (by simp[aW,look])) ?_
 rintro K i hi hK
 rcases (show i=0∨i=1∨i=2 by omega) with rfl|rfl|rfl
 ·have X:=oD aO ha hb e1 e0 hna
  (refine run ?_)
  refine hK _ _ 1 (by omega) (by omega) (Wk.sub (by simp[aW,look]))
 ·have X:=oD aO ha hb e1 e0 hnb
  (refine run ?_)
  refine hK _ _ 2 (by omega) (by omega) (Wk.sub (by simp[aW,look]))
 clear hK
 have X:=j8 aO ha hb e1 e0
 (refine run ?_)
 refine aA (fun i:Nat=>[(6,.sl H.length 0 0 (if i=0 then 0 else if i=1 then a.length else a.length+b.length:Nat)),(25,.list 1 [.list 1 xa,.list 1 xb]),(26,.int .i64 2),(27,.int .i64 (i:Int))]) (fun i=>H++[.cells 0 1 (if i=0 then [] else if i=1 then xa else xa++xb)]) (fun i=>2 - i) (fun i=>i≤2) 0 (Nat.zero_le _) ?_ ?_
 ·simp only[if_true]
  exact bI (n0:=H.length) [(H.length,0)] hG hB hC' hcl
 rintro K i hi hK
 rcases (show i=0∨i=1∨i=2 by omega) with rfl|rfl|rfl
 ·have X:=j8 aO ha hb e1 e0
  simp only[if_true]
  (refine run ?_)
  refine hK _ _ 1 (by omega) (by omega) ?_
  simp only[show ¬ (1:Nat)=0 by decide,if_true,if_false,Nat.zero_add]
  exact bI (n0:=H.length) [(H.length,0)] hG hB hC' hcl
 ·have X:=j8 aO ha hb e1 e0
  simp only[show ¬ (1:Nat)=0 by decide,if_true,if_false]
  (refine run ?_)
  refine hK _ _ 2 (by omega) (by omega) ?_
  simp only[show ¬ (2:Nat)=0 by decide,show ¬ (2:Nat)=1 by decide,if_true,if_false]
  exact bI (n0:=H.length) [(H.length,0)] hG hB hC' hcl
 clear hK
 simp only[show ¬ (2:Nat)=0 by decide,show ¬ (2:Nat)=1 by decide,if_false]
 have X:=iY aO ha hb hab
 (refine run ?_)
 exact Fin.aS (n0:=H.length) hR rfl hC' hcl (bF.sf (by rw[bL];rfl) (by omega) (by simp) (by rw[List.drop_zero,List.take_of_length_le (by rw[hab];exact Nat.le_refl _)]) hu) ⟨rfl,rfl⟩
theorem Dk (G:Gl) (hG:ah G) (a b:List Ex) (h0:0<a.length+b.length) (hl:a.length+b.length≤274877906944) (H:List av):
 aq Tryz.prog G 130 [.list 1 [.list 8 (ag a),.list 8 (ag b)]] H (fun r H'=>H'=H∧r= .list 8 (ag (a++b))):=by
 have c1:=fun H=>aq.JN G (a.length+b.length) h0 hl H
 have e1:IntKind.i64.wrap ((a.length:Int)+(b.length:Int))=((a.length+b.length:Nat):Int):=by rw[wrap_i64 _ (by omega)];omega
 have e0:IntKind.i64.wrap ((a.length:Int))=(a.length:Int):=wrap_i64 _ (by omega)
 have hu:SV.aj H.length (ag (a++b))=true:=bc H.length (a++b)
 have hua:SV.aj H.length (ag a)=true:=bc H.length a
 have hub:SV.aj H.length (ag b)=true:=bc H.length b
 have hcab:ag (a++b)=ag a++ag b:=by rw[aL,aL,aL,List.map_append]
 rw[hcab] at hu ⊢
 have ha:(ag a).length=a.length:=bV a
 have hb:(ag b).length=b.length:=bV b
 have hfr:(xs:List SV)→(xs++[])=xs:=fun xs=>List.append_nil xs
 clear hcab
 generalize ag a=xa at*
 generalize ag b=xb at*
 have hna:¬ (a.length:Int)<0:=by omega
 have hnb:¬ ((a.length+b.length:Nat):Int)<0:=by omega
 have hab:(xa++xb).length=a.length+b.length:=by rw[List.length_append];omega
 refine bP [6] Tryz.func130 Tryz.ntmps130 fun C R' hR hC hcl hB hC' X=>?_
 have X:=j8 aO ha hb e1 e0
 (refine run ?_)
 refine aA (fun i:Nat=>[(0,.list 1 [.list 8 xa,.list 8 xb]),(3,.int .i64 ((if i=0 then 0 else if i=1 then a.length else a.length+b.length:Nat):Int)),(9,.list 1 [.list 8 xa,.list 8 xb]),(10,.int .i64 2),(11,.int .i64 (i:Int))]) (fun _=>H) (fun i=>2 - i) (fun i=>i≤2) 0 (Nat.zero_le _) (Wk.sub (by simp[aW,look])) ?_
 rintro K i hi hK
 rcases (show i=0∨i=1∨i=2 by omega) with rfl|rfl|rfl
 ·have X:=oD aO ha hb e1 e0 hna
  (refine run ?_)
  refine hK _ _ 1 (by omega) (by omega) (Wk.sub (by simp[aW,look]))
 ·have X:=oD aO ha hb e1 e0 hnb
  (refine run ?_)
  refine hK _ _ 2 (by omega) (by omega) (Wk.sub (by simp[aW,look]))
 clear hK
 have X:=j8 aO ha hb e1 e0
 (refine run ?_)
 refine aA (fun i:Nat=>[(6,.sl H.length 0 0 (if i=0 then 0 else if i=1 then a.length else a.length+b.length:Nat)),(25,.list 1 [.list 8 xa,.list 8 xb]),(26,.int .i64 2),(27,.int .i64 (i:Int))]) (fun i=>H++[.cells 0 8 (if i=0 then [] else if i=1 then xa else xa++xb)]) (fun i=>2 - i) (fun i=>i≤2) 0 (Nat.zero_le _) ?_ ?_
 ·simp only[if_true]
  exact bI (n0:=H.length) [(H.length,0)] hG hB hC' hcl
 rintro K i hi hK
 rcases (show i=0∨i=1∨i=2 by omega) with rfl|rfl|rfl
 ·have X:=j8 aO ha hb e1 e0
  simp only[if_true]
  (refine run ?_)
  refine hK _ _ 1 (by omega) (by omega) ?_
  simp only[show ¬ (1:Nat)=0 by decide,if_true,if_false,Nat.zero_add]
  exact bI (n0:=H.length) [(H.length,0)] hG hB hC' hcl
 ·have X:=j8 aO ha hb e1 e0
  simp only[show ¬ (1:Nat)=0 by decide,if_true,if_false]
  (refine run ?_)
  refine hK _ _ 2 (by omega) (by omega) ?_
  simp only[show ¬ (2:Nat)=0 by decide,show ¬ (2:Nat)=1 by decide,if_true,if_false]
  exact bI (n0:=H.length) [(H.length,0)] hG hB hC' hcl
 clear hK
 simp only[show ¬ (2:Nat)=0 by decide,show ¬ (2:Nat)=1 by decide,if_false]
 have X:=iY aO ha hb hab
 (refine run ?_)
 exact Fin.aS (n0:=H.length) hR rfl hC' hcl (bF.sf (by rw[bL];rfl) (by omega) (by simp) (by rw[List.drop_zero,List.take_of_length_le (by rw[hab];exact Nat.le_refl _)]) hu) ⟨rfl,rfl⟩
theorem yD (l:List Ex):(Ex.mk 4 [] 0 0 [] l [] []).sv= .agg [.int .i64 4,.str [],.int .i64 0,.int .i64 0,.list 1 [],.list 8 (ag l),.list 9 [],.list 12 []]:=rfl
theorem pR (x:Ex) (l:List Ex):ag (x::l)= .agg x.cells::ag l:=by simp[aL,Ex.sv]
theorem fe (s:aD) (e:Ex) (l:List Bd):ad (.mk s e::l)= .agg (.str s::e.cells)::ad l:=by simp[az,Bd.sv,Bd.bf,Bd.name,Bd.e]
theorem ic (k:Int) (s:aD) (n:Int) (ns:List aD) (e:Ex):af [.mk k s n ns e]=[.agg (.int .i64 k:: .str s:: .int .i64 n:: .list 1 (ns.map .str)::e.cells)]:=by
 rw[bh,List.map_cons,List.map_nil,Al.sv,Al.bf];rfl
def fQ (ns:List aD) (l:List Ex):List Bd:=(ns.zip l).map fun p=> .mk p.1 p.2
theorem CX (ns:List aD) (l:List Ex):(fQ ns l).length=min ns.length l.length:=by simp[fQ]
theorem rX {ns:List aD} {l:List Ex} {i:Nat} (h1:i<ns.length) (h2:i<l.length):ad ((fQ ns l).take i)++[.agg (.str ns[i]::(l[i].cells++[]))]=ad ((fQ ns l).take (i+1)):=by
 have h:i<(fQ ns l).length:=by rw[CX];omega
 rw[List.take_succ_eq_append_getElem h,az,az,List.map_append,List.append_nil]
 congr 1
 simp[fQ,Bd.sv,Bd.bf,Bd.name,Bd.e]
theorem HS (G:Gl) (hG:ah G) (ns:List aD) (y:Ex) (as':List Ex) (h1:ns.length<137438953472) (h2:as'.length<137438953472) (H:List av):
 aq Tryz.prog G 94 [.agg [.int .i64 4,.str [],.int .i64 0,.int .i64 0,.list 1 [],.list 8 (.agg (df ns y).cells::ag as'),.list 9 [],.list 12 []]] H (fun r H'=>H'=H∧r=(tT (df ns y) as').sv):=by
 have hcl0:tT (df ns y) as'=letE (ec ns y as') (fQ ns as'):=rfl
 rw[hcl0]
 clear hcl0
 have c1:∀ H,aq Tryz.prog G 129 [(df ns y).sv] H (fun r H'=>H'=H∧r= .bool false):=fun H=>lK G hG (df ns y) H
 have c2:=fun H=>dr G hG (fQ ns as') (ec ns y as') H
 have hasl:=bV as'
 have hasu:=bc H.length as'
 have hdr:List.take (as'.length+1 - 1) (ag as')=ag as':=by rw[Nat.add_sub_cancel];exact List.take_of_length_le (by rw[hasl];exact Nat.le_refl _)
 have hmm:IntKind.i64.min≤(as'.length:Int)∧(as'.length:Int)≤IntKind.i64.max:=⟨by show(-9223372036854775808:Int)≤_;omega,by show _≤(9223372036854775807:Int);omega⟩
 have hru:=Ex.aw H.length (letE (ec ns y as') (fQ ns as'))
 have hr8:=Ex.au (letE (ec ns y as') (fQ ns as'))
 have hrT:=Ex.ao (letE (ec ns y as') (fQ ns as'))
 rw[show(letE (ec ns y as') (fQ ns as')).sv= .agg (letE (ec ns y as') (fQ ns as')).cells from rfl] at*
 generalize (letE (ec ns y as') (fQ ns as')).cells=xr at*
 rw[show(df ns y).cells=[.int .i64 3,.str [],.int .i64 0,.int .i64 0,.list 1 (ns.map .str),.list 8 [.agg y.cells],.list 9 [],.list 12 []] from rfl] at*
 rw[show(df ns y).sv= .agg [.int .i64 3,.str [],.int .i64 0,.int .i64 0,.list 1 (ns.map .str),.list 8 [.agg y.cells],.list 9 [],.list 12 []] from rfl] at*
 have hy8:=y.au
 have hyt:=y.ao
 have hyu:=y.aw H.length
 have hnu:=bj H.length ns
 have hnsl:(ns.map SV.str).length=ns.length:=by simp
 have hb8:=(ec ns y as').au
 have hbT:=(ec ns y as').ao
 have hbu:=(ec ns y as').aw H.length
 have hzl:=CX ns as'
 have hgN:∀ (i:Nat) (h:i<ns.length),(ns.map SV.str)[i]? =some (.str ns[i]):=fun i h=>by simp[h]
 have hgA:∀ (i:Nat) (h:i<as'.length),(ag as')[i]? =some (.agg as'[i].cells):=fun i h=>by simp[aL,h,Ex.sv]
 rcases Nat.lt_trichotomy ns.length as'.length with hlt|heq|hgt
 ·have hcb:ec ns y as'=c8 y (as'.drop ns.length):=if_pos hlt
  have c3:∀ H,aq Tryz.prog G 131 [.agg y.cells,.list 8 (ag (as'.drop ns.length))] H (fun r H'=>H'=H∧r= .agg (ec ns y as').cells):=fun H=>by
   rw[hcb];exact kY G hG (as'.drop ns.length) y (by rw[List.length_drop];omega) H
  have hi1:(ns.length:Int)<(as'.length:Int):=by omega
  have hi2:¬ (as'.length:Int)<(ns.length:Int):=by omega
  have hi3:¬ (ns.length:Int)<(ns.length:Int):=Int.lt_irrefl _
  have hsl:List.take (as'.length - ns.length) (List.drop ns.length (ag as'))=ag (as'.drop ns.length):=by
   rw[aL,aL,← List.map_drop];exact List.take_of_length_le (by simp)
  have hsl2:List.take ns.length (ag as')=ag (as'.take ns.length):=by rw[aL,aL,List.map_take]
  have hN:min ns.length as'.length=ns.length:=by omega
  rw[hN] at hzl
  have htl:(ag (as'.take ns.length)).length=ns.length:=by rw[bV,List.length_take];omega
  have htu:=bc H.length (as'.take ns.length)
  have htg:∀ (i:Nat) (h:i<ns.length),(ag (as'.take ns.length))[i]? =some (.agg (as'[i]'(by omega)).cells):=fun i h=>by
   rw[aL,List.getElem?_map,List.getElem?_take_of_lt h,List.getElem?_eq_getElem (by omega)];rfl
  refine bP [7] Tryz.func94 Tryz.ntmps94 fun C R' hR hC hcl hB hC' X=>?_
  have X:=NF aO hasl hdr hy8 hyt hr8 hrT hnsl hi1 hmm hi2 hi3 hsl hsl2 hb8 hbT htl
  (refine run ?_)
  clear X
  simp only[Nat.sub_zero,hsl2]
  refine aA (fun i:Nat=>[(2,.ptr H.length 0 0 0),(3,.ptr (H.length+1) 0 0 0),(6,.ptr (H.length+2) 0 0 0),(7,.sl (H.length+3) 0 0 i),(107,.list 8 (ag (as'.take ns.length))),(108,.int .i64 ((min ns.length as'.length:Nat):Int)),(109,.int .i64 (i:Int))])
   (fun i=>H++[.cells 0 8 [.agg [.int .i64 0,.str [],.int .i64 0,.int .i64 0,.list 1 [],.list 8 [],.list 9 [],.list 12 []]],.cells 0 8 [.agg [.int .i64 3,.str [],.int .i64 0,.int .i64 0,.list 1 (ns.map .str),.list 8 [.agg y.cells],.list 9 [],.list 12 []]],.cells 0 8 [.agg (ec ns y as').cells],.cells 0 9 (ad ((fQ ns as').take i))]) (fun i=>ns.length - i) (fun i=>i≤ns.length) 0 (Nat.zero_le _) ?_ ?_
  ·exact bI (n0:=H.length) [(H.length+1,0),(H.length+2,0),(H.length+3,0),(H.length+4,0)] hG hB hC' hcl
  rintro K i hi hK
  have hbl:(ad ((fQ ns as').take i)).length=i:=by rw[az,List.length_map,List.length_take];omega
  have hmn:((min ns.length as'.length:Nat):Int)=(ns.length:Int):=by omega
  rcases Nat.lt_or_ge i ns.length with hlti|hge
  ·have hg:=htg i hlti
   have hgn:=hgN i (by omega)
   have hsn:=rX (ns:=ns) (l:=as') (i:=i) (by omega) (by omega)
   have hx8:=(as'[i]'(by omega)).au
   have hxT:=(as'[i]'(by omega)).ao
   have hii:(i:Int)<(ns.length:Int):=by omega
   rw[List.append_nil] at hsn
   generalize (as'[i]'(by omega)).cells=xi at*
   have X:=C3 aO hbl hmn hg hgn hx8 hxT hii hsn
   (refine run ?_)
   refine hK _ _ (i+1) (by omega) (by omega) ?_
   simp only[List.append_nil,hsn]
   exact bI (n0:=H.length) [(H.length,0),(H.length+1,0),(H.length+2,0),(H.length+3,0)] hG hB hC' hcl
  ·obtain rfl:i=ns.length:=by omega
   clear hK
   rw[List.take_of_length_le (show(fQ ns as').length≤ns.length by omega)] at*
   have hbzu:=aK H.length (fQ ns as')
   have X:=FW aO hbl hmn hi3 hr8 hrT hb8 hbT
   (refine run ?_)
   refine rB [(126,.list 9 (ad (fQ ns as'))),(125,.agg (ec ns y as').cells),(2,.ptr H.length 0 0 0)] (H++[.cells 0 8 [.agg [.int .i64 0,.str [],.int .i64 0,.int .i64 0,.list 1 [],.list 8 [],.list 9 [],.list 12 []]]]) (bI (n0:=H.length) [(H.length,0)] hG hB hC' hcl (he:=by
    refine⟨⟨_,rfl,?_⟩,⟨_,rfl,?_⟩,⟨_,rfl,?_⟩,trivial⟩
    ·exact bF.sf (by rw[aH];rfl) (by omega) (by simp) (by rw[List.drop_zero,List.take_of_length_le (by omega)]) hbzu
    ·exact .same _ (by simp only[SV.under];exact hbu)
    ·exact kc)) ?_
   have c1:∀ H,aq Tryz.prog G 120 [.agg (ec ns y as').cells,.list 9 (ad (fQ ns as'))] H (fun r H'=>H'=H∧r= .agg xr):=c2
   (refine run ?_)
   exact aZ (n0:=H.length) hR hC' hcl (.same _ (by simp only[aC,SV.under,hru])) ⟨rfl,rfl⟩
 ·have hcb:ec ns y as'=y:=by unfold ec;rw[if_neg (by omega),if_neg (by omega)]
  rw[hcb] at c2 hb8 hbT hbu
  have hi1:¬ (ns.length:Int)<(as'.length:Int):=by omega
  have hi2:¬ (as'.length:Int)<(ns.length:Int):=by omega
  have hi3:¬ (ns.length:Int)<(ns.length:Int):=Int.lt_irrefl _
  have hsl:(0:Nat)=0:=rfl
  have hsl2:List.take ns.length (ag as')=ag (as'.take ns.length):=by rw[aL,aL,List.map_take]
  have hN:min ns.length as'.length=ns.length:=by omega
  rw[hN] at hzl
  have htl:(ag (as'.take ns.length)).length=ns.length:=by rw[bV,List.length_take];omega
  have htu:=bc H.length (as'.take ns.length)
  have htg:∀ (i:Nat) (h:i<ns.length),(ag (as'.take ns.length))[i]? =some (.agg (as'[i]'(by omega)).cells):=fun i h=>by
   rw[aL,List.getElem?_map,List.getElem?_take_of_lt h,List.getElem?_eq_getElem (by omega)];rfl
  refine bP [7] Tryz.func94 Tryz.ntmps94 fun C R' hR hC hcl hB hC' X=>?_
  have X:=NF aO hasl hdr hy8 hyt hr8 hrT hnsl hi1 hmm hi2 hi3 hsl hsl2 hb8 hbT htl
  (refine run ?_)
  clear X
  simp only[Nat.sub_zero,hsl2]
  refine aA (fun i:Nat=>[(2,.ptr H.length 0 0 0),(3,.ptr (H.length+1) 0 0 0),(6,.ptr (H.length+2) 0 0 0),(7,.sl (H.length+3) 0 0 i),(107,.list 8 (ag (as'.take ns.length))),(108,.int .i64 ((min ns.length as'.length:Nat):Int)),(109,.int .i64 (i:Int))])
   (fun i=>H++[.cells 0 8 [.agg [.int .i64 0,.str [],.int .i64 0,.int .i64 0,.list 1 [],.list 8 [],.list 9 [],.list 12 []]],.cells 0 8 [.agg [.int .i64 3,.str [],.int .i64 0,.int .i64 0,.list 1 (ns.map .str),.list 8 [.agg y.cells],.list 9 [],.list 12 []]],.cells 0 8 [.agg y.cells],.cells 0 9 (ad ((fQ ns as').take i))]) (fun i=>ns.length - i) (fun i=>i≤ns.length) 0 (Nat.zero_le _) ?_ ?_
  ·exact bI (n0:=H.length) [(H.length+1,0),(H.length+2,0),(H.length+3,0),(H.length+4,0)] hG hB hC' hcl
  rintro K i hi hK
  have hbl:(ad ((fQ ns as').take i)).length=i:=by rw[az,List.length_map,List.length_take];omega
  have hmn:((min ns.length as'.length:Nat):Int)=(ns.length:Int):=by omega
  rcases Nat.lt_or_ge i ns.length with hlti|hge
  ·have hg:=htg i hlti
   have hgn:=hgN i (by omega)
   have hsn:=rX (ns:=ns) (l:=as') (i:=i) (by omega) (by omega)
   have hx8:=(as'[i]'(by omega)).au
   have hxT:=(as'[i]'(by omega)).ao
   have hii:(i:Int)<(ns.length:Int):=by omega
   rw[List.append_nil] at hsn
   generalize (as'[i]'(by omega)).cells=xi at*
   have X:=C3 aO hbl hmn hg hgn hx8 hxT hii hsn
   (refine run ?_)
   refine hK _ _ (i+1) (by omega) (by omega) ?_
   simp only[List.append_nil,hsn]
   exact bI (n0:=H.length) [(H.length,0),(H.length+1,0),(H.length+2,0),(H.length+3,0)] hG hB hC' hcl
  ·obtain rfl:i=ns.length:=by omega
   clear hK
   rw[List.take_of_length_le (show(fQ ns as').length≤ns.length by omega)] at*
   have hbzu:=aK H.length (fQ ns as')
   have X:=FW aO hbl hmn hi3 hr8 hrT hb8 hbT
   (refine run ?_)
   refine rB [(126,.list 9 (ad (fQ ns as'))),(125,.agg y.cells),(2,.ptr H.length 0 0 0)] (H++[.cells 0 8 [.agg [.int .i64 0,.str [],.int .i64 0,.int .i64 0,.list 1 [],.list 8 [],.list 9 [],.list 12 []]]]) (bI (n0:=H.length) [(H.length,0)] hG hB hC' hcl (he:=by
    refine⟨⟨_,rfl,?_⟩,⟨_,rfl,?_⟩,⟨_,rfl,?_⟩,trivial⟩
    ·exact bF.sf (by rw[aH];rfl) (by omega) (by simp) (by rw[List.drop_zero,List.take_of_length_le (by omega)]) hbzu
    ·exact .same _ (by simp only[SV.under];exact hbu)
    ·exact kc)) ?_
   have c1:∀ H,aq Tryz.prog G 120 [.agg y.cells,.list 9 (ad (fQ ns as'))] H (fun r H'=>H'=H∧r= .agg xr):=c2
   (refine run ?_)
   exact aZ (n0:=H.length) hR hC' hcl (.same _ (by simp only[aC,SV.under,hru])) ⟨rfl,rfl⟩
 ·have hcb:ec ns y as'=df (ns.drop as'.length) y:=by unfold ec;rw[if_neg (by omega),if_pos hgt]
  have c3:∀ H,aq Tryz.prog G 91 [.list 1 ((ns.drop as'.length).map .str),.agg y.cells] H (fun r H'=>H'=H∧r= .agg (ec ns y as').cells):=fun H=>by
   rw[hcb];exact xL G hG (ns.drop as'.length) y H
  have hi1:(as'.length:Int)<(ns.length:Int):=by omega
  have hi2:¬ (ns.length:Int)<(as'.length:Int):=by omega
  have hi3:¬ (as'.length:Int)<(as'.length:Int):=Int.lt_irrefl _
  have hsl:List.take (ns.length - as'.length) (List.drop as'.length (ns.map SV.str))=(ns.drop as'.length).map SV.str:=by
   rw[← List.map_drop];exact List.take_of_length_le (by simp)
  have hsl2:List.take as'.length (ag as')=ag (as'.take as'.length):=by rw[aL,aL,List.map_take]
  have hN:min ns.length as'.length=as'.length:=by omega
  rw[hN] at hzl
  have htl:(ag (as'.take as'.length)).length=as'.length:=by rw[bV,List.length_take];omega
  have htu:=bc H.length (as'.take as'.length)
  have htg:∀ (i:Nat) (h:i<as'.length),(ag (as'.take as'.length))[i]? =some (.agg (as'[i]'(by omega)).cells):=fun i h=>by
   rw[aL,List.getElem?_map,List.getElem?_take_of_lt h,List.getElem?_eq_getElem (by omega)];rfl
  refine bP [7] Tryz.func94 Tryz.ntmps94 fun C R' hR hC hcl hB hC' X=>?_
  have X:=NF aO hasl hdr hy8 hyt hr8 hrT hnsl hi1 hmm hi2 hi3 hsl hsl2 hb8 hbT htl
  (refine run ?_)
  clear X
  simp only[Nat.sub_zero,hsl2]
  refine aA (fun i:Nat=>[(2,.ptr H.length 0 0 0),(3,.ptr (H.length+1) 0 0 0),(6,.ptr (H.length+2) 0 0 0),(7,.sl (H.length+3) 0 0 i),(107,.list 8 (ag (as'.take as'.length))),(108,.int .i64 ((min as'.length as'.length:Nat):Int)),(109,.int .i64 (i:Int))])
   (fun i=>H++[.cells 0 8 [.agg [.int .i64 0,.str [],.int .i64 0,.int .i64 0,.list 1 [],.list 8 [],.list 9 [],.list 12 []]],.cells 0 8 [.agg [.int .i64 3,.str [],.int .i64 0,.int .i64 0,.list 1 (ns.map .str),.list 8 [.agg y.cells],.list 9 [],.list 12 []]],.cells 0 8 [.agg (ec ns y as').cells],.cells 0 9 (ad ((fQ ns as').take i))]) (fun i=>as'.length - i) (fun i=>i≤as'.length) 0 (Nat.zero_le _) ?_ ?_
  ·exact bI (n0:=H.length) [(H.length+1,0),(H.length+2,0),(H.length+3,0),(H.length+4,0)] hG hB hC' hcl
  rintro K i hi hK
  have hbl:(ad ((fQ ns as').take i)).length=i:=by rw[az,List.length_map,List.length_take];omega
  have hmn:((min as'.length as'.length:Nat):Int)=(as'.length:Int):=by omega
  rcases Nat.lt_or_ge i as'.length with hlti|hge
  ·have hg:=htg i hlti
   have hgn:=hgN i (by omega)
   have hsn:=rX (ns:=ns) (l:=as') (i:=i) (by omega) (by omega)
   have hx8:=(as'[i]'(by omega)).au
   have hxT:=(as'[i]'(by omega)).ao
   have hii:(i:Int)<(as'.length:Int):=by omega
   rw[List.append_nil] at hsn
   generalize (as'[i]'(by omega)).cells=xi at*
   have X:=C3 aO hbl hmn hg hgn hx8 hxT hii hsn
   (refine run ?_)
   refine hK _ _ (i+1) (by omega) (by omega) ?_
   simp only[List.append_nil,hsn]
   exact bI (n0:=H.length) [(H.length,0),(H.length+1,0),(H.length+2,0),(H.length+3,0)] hG hB hC' hcl
  ·obtain rfl:i=as'.length:=by omega
   clear hK
   rw[List.take_of_length_le (show(fQ ns as').length≤as'.length by omega)] at*
   have hbzu:=aK H.length (fQ ns as')
   have X:=FW aO hbl hmn hi3 hr8 hrT hb8 hbT
   (refine run ?_)
   refine rB [(126,.list 9 (ad (fQ ns as'))),(125,.agg (ec ns y as').cells),(2,.ptr H.length 0 0 0)] (H++[.cells 0 8 [.agg [.int .i64 0,.str [],.int .i64 0,.int .i64 0,.list 1 [],.list 8 [],.list 9 [],.list 12 []]]]) (bI (n0:=H.length) [(H.length,0)] hG hB hC' hcl (he:=by
    refine⟨⟨_,rfl,?_⟩,⟨_,rfl,?_⟩,⟨_,rfl,?_⟩,trivial⟩
    ·exact bF.sf (by rw[aH];rfl) (by omega) (by simp) (by rw[List.drop_zero,List.take_of_length_le (by omega)]) hbzu
    ·exact .same _ (by simp only[SV.under];exact hbu)
    ·exact kc)) ?_
   have c1:∀ H,aq Tryz.prog G 120 [.agg (ec ns y as').cells,.list 9 (ad (fQ ns as'))] H (fun r H'=>H'=H∧r= .agg xr):=c2
   (refine run ?_)
   exact aZ (n0:=H.length) hR hC' hcl (.same _ (by simp only[aC,SV.under,hru])) ⟨rfl,rfl⟩
def dC (ps:List (aD×Ex)) (b:Ex) (i:Nat):Ex:=(ps.drop i).foldr (fun p b=>letE b [.mk p.1 p.2]) b
theorem Hf {ps:List (aD×Ex)} {b:Ex} {i:Nat} (h:i<ps.length):dC ps b i=letE (dC ps b (i+1)) [.mk ps[i].1 ps[i].2]:=by
 unfold dC
 rw[List.drop_eq_getElem_cons h];rfl
theorem Ko (ps:List (aD×Ex)) (b:Ex):dC ps b ps.length=b:=by unfold dC;rw[List.drop_length];rfl
theorem Et {ns:List aD} {l:List Ex} {i:Nat} {p:aD×Ex} (h:(ns.zip l)[i]? =some p):i<ns.length∧i<l.length∧ns[i]? =some p.1∧(ag l)[i]? =some (.agg p.2.cells):=by
 rw[List.getElem?_eq_some_iff] at h
 obtain⟨hi,rfl⟩:=h
 rw[List.length_zip] at hi
 refine⟨by omega,by omega,?_,?_⟩
 ·rw[List.getElem?_eq_getElem (by omega),List.getElem_zip]
 ·rw[aL,List.getElem?_map,List.getElem?_eq_getElem (by omega),List.getElem_zip];rfl
theorem Eg (G:Gl) (hG:ah G) (kd:Int) (nm:aD) (nn op:Int) (names:List aD) (ae:List Ex) (binds:List Bd) (alts:List Al) (ekd:Int) (enm:aD) (enn eop:Int) (enames:List aD) (esubs:List Ex) (ebinds:List Bd) (ealts:List Al)
 (ak:Int) (an:aD) (am:Int) (ans:List aD) (ab own base:Ex) (hown:own=if ak=1 then .mk kd nm nn op names (bk ans) binds alts else .mk kd nm nn op names ae binds alts) (hbase:base=letE ab [.mk enm own])
 (ha:ans.length≤ae.length) (hl:ans.length<137438953472) (H:List av):
 aq Tryz.prog G 134 [.agg [.int .i64 ekd,.str enm,.int .i64 enn,.int .i64 eop,.list 1 (enames.map .str),.list 8 (ag esubs),.list 9 (ad ebinds),.list 12 (af ealts)],.agg [.int .i64 kd,.str nm,.int .i64 nn,.int .i64 op,.list 1 (names.map .str),.list 8 (ag ae),.list 9 (ad binds),.list 12 (af alts)],.gM (.agg (.int .i64 ak:: .str an:: .int .i64 am:: .list 1 (ans.map .str)::ab.cells))] H (fun r H'=>H'=H∧r=(dC (ans.zip ae) base 0).sv):=by
 have hzl:(ans.zip ae).length=ans.length:=by rw[List.length_zip];omega
 have c1:∀ H,aq Tryz.prog G 132 [.list 1 (ans.map .str)] H (fun r H'=>H'=H∧r= .list 8 (ag (bk ans))):=fun H=>Cf G hG ans (by omega) H
 have c2:∀ H,aq Tryz.prog G 120 [.agg ab.cells,.list 9 [.agg (.str enm::own.cells)]] H (fun r H'=>H'=H∧r= .agg base.cells):=fun H=>by
  rw[hbase]
  exact dr G hG [.mk enm own] ab H
 have c3:=fun H=>HL G hG ans H
 have hb8:=base.au
 have hbT:=base.ao
 have hbu:=fun n=>base.aw n
 have ho8:=own.au
 have hoT:=own.ao
 have ha8:=ab.au
 have haT:=ab.ao
 have hLn:=fun(i:Nat) (p:aD×Ex) (h:(ans.zip ae)[i]? =some p) (H:List av)=>dr G hG [.mk p.1 p.2] (dC (ans.zip ae) base (i+1)) H
 have hstep:=fun(i:Nat) (h:i<(ans.zip ae).length)=>Hf (ps:=ans.zip ae) (b:=base) h
 have h0:=Ko (ans.zip ae) base
 rw[hzl] at h0
 have hown2:own.cells=if ak=1 then [.int .i64 kd,.str nm,.int .i64 nn,.int .i64 op,.list 1 (names.map .str),.list 8 (ag (bk ans)),.list 9 (ad binds),.list 12 (af alts)] else [.int .i64 kd,.str nm,.int .i64 nn,.int .i64 op,.list 1 (names.map .str),.list 8 (ag ae),.list 9 (ad binds),.list 12 (af alts)]:=by rw[hown];split<;>rfl
 clear hown hbase
 have hsu:=bj H.length ans
 by_cases hk:ak=1
 ·rw[if_pos hk] at hown2
  rw[hown2] at c2
  clear ho8 hoT
  subst hk
  refine bP [] Tryz.func134 Tryz.ntmps134 fun C R' hR hC hcl hB hC' X=>?_
  have X:=j8 aO ha8 haT hb8 hbT
  (refine run ?_;with_reducible repeat' first|exact trivial|(apply aJ.mk<;>intro hb)|apply bN.mk)
  all_goals
   refine fj iD (σ:=Nat) (ξ:=Nat×(aD×Ex)) (fun i=>H++[.cells 0 8 [.agg [.int .i64 kd,.str nm,.int .i64 nn,.int .i64 op,.list 1 (names.map .str),.list 8 (ag ae),.list 9 (ad binds),.list 12 (af alts)]],.cells 0 8 [.agg [.int .i64 0,.str [],.int .i64 0,.int .i64 0,.list 1 [],.list 8 [],.list 9 [],.list 12 []]],.cells 0 8 [.agg (dC (ans.zip ae) base i).cells]]) (H.length+3) (fun s=>by simp) ans.length
    [(4,.ptr H.length 0 0 0),(6,.ptr (H.length+1) 0 0 0),(8,.ptr (H.length+2) 0 0 0),(37,.fn (.func 176) [] [.gM (.list 1 (ans.map .str))])] (fun x=>[.int .i64 x.1,.str x.2.1]) (fun s x=>s=x.1+1∧(ans.zip ae)[x.1]? =some x.2) (fun s x=>x.1) (fun s=>s=0)
    (fun x=>[(39,.str x.2.1),(38,.int .i64 x.1),(4,.ptr H.length 0 0 0),(6,.ptr (H.length+1) 0 0 0),(8,.ptr (H.length+2) 0 0 0),(37,.fn (.func 176) [] [.gM (.list 1 (ans.map .str))])]) rfl rfl (fun x=>rfl) (fun x=>rfl) ?_ ?_ ?_ ?_
   ·rw[h0]
    exact bI (n0:=H.length) [(H.length+1,0),(H.length+2,0),(H.length+4,0)] hG hB hC' hcl
   ·intro G' LO hGl hLO hy
    have:=wL G' ans (by omega) (H.length+3) (fun i=>(H++[.cells 0 8 [.agg [.int .i64 kd,.str nm,.int .i64 nn,.int .i64 op,.list 1 (names.map .str),.list 8 (ag ae),.list 9 (ad binds),.list 12 (af alts)]],.cells 0 8 [.agg [.int .i64 0,.str [],.int .i64 0,.int .i64 0,.list 1 [],.list 8 [],.list 9 [],.list 12 []]],.cells 0 8 [.agg (dC (ans.zip ae) base i).cells]])++[LO]) (fun i hi Y=>by
     have:=hy (i+1) (i,((ans.zip ae)[i]'(by omega))) Y ⟨rfl,List.getElem?_eq_getElem (by omega)⟩
     rw[show((ans.zip ae)[i]'(by omega)).1=ans[i] by rw[List.getElem_zip]] at this
     simpa only[List.append_assoc,List.cons_append,List.nil_append] using this)
    exact this.mono fun r H' h=>⟨0,rfl,h⟩
   ·rintro G' C' ρ' s ⟨j,p⟩ Y LO LB K1 K hGl hB' hCH hcl' hLO hLB ⟨hs,hb⟩ hK1 hK
    subst hs
    obtain⟨hj1,hj2,hj3,hj4⟩:=Et hb
    have hjz:j<(ans.zip ae).length:=by rw[hzl];exact hj1
    have hps:(ans.zip ae)[j]=p:=(List.getElem?_eq_some_iff.1 hb).2
    have hst:=hstep j hjz
    rw[hps] at hst
    have hG':ah G':=by unfold ah;rw[hGl];exact hG
    have c1:=fun H=>dr G' hG' [.mk p.1 p.2] (dC (ans.zip ae) base (j+1)) H
    rw[← hst,fe] at c1
    obtain⟨pn,pe⟩:=p
    dsimp only at c1 hj4 ⊢
    have hp8:=pe.au
    have hpT:=pe.ao
    have hq8:=(dC (ans.zip ae) base (j+1)).au
    have hqT:=(dC (ans.zip ae) base (j+1)).ao
    have hr8:=(dC (ans.zip ae) base j).au
    have hrT:=(dC (ans.zip ae) base j).ao
    rw[show(dC (ans.zip ae) base (j+1)).sv= .agg (dC (ans.zip ae) base (j+1)).cells from rfl,show(dC (ans.zip ae) base j).sv= .agg (dC (ans.zip ae) base j).cells from rfl] at c1
    dsimp only at hK hK1
    simp only[List.append_assoc,List.cons_append,List.nil_append] at hcl' hCH hK ⊢
    generalize (dC (ans.zip ae) base (j+1)).cells=xq at*
    generalize (dC (ans.zip ae) base j).cells=xr at*
    generalize pe.cells=xp at*
    have X:=aO
    (refine run ?_)
    refine hK1 _ _ (by rw[aH];rfl) ?_
    simp only[bW,List.set_cons_succ,List.set_cons_zero]
    have hpp:xp++[]=xp:=List.append_nil _
    have X:=C3 aO hpp hj4 hp8 hpT hq8 hqT hr8 hrT
    (refine run ?_)
    all_goals
     exact hK _ _ (Wk.sub trivial)
   ·intro s LO hs hLO
    subst hs
    simp only[List.append_assoc,List.cons_append,List.nil_append]
    have hr8:=(dC (ans.zip ae) base 0).au
    have hrT:=(dC (ans.zip ae) base 0).ao
    have hru:=(dC (ans.zip ae) base 0).aw H.length
    have hsv:(dC (ans.zip ae) base 0).sv= .agg (dC (ans.zip ae) base 0).cells:=rfl
    rw[hsv] at hR
    generalize (dC (ans.zip ae) base 0).cells=xr at*
    have X:=fc aO hr8 hrT
    (refine run ?_)
    exact aZ (n0:=H.length) hR hC' hcl (.same _ (by simp only[aC,SV.under,hru])) ⟨rfl,rfl⟩
 ·rw[if_neg hk] at hown2
  rw[hown2] at c2
  clear ho8 hoT
  refine bP [] Tryz.func134 Tryz.ntmps134 fun C R' hR hC hcl hB hC' X=>?_
  have X:=oD aO hk ha8 haT hb8 hbT
  (refine run ?_;with_reducible repeat' first|exact trivial|(apply aJ.mk<;>intro hb)|apply bN.mk)
  all_goals
   refine fj iD (σ:=Nat) (ξ:=Nat×(aD×Ex)) (fun i=>H++[.cells 0 8 [.agg [.int .i64 kd,.str nm,.int .i64 nn,.int .i64 op,.list 1 (names.map .str),.list 8 (ag ae),.list 9 (ad binds),.list 12 (af alts)]],.cells 0 8 [.agg [.int .i64 0,.str [],.int .i64 0,.int .i64 0,.list 1 [],.list 8 [],.list 9 [],.list 12 []]],.cells 0 8 [.agg (dC (ans.zip ae) base i).cells]]) (H.length+3) (fun s=>by simp) ans.length
    [(4,.ptr H.length 0 0 0),(6,.ptr (H.length+1) 0 0 0),(8,.ptr (H.length+2) 0 0 0),(37,.fn (.func 176) [] [.gM (.list 1 (ans.map .str))])] (fun x=>[.int .i64 x.1,.str x.2.1]) (fun s x=>s=x.1+1∧(ans.zip ae)[x.1]? =some x.2) (fun s x=>x.1) (fun s=>s=0)
    (fun x=>[(39,.str x.2.1),(38,.int .i64 x.1),(4,.ptr H.length 0 0 0),(6,.ptr (H.length+1) 0 0 0),(8,.ptr (H.length+2) 0 0 0),(37,.fn (.func 176) [] [.gM (.list 1 (ans.map .str))])]) rfl rfl (fun x=>rfl) (fun x=>rfl) ?_ ?_ ?_ ?_
   ·rw[h0]
    exact bI (n0:=H.length) [(H.length+1,0),(H.length+2,0),(H.length+4,0)] hG hB hC' hcl
   ·intro G' LO hGl hLO hy
    have:=wL G' ans (by omega) (H.length+3) (fun i=>(H++[.cells 0 8 [.agg [.int .i64 kd,.str nm,.int .i64 nn,.int .i64 op,.list 1 (names.map .str),.list 8 (ag ae),.list 9 (ad binds),.list 12 (af alts)]],.cells 0 8 [.agg [.int .i64 0,.str [],.int .i64 0,.int .i64 0,.list 1 [],.list 8 [],.list 9 [],.list 12 []]],.cells 0 8 [.agg (dC (ans.zip ae) base i).cells]])++[LO]) (fun i hi Y=>by
     have:=hy (i+1) (i,((ans.zip ae)[i]'(by omega))) Y ⟨rfl,List.getElem?_eq_getElem (by omega)⟩
     rw[show((ans.zip ae)[i]'(by omega)).1=ans[i] by rw[List.getElem_zip]] at this
     simpa only[List.append_assoc,List.cons_append,List.nil_append] using this)
    exact this.mono fun r H' h=>⟨0,rfl,h⟩
   ·rintro G' C' ρ' s ⟨j,p⟩ Y LO LB K1 K hGl hB' hCH hcl' hLO hLB ⟨hs,hb⟩ hK1 hK
    subst hs
    obtain⟨hj1,hj2,hj3,hj4⟩:=Et hb
    have hjz:j<(ans.zip ae).length:=by rw[hzl];exact hj1
    have hps:(ans.zip ae)[j]=p:=(List.getElem?_eq_some_iff.1 hb).2
    have hst:=hstep j hjz
    rw[hps] at hst
    have hG':ah G':=by unfold ah;rw[hGl];exact hG
    have c1:=fun H=>dr G' hG' [.mk p.1 p.2] (dC (ans.zip ae) base (j+1)) H
    rw[← hst,fe] at c1
    obtain⟨pn,pe⟩:=p
    dsimp only at c1 hj4 ⊢
    have hp8:=pe.au
    have hpT:=pe.ao
    have hq8:=(dC (ans.zip ae) base (j+1)).au
    have hqT:=(dC (ans.zip ae) base (j+1)).ao
    have hr8:=(dC (ans.zip ae) base j).au
    have hrT:=(dC (ans.zip ae) base j).ao
    rw[show(dC (ans.zip ae) base (j+1)).sv= .agg (dC (ans.zip ae) base (j+1)).cells from rfl,show(dC (ans.zip ae) base j).sv= .agg (dC (ans.zip ae) base j).cells from rfl] at c1
    dsimp only at hK hK1
    simp only[List.append_assoc,List.cons_append,List.nil_append] at hcl' hCH hK ⊢
    generalize (dC (ans.zip ae) base (j+1)).cells=xq at*
    generalize (dC (ans.zip ae) base j).cells=xr at*
    generalize pe.cells=xp at*
    have X:=aO
    (refine run ?_)
    refine hK1 _ _ (by rw[aH];rfl) ?_
    simp only[bW,List.set_cons_succ,List.set_cons_zero]
    have hpp:xp++[]=xp:=List.append_nil _
    have X:=C3 aO hpp hj4 hp8 hpT hq8 hqT hr8 hrT
    (refine run ?_)
    all_goals
     exact hK _ _ (Wk.sub trivial)
   ·intro s LO hs hLO
    subst hs
    simp only[List.append_assoc,List.cons_append,List.nil_append]
    have hr8:=(dC (ans.zip ae) base 0).au
    have hrT:=(dC (ans.zip ae) base 0).ao
    have hru:=(dC (ans.zip ae) base 0).aw H.length
    have hsv:(dC (ans.zip ae) base 0).sv= .agg (dC (ans.zip ae) base 0).cells:=rfl
    rw[hsv] at hR
    generalize (dC (ans.zip ae) base 0).cells=xr at*
    have X:=fc aO hr8 hrT
    (refine run ?_)
    exact aZ (n0:=H.length) hR hC' hcl (.same _ (by simp only[aC,SV.under,hru])) ⟨rfl,rfl⟩
theorem Hg (G:Gl) (hG:ah G) (e v:Ex) (a:Al) (ha:a.names.length≤v.ae.length) (hl:a.names.length<137438953472) (H:List av):aq Tryz.prog G 134 [e.sv,v.sv,.gM a.sv] H (fun r H'=>H'=H∧r=(iC e.name v a).sv):=by
 obtain⟨kd,nm,nn,op,names,ae,binds,alts⟩:=v
 obtain⟨ekd,enm,enn,eop,enames,esubs,ebinds,ealts⟩:=e
 obtain⟨ak,an,am,ans,ab⟩:=a
 have h:=Eg G hG kd nm nn op names ae binds alts ekd enm enn eop enames esubs ebinds ealts ak an am ans ab _ _ rfl rfl ha hl H
 rw[show(Al.mk ak an am ans ab).sv= .agg (.int .i64 ak:: .str an:: .int .i64 am:: .list 1 (ans.map .str)::ab.cells) from by rw[Al.sv,Al.bf];rfl]
 exact h
theorem Ex.tV (e:Ex):List.drop 8 e.cells=[]:=List.drop_eq_nil_of_le (by rw[e.au];exact Nat.le_refl _)
theorem gN (G:Gl) (hG:ah G) (s:aD) (r:Ex):∀ (m:Nat) (e:Ex) (H:List av),e.wt≤m→m<274877906944→aq Tryz.prog G 58 [e.sv,.str s,r.sv] H (fun v H'=>H'=H∧v=(dK s r m e).sv)
 |0,e,H,h,_=>absurd e.bZ (by omega)
 |m+1,e,H,hm,hm2=>by
  obtain⟨kd,nm,nn,op,names,ae,binds,alts⟩:=e
  have hlen:=Ex.dn kd nm nn op names ae binds alts
  have hP:(Ex.mk kd nm nn op names ae binds alts).parts=ae++(binds.map Bd.e++alts.map Al.body):=Ex.ck ..
  have hwp:∀ p∈(Ex.mk kd nm nn op names ae binds alts).parts,p.wt≤m:=fun p hp=>by have:=Ex.cm hp;omega
  rw[hP] at hwp
  have hrec:=fun e H h=>gN G hG s r m e H h (by omega)
  have hin:∀ (x:Ex) (nms:List aD) (H2:List av),x.wt≤m→nms.length<4611686018427387904→H2[H.length+1]? =some (.cells 0 1 [.str s])→H2[H.length+2]? =some (.cells 0 8 [.agg r.cells])→
   aY Tryz.prog G (.fn (.func 98) [] [.ptr (H.length+1) 0 0 0,.ptr (H.length+2) 0 0 0]) [x.sv,.list 1 (nms.map .str)] H2 (fun v H'=>H'=H2∧v=(if s∈nms then x else dK s r m x).sv):=fun x nms H2 h1 h2 h3 h4=>
   aY.of (first:=[]) (args:=[x.sv,.list 1 (nms.map .str)]) (cap:=[.ptr (H.length+1) 0 0 0,.ptr (H.length+2) 0 0 0]) (Ka G hG s r m hrec x h1 nms h2 H2 _ _ h3 h4)
  refine bP [8,14] Tryz.func58 Tryz.ntmps58 fun C R' hR hC hcl hB hC' X=>?_
  rw[dK] at hR
  by_cases hk1:kd=1
  ·subst hk1
   rw[if_pos rfl] at hR
   (refine bK ?_;with_reducible repeat' first|exact trivial|(apply aJ.mk<;>intro hb)|apply bN.mk)
   ·rw[if_pos hb] at hR
    exact Fin.aS (n0:=H.length) hR rfl hC' hcl (.same _ (Ex.gx _ r)) ⟨rfl,rfl⟩
   ·rw[if_neg hb] at hR
    exact Fin.aS (n0:=H.length) hR rfl hC' hcl (.same _ (Ex.gx _ (.mk 1 nm nn op names ae binds alts))) ⟨rfl,rfl⟩
  rw[if_neg hk1] at hR
  clear X
  have X:=decide_eq_false hk1
  (refine iu ?_)
  refine uJ rfl ?_
  (refine iu ?_)
  refine fA (fun _:Unit=>[(3,.ptr H.length 0 0 0),(4,.ptr (H.length+1) 0 0 0),(5,.ptr (H.length+2) 0 0 0),(6,.ptr (H.length+3) 0 0 0),(7,.fn (.func 98) [] [.ptr (H.length+1) 0 0 0,.ptr (H.length+2) 0 0 0]),(8,.sl (H.length+4) 0 0 (if kd=3 then names else []).length)]) (fun _=>H++[.cells 0 8 [.agg [.int .i64 kd,.str nm,.int .i64 nn,.int .i64 op,.list 1 (names.map .str),.list 8 (ag ae),.list 9 (ad binds),.list 12 (af alts)]],.cells 0 1 [.str s],.cells 0 8 [.agg r.cells],.cells 0 8 [.agg [.int .i64 0,.str [],.int .i64 0,.int .i64 0,.list 1 [],.list 8 [],.list 9 [],.list 12 []]],.cells 0 1 ((if kd=3 then names else []).map .str)]) (fun _=>True) (fun K hK=>?_) (fun _ _=>?_)
  ·(refine run ?_;with_reducible repeat' first|exact trivial|(apply aJ.mk<;>intro hb)|apply bN.mk)
   ·refine br (gz G hG names _ (by omega)) ?_
    rintro v H' ⟨rfl,rfl⟩
    simp only[List.append_assoc,List.cons_append,List.nil_append,List.length_append,List.length_cons,List.length_nil,List.length_set,X,Nat.reduceAdd]
    (refine run ?_)
    refine hK _ _ () trivial ?_
    simp only[if_pos hb]
    exact tD (n0:=H.length) [(H.length,0),(H.length+1,0),(H.length+2,0),(H.length+3,0),(H.length+5,0)] hG hB hC' hcl
   ·refine hK _ _ () trivial ?_
    simp only[if_neg hb,List.length_nil,List.map_nil]
    exact tD (n0:=H.length) [(H.length,0),(H.length+1,0),(H.length+2,0),(H.length+3,0),(H.length+4,0)] hG hB hC' hcl
  (refine iu ?_)
  refine fA (fun _:Unit=>[(3,.ptr H.length 0 0 0),(4,.ptr (H.length+1) 0 0 0),(5,.ptr (H.length+2) 0 0 0),(6,.ptr (H.length+3) 0 0 0),(7,.fn (.func 98) [] [.ptr (H.length+1) 0 0 0,.ptr (H.length+2) 0 0 0]),(8,.list 1 ((cA kd names binds).map .str))]) (fun _=>H++[.cells 0 8 [.agg [.int .i64 kd,.str nm,.int .i64 nn,.int .i64 op,.list 1 (names.map .str),.list 8 (ag ae),.list 9 (ad binds),.list 12 (af alts)]],.cells 0 1 [.str s],.cells 0 8 [.agg r.cells],.cells 0 8 [.agg [.int .i64 0,.str [],.int .i64 0,.int .i64 0,.list 1 [],.list 8 [],.list 9 [],.list 12 []]]]) (fun _=>True) (fun K hK=>?_) (fun _ _=>?_)
  ·by_cases hk5:kd=5
   ·have hk3:¬ kd=3:=by omega
    have hown:cA kd names binds=binds.map Bd.name:=by simp only[cA,if_neg hk3,if_pos hk5]
    simp only[if_neg hk3,List.length_nil,List.map_nil]
    (refine run ?_)
    refine aA (fun i:Nat=>[(3,.ptr H.length 0 0 0),(4,.ptr (H.length+1) 0 0 0),(5,.ptr (H.length+2) 0 0 0),(6,.ptr (H.length+3) 0 0 0),(7,.fn (.func 98) [] [.ptr (H.length+1) 0 0 0,.ptr (H.length+2) 0 0 0]),(35,.list 9 (ad binds)),(36,.int .i64 binds.length),(37,.int .i64 i),(8,.sl (H.length+4) 0 0 i)])
     (fun i=>H++[.cells 0 8 [.agg [.int .i64 kd,.str nm,.int .i64 nn,.int .i64 op,.list 1 (names.map .str),.list 8 (ag ae),.list 9 (ad binds),.list 12 (af alts)]],.cells 0 1 [.str s],.cells 0 8 [.agg r.cells],.cells 0 8 [.agg [.int .i64 0,.str [],.int .i64 0,.int .i64 0,.list 1 [],.list 8 [],.list 9 [],.list 12 []]],.cells 0 1 ((binds.take i).map fun b=> .str b.name)]) (fun i=>binds.length - i) (fun i=>i≤binds.length) 0 (Nat.zero_le _) ?_ ?_
    ·exact tD (n0:=H.length) [(H.length,0),(H.length+1,0),(H.length+2,0),(H.length+3,0),(H.length+4,0)] hG hB hC' hcl
    rintro K2 i hi hK2
    (refine run ?_;with_reducible repeat' first|exact trivial|(apply aJ.mk<;>intro hb)|apply bN.mk)
    ·refine hK2 _ _ (i+1) (by omega) (by omega) ?_
     simp only[List.take_succ_eq_append_getElem (show i<binds.length by omega),List.map_append,List.map_cons,List.map_nil]
     exact tD (n0:=H.length) [(H.length,0),(H.length+1,0),(H.length+2,0),(H.length+3,0),(H.length+4,0)] hG hB hC' hcl
    ·refine hK _ _ () trivial ?_
     obtain rfl:i=binds.length:=by omega
     simp only[hown,List.take_length,List.map_map]
     exact tD (n0:=H.length) [(H.length,0),(H.length+1,0),(H.length+2,0),(H.length+3,0)] hG hB hC' hcl
   ·have hown:cA kd names binds=if kd=3 then names else []:=by simp only[cA,if_neg hk5]
    (refine run ?_)
    refine hK _ _ () trivial ?_
    rw[hown]
    exact tD (n0:=H.length) [(H.length,0),(H.length+1,0),(H.length+2,0),(H.length+3,0)] hG hB hC' hcl
  ·(refine run ?_)
   refine nB (wT G hG ae _ (by omega)) ?_
   rintro v H' ⟨rfl,rfl⟩
   simp only[List.append_assoc,List.cons_append,List.nil_append,List.length_append,List.length_cons,List.length_nil,List.length_set,X,Nat.reduceAdd]
   (refine run ?_)
   refine nB (wS G hG binds _ (by omega)) ?_
   rintro v H' ⟨rfl,rfl⟩
   simp only[List.append_assoc,List.cons_append,List.nil_append,List.length_append,List.length_cons,List.length_nil,List.length_set,X,Nat.reduceAdd]
   (refine run ?_)
   refine nB (kF G hG alts _ (by omega)) ?_
   rintro v H' ⟨rfl,rfl⟩
   simp only[List.append_assoc,List.cons_append,List.nil_append,List.length_append,List.length_cons,List.length_nil,List.length_set,X,Nat.reduceAdd]
   (refine run ?_)
   have hol:(cA kd names binds).length<4611686018427387904:=by
    simp only[cA];split
    ·omega
    ·split
     ·rw[List.length_map];omega
     ·exact Nat.zero_lt_succ _
   generalize hOW:cA kd names binds=ow at hR hol ⊢
   generalize hf:(fun x=>if s∈ow then x else dK s r m x)=f at hR
   have hfx:∀ x,(if s∈ow then x else dK s r m x)=f x:=fun x=>by rw[← hf]
   refine aA (fun i:Nat=>[(3,.ptr H.length 0 0 0),(4,.ptr (H.length+1) 0 0 0),(5,.ptr (H.length+2) 0 0 0),(6,.ptr (H.length+3) 0 0 0),(7,.fn (.func 98) [] [.ptr (H.length+1) 0 0 0,.ptr (H.length+2) 0 0 0]),(8,.list 1 (ow.map .str)),(61,.int .i64 ae.length),(62,.int .i64 i)])
    (fun i=>H++[.cells 0 8 [.agg [.int .i64 kd,.str nm,.int .i64 nn,.int .i64 op,.list 1 (names.map .str),.sl (H.length+4) 0 0 ae.length,.sl (H.length+5) 0 0 binds.length,.sl (H.length+6) 0 0 alts.length]],.cells 0 1 [.str s],.cells 0 8 [.agg r.cells],.cells 0 8 [.agg [.int .i64 0,.str [],.int .i64 0,.int .i64 0,.list 1 [],.list 8 [],.list 9 [],.list 12 []]],.cells 0 8 (ag (mix f ae i)),.cells 0 9 (ad binds),.cells 0 12 (af alts)]) (fun i=>ae.length - i) (fun i=>i≤ae.length) 0 (Nat.zero_le _) ?_ ?_
   ·rw[vd]
    exact tD (n0:=H.length) [(H.length,0),(H.length+1,0),(H.length+2,0),(H.length+3,0),(H.length+4,0),(H.length+5,0),(H.length+6,0)] hG hB hC' hcl
   rintro K i hi hK
   rcases Nat.lt_or_ge i ae.length with hlt|hge
   ·have X:=fc aO (Bp f ae i hlt) (yZ f ae i (by omega))
    (refine run ?_;with_reducible repeat' first|exact trivial|(apply aJ.mk<;>intro hb)|apply bN.mk)
    refine nC (by exact cw) (by exact cw) (hin ae[i] ow _ (hwp _ (by simp)) hol (by rw[aH];rfl) (by rw[aH];rfl)) ?_
    rintro v H' ⟨rfl,rfl⟩
    rw[hfx]
    (refine run ?_)
    refine hK _ _ (i+1) (by omega) (by omega) ?_
    rw[um f ae i hlt]
    exact tD (n0:=H.length) [(H.length,0),(H.length+1,0),(H.length+2,0),(H.length+3,0),(H.length+4,0),(H.length+5,0),(H.length+6,0)] hG hB hC' hcl
   have hi2:i=ae.length:=by omega
   subst hi2
   rw[zC]
   clear hK
   (refine run ?_;with_reducible repeat' first|exact trivial|(apply aJ.mk<;>intro hb)|apply bN.mk)
   generalize hg:(fun b:Bd=>Bd.mk b.name (f b.e))=g
   have hgx:∀ b:Bd,g b= .mk b.name (f b.e):=fun b=>by rw[← hg]
   refine aA (fun i:Nat=>[(3,.ptr H.length 0 0 0),(4,.ptr (H.length+1) 0 0 0),(5,.ptr (H.length+2) 0 0 0),(6,.ptr (H.length+3) 0 0 0),(7,.fn (.func 98) [] [.ptr (H.length+1) 0 0 0,.ptr (H.length+2) 0 0 0]),(8,.list 1 (ow.map .str)),(80,.int .i64 binds.length),(81,.int .i64 i)])
    (fun i=>H++[.cells 0 8 [.agg [.int .i64 kd,.str nm,.int .i64 nn,.int .i64 op,.list 1 (names.map .str),.sl (H.length+4) 0 0 ae.length,.sl (H.length+5) 0 0 binds.length,.sl (H.length+6) 0 0 alts.length]],.cells 0 1 [.str s],.cells 0 8 [.agg r.cells],.cells 0 8 [.agg [.int .i64 0,.str [],.int .i64 0,.int .i64 0,.list 1 [],.list 8 [],.list 9 [],.list 12 []]],.cells 0 8 (ag (ae.map f)),.cells 0 9 (ad (mix g binds i)),.cells 0 12 (af alts)]) (fun i=>binds.length - i) (fun i=>i≤binds.length) 0 (Nat.zero_le _) ?_ ?_
   ·rw[vd]
    exact tD (n0:=H.length) [(H.length,0),(H.length+1,0),(H.length+2,0),(H.length+3,0),(H.length+4,0),(H.length+5,0),(H.length+6,0)] hG hB hC' hcl
   rintro K i hi hK
   rcases Nat.lt_or_ge i binds.length with hlt|hge
   ·have X:=fc aO (AG g binds i hlt) (yI g binds i (by omega))
    (refine run ?_;with_reducible repeat' first|exact trivial|(apply aJ.mk<;>intro hb)|apply bN.mk)
    refine nC (by exact cw) (by exact cw) (hin binds[i].e ow _ (hwp _ (List.mem_append_right _ (List.mem_append_left _ (List.mem_map_of_mem (List.getElem_mem hlt))))) hol (by rw[aH];rfl) (by rw[aH];rfl)) ?_
    rintro v H' ⟨rfl,rfl⟩
    rw[hfx]
    have hset:(ad (mix g binds i)).set i (.agg (.str binds[i].name::((f binds[i].e).cells++List.drop 8 binds[i].e.cells)))=ad (mix g binds (i+1)):=by
     rw[Ex.tV,List.append_nil,← tN g binds i hlt,hgx];rfl
    (refine run ?_)
    refine hK _ _ (i+1) (by omega) (by omega) ?_
    rw[hset]
    exact tD (n0:=H.length) [(H.length,0),(H.length+1,0),(H.length+2,0),(H.length+3,0),(H.length+4,0),(H.length+5,0),(H.length+6,0)] hG hB hC' hcl
   have hi2:i=binds.length:=by omega
   subst hi2
   rw[zC]
   clear hK
   (refine run ?_;with_reducible repeat' first|exact trivial|(apply aJ.mk<;>intro hb)|apply bN.mk)
   generalize hq:(fun a:Al=>Al.mk a.kind a.name a.n a.names (if s∈fz kd nm a.names then a.body else dK s r m a.body))=q at hR
   have hqx:∀ a:Al,q a= .mk a.kind a.name a.n a.names (if s∈fz kd nm a.names then a.body else dK s r m a.body):=fun a=>by rw[← hq]
   refine aA (fun i:Nat=>[(3,.ptr H.length 0 0 0),(4,.ptr (H.length+1) 0 0 0),(5,.ptr (H.length+2) 0 0 0),(6,.ptr (H.length+3) 0 0 0),(7,.fn (.func 98) [] [.ptr (H.length+1) 0 0 0,.ptr (H.length+2) 0 0 0]),(101,.int .i64 alts.length),(102,.int .i64 i)])
    (fun i=>H++[.cells 0 8 [.agg [.int .i64 kd,.str nm,.int .i64 nn,.int .i64 op,.list 1 (names.map .str),.sl (H.length+4) 0 0 ae.length,.sl (H.length+5) 0 0 binds.length,.sl (H.length+6) 0 0 alts.length]],.cells 0 1 [.str s],.cells 0 8 [.agg r.cells],.cells 0 8 [.agg [.int .i64 0,.str [],.int .i64 0,.int .i64 0,.list 1 [],.list 8 [],.list 9 [],.list 12 []]],.cells 0 8 (ag (ae.map f)),.cells 0 9 (ad (binds.map g)),.cells 0 12 (af (mix q alts i))]) (fun i=>alts.length - i) (fun i=>i≤alts.length) 0 (Nat.zero_le _) ?_ ?_
   ·rw[vd]
    exact tD (n0:=H.length) [(H.length,0),(H.length+1,0),(H.length+2,0),(H.length+3,0),(H.length+4,0),(H.length+5,0),(H.length+6,0)] hG hB hC' hcl
   rintro K i hi hK
   rcases Nat.lt_or_ge i alts.length with hlt|hge
   ·have hnl:=Al.Ch (kd:=kd) (nm:=nm) (nn:=nn) (op:=op) (names:=names) (ae:=ae) (binds:=binds) hlt
    have X:=fc aO (Ax q alts i hlt) (yB q alts i (by omega))
    (refine run ?_;with_reducible repeat' first|exact trivial|(apply aJ.mk<;>intro hb)|apply bN.mk)
    refine br (gz G hG alts[i].names _ (by omega)) ?_
    rintro v H' ⟨rfl,rfl⟩
    simp only[List.append_assoc,List.cons_append,List.nil_append,List.length_append,List.length_cons,List.length_nil,List.length_set,X,Nat.reduceAdd]
    (refine iu ?_)
    refine fA (fun _:Unit=>[(3,.ptr H.length 0 0 0),(4,.ptr (H.length+1) 0 0 0),(5,.ptr (H.length+2) 0 0 0),(6,.ptr (H.length+3) 0 0 0),(7,.fn (.func 98) [] [.ptr (H.length+1) 0 0 0,.ptr (H.length+2) 0 0 0]),(101,.int .i64 alts.length),(102,.int .i64 i),(13,.int .i64 i),(14,.list 1 ((fz kd nm alts[i].names).map .str))])
     (fun _=>H++[.cells 0 8 [.agg [.int .i64 kd,.str nm,.int .i64 nn,.int .i64 op,.list 1 (names.map .str),.sl (H.length+4) 0 0 ae.length,.sl (H.length+5) 0 0 binds.length,.sl (H.length+6) 0 0 alts.length]],.cells 0 1 [.str s],.cells 0 8 [.agg r.cells],.cells 0 8 [.agg [.int .i64 0,.str [],.int .i64 0,.int .i64 0,.list 1 [],.list 8 [],.list 9 [],.list 12 []]],.cells 0 8 (ag (ae.map f)),.cells 0 9 (ad (binds.map g)),.cells 0 12 (af (mix q alts i))]) (fun _=>True) (fun K3 hK3=>?_) (fun _ _=>?_)
    ·(refine run ?_;with_reducible repeat' first|exact trivial|(apply aJ.mk<;>intro hb)|apply bN.mk)
     ·refine hK3 _ _ () trivial ?_
      simp only[fz,if_pos hb,List.map_append,List.map_cons,List.map_nil]
      exact tD (n0:=H.length) [(H.length,0),(H.length+1,0),(H.length+2,0),(H.length+3,0),(H.length+4,0),(H.length+5,0),(H.length+6,0)] hG hB hC' hcl
     ·refine hK3 _ _ () trivial ?_
      simp only[fz,if_neg hb,List.append_nil]
      exact tD (n0:=H.length) [(H.length,0),(H.length+1,0),(H.length+2,0),(H.length+3,0),(H.length+4,0),(H.length+5,0),(H.length+6,0)] hG hB hC' hcl
    ·have hset:(af (mix q alts i)).set i (.agg (.int .i64 alts[i].kind:: .str alts[i].name:: .int .i64 alts[i].n:: .list 1 (alts[i].names.map .str)::((if s∈fz kd nm alts[i].names then alts[i].body else dK s r m alts[i].body).cells++List.drop 8 alts[i].body.cells)))=af (mix q alts (i+1)):=by
      rw[Ex.tV,List.append_nil,← tJ q alts i hlt,hqx];rfl
     have hao:(fz kd nm alts[i].names).length<4611686018427387904:=by
      simp only[fz,List.length_append];split<;>simp<;>omega
     (refine run ?_)
     refine nC (by exact cw) (by exact cw) (hin alts[i].body (fz kd nm alts[i].names) _ (hwp _ (List.mem_append_right _ (List.mem_append_right _ (List.mem_map_of_mem (List.getElem_mem hlt))))) hao (by rw[aH];rfl) (by rw[aH];rfl)) ?_
     rintro v H' ⟨rfl,rfl⟩
     (refine run ?_)
     refine hK _ _ (i+1) (by omega) (by omega) ?_
     rw[hset]
     exact tD (n0:=H.length) [(H.length,0),(H.length+1,0),(H.length+2,0),(H.length+3,0),(H.length+4,0),(H.length+5,0),(H.length+6,0)] hG hB hC' hcl
   have hi2:i=alts.length:=by omega
   subst hi2
   rw[zC]
   clear hK
   (refine run ?_;with_reducible repeat' first|exact trivial|(apply aJ.mk<;>intro hb)|apply bN.mk)
   refine Fin.aS (n0:=H.length) (y:=(Ex.mk kd nm nn op names (ae.map f) (binds.map g) (alts.map q)).sv) hR rfl hC' hcl ?_ ⟨rfl,?_⟩
   ·refine bF.agg _ _ (.cons _ _ _ _ (.same _ rfl) (.cons _ _ _ _ (.same _ rfl) (.cons _ _ _ _ (.same _ rfl) (.cons _ _ _ _ (.same _ rfl) (.cons _ _ _ _ (.same _ jF) (.cons _ _ _ _ ?_ (.cons _ _ _ _ ?_ (.cons _ _ _ _ ?_ .nil))))))))
    ·exact bF.sf (by rw[aH];rfl) (by omega) (by simp) (by rw[List.drop_zero,List.take_of_length_le (by simp[aL])]) (bc _ _)
    ·exact bF.sf (by rw[aH];rfl) (by omega) (by simp) (by rw[List.drop_zero,List.take_of_length_le (by simp[az])]) (aK _ _)
    ·exact bF.sf (by rw[aH];rfl) (by omega) (by simp) (by rw[List.drop_zero,List.take_of_length_le (by simp[bh])]) (bA _ _)
   ·have hgq:(fun b:Bd=>Bd.mk b.name (if s∈ow then b.e else dK s r m b.e))=g:=by
     rw[← hg];funext b;rw[hfx]
    rw[hgq]
theorem ra (n:Nat) (l:List Nat) (h:l.Nodup):((l.map fun i=>(n+i,0)).map Prod.fst).Nodup:=by
 rw[List.map_map]
 refine List.pairwise_map.2 (h.imp fun hne e=>hne ?_)
 have e:n+_=n+_:=e
 omega
abbrev NB (g n:Nat):av:= .cells g 1 [.agg [.int .i64 (n:Int)]]
def yz (G:Gl):Prop:=∀ n:Nat,n<17592186044416→(Lib.itoa (n:Int)).length≤20∧∀ H,aq Tryz.prog G 62 [.int .i64 (n:Int)] H (fun r H'=>H'=H∧r= .str (Lib.itoa (n:Int)))
structure QH (Q:Nat→List av) (sb g0 n0:Nat):Prop where
 len:∀ n,(Q n).length=n0
 lt:sb<n0
 get:∀ n L,(Q n++L)[sb]? =some (NB g0 n)
 set:∀ n n' L,(Q n++L).set sb (NB g0 n')=Q n'++L
theorem Qk {H:List av} {sb g0 n:Nat} (h:H[sb]? =some (NB g0 n)):∃ Q:Nat→List av,Q n=H∧(∀ n',H.set sb (NB g0 n')=Q n')∧QH Q sb g0 H.length∧(closed H→∀ n',closed (Q n')):=by
 have l2:=(List.getElem?_eq_some_iff.1 h).1
 refine⟨fun n'=>H.set sb (NB g0 n'),dM h,fun _=>rfl,⟨fun _=>by simp,l2,fun n' L=>?_,fun n1 n2 L=>?_⟩,fun hc n'=>hc.set rfl⟩
 ·rw[List.getElem?_append_left (by simpa using l2),List.getElem?_set_self (by simpa using l2)]
 ·rw[gY (by simpa using l2),List.set_set]
theorem QH.kn {Q:Nat→List av} {H:List av} {sb g0 n:Nat} (h:H[sb]? =some (NB g0 n)) (hQ:∀ n',H.set sb (NB g0 n')=Q n') {kv:SV} {k:Kn} (hk:fy H kv k) (n':Nat) (L:List av):fy (Q n'++L) kv k:=by
 rw[← hQ n']
 exact(hk.set h (fun l e=>by cases e)).app L
theorem IF (G:Gl) (hG:ah G) (hit:yz G) (sb g0 n:Nat) (hn:n<17592186044416) (H:List av) (h:H[sb]? =some (NB g0 n)):
 aq Tryz.prog G 162 [.ptr sb g0 0 0] H (fun r H'=>H'=H.set sb (NB g0 (n+1))∧r= .str (cx n)):=by
 have c1:=(hit n hn).2
 have hl:=(hit n hn).1
 have hlt:=(List.getElem?_eq_some_iff.1 h).1
 have e1:IntKind.i64.wrap ((n:Int)+1)=((n+1:Nat):Int):=by rw[wrap_i64 _ (by omega)];omega
 have hml:(2:Nat)+(Lib.itoa (n:Int)).length≤maxLen:=by unfold maxLen;omega
 have hfr:cx n=[116,35]++Lib.itoa (n:Int):=rfl
 rw[hfr]
 generalize Lib.itoa (n:Int)=s at*
 refine bP [] Tryz.func162 Tryz.ntmps162 fun C R' hR hC hcl hB hC' X=>?_
 have X:=iY aO h e1 hml
 (refine run ?_)
 exact Fin.out hR ⟨rfl,rfl⟩
theorem Qw (G:Gl) (hG:ah G) (hit:yz G) {Q:Nat→List av} {sb g0 n0:Nat} (hQ:QH Q sb g0 n0) (n:Nat) (hn:n<17592186044416) (L:List av):
 aq Tryz.prog G 162 [.ptr sb g0 0 0] (Q n++L) (fun r H'=>H'=Q (n+1)++L∧r= .str (cx n)):=by
 have h:=IF G hG hit sb g0 n hn (Q n++L) (hQ.get n L)
 rw[hQ.set] at h
 exact h
def vE (vnm:aD) (u:Ex) (valts:List Al):Ex:= .mk 6 vnm 0 0 [] [u] [] valts
def eE (enm:aD) (v:Ex) (ealts:List Al):Ex:= .mk 6 enm 0 0 [] [v] [] ealts
theorem DV (G:Gl) (hG:ah G) (enm:aD) (ealts:List Al) (vnm:aD) (u:Ex) (a:Al) (sb g0:Nat) (H:List av):
 aq Tryz.prog G 137 [.ptr sb g0 0 0,(eE enm (vE vnm u [a]) ealts).sv,(vE vnm u [a]).sv] H (fun r H'=>H'=H∧r=(bE (vE vnm u [a]) [setBody a (na (eE enm (vE vnm u [a]) ealts) a.body)]).sv):=by
 obtain⟨ak,an,am,ans,ab⟩:=a
 have c1:=fun H=>kF G hG [.mk ak an am ans ab] H (by simp)
 have c2:=fun H=>Nq G hG (eE enm (vE vnm u [.mk ak an am ans ab]) ealts) ab H
 have hnu:=bj H.length ans
 have huu:=u.aw H.length
 rw[show(bE (vE vnm u [.mk ak an am ans ab]) [setBody (.mk ak an am ans ab) (na (eE enm (vE vnm u [.mk ak an am ans ab]) ealts) (Al.mk ak an am ans ab).body)]).sv= .agg [.int .i64 6,.str vnm,.int .i64 0,.int .i64 0,.list 1 [],.list 8 [.agg u.cells],.list 9 [],.list 12 (af [.mk ak an am ans (na (eE enm (vE vnm u [.mk ak an am ans ab]) ealts) ab)])] from rfl]
 have ho8:=(na (eE enm (vE vnm u [.mk ak an am ans ab]) ealts) ab).au
 have hoT:=(na (eE enm (vE vnm u [.mk ak an am ans ab]) ealts) ab).ao
 have hou:=(na (eE enm (vE vnm u [.mk ak an am ans ab]) ealts) ab).aw H.length
 rw[show(na (eE enm (vE vnm u [.mk ak an am ans ab]) ealts) ab).sv= .agg (na (eE enm (vE vnm u [.mk ak an am ans ab]) ealts) ab).cells from rfl] at c2
 simp only[ic]
 simp only[ic] at c1
 rw[show(eE enm (vE vnm u [.mk ak an am ans ab]) ealts).sv= .agg [.int .i64 6,.str enm,.int .i64 0,.int .i64 0,.list 1 [],.list 8 [.agg (vE vnm u [.mk ak an am ans ab]).cells],.list 9 [],.list 12 (af ealts)] from rfl] at*
 generalize (na (eE enm (vE vnm u [.mk ak an am ans ab]) ealts) ab).cells=xo at*
 have hvc:(vE vnm u [.mk ak an am ans ab]).cells=[.int .i64 6,.str vnm,.int .i64 0,.int .i64 0,.list 1 [],.list 8 [.agg u.cells],.list 9 [],.list 12 [.agg (.int .i64 ak:: .str an:: .int .i64 am:: .list 1 (ans.map .str)::ab.cells)]]:=by
  rw[← ic];rfl
 rw[show(vE vnm u [.mk ak an am ans ab]).sv= .agg (vE vnm u [.mk ak an am ans ab]).cells from rfl]
 simp only[hvc] at c2 ⊢
 clear hvc
 rw[show ab.sv= .agg ab.cells from rfl] at c2
 have hb8:=ab.au
 have hbt:=ab.ao
 have hbd:List.drop 8 ab.cells=[]:=List.drop_eq_nil_of_le (by rw[hb8];exact Nat.le_refl _)
 generalize ab.cells=xb at*
 have hu8:=u.au
 have hut:=u.ao
 generalize u.cells=xu at*
 generalize ans.map SV.str=xn at*
 generalize af ealts=xe at*
 refine bP [7] Tryz.func137 Tryz.ntmps137 fun C R' hR hC hcl hB hC' X=>?_
 have X:=eu aO hb8 hbt hu8 hut ho8 hoT
 (refine run ?_)
 all_goals
  rw[hbd,List.append_nil]
  refine Fin.aS (n0:=H.length) hR rfl hC' hcl (.agg _ _ (Gq 6 vnm 0 0 (.same _ rfl) (.same _ (by simp only[SV.under,SV.aj,huu,Bool.and_self])) (.same _ rfl) (bF.sf (by rw[aH];rfl) (by omega) (by simp) (by rw[List.drop_zero,List.take_of_length_le (by simp)]) (by simp only[SV.under,SV.aj,hou,hnu,Bool.and_self])))) ⟨rfl,rfl⟩
theorem Cg (G:Gl) (hG:ah G) (l:List aD) (hl:l.length<274877906944) (H:List av) (id g:Nat) (hid:H[id]? =some (.cells g 1 (l.map .str))):
 aq Tryz.prog G 132 [.sl id g 0 l.length] H (fun r H'=>H'=H∧r= .list 8 (ag (bk l))):=by
 have hlt:=(List.getElem?_eq_some_iff.1 hid).1
 have hix:=fun L=>(show(H++L)[id]? =some (.cells g 1 (l.map .str)) by rw[dx hlt];exact hid)
 have hsl:(l.map SV.str).length=l.length:=by simp
 refine bP [3] Tryz.func132 Tryz.ntmps132 fun C R' hR hC hcl hB hC' X=>?_
 have X:=iY aO hid hix hsl
 (refine run ?_)
 refine aA (fun i:Nat=>[(3,.sl (H.length) 0 0 i),(6,.sl id g 0 l.length),(7,.int .i64 l.length),(8,.int .i64 (i:Int))]) (fun i=>H++[.cells 0 8 (ag (bk (l.take i)))]) (fun i=>l.length - i) (fun i=>i≤l.length) 0 (Nat.zero_le _) ?_ ?_
 ·exact bI (n0:=H.length) [(H.length,0)] hG hB hC' hcl
 rintro K i hi hK
 have hel:(ag (bk (l.take i))).length=i:=by rw[bV,bk,List.length_map,List.length_take];omega
 rcases Nat.lt_or_ge i l.length with hlt2|hge
 ·have hsn:ag (bk (l.take i))++[.agg [.int .i64 1,.str l[i],.int .i64 0,.int .i64 0,.list 1 [],.list 8 [],.list 9 [],.list 12 []]]=ag (bk (l.take (i+1))):=by
   rw[List.take_succ_eq_append_getElem hlt2,bk,bk,List.map_append,aL,aL,List.map_append];rfl
  have hgi:(l.map SV.str)[i]? =some (.str l[i]):=by simp[hlt2]
  have X:=oD aO hel hsn hix hsl hgi
  (refine run ?_;with_reducible repeat' first|exact trivial|(apply aJ.mk<;>intro hb)|apply bN.mk)
  refine hK _ _ (i+1) (by omega) (by omega) ?_
  exact bI (n0:=H.length) [(H.length,0)] hG hB hC' hcl
 ·obtain rfl:i=l.length:=by omega
  clear hK
  rw[List.take_length] at*
  have hu:=bc H.length (bk l)
  have X:=iY aO hel hix (Int.lt_irrefl (l.length:Int))
  (refine run ?_)
  exact Fin.aS (n0:=H.length) hR rfl hC' hcl (bF.sf (by rw[bL];rfl) (by omega) (by simp) (by rw[List.drop_zero,List.take_of_length_le (by rw[hel];exact Nat.le_refl _)]) hu) ⟨rfl,rfl⟩
theorem F6 (G:Gl) (hG:ah G) (H:List av):aq Tryz.prog G 43 [.nil] H (fun r H'=>H'=H++[.cells 0 1 []]∧r= .sl H.length 0 0 0):=by
 have h:=gz G hG [] H (by simp)
 refine h.NJ fun c vs hv=>?_
 obtain⟨v0,r0,q0,h0,rfl⟩:=ax.bg.1 hv
 exact ax.bG q0.JF h0
theorem Bz:∀ (k n:Nat),jK (k+1) n=jK k n++[cx (n+k)]
 |0,n=>rfl
 |k+1,n=>by
  rw[jK,Bz k (n+1),jK,List.cons_append,show n+1+k=n+(k+1) by omega]
theorem Iw (k c n:Nat) (h:k<c):((jK k n).map SV.str++List.replicate (c - k) (SV.str [])).set k (.str (cx (n+k)))=(jK (k+1) n).map SV.str++List.replicate (c - (k+1)) (SV.str []):=by
 obtain⟨d,hd⟩:∃ d,c - k=d+1:=⟨c - k - 1,by omega⟩
 rw[List.set_append,if_neg (by rw[List.length_map,eT];omega),List.length_map,eT,Nat.sub_self,hd,show c - (k+1)=d by omega,List.replicate_succ,List.set_cons_zero,Bz,List.map_append,List.append_assoc]
 rfl
theorem LG (k c n:Nat) (h:k<c):((jK k n).map SV.str++List.replicate (c - k) (SV.str []))[k]? =some (.str []):=by
 rw[List.getElem?_append_right (by rw[List.length_map,eT];exact Nat.le_refl _),List.length_map,eT,Nat.sub_self,List.getElem?_replicate,if_pos (by omega)]
theorem Ix (k c n:Nat) (h:k≤c):((jK k n).map SV.str++List.replicate (c - k) (SV.str [])).length=c:=by
 rw[List.length_append,List.length_map,eT,List.length_replicate];omega
section
section
variable {cs:List Cn} {P:aD→Prop} {c K:Nat}
def wD (c K:Nat) (l:List Al):Nat:=fw c K (fun _=>true) l+oL l+eO (wO c K) l
theorem vf {l:List Al} {a:Al} (h:a∈l):c*(1+a.names.length)+K+(1+a.names.length)+mO c K a.body≤wD c K l:=by
 have h1:∀ l:List Al,a∈l→c*(1+a.names.length)+K+(1+a.names.length)+mO c K a.body≤wD c K l:=fun l=>by
  induction l with
  |nil=>intro h;cases h
  |cons x r ih=>
   intro h
   simp only[wD,fw,oL,eO,ko,if_true,mO] at ih ⊢
   rcases List.mem_cons.1 h with rfl|h
   ·omega
   ·have:=ih h;omega
 exact h1 l h
theorem uE (l:List aD):∀ x∈bk l,Gd cs P x:=fun x hx=>by
 obtain⟨s,_,rfl⟩:=List.mem_map.1 hx
 exact DG cs P s
theorem Fe (b:Ex):∀ ps:List (aD×Ex),(Gd cs P b→(∀ p∈ps,P p.1∧Gd cs P p.2)→Gd cs P (ps.foldr (fun p b=>letE b [.mk p.1 p.2]) b))∧
 mO c K (ps.foldr (fun p b=>letE b [.mk p.1 p.2]) b)=2*(c*ps.length)+(ps.map fun p=>mO c K p.2).sum+mO c K b
 |[]=>⟨fun h _=>h,by simp⟩
 |p::r=>by
  obtain⟨h1,h2⟩:=Fe b r
  refine⟨fun hb hp=>gF (by simp) (h1 hb fun x hx=>hp x (List.mem_cons_of_mem _ hx)) fun x hx=>?_,?_⟩
  ·rw[List.mem_singleton.1 hx]
   exact hp p (List.mem_cons_self ..)
  ·rw[List.foldr_cons,fR,h2]
   simp only[dp,fS,Bd.e,List.length_cons,List.length_nil,List.map_cons,List.sum_cons,Nat.mul_add,Nat.mul_one,mO,Nat.zero_add]
   omega
theorem FT (f:Ex→Nat):∀ (ns:List aD) (l:List Ex),((ns.zip l).map fun p=>f p.2).sum≤(l.map f).sum
 |[],l=>by simp
 |n::ns,[]=>by simp
 |n::ns,x::l=>by
  have:=FT f ns l
  simp only[List.zip_cons_cons,List.map_cons,List.sum_cons]
  omega
theorem lf {l:List Al} {v:Ex} {a:Al} (h:l8 l v=some a):a∈l∧Aa v a=true:=⟨List.mem_of_find?_eq_some h,List.find?_some h⟩
theorem FI {v:Ex} {a:Al} (h:Aa v a=true) (hk:a.kind=1):v.kind=7∧v.name=a.name:=by
 unfold Aa at h
 rw[if_neg (by omega),if_pos hk,Bool.and_eq_true] at h
 exact⟨of_decide_eq_true h.1,of_decide_eq_true h.2⟩
theorem Ab {e v:Ex} {a:Al} (he:Gd cs P e) (hv:Gd cs P v) (h:l8 e.alts v=some a):a.names=[]∨(a.kind=1∧v.kind=7∧a.names.length=v.ae.length):=by
 obtain⟨h1,h2⟩:=lf h
 rcases iR he h1 with⟨hk,hn⟩|⟨hk,hn⟩
 ·obtain⟨h3,h4⟩:=FI h2 hk
  have hf:=hv.loc.wy
  unfold iH at hf
  have hf:=hf.2.2.2.1 h3
  rw[h4] at hf
  exact .inr ⟨hk,h3,L9 hn hf⟩
 ·exact .inl hn
theorem Kp {e v:Ex} {a:Al} (hk7:v.kind=7) (he:Gd cs P e) (hk6:e.kind=6) (hv:Gd cs P v) (h:l8 e.alts v=some a) (hK:2*(c*fk e.alts)≤K):
 Gd cs P (iC e.name v a)∧mO c K (iC e.name v a)≤c+mO c K v+wD c K e.alts:=by
 obtain⟨ha,-⟩:=lf h
 have hab:=he.alt a ha
 have hpm:=he.loc.pm hk6
 have hpa:=he.loc.pa a ha
 have hup:=vf (c:=c) (K:=K) ha
 have hkap:=Nat.mul_le_mul_left c (Ja ha)
 have hfv:=IC hv hk7
 have hvs:=hv.sub
 have hvm:mO c K v=c+eF (wO c K) v.ae:=by rw[hfv,DR];rfl
 have hz:=FT (mO c K) a.names v.ae
 rw[← qE] at hz
 rw[Nat.mul_add,Nat.mul_one] at hup
 have hzl:(a.names.zip v.ae).length≤a.names.length:=by rw[List.length_zip];omega
 have hzc:=Nat.mul_le_mul_left c hzl
 have hown:Gd cs P (if a.kind=1 then j4 v (bk a.names) else v)∧mO c K (if a.kind=1 then j4 v (bk a.names) else v)+eF (wO c K) (if a.kind=1 then v.ae else [])≤mO c K v+c*a.names.length:=by
  by_cases hk:a.kind=1
  ·rw[if_pos hk,if_pos hk]
   have hs:j4 v (bk a.names)=ed v.name (bk a.names):=by rw[hfv];rfl
   rw[hs,DR,xR,hvm]
   refine⟨zh ?_ (uE _),by omega⟩
   have hful:=hv.loc.wy
   unfold iH at hful
   have hful:=hful.2.2.2.1 hk7
   rcases Ab he hv h with h0|h0
   ·have:=(FI (lf h).2 hk).2
    rcases iR he ha with⟨_,hn⟩|⟨hn,_⟩
    ·rw[this,bk,List.length_map];exact hn
    ·exact absurd hk hn
   ·rw[bk,List.length_map,h0.2.2];exact hful
  ·rw[if_neg hk,if_neg hk]
   simp only[eF]
   exact⟨hv,by omega⟩
 obtain⟨hog,hom⟩:=hown
 unfold iC
 obtain⟨h1,h2⟩:=Fe (cs:=cs) (P:=P) (c:=c) (K:=K) (letE a.body [.mk e.name (if a.kind=1 then j4 v (bk a.names) else v)]) (a.names.zip v.ae)
 refine⟨h1 (gF (by simp) hab fun x hx=>by rw[List.mem_singleton.1 hx];exact⟨hpm,hog⟩) fun p hp=>?_,?_⟩
 ·obtain⟨p1,p2⟩:=List.of_mem_zip hp
  exact⟨hpa _ p1,hvs _ p2⟩
 ·rw[h2,fR]
  simp only[dp,fS,Bd.e,List.length_cons,List.length_nil,Nat.mul_one,Nat.zero_add,Nat.add_zero]
  by_cases hk:a.kind=1
  ·rw[if_pos hk,if_pos hk] at hom
   rw[if_pos hk]
   rw[Nat.mul_add,Nat.mul_left_comm] at hkap
   simp only[mO] at*
   omega
  ·have hn:a.names=[]:=by
    rcases iR he ha with⟨h0,_⟩|⟨_,h0⟩
    ·exact absurd h0 hk
    ·exact h0
   rw[if_neg hk,if_neg hk] at hom
   rw[if_neg hk]
   rw[hn] at*
   simp only[List.zip_nil_left,List.map_nil,List.sum_nil,List.length_nil,eF,mO] at*
   omega
theorem BX {N:Nat} (hPn:∀ i,i<N→P (cx i)) (nm:aD):∀ (l:List Al) (n:Nat),(∀ a∈l,Gd cs P a.body∧∀ s∈a.names,P s)→n+2*l.length≤N→
 (aG (fq nm) l n).2=n+2*l.length∧(∀ b∈(aG (fq nm) l n).1,P b.name∧Gd cs P b.e)∧
 dp (wO c K) (aG (fq nm) l n).1+c*l.length+(l.length*K)≤wD c K l+c*l.length
 |[],n,_,_=>by simp[aG,dp,wD,fw,oL,eO]
 |a::r,n,h,hN=>by
  obtain⟨h1,h2⟩:=h a (List.mem_cons_self ..)
  simp only[List.length_cons] at hN
  obtain⟨i1,i2,i3⟩:=BX hPn nm r (n+2) (fun x hx=>h x (List.mem_cons_of_mem _ hx)) (by omega)
  have hj:fq nm a n=(.mk (cx n) (df (a.names++[cx (n+1)]) (cS nm (cX (cx (n+1))) a.body)),n+2):=rfl
  have hv:=DG cs P (cx (n+1))
  have hm:=qC c K nm hv rfl h1
  refine⟨?_,fun b hb=>?_,?_⟩
  ·rw[aG,hj]
   simp only[i1,List.length_cons];omega
  ·rw[aG,hj] at hb
   rcases List.mem_cons.1 hb with rfl|hb
   ·refine⟨hPn n (by omega),DF (by simp) (fun s hs=>?_) (pX nm hv h1)⟩
    rcases List.mem_append.1 hs with hs|hs
    ·exact h2 s hs
    ·rw[List.mem_singleton.1 hs];exact hPn _ (by omega)
   ·exact i2 b hb
  ·rw[aG,hj]
   have hl:=zy c K (a.names++[cx (n+1)]) (cS nm (cX (cx (n+1))) a.body)
   rw[List.length_append,List.length_singleton] at hl
   simp only[dp,fS,Bd.e,wD,fw,oL,eO,ko,if_true,List.length_cons,Nat.mul_add,Nat.mul_one,Nat.add_mul,Nat.one_mul,mO] at i3 hl hm ⊢
   omega
theorem qK (q:aD):∀ (js:List aD) (l:List Al) (n:Nat),
 (aG (fD q) (js.zip l) n).2≤n+oL l∧n≤(aG (fD q) (js.zip l) n).2∧fw c K cV (aG (fD q) (js.zip l) n).1+eO (wO c K) (aG (fD q) (js.zip l) n).1≤c*fk l
 |[],l,n=>by simp[aG,fw,eO]
 |j::js,[],n=>by simp[aG,fw,eO]
 |j::js,.mk ak an am ans ab::r,n=>by
  obtain⟨i1,i2,i3⟩:=qK q js r (n+ans.length)
  have ho:fD q (j,.mk ak an am ans ab) n=(.mk ak an am (jK ans.length n) (c8 (cX j) (bk (jK ans.length n++[q]))),n+ans.length):=rfl
  have hop:cV (c8 (cX j) (bk (jK ans.length n++[q])))=false:=by simp[cV,okB,cu,c8,Ex.kind]
  have hm:=zx c K (cX j) (bk (jK ans.length n++[q]))
  rw[Jv,xR,List.length_append,List.length_singleton,eT] at hm
  rw[List.zip_cons_cons,aG,ho]
  simp only[fw,eO,ko,Al.names,Al.body,hop,Bool.false_eq_true,if_false,eT,oL,fk,Nat.mul_add,Nat.mul_one,mO] at i1 i2 i3 hm ⊢
  have e2:c*(2*ans.length)=2*(c*ans.length):=Nat.mul_left_comm ..
  refine⟨by omega,by omega,by omega⟩
theorem tp {α:Type} (f:α→Nat→Al×Nat) (g:α→Al) (hf:∀ x n,oA (f x n).1=g x):∀ (l:List α) (n:Nat),(aG f l n).1.map oA=l.map g
 |[],_=>rfl
 |x::r,n=>by rw[aG,List.map_cons,List.map_cons,hf,tp f g hf r]
theorem FA {N:Nat} (hPn:∀ i,i<N→P (cx i)) (q:aD):∀ (js:List aD) (l:List Al) (n:Nat),n+oL l≤N→
 ∀ a∈(aG (fD q) (js.zip l) n).1,Gd cs P a.body∧∀ s∈a.names,P s
 |[],l,n,_,a,h=>by simp[aG] at h
 |j::js,[],n,_,a,h=>by simp[aG] at h
 |j::js,b::r,n,hN,a,h=>by
  have hfr:∀ (k n:Nat),n+k≤N→∀ s∈jK k n,P s:=fun k=>by
   induction k with
   |zero=>intro n _ s hs;cases hs
   |succ k ih=>
    intro n hn s hs
    rw[jK] at hs
    rcases List.mem_cons.1 hs with rfl|hs
    ·exact hPn n (by omega)
    ·exact ih (n+1) (by omega) s hs
  simp only[oL] at hN
  rw[List.zip_cons_cons,aG] at h
  rcases List.mem_cons.1 h with rfl|h
  ·exact⟨zg (by simp[bk]) (DG ..) (uE _),hfr b.names.length n (by omega)⟩
  ·have h:a∈(aG (fD q) (js.zip r) (n+b.names.length)).1:=h
   exact FA hPn q js r (n+b.names.length) (by omega) a h
theorem Cu (q:aD):∀ (js:List aD) (l:List Al) (n:Nat),js.length=l.length→oE l=false→ox cs l=false→oE (aG (fD q) (js.zip l) n).1=false∧ox cs (aG (fD q) (js.zip l) n).1=false
 |[],[],n,_,_,_=>⟨rfl,rfl⟩
 |[],_::_,_,h,_,_=>by simp at h
 |_::_,[],_,h,_,_=>by simp at h
 |j::js,a::r,n,hl,h1,h2=>by
  simp only[oE,ox,List.any_cons,Bool.or_eq_false_iff] at h1 h2
  obtain⟨i1,i2⟩:=Cu q js r (n+a.names.length) (by simpa using hl) h1.2 h2.2
  rw[List.zip_cons_cons,aG]
  simp only[oE,ox,List.any_cons,Bool.or_eq_false_iff]
  refine⟨⟨?_,i1⟩,?_,i2⟩
  ·have h3:=h1.1
   rw[Bool.eq_false_iff] at h3 ⊢
   intro h4
   refine h3 ((rh _).2 ?_)
   have h5:=(rh _).1 h4
   simpa only[fD,Al.kind,Al.n,Al.name,Al.names,eT] using h5
  ·have h3:=h2.1
   simp only[fD,Al.kind,Al.name,Al.names,eT]
   exact h3
theorem I7 (hc:c≤1) (js:List aD) (xs:List Al) (hK:2*(c*(fk xs+1))≤K) (hkn:oL xs≤fk xs):∀ (l:List Al) (n:Nat),(∀ a∈l,okB a.body=true)→
 fw c K cV (aG (tj js xs) l n).1+eO (wO c K) (aG (tj js xs) l n).1+c*(aG (tj js xs) l n).2≤fw c K cV l+eO (wO c K) l+c*n∧n≤(aG (tj js xs) l n).2
 |[],n,_=>by simp[aG]
 |a::r,n,h=>by
  have ha:=h a (List.mem_cons_self ..)
  obtain⟨o1,o2,o3⟩:=qK (c:=c) (K:=K) (cx n) js xs (n+1)
  obtain⟨i1,i2⟩:=I7 hc js xs hK hkn r (aG (fD (cx n)) (js.zip xs) (n+1)).2 fun x hx=>h x (List.mem_cons_of_mem _ hx)
  have hi:tj js xs a n=(setBody a (.mk 6 (cx n) 0 0 [] [a.body] [] (aG (fD (cx n)) (js.zip xs) (n+1)).1),(aG (fD (cx n)) (js.zip xs) (n+1)).2):=rfl
  have hop:cV a.body=true:=by simp[cV,ha]
  have hoc:∀ O:List Al,cV (.mk 6 (cx n) 0 0 [] [a.body] [] O)=false:=fun O=>by simp[cV,okB,cu,Ex.kind]
  have hmm:∀ O:List Al,ms (wO c K) (.mk 6 (cx n) 0 0 [] [a.body] [] O)=c+(fw c K cV O+eO (wO c K) O)+ms (wO c K) a.body:=fun O=>by
   have:=fx c K 6 (cx n) 0 0 [] [a.body] [] O
   simp only[mO,List.length_nil,Nat.mul_zero,eF,dp] at this
   omega
  rw[aG,hi]
  generalize (aG (fD (cx n)) (js.zip xs) (n+1)).2=n2 at*
  generalize (aG (fD (cx n)) (js.zip xs) (n+1)).1=O at*
  have e1:c*n2≤c*n+c*(fk xs+1):=by rw[← Nat.mul_add];exact Nat.mul_le_mul_left c (by omega)
  simp only[fw,eO,ko,dL,ky,hop,hoc,hmm,Bool.false_eq_true,if_false,if_true,Nat.mul_add,Nat.mul_one] at i1 hK e1 ⊢
  exact⟨by omega,by omega⟩
theorem zK:∀ l:List Al,oL l≤fk l
 |[]=>Nat.le_refl _
 |a::r=>by have:=zK r;simp only[oL,fk];omega
theorem mT (js:List aD) (xs:List Al):∀ (l:List Al) (n:Nat),(aG (tj js xs) l n).2≤n+l.length*(1+oL xs)∧n≤(aG (tj js xs) l n).2
 |[],n=>by simp[aG]
 |a::r,n=>by
  obtain⟨o1,o2,o3⟩:=qK (c:=0) (K:=0) (cx n) js xs (n+1)
  obtain⟨i1,i2⟩:=mT js xs r (aG (fD (cx n)) (js.zip xs) (n+1)).2
  have hi:tj js xs a n=(setBody a (.mk 6 (cx n) 0 0 [] [a.body] [] (aG (fD (cx n)) (js.zip xs) (n+1)).1),(aG (fD (cx n)) (js.zip xs) (n+1)).2):=rfl
  rw[aG,hi]
  simp only[List.length_cons,Nat.add_mul,Nat.one_mul] at i1 i2 ⊢
  exact⟨by omega,by omega⟩
theorem I6 {N:Nat} (hPn:∀ i,i<N→P (cx i)) (js:List aD) (xs:List Al) (hjl:js.length=xs.length) (hb:oE xs=false) (hf:ox cs xs=false):∀ (l:List Al) (n:Nat),(∀ a∈l,Gd cs P a.body)→(aG (tj js xs) l n).2≤N→n+l.length*(1+oL xs)≤N→
 ∀ a∈(aG (tj js xs) l n).1,Gd cs P a.body
 |[],n,_,_,_,a,h=>by simp[aG] at h
 |b::r,n,hl,hN,hN2,a,h=>by
  have hi:tj js xs b n=(setBody b (.mk 6 (cx n) 0 0 [] [b.body] [] (aG (fD (cx n)) (js.zip xs) (n+1)).1),(aG (fD (cx n)) (js.zip xs) (n+1)).2):=rfl
  obtain⟨o1,o2,o3⟩:=qK (c:=0) (K:=0) (cx n) js xs (n+1)
  have h3:=(mT js xs r (aG (fD (cx n)) (js.zip xs) (n+1)).2).2
  rw[aG,hi] at h hN
  simp only[List.length_cons,Nat.add_mul,Nat.one_mul] at hN hN2
  rcases List.mem_cons.1 h with rfl|h
  ·rw[dL]
   have hog:=FA (cs:=cs) hPn (cx n) js xs (n+1) (by omega)
   obtain⟨l1,l2⟩:=Cu (cs:=cs) (cx n) js xs (n+1) hjl hb hf
   refine(cO ..).2 ⟨⟨by unfold jN;simp,l1,by unfold iH;simp,l2,by simp,by simp,fun _=>hPn n (by omega),fun x hx=>(hog x hx).2⟩,?_,by simp,fun x hx=>(hog x hx).1⟩
   intro x hx
   rw[List.mem_singleton.1 hx]
   exact hl b (List.mem_cons_self ..)
  ·exact I6 hPn js xs hjl hb hf r _ (fun x hx=>hl x (List.mem_cons_of_mem _ hx)) hN (by omega) a h
theorem Gj (J:List Bd) (b:Ex):(Gd cs P b→(∀ x∈J,P x.name∧Gd cs P x.e)→Gd cs P (J.foldr (fun j b=>letE b [j]) b))∧mO c K (J.foldr (fun j b=>letE b [j]) b)=2*(c*J.length)+dp (wO c K) J+mO c K b:=by
 induction J with
 |nil=>exact⟨fun h _=>h,by simp[dp]⟩
 |cons j r ih=>
  refine⟨fun hb hp=>gF (by simp) (ih.1 hb fun x hx=>hp x (List.mem_cons_of_mem _ hx)) fun x hx=>?_,?_⟩
  ·rw[List.mem_singleton.1 hx];exact hp j (List.mem_cons_self ..)
  ·rw[List.foldr_cons,fR,ih.2]
   simp only[dp,fS,List.length_cons,List.length_nil,Nat.mul_add,Nat.mul_one,Nat.zero_add,mO]
   omega
end
end
section
section
variable {cs:List Cn} {P:aD→Prop} {c K:Nat}
def wc (cs:List Cn) (P:aD→Prop) (k:Kn):Prop:=∀ s e,E6 k s=some e→Gd cs P e∧cQ e=true
theorem wc.cons {k:Kn} (h:wc cs P k) {s:aD} {e:Ex} (he:Gd cs P e) (hs:cQ e=true):wc cs P ((s,e)::k):=fun t x hx=>by
 rw[E6] at hx
 split at hx
 ·cases hx;exact⟨he,hs⟩
 ·exact h t x hx
theorem wc.nil:wc cs P []:=fun s e h=>by cases h
theorem zo:∀ (bs:List Bd) (k:Kn),wc cs P k→(∀ b∈bs,Gd cs P b.e)→wc cs P (BZ k bs)
 |[],k,h,_=>h
 |b::r,k,h,hb=>by
  refine zo r _ ?_ fun x hx=>hb x (List.mem_cons_of_mem _ hx)
  dsimp only
  split
  ·exact h.cons (hb b (List.mem_cons_self ..)) ‹_›
  ·exact h
theorem MO {e:Ex} (he:Gd cs P e) {a:Al} (ha:a∈e.alts):Gd cs P (qS a)∧cQ (qS a)=true:=by
 unfold qS
 split
 ·rename_i hk
  refine⟨zh ?_ (uE _),?_⟩
  ·rcases iR he ha with⟨_,h⟩|⟨h,_⟩
   ·rw[bk,List.length_map];exact h
   ·exact absurd hk h
  ·have:(bk a.names).all bU=true:=List.all_eq_true.2 fun x hx=>by
    obtain⟨s,_,rfl⟩:=List.mem_map.1 hx
    rfl
   unfold cQ
   rw[show(ed a.name (bk a.names)).ae=bk a.names from rfl,this];rfl
 ·exact⟨IK ..,rfl⟩
theorem Jd {e v:Ex} (he:Gd cs P e) {a:Al} (ha:a∈e.alts) {k:Kn} (hk:wc cs P k) (nm:aD):wc cs P (sR k nm v a):=by
 obtain⟨h1,h2⟩:=MO he ha
 unfold sR
 split
 ·exact hk
 split
 ·exact(hk.cons h1 h2).cons h1 h2
 ·exact hk.cons h1 h2
theorem J4:∀ (ps:List (aD×Ex)) (b:Ex),Gd cs P b→(∀ p∈ps,Gd cs P p.2∧bU p.2=true)→Gd cs P (ps.foldl (fun b p=>cS p.1 p.2 b) b)∧mO c K (ps.foldl (fun b p=>cS p.1 p.2 b) b)≤mO c K b
 |[],b,h,_=>⟨h,Nat.le_refl _⟩
 |p::r,b,h,hp=>by
  obtain⟨h1,h2⟩:=hp p (List.mem_cons_self ..)
  obtain⟨i1,i2⟩:=J4 r (cS p.1 p.2 b) (pX p.1 h1 h) fun x hx=>hp x (List.mem_cons_of_mem _ hx)
  have:=qC c K p.1 h1 h2 h
  exact⟨i1,by rw[List.foldl_cons];omega⟩
theorem vK {e:Ex} (h:Gd cs P e) (hs:cQ e=true):∀ x∈e.ae,Gd cs P x∧bU x=true:=fun x hx=>by
 refine⟨h.sub x hx,?_⟩
 unfold cQ at hs
 rw[Bool.or_eq_true,Bool.and_eq_true] at hs
 rcases hs with hs|hs
 ·obtain⟨kd,nm,nn,op,names,ae,binds,alts⟩:=e
  have:=(fJ h).2.2.2.2.2.2.2 (.inr (of_decide_eq_true hs))
  subst this
  cases hx
 ·exact List.all_eq_true.1 hs.2 x hx
theorem ED {e:Ex} (h:Gd cs P e) (hk:e.kind=6) {v:Ex} (hv:Gd cs P v):Gd cs P (na e v):=by
 have hf:=eg h hk
 have hl:=h.loc
 have ha:=h.alt
 rw[hf] at hl
 rw[hf]
 refine(cO ..).2 ⟨hl,by simpa using hv,by simp,ha⟩
theorem nF {e:Ex} (h:Gd cs P e) (hk:e.kind=6) (v:Ex):mO c K (na e v)=c+fw c K cV e.alts+eO (wO c K) e.alts+mO c K v:=by
 have hf:=eg h hk
 have h1:na e v= .mk 6 e.name 0 0 [] [v] [] e.alts:=by rw[hf];rfl
 rw[h1,fx]
 simp only[List.length_nil,eF,dp,mO]
 omega
theorem Nt (l:List Al):fw c K cV l+eO (wO c K) l≤wD c K l:=by
 have:=rG (c:=c) (K:=K) l
 unfold wD;omega
theorem qJ {e:Ex} (h:Gd cs P e) (hk:e.kind=6):e=na e (eH e.ae):=by
 have:=eg h hk
 rw[this];rfl
theorem Mv {N:Nat} (hPn:∀ i,i<N→P (cx i)) (hc:c≤1) {e v:Ex} (he:Gd cs P e) (hk6:e.kind=6) (hev:eH e.ae=v) (hv:Gd cs P v) (hv6:v.kind=6) (hK:2*(c*(fk e.alts+1))≤K) (n:Nat)
 (hN:(∀ a∈v.alts,okB a.body=true)→n+2*e.alts.length+v.alts.length*(1+oL e.alts)≤N):
 Gd cs P (eV e v n).1∧mO c K (eV e v n).1+c*(eV e v n).2≤c+mO c K v+wD c K e.alts+c*n∧n≤(eV e v n).2:=by
 have hup:=Nt (c:=c) (K:=K) e.alts
 have hme:mO c K e=c+fw c K cV e.alts+eO (wO c K) e.alts+mO c K v:=by
  have:=nF (c:=c) (K:=K) he hk6 (eH e.ae)
  rw[← qJ he hk6,hev] at this
  exact this
 unfold eV
 split
 ·rename_i h1
  obtain⟨a,ha⟩:=List.length_eq_one_iff.1 h1
  have hvf:=eg hv hv6
  have hvl:=hv.loc
  have hva:=hv.alt
  have hvs:0<v.ae.length:=by rw[hvf];simp[Ex.ae]
  have hvh:=hv.sub _ (iJ hvs)
  have hvm:mO c K v=c+fw c K cV v.alts+eO (wO c K) v.alts+mO c K (eH v.ae):=by
   have:=nF (c:=c) (K:=K) hv hv6 (eH v.ae)
   rw[← qJ hv hv6] at this
   exact this
  clear hev
  generalize eH v.ae=u at*
  generalize v.name=vn at*
  rw[ha] at hvf hvl hva hvm
  rw[hvm] at hme ⊢
  clear hvm ha h1
  subst hvf
  have hab:=hva a (List.mem_singleton_self _)
  have ho:cV (na e a.body)=false:=by
   have hf:=eg he hk6
   rw[hf]
   simp[na,j4,cV,okB,cu,Ex.kind]
  have hca:=nF (c:=c) (K:=K) he hk6 a.body
  rw[show bE (.mk 6 vn 0 0 [] [u] [] [a]) ((Ex.mk 6 vn 0 0 [] [u] [] [a]).alts.map fun a=>setBody a (na e a.body))= .mk 6 vn 0 0 [] [u] [] [setBody a (na e a.body)] from rfl]
  refine⟨(cO ..).2 ⟨hvl.xD (by simp[jB]),by simpa using hvh,by simp,fun x hx=>?_⟩,?_,Nat.le_refl _⟩
  ·rw[List.mem_singleton.1 hx,dL]
   exact ED he hk6 hab
  ·rw[fx]
   simp only[fw,eO,ko,dL,ky,ho,Bool.false_eq_true,if_false,eF,dp,List.length_nil,mO] at hca ⊢
   split<;>omega
 split
 ·refine⟨he,?_,Nat.le_refl _⟩
  simp only
  omega
 ·rename_i h1 h2
  unfold BR BW
  have hok:∀ a∈v.alts,okB a.body=true:=fun a ha=>by
   have:=h2
   rw[Bool.not_eq_true,List.any_eq_false] at this
   have:=this a ha
   simpa using this
  have hN:=hN hok
  have hbad:=he.loc.bad
  have hful:=he.loc.Qv
  obtain⟨j1,j2,j3⟩:=BX (cs:=cs) (c:=c) (K:=K) hPn e.name e.alts n (fun a ha=>⟨he.alt a ha,he.loc.pa a ha⟩) (by omega)
  have hjl:((aG (fq e.name) e.alts n).1.map Bd.name).length=e.alts.length:=by rw[List.length_map,ek]
  have hjl2:(aG (fq e.name) e.alts n).1.length=e.alts.length:=ek ..
  obtain⟨n1,n2⟩:=mT ((aG (fq e.name) e.alts n).1.map Bd.name) e.alts v.alts (aG (fq e.name) e.alts n).2
  obtain⟨i1,i2⟩:=I7 (c:=c) (K:=K) hc ((aG (fq e.name) e.alts n).1.map Bd.name) e.alts hK (zK _) v.alts (aG (fq e.name) e.alts n).2 hok
  have ig:=I6 (cs:=cs) hPn ((aG (fq e.name) e.alts n).1.map Bd.name) e.alts hjl hbad hful v.alts (aG (fq e.name) e.alts n).2 (fun a ha=>hv.alt a ha) (by omega) (by omega)
  have ih:(aG (tj ((aG (fq e.name) e.alts n).1.map Bd.name) e.alts) v.alts (aG (fq e.name) e.alts n).2).1.map oA=v.alts.map oA:=tp _ oA (fun a m=>jB a _) _ _
  rw[j1] at*
  generalize (aG (fq e.name) e.alts n).1=J at*
  generalize aG (tj (J.map Bd.name) e.alts) v.alts (n+2*e.alts.length)=AA at*
  have hvf:=eg hv hv6
  have hvl:=hv.loc
  have hvs:0<v.ae.length:=by rw[hvf];simp[Ex.ae]
  have hvh:=hv.sub _ (iJ hvs)
  have hvm:mO c K v=c+fw c K cV v.alts+eO (wO c K) v.alts+mO c K (eH v.ae):=by
   have:=nF (c:=c) (K:=K) hv hv6 (eH v.ae)
   rw[← qJ hv hv6] at this
   exact this
  have hset:bE v AA.1= .mk 6 v.name 0 0 [] [eH v.ae] [] AA.1:=by rw[hvf];rfl
  have hgs:Gd cs P (bE v AA.1):=by
   rw[hset]
   rw[hvf] at hvl
   exact(cO ..).2 ⟨hvl.xD ih,by simpa using hvh,by simp,ig⟩
  have hms:mO c K (bE v AA.1)=c+fw c K cV AA.1+eO (wO c K) AA.1+mO c K (eH v.ae):=by
   rw[hset,fx]
   simp only[List.length_nil,eF,dp,mO];omega
  obtain⟨f1,f2⟩:=Gj (cs:=cs) (P:=P) (c:=c) (K:=K) J (bE v AA.1)
  refine⟨f1 hgs j2,?_,by simp only at n2 ⊢;omega⟩
  dsimp only
  rw[f2,hms,hjl2,hvm]
  rw[Nat.mul_add] at hK i1
  have e1:c*(2*e.alts.length)=2*(c*e.alts.length):=Nat.mul_left_comm ..
  have e2:4*e.alts.length≤fk e.alts:=by
   generalize e.alts=l
   induction l with
   |nil=>exact Nat.le_refl _
   |cons x r ih=>simp only[fk,List.length_cons];omega
  have e3:4*(c*e.alts.length)≤c*fk e.alts:=by rw[Nat.mul_left_comm];exact Nat.mul_le_mul_left c e2
  have e4:4*(c*e.alts.length)≤e.alts.length*K:=by
   rcases Nat.eq_zero_or_pos e.alts.length with h0|h0
   ·rw[h0];simp
   ·have:K≤e.alts.length*K:=Nat.le_mul_of_pos_left K h0
    omega
  omega
end
end
end Go.Proofs.YtjdfoonhnmpkdaaGreatDoor
