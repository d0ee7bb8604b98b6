/- A part of the proof: QA, QB, QD, W7, S1, B1, A1, A2, SH, B2, B3, B4, B5, A3, QC, M0, QL, QE, QF. Names and spaces are cut short by program. -/
import Derived.Test.YtjdfoonhnmpkdaaGreatDoorMg
import Derived.Lib.AtoiTie
import Derived.Lib.ItoaMem
set_option linter.unusedSimpArgs false
set_option linter.unusedVariables false
set_option maxRecDepth 10000
set_option maxHeartbeats 4000000
namespace Go.Proofs.YtjdfoonhnmpkdaaGreatDoor
open Go
abbrev cP:=Nat→Nat→Bool
def MS (k:Nat) (M:cP):cP:=fun i j=>M i j||(M i k&&M k j)
def oC (E:cP):Nat→cP
 |0=>E
 |k+1=>MS k (oC E k)
theorem yu (E:cP) {i j:Nat} (h:E i j=true):∀ k,oC E k i j=true
 |0=>h
 |k+1=>by simp[oC,MS,yu E h k]
theorem vX (E:cP):∀ k m i j,m<k→oC E k i m=true→oC E k m j=true→oC E k i j=true
 |k+1,m,i,j,hm,h1,h2=>by
  simp only[oC,MS,Bool.or_eq_true,Bool.and_eq_true] at h1 h2 ⊢
  rcases Nat.lt_or_ge m k with h|h
  ·have ih:=fun i j=>vX E k m i j h
   rcases h1 with h1|⟨h1,h1'⟩<;>rcases h2 with h2|⟨h2,h2'⟩
   ·exact .inl (ih i j h1 h2)
   ·exact .inr ⟨ih i k h1 h2,h2'⟩
   ·exact .inr ⟨h1,ih k j h1' h2⟩
   ·exact .inr ⟨h1,h2'⟩
  ·have:m=k:=by omega
   subst this
   have h1:oC E m i m=true:=by rcases h1 with h|h;exact h;exact h.1
   have h2:oC E m m j=true:=by rcases h2 with h|h;exact h;exact h.2
   exact .inr ⟨h1,h2⟩
theorem jG (E:cP) (V:Nat→Prop) (hV:∀ a b,V a→E a b=true→V b):∀ k i j,(∀ m,E i m=true→V m)→oC E k i j=true→V j
 |0,i,j,h,h1=>h j h1
 |k+1,i,j,h,h1=>by
  simp only[oC,MS,Bool.or_eq_true,Bool.and_eq_true] at h1
  rcases h1 with h1|⟨h1,h2⟩
  ·exact jG E V hV k i j h h1
  ·have hk:=jG E V hV k i k h h1
   exact jG E V hV k k j (fun m hm=>hV k m hk hm) h2
theorem FP (E:cP) (n:Nat) (hE:∀ i j,E i j=true→j<n) (k i j:Nat) (h:oC E k i j=true):j<n:=
 jG E (fun a=>a<n) (fun a b _ h=>hE a b h) k i j (fun m hm=>hE i m hm) h
theorem Ky (E:cP) (n:Nat) (hE:∀ i j,E i j=true→j<n) {i m j:Nat} (h1:oC E n i m=true) (h2:oC E n m j=true):oC E n i j=true:=
 vX E n m i j (FP E n hE n i m h1) h1 h2
def jL (R:cP) (i j:Nat):Bool:=j==i||(R i j&&R j i)
def jy (n:Nat) (R:cP) (D:Nat→Bool) (i:Nat):Bool:=!D i&&(List.range n).all fun j=>!R i j||D j||i==j||R j i
def oy (n:Nat) (R:cP) (i:Nat):List Nat:=(List.range n).filter (jL R i)
def we (R:cP) (i:Nat) (D:Nat→Bool):Nat→Bool:=fun j=>D j||jL R i j
def dV (n:Nat) (D:Nat→Bool):Nat:=((List.range n).filter fun j=>!D j).length
def fL (n:Nat) (R:cP):Nat→(Nat→Bool)→List (List Nat)
 |0,_=>[]
 |k+1,D=>match (List.range n).find? (jy n R D) with
  |none=>[]
  |some i=>oy n R i::fL n R k (we R i D)
def K7 (n:Nat) (R:cP) (D:Nat→Bool):Prop:=∀ j k,k<n→D j=true→R j k=true→R k j=true→D k=true
structure M4 (n:Nat) (R:cP):Prop where
 tr:∀ {i m j:Nat},R i m=true→R m j=true→R i j=true
theorem uq {α:Type} (p q:α→Bool):∀ l:List α,(∀ x∈l,p x=true→q x=true)→(l.filter p).length≤(l.filter q).length
 |[],_=>by simp
 |x::r,h=>by
  have ih:=uq p q r (fun y hy=>h y (List.mem_cons_of_mem _ hy))
  have h0:=h x (List.mem_cons_self ..)
  cases hp:p x<;>cases hq:q x<;>simp_all<;>omega
theorem filter_lt {α:Type} (p q:α→Bool):∀ l:List α,(∀ x∈l,p x=true→q x=true)→(∃ x∈l,p x=false∧q x=true)→(l.filter p).length<(l.filter q).length
 |[],_,h=>by obtain⟨x,hx,_⟩:=h;cases hx
 |x::r,h,he=>by
  have h0:=h x (List.mem_cons_self ..)
  have hr:=fun y hy=>h y (List.mem_cons_of_mem _ hy)
  have ihle:=uq p q r hr
  obtain⟨y,hy,h1,h2⟩:=he
  rcases List.mem_cons.1 hy with rfl|hy
  ·simp only[List.filter_cons,h1,h2];simp;omega
  ·have ih:=filter_lt p q r hr ⟨y,hy,h1,h2⟩
   cases hp:p x<;>cases hq:q x<;>simp_all<;>omega
theorem J5 {n:Nat} {R:cP} (hR:M4 n R) (D:Nat→Bool):∀ (c i:Nat),i<n→D i=false→((List.range n).filter fun j=>R i j||j==i).length≤c→∃ j,j<n∧jy n R D j=true
 |c,i,hi,hD,hc=>by
  cases hr:jy n R D i with
  |true=>exact⟨i,hi,hr⟩
  |false=>
   have h2:∃ k,k<n∧R i k=true∧D k=false∧i≠k∧R k i=false:=by
    unfold jy at hr
    rw[hD] at hr
    simp only[Bool.not_false,Bool.true_and,List.all_eq_false,List.mem_range] at hr
    obtain⟨k,hk,h⟩:=hr
    refine⟨k,hk,?_⟩
    cases a:R i k<;>cases b:D k<;>cases d:R k i<;>simp_all
   obtain⟨k,hk,h1,h2,h3,h4⟩:=h2
   have hlt:=filter_lt (fun j=>R k j||j==k) (fun j=>R i j||j==i) (List.range n) (fun x _ hx=>by
    simp only[Bool.or_eq_true,beq_iff_eq] at hx ⊢
    rcases hx with hx|rfl
    ·exact .inl (hR.tr h1 hx)
    ·exact .inl h1) ⟨i,List.mem_range.2 hi,by simp[h4,h3],by simp⟩
   match c,hc with
   |0,hc=>omega
   |c+1,hc=>exact J5 hR D c k hk h2 (by omega)
theorem Lr {n:Nat} {D:Nat→Bool} (h:0<dV n D):∃ i,i<n∧D i=false:=by
 obtain⟨x,hx⟩:=List.exists_mem_of_length_pos h
 have:=List.mem_filter.1 hx
 exact⟨x,List.mem_range.1 this.1,by simpa using this.2⟩
theorem GS {n:Nat} {R:cP} (hR:M4 n R) {D:Nat→Bool} (h:0<dV n D):∃ i,(List.range n).find? (jy n R D)=some i∧i<n∧jy n R D i=true∧∀ j,j<i→jy n R D j=false:=by
 obtain⟨i,hi,hD⟩:=Lr h
 obtain⟨j,hj,hr⟩:=J5 hR D _ i hi hD (Nat.le_refl _)
 cases hf:(List.range n).find? (jy n R D) with
 |none=>exact absurd hr (List.find?_eq_none.1 hf j (List.mem_range.2 hj))
 |some a=>
  have h2:=List.find?_range_eq_some.1 hf
  exact⟨a,rfl,List.mem_range.1 h2.2.1,h2.1,fun j hj=>by simpa using h2.2.2 j hj⟩
theorem iU {n:Nat} {R:cP} {D:Nat→Bool} {i:Nat} (h:jy n R D i=true):D i=false∧∀ j,j<n→R i j=true→D j=true∨i=j∨R j i=true:=by
 unfold jy at h
 simp only[Bool.and_eq_true,Bool.not_eq_true',List.all_eq_true,List.mem_range,Bool.or_eq_true,beq_iff_eq] at h
 refine⟨h.1,fun j hj hr=>?_⟩
 rcases h.2 j hj with ((h2|h2)|h2)|h2
 ·rw[hr] at h2;cases h2
 ·exact .inl h2
 ·exact .inr (.inl h2)
 ·exact .inr (.inr h2)
theorem EV {n:Nat} {R:cP} {D:Nat→Bool} (hD:K7 n R D) {i:Nat} (hi:i<n) (h:D i=false) {j:Nat} (hj:jL R i j=true):D j=false:=by
 cases hd:D j with
 |false=>rfl
 |true=>
  simp only[jL,Bool.or_eq_true,beq_iff_eq,Bool.and_eq_true] at hj
  rcases hj with rfl|⟨h1,h2⟩
  ·rw[h] at hd;cases hd
  ·rw[hD j i hi hd h2 h1] at h;cases h
theorem wU (D p:Nat→Bool) (hp:∀ j,p j=true→D j=false):∀ l:List Nat,(l.filter fun j=>!(D j||p j)).length+(l.filter p).length=(l.filter fun j=>!D j).length
 |[]=>rfl
 |x::r=>by
  have ih:=wU D p hp r
  have h0:=hp x
  cases a:D x<;>cases b:p x<;>simp_all<;>omega
theorem H4 {n:Nat} {R:cP} {D:Nat→Bool} (hD:K7 n R D) {i:Nat} (hi:i<n) (h:D i=false):dV n (we R i D)+(oy n R i).length=dV n D:=
 wU D (jL R i) (fun j hj=>EV hD hi h hj) _
theorem zj {n:Nat} {R:cP} {i:Nat} (hi:i<n):0<(oy n R i).length:=
 List.length_pos_of_mem (a:=i) (List.mem_filter.2 ⟨List.mem_range.2 hi,by simp[jL]⟩)
theorem JR {n:Nat} {R:cP} (hR:M4 n R) {D:Nat→Bool} (hD:K7 n R D) (i:Nat):K7 n R (we R i D):=by
 intro j k hk h h1 h2
 simp only[we,jL,Bool.or_eq_true,beq_iff_eq,Bool.and_eq_true] at h ⊢
 rcases h with h|rfl|⟨h3,h4⟩
 ·exact .inl (hD j k hk h h1 h2)
 ·exact .inr (.inr ⟨h1,h2⟩)
 ·exact .inr (.inr ⟨hR.tr h3 h1,hR.tr h2 h4⟩)
theorem kO {n:Nat} {R:cP} (hR:M4 n R):∀ (k k':Nat) (D:Nat→Bool),K7 n R D→dV n D≤k→dV n D≤k'→fL n R k D=fL n R k' D
 |0,0,_,_,_,_=>rfl
 |0,k'+1,D,hD,h,_=>by
  have hn:(List.range n).find? (jy n R D)=none:=by
   refine List.find?_eq_none.2 fun x hx hr=>?_
   have h1:=(iU hr).1
   have hm:x∈(List.range n).filter (fun j=>!D j):=List.mem_filter.2 ⟨hx,by simp[h1]⟩
   have:=List.length_pos_of_mem hm
   unfold dV at h
   omega
  rw[fL,fL,hn]
 |k+1,0,D,hD,_,h=>by
  have hn:(List.range n).find? (jy n R D)=none:=by
   refine List.find?_eq_none.2 fun x hx hr=>?_
   have h1:=(iU hr).1
   have hm:x∈(List.range n).filter (fun j=>!D j):=List.mem_filter.2 ⟨hx,by simp[h1]⟩
   have:=List.length_pos_of_mem hm
   unfold dV at h
   omega
  rw[fL,fL,hn]
 |k+1,k'+1,D,hD,h,h'=>by
  rw[fL,fL]
  cases hf:(List.range n).find? (jy n R D) with
  |none=>rfl
  |some i=>
   have h2:=List.find?_range_eq_some.1 hf
   have h3:=List.mem_range.1 h2.2.1
   have h4:=H4 hD h3 (iU h2.1).1
   have h5:=zj (R:=R) h3
   simp only
   rw[kO hR k k' (we R i D) (JR hR hD i) (by omega) (by omega)]
def gj (n:Nat) (R:cP):List (List Nat):=fL n R n fun _=>false
theorem xA {n:Nat} {R:cP} (hR:M4 n R) {D:Nat→Bool} (hD:K7 n R D) (h:0<dV n D):∃ i,i<n∧jy n R D i=true∧(∀ j,j<i→jy n R D j=false)∧K7 n R (we R i D)∧dV n (we R i D)+(oy n R i).length=dV n D∧0<(oy n R i).length∧(∀ j,jL R i j=true→D j=false)∧
 fL n R (dV n D) D=oy n R i::fL n R (dV n (we R i D)) (we R i D):=by
 obtain⟨i,hf,hi,hr,hn⟩:=GS hR h
 have h1:=(iU hr).1
 have h4:=H4 hD hi h1
 have h5:=zj (R:=R) hi
 refine⟨i,hi,hr,hn,JR hR hD i,h4,h5,fun j hj=>EV hD hi h1 hj,?_⟩
 obtain⟨c,hc⟩:∃ c,dV n D=c+1:=⟨dV n D - 1,by omega⟩
 rw[hc,fL,hf]
 simp only
 rw[kO hR c _ _ (JR hR hD i) (by omega) (Nat.le_refl _)]
theorem xz {n:Nat} {R:cP} {D:Nat→Bool} (h:dV n D=0):fL n R (dV n D) D=[]:=by rw[h];rfl
def iz (nms:List aD) (s:aD):Option Nat:=nms.findIdx? fun x=>decide (x=s)
theorem ry {nms:List aD} {s:aD} {j:Nat} (h:iz nms s=some j):∃ hj:j<nms.length,nms[j]=s∧∀ (k:Nat) (hk:k<j),nms[k]≠s:=by
 obtain⟨h1,h2,h3⟩:=List.findIdx?_eq_some_iff_getElem.1 h
 exact⟨h1,by simpa using h2,fun k hk=>by simpa using h3 k hk⟩
def eo (binds:List Bd) (i:Nat):List Nat:=match binds[i]? with
 |some b=>(de b.e).filterMap (iz (binds.map Bd.name))
 |none=>[]
def NU (binds:List Bd):cP:=fun i j=>decide (j∈eo binds i)
def jz (binds:List Bd):cP:=oC (NU binds) binds.length
theorem CT {binds:List Bd} {i j:Nat} (h:j∈eo binds i):j<binds.length:=by
 unfold eo at h
 split at h
 ·obtain⟨s,_,hs⟩:=List.mem_filterMap.1 h
  obtain⟨hj,_⟩:=ry hs
  simpa using hj
 ·cases h
theorem EJ {binds:List Bd} (i j:Nat) (h:NU binds i j=true):j<binds.length:=CT (of_decide_eq_true h)
theorem FG {binds:List Bd} {i j:Nat} (h:jz binds i j=true):j<binds.length:=FP _ _ EJ _ i j h
theorem zV (binds:List Bd):M4 binds.length (jz binds):=⟨fun h1 h2=>Ky _ _ EJ h1 h2⟩
theorem xY {binds:List Bd} {i j:Nat} (h:j∈eo binds i):jz binds i j=true:=yu _ (decide_eq_true h) _
theorem Kw (binds:List Bd) (i:Nat):(eo binds i).length≤binds.length:=by
 refine kl ?_ (fun j hj=>CT hj)
 unfold eo
 split
 ·rename_i b hb
  refine List.Pairwise.filterMap (R:=fun x y=>x≠y) _ (fun a a' hne j hj j' hj'=>?_) ((IE b.e).imp fun h e=>?_)
  ·rintro rfl
   obtain⟨h1,h2,-⟩:=ry hj
   obtain⟨h3,h4,-⟩:=ry hj'
   exact hne (h2.symm.trans h4)
  ·subst e
   exact List.lt_irrefl _ h
 ·exact List.nodup_nil
structure Au (binds:List Bd) (B i:Nat) (V todo:List Nat):Prop where
 sv:∀ j∈V,jz binds i j=true
 st:∀ j∈todo,jz binds i j=true
 us:∀ m∈eo binds i,m∈V∨m∈todo
 cl:∀ v∈V,∀ m∈eo binds v,m∈V∨m∈todo
 nd:V.Nodup
 tl:todo.length≤(V.length+1)*B
theorem Gb (binds:List Bd) {B:Nat} (hB:∀ i,(eo binds i).length≤B) (i:Nat):Au binds B i [] (eo binds i):=
 ⟨by simp,fun j hj=>xY hj,fun m hm=> .inr hm,by simp,List.nodup_nil,by simpa using hB i⟩
theorem Nd {binds:List Bd} {B i:Nat} {V todo:List Nat} (h:Au binds B i V todo):V.length≤binds.length:=
 kl h.nd fun j hj=>FG (h.sv j hj)
theorem Ly {binds:List Bd} {B i k:Nat} {V todo:List Nat} (h:Au binds B i V (todo++[k])) (hk:k∈V):Au binds B i V todo:=
 ⟨h.sv,fun j hj=>h.st j (List.mem_append_left _ hj),fun m hm=>(h.us m hm).elim .inl fun h2=>(List.mem_append.1 h2).elim .inr fun h3=> .inl (by rw[List.mem_singleton.1 h3];exact hk),
  fun v hv m hm=>(h.cl v hv m hm).elim .inl fun h2=>(List.mem_append.1 h2).elim .inr fun h3=> .inl (by rw[List.mem_singleton.1 h3];exact hk),h.nd,by have:=h.tl;rw[List.length_append] at this;omega⟩
theorem Lx {binds:List Bd} {B i k:Nat} {V todo:List Nat} (hB:∀ i,(eo binds i).length≤B) (h:Au binds B i V (todo++[k])) (hk:k∉V):Au binds B i (V++[k]) (todo++eo binds k):=by
 have hrk:=h.st k (List.mem_append_right _ (List.mem_singleton_self k))
 have mv:∀ m,m∈V∨m∈todo++[k]→m∈V++[k]∨m∈todo++eo binds k:=fun m hm=>by
  rcases hm with hm|hm
  ·exact .inl (List.mem_append_left _ hm)
  ·rcases List.mem_append.1 hm with hm|hm
   ·exact .inr (List.mem_append_left _ hm)
   ·exact .inl (List.mem_append_right _ hm)
 refine⟨fun j hj=>?_,fun j hj=>?_,fun m hm=>mv m (h.us m hm),fun v hv m hm=>?_,List.nodup_append.2 ⟨h.nd,by simp,by simp;exact fun a ha e=>hk (e ▸ ha)⟩,?_⟩
 ·rcases List.mem_append.1 hj with hj|hj
  ·exact h.sv j hj
  ·rw[List.mem_singleton.1 hj];exact hrk
 ·rcases List.mem_append.1 hj with hj|hj
  ·exact h.st j (List.mem_append_left _ hj)
  ·exact(zV binds).tr hrk (xY hj)
 ·rcases List.mem_append.1 hv with hv|hv
  ·exact mv m (h.cl v hv m hm)
  ·rw[List.mem_singleton.1 hv] at hm
   exact .inr (List.mem_append_right _ hm)
 ·have h1:=h.tl
  have h2:=hB k
  simp only[List.length_append,List.length_singleton] at h1 ⊢
  have e:(V.length+1+1)*B=(V.length+1)*B+B:=by rw[Nat.succ_mul]
  omega
theorem Lw {binds:List Bd} {B i:Nat} {V:List Nat} (h:Au binds B i V []) (j:Nat):j∈V↔jz binds i j=true:=by
 refine⟨h.sv j,fun hr=>?_⟩
 refine jG (NU binds) (fun a=>a∈V) (fun a b ha hb=>?_) binds.length i j (fun m hm=>?_) hr
 ·rcases h.cl a ha b (of_decide_eq_true hb) with h2|h2
  ·exact h2
  ·cases h2
 ·rcases h.us m (of_decide_eq_true hm) with h2|h2
  ·exact h2
  ·cases h2
def Dz (n B:Nat) (V todo:List Nat):Nat:=(n - V.length)*(B+1)+todo.length
theorem Ia {n B k:Nat} {V todo:List Nat}:Dz n B V todo<Dz n B V (todo++[k]):=by
 unfold Dz;rw[List.length_append,List.length_singleton];omega
theorem H9 {n B k:Nat} {V todo us:List Nat} (hV:V.length<n) (hu:us.length≤B):Dz n B (V++[k]) (todo++us)<Dz n B V (todo++[k]):=by
 unfold Dz
 simp only[List.length_append,List.length_singleton]
 obtain⟨d,hd⟩:∃ d,n - V.length=d+1:=⟨n - V.length - 1,by omega⟩
 have h2:n - (V.length+1)=d:=by omega
 rw[hd,h2,Nat.succ_mul]
 omega
def Ao:List (aD×Int)→aD→Option Int
 |[],_=>none
 |(k,n)::r,s=>if s=k then some n else Ao r s
theorem Fg (k:aD) (n:Int) (s:aD):∀ l:List (aD×Int),Ao (l++[(k,n)]) s=(Ao l s).or (if s=k then some n else none)
 |[]=>by simp[Ao]
 |(q,m)::r=>by
  rw[List.cons_append,Ao,Ao,Fg k n s r]
  split<;>rfl
def jl (nms:List aD):Nat→List (aD×Int)
 |0=>[]
 |i+1=>match nms[i]? with
  |some s=>if (Ao (jl nms i) s).isSome then jl nms i else jl nms i++[(s,(i:Int))]
  |none=>jl nms i
theorem zf (nms:List aD) (s:aD):∀ i,i≤nms.length→Ao (jl nms i) s=(iz (nms.take i) s).map fun x:Nat=>(x:Int)
 |0,_=>by simp[jl,Ao,iz]
 |i+1,h=>by
  have hi:i<nms.length:=by omega
  have ih:=zf nms s i (by omega)
  have ihs:=zf nms nms[i] i (by omega)
  have e1:iz (nms.take (i+1)) s=(iz (nms.take i) s).or (if nms[i]=s then some i else none):=by
   unfold iz
   rw[List.take_succ_eq_append_getElem hi,List.findIdx?_append,List.findIdx?_singleton]
   congr 1
   by_cases h2:nms[i]=s
   ·simp[h2];omega
   ·simp[h2]
  rw[e1,jl,List.getElem?_eq_getElem hi]
  simp only
  split
  ·rename_i h2
   rw[ih]
   by_cases h3:nms[i]=s
   ·rw[h3,ih] at h2
    cases hf:iz (nms.take i) s with
    |none=>rw[hf] at h2;cases h2
    |some x=>rfl
   ·rw[if_neg h3];cases iz (nms.take i) s<;>rfl
  ·rename_i h2
   rw[Fg,ih]
   by_cases h3:nms[i]=s
   ·subst h3
    rw[if_pos rfl,if_pos rfl]
    cases iz (nms.take i) nms[i]<;>rfl
   ·rw[if_neg h3,if_neg (fun e=>h3 e.symm)]
    cases iz (nms.take i) s<;>rfl
theorem IG (nms:List aD) (s:aD):Ao (jl nms nms.length) s=(iz nms s).map fun x:Nat=>(x:Int):=by
 have:=zf nms s nms.length (Nat.le_refl _)
 rwa[List.take_length] at this
structure MZ (n:Nat) (R:cP) (D:Nat→Bool) (gs:List (List Nat)):Prop where
 nw:∀ (p:Nat) (g:List Nat),gs[p]? =some g→∀ j∈g,j<n∧D j=false
 ri:∀ (p:Nat) (g:List Nat),gs[p]? =some g→g.Pairwise (fun x y=>x<y)
 dj:∀ (p q:Nat) (g h:List Nat),p<q→gs[p]? =some g→gs[q]? =some h→∀ j∈g,j∉h
 al:∀ j:Nat,j<n→D j=false→∃ (p:Nat) (g:List Nat),gs[p]? =some g∧j∈g
 us:∀ (p:Nat) (g:List Nat) (i j:Nat),gs[p]? =some g→i∈g→R i j=true→j<n→D j=true∨∃ (q:Nat) (h:List Nat),q≤p∧gs[q]? =some h∧j∈h
theorem D6 (n:Nat):(List.range n).Pairwise (fun x y=>x<y):=List.pairwise_lt_range
theorem EW {n:Nat} {R:cP} (hR:M4 n R):∀ (k:Nat) (D:Nat→Bool),K7 n R D→dV n D≤k→MZ n R D (fL n R k D)
 |k,D,hD,hk=>by
  rcases Nat.eq_zero_or_pos (dV n D) with h0|h0
  ·have hnil:fL n R k D=[]:=by rw[kO hR k (dV n D) D hD hk (Nat.le_refl _)];exact xz h0
   rw[hnil]
   refine⟨by simp,by simp,by simp,fun j hj hd=>?_,by simp⟩
   have hm:j∈(List.range n).filter (fun j=>!D j):=List.mem_filter.2 ⟨List.mem_range.2 hj,by simp[hd]⟩
   have:=List.length_pos_of_mem hm
   unfold dV at h0
   omega
  ·obtain⟨i,hi,hr,hn,hok,hc,hp,hnew,heq⟩:=xA hR hD h0
   rw[kO hR k (dV n D) D hD hk (Nat.le_refl _),heq]
   match k,hk with
   |0,hk=>omega
   |k+1,hk=>
   have ih:=EW hR k (we R i D) hok (by omega)
   rw[kO hR k (dV n (we R i D)) (we R i D) hok (by omega) (Nat.le_refl _)] at ih
   have hgm:∀ j,j∈oy n R i↔j<n∧jL R i j=true:=fun j=>by simp[oy]
   have hod:∀ j,we R i D j=false→D j=false∧jL R i j=false:=fun j hj=>by simpa [we] using hj
   refine⟨fun p g hg j hj=>?_,fun p g hg=>?_,fun p q g h hpq hg hh j hj=>?_,fun j hj hd=>?_,fun p g a j hg ha hrj hj=>?_⟩
   ·cases p with
    |zero=>simp only[List.getElem?_cons_zero,Option.some.injEq] at hg;subst hg;exact⟨((hgm j).1 hj).1,hnew j ((hgm j).1 hj).2⟩
    |succ p=>
     have:=ih.nw p g (by simpa using hg) j hj
     exact⟨this.1,(hod j this.2).1⟩
   ·cases p with
    |zero=>simp only[List.getElem?_cons_zero,Option.some.injEq] at hg;subst hg;exact(D6 n).filter _
    |succ p=>exact ih.ri p g (by simpa using hg)
   ·cases q with
    |zero=>omega
    |succ q=>
     cases p with
     |zero=>
      simp only[List.getElem?_cons_zero,Option.some.injEq] at hg;subst hg
      intro hjh
      have:=hod j (ih.nw q h (by simpa using hh) j hjh).2
      rw[((hgm j).1 hj).2] at this
      cases this.2
     |succ p=>exact ih.dj p q g h (by omega) (by simpa using hg) (by simpa using hh) j hj
   ·cases hm:jL R i j with
    |true=>exact⟨0,_,rfl,(hgm j).2 ⟨hj,hm⟩⟩
    |false=>
     obtain⟨p,g,h1,h2⟩:=ih.al j hj (by simp[we,hd,hm])
     exact⟨p+1,g,by simpa using h1,h2⟩
   ·cases p with
    |zero=>
     simp only[List.getElem?_cons_zero,Option.some.injEq] at hg;subst hg
     have hrij:R i j=true:=by
      have hm:=((hgm a).1 ha).2
      simp only[jL,Bool.or_eq_true,beq_iff_eq,Bool.and_eq_true] at hm
      rcases hm with rfl|⟨h1,_⟩
      ·exact hrj
      ·exact hR.tr h1 hrj
     rcases (iU hr).2 j hj hrij with h1|h1|h1
     ·exact .inl h1
     ·exact .inr ⟨0,_,Nat.le_refl _,rfl,(hgm j).2 ⟨hj,by simp[jL,h1]⟩⟩
     ·exact .inr ⟨0,_,Nat.le_refl _,rfl,(hgm j).2 ⟨hj,by simp[jL,h1,hrij]⟩⟩
    |succ p=>
     rcases ih.us p g a j (by simpa using hg) ha hrj hj with h1|⟨q,h,h1,h2,h3⟩
     ·simp only[we,Bool.or_eq_true] at h1
      rcases h1 with h1|h1
      ·exact .inl h1
      ·exact .inr ⟨0,_,Nat.zero_le _,rfl,(hgm j).2 ⟨hj,h1⟩⟩
     ·exact .inr ⟨q+1,h,by omega,by simpa using h2,h3⟩
theorem mq (n:Nat):dV n (fun _=>false)=n:=by
 unfold dV
 have h:(List.range n).filter (fun j=>!(fun _=>false:Nat→Bool) j)=List.range n:=List.filter_eq_self.2 fun _ _=>rfl
 rw[h,List.length_range]
theorem Gu {n:Nat} {R:cP} (hR:M4 n R):MZ n R (fun _=>false) (gj n R):=EW hR n _ (fun j k _ h=>by cases h) (by rw[mq];exact Nat.le_refl _)
theorem DJ (G:Gl) (id g:Nat) (l:List Int) (v:Int) (H:List av) (hid:H[id]? =some (.cells g 1 (l.map (.int .i64)))) (hl:l.length<4611686018427387904):
 aq Tryz.prog G 166 [.sl id g 0 l.length,.int .i64 v] H (fun r H'=>H'=H∧((r= .int .i64 (-1)∧v∉l)∨(∃ i:Nat,r= .int .i64 i∧v∈l))):=by
 have hlt:id<H.length:=(List.getElem?_eq_some_iff.1 hid).1
 refine bP [] Tryz.func166 Tryz.ntmps166 fun C R' hR hC hcl hB hC' X=>?_
 have X:=hid
 (refine run ?_)
 refine aA (fun i:Nat=>[(0,.sl id g 0 l.length),(1,.int .i64 v),(4,.int .i64 0),(7,.int .i64 l.length),(8,.int .i64 i)]) (fun _=>H) (fun i=>l.length - i) (fun i=>i≤l.length∧v∉l.take i) 0 (by simp) (Wk.sub (by simp[aW,look])) ?_
 rintro K i ⟨hi,hn⟩ hK
 (refine run ?_;with_reducible repeat' first|exact trivial|(apply aJ.mk<;>intro hb)|apply bN.mk)
 ·exact Fin.out hR ⟨rfl,.inr ⟨i,rfl,by rw[hb];exact List.getElem_mem _⟩⟩
 ·have hi':i<l.length:=by omega
  refine hK _ _ (i+1) (by omega) ⟨hi',by rw[List.take_succ_eq_append_getElem hi',List.mem_append];simp only[hn,List.mem_singleton,false_or];exact hb⟩ (Wk.sub (by simp[aW,look]))
 ·have:l.take i=l:=List.take_of_length_le (by omega)
  rw[this] at hn
  exact Fin.out hR ⟨rfl,.inl ⟨rfl,hn⟩⟩
theorem wq (G:Gl) (id g:Nat) (l:List Int) (v:Int) (H:List av) (hid:H[id]? =some (.cells g 1 (l.map (.int .i64)))) (hl:l.length<4611686018427387904):
 aq Tryz.prog G 140 [.sl id g 0 l.length,.int .i64 v] H (fun r H'=>H'=H∧r= .bool (decide (v∈l))):=by
 refine bP [] Tryz.func140 Tryz.ntmps140 fun C R' hR hC hcl hB hC' X=>?_
 (refine run ?_)
 refine br (DJ G id g l v H hid hl) ?_
 rintro r H' ⟨rfl,hr⟩
 rcases hr with⟨rfl,h⟩|⟨i,rfl,h⟩
 ·(refine run ?_)
  exact Fin.out hR ⟨rfl,by simp[h,aC]⟩
 ·(refine run ?_)
  exact Fin.out hR ⟨rfl,by simp only[aC,h,decide_true,SV.bool.injEq,decide_eq_true_eq];try omega⟩
def FY:List Bd→Nat→List (aD×Int)
 |[],_=>[]
 |b::r,i=>kU (FY r (i+1)) b.name i
theorem jV:∀ (l:List (aD×Int)) (s:aD),(bO (kG l) (.str s)).isSome=decide (s∈l.map Prod.fst)
 |[],s=>by simp[kG,bO]
 |(k,n)::r,s=>by
  simp only[kG,List.map_cons,bO,SV.ey,List.mem_cons]
  by_cases h:s=k
  ·simp[h]
  ·simp only[beq_eq_false_iff_ne.2 h,h,if_false,Bool.false_eq_true,false_or]
   exact jV r s
theorem EZ:∀ (l:List (aD×Int)) (s:aD) (n:Int) (t:aD),t∈(kU l s n).map Prod.fst↔t=s∨t∈l.map Prod.fst
 |[],s,n,t=>by simp[kU]
 |(k,m)::r,s,n,t=>by
  simp only[kU]
  by_cases h:s=k
  ·subst h;simp
  ·rw[if_neg h]
   simp only[List.map_cons,List.mem_cons,EZ r s n t]
   constructor
   ·rintro (h|h|h)
    ·exact .inr (.inl h)
    ·exact .inl h
    ·exact .inr (.inr h)
   ·rintro (h|h|h)
    ·exact .inr (.inl h)
    ·exact .inl h
    ·exact .inr (.inr h)
theorem C8:∀ (l:List Bd) (i:Nat) (s:aD),s∈(FY l i).map Prod.fst↔s∈l.map Bd.name
 |[],i,s=>by simp[FY]
 |b::r,i,s=>by rw[FY,EZ,C8 r (i+1) s,List.map_cons,List.mem_cons]
theorem HJ:∀ (l:List Bd) (i:Nat) (s:aD),s∈l.map Bd.name→da (FY l i) s=idxFrom i (l.map Bd.name) s
 |[],i,s,h=>by cases h
 |b::r,i,s,h=>by
  rw[FY,pK,List.map_cons,idxFrom]
  by_cases hs:s=b.name
  ·rw[if_pos hs,if_pos hs]
  ·rw[if_neg hs,if_neg hs]
   exact HJ r (i+1) s ((List.mem_cons.1 h).resolve_left hs)
theorem zl:∀ (l:List aD) (i:Nat) (s:aD),s∈l→∃ j:Nat,idxFrom i l s=((i+j:Nat):Int)∧l[j]? =some s
 |[],i,s,h=>by cases h
 |x::r,i,s,h=>by
  rw[idxFrom]
  by_cases hs:s=x
  ·rw[if_pos hs];exact⟨0,rfl,by rw[hs];rfl⟩
  ·rw[if_neg hs]
   obtain⟨j,h1,h2⟩:=zl r (i+1) s ((List.mem_cons.1 h).resolve_left hs)
   exact⟨j+1,by rw[h1];congr 1;omega,h2⟩
def iy (binds:List Bd) (i:Nat):List aD:=match binds[i]? with
 |some b=>de b.e
 |none=>[]
def jt (binds:List Bd):Nat→List aD→List Int→List Int
 |0,_,out=>out
 |_+1,[],out=>out
 |f+1,s::rest,out=>
  if s∈binds.map Bd.name∧idxFrom 0 (binds.map Bd.name) s∉out then jt binds f (rest++iy binds (idxFrom 0 (binds.map Bd.name) s).toNat) (out++[idxFrom 0 (binds.map Bd.name) s])
  else jt binds f rest out
def me (binds:List Bd) (out:List Int):Nat:=(((List.range binds.length).filter fun(i:Nat)=>decide ((i:Int)∉out)).map fun i=>(iy binds i).length).sum
def dB (body:Ex) (binds:List Bd):List Int:=FK (jt binds ((de body).length+me binds []) (de body) [])
theorem vR {n:Nat} (f:Nat→Nat) (p:Nat→Bool) {i:Nat} (hi:i<n) (hp:p i=true):
 (((List.range n).filter fun j=>p j&&decide (j≠i)).map f).sum+f i=(((List.range n).filter p).map f).sum:=by
 induction n with
 |zero=>omega
 |succ n ih=>
  rw[List.range_succ,List.filter_append,List.filter_append,List.map_append,List.map_append,List.sum_append,List.sum_append]
  by_cases h:i=n
  ·subst h
   have e:(List.range i).filter (fun j=>p j&&decide (j≠i))=(List.range i).filter p:=List.filter_congr fun j hj=>by
    have:=List.mem_range.1 hj
    simp[show j≠i by omega]
   rw[e]
   simp[hp]
  ·have:=ih (by omega)
   have hn:decide (n≠i)=true:=decide_eq_true (fun e=>h e.symm)
   have e:([n].filter fun j=>p j&&decide (j≠i))=[n].filter p:=by simp only[List.filter_cons,hn,Bool.and_true,List.filter_nil]
   rw[e]
   omega
theorem JY (binds:List Bd) (out:List Int) {i:Nat} (hi:i<binds.length) (ho:(i:Int)∉out):me binds (out++[(i:Int)])+(iy binds i).length=me binds out:=by
 have h:=vR (fun i=>(iy binds i).length) (fun j:Nat=>decide ((j:Int)∉out)) hi (by simpa using ho)
 unfold me
 rw[← h]
 congr 4
 funext j
 have e:((j:Int)∉out++[(i:Int)])↔((j:Int)∉out∧j≠i):=by
  simp only[List.mem_append,List.mem_singleton,not_or]
  constructor
  ·rintro⟨a,b⟩;exact⟨a,fun e=>b (by rw[e])⟩
  ·rintro⟨a,b⟩;exact⟨a,fun e=>b (by omega)⟩
 simp only[e,Bool.decide_and]
theorem lX (e:Ex):(de e).length≤e.wt:=by
 rw[de,iV]
 have:=qW e.wt e ([],[])
 simpa using this
theorem uD {binds:List Bd} {i:Nat} (h:i<binds.length):iy binds i=de binds[i].e:=by
 unfold iy;rw[List.getElem?_eq_getElem h]
theorem MF (binds:List Bd) (out:List Int):me binds out≤aV binds:=by
 have h1:me binds out≤((List.range binds.length).map fun i=>(iy binds i).length).sum:=by
  unfold me
  generalize List.range binds.length=l
  induction l with
  |nil=>exact Nat.le_refl _
  |cons x r ih=>
   rw[List.filter_cons]
   split
   ·simp only[List.map_cons,List.sum_cons];omega
   ·simp only[List.map_cons,List.sum_cons];omega
 have h2:∀ l:List Bd,((List.range l.length).map fun i=>(iy l i).length).sum≤aV l:=fun l=>by
  induction l with
  |nil=>exact Nat.le_refl _
  |cons b r ih=>
   rw[List.length_cons,List.range_succ_eq_map,List.map_cons,List.sum_cons,List.map_map]
   have e:((fun i=>(iy (b::r) i).length)∘Nat.succ)=fun i=>(iy r i).length:=by funext i;rfl
   rw[e]
   have h3:(iy (b::r) 0).length≤b.e.wt:=lX b.e
   have h4:=b.dw
   simp only[aV]
   omega
 exact Nat.le_trans h1 (h2 binds)
attribute [go_sem] jV
theorem vh:∀ (l:List UInt8) (acc:Nat) (b:UInt8),Lib.decFrom acc (l++[b])=(Lib.decFrom acc l).bind fun n=>(Lib.digitVal b).map fun d=>n*10+d
 |[],acc,b=>by
  simp only[List.nil_append,Lib.decFrom,Option.bind_some]
  cases Lib.digitVal b<;>rfl
 |a::t,acc,b=>by
  simp only[List.cons_append,Lib.decFrom]
  cases Lib.digitVal a with
  |none=>rfl
  |some d=>exact vh t _ b
theorem JI:∀ (l:List UInt8) (acc n:Nat),Lib.decFrom acc l=some n→acc≤n
 |[],acc,n,h=>by simp only[Lib.decFrom,Option.some.injEq] at h;omega
 |a::t,acc,n,h=>by
  simp only[Lib.decFrom] at h
  cases hd:Lib.digitVal a with
  |none=>rw[hd] at h;cases h
  |some d=>rw[hd] at h;have:=JI t _ n h;omega
theorem My {b:UInt8} {r:List UInt8} {n:Nat} (h:Lib.decFrom 0 (b::r)=some n) (h0:b≠48):0<n:=by
 simp only[Lib.decFrom] at h
 cases hd:Lib.digitVal b with
 |none=>rw[hd] at h;cases h
 |some d=>
  rw[hd] at h
  have h1:=JI r _ n h
  obtain⟨h2,h3,h4⟩:=Lib.digitVal_eq hd
  have:b.toNat≠48:=fun e=>h0 (UInt8.toNat_inj.1 e)
  omega
theorem DA {b:UInt8} {d:Nat} (h:Lib.digitVal b=some d):d<10∧UInt8.ofNat (48+d)=b:=by
 obtain⟨h2,h3,h4⟩:=Lib.digitVal_eq h
 refine⟨by omega,UInt8.toNat_inj.1 ?_⟩
 rw[UInt8.toNat_ofNat']
 omega
theorem uh {d:Nat} (h:d<10):Lib.digitVal (UInt8.ofNat (48+d))=some d:=by
 have h1:(UInt8.ofNat (48+d)).toNat=48+d:=by rw[UInt8.toNat_ofNat'];omega
 unfold Lib.digitVal
 rw[h1,if_pos (by omega)]
 congr 1
 omega
theorem EH:∀ (k:Nat) (l:List UInt8) (n:Nat),l.length=k→l≠[]→l.head?≠some 48→Lib.decFrom 0 l=some n→Lib.decDigits n=l
 |0,l,n,hk,h,_,_=>absurd (List.length_eq_zero_iff.1 hk) h
 |k+1,l,n,hk,h,h0,hd=>by
  obtain⟨r,b,rfl⟩:∃ r b,l=r++[b]:=⟨l.dropLast,l.getLast h,(List.dropLast_concat_getLast h).symm⟩
  rw[vh] at hd
  cases hr:Lib.decFrom 0 r with
  |none=>rw[hr] at hd;cases hd
  |some m=>
   rw[hr] at hd
   cases hb:Lib.digitVal b with
   |none=>rw[hb] at hd;cases hd
   |some d=>
    rw[hb] at hd
    obtain rfl:m*10+d=n:=Option.some.inj hd
    obtain⟨hd1,hd2⟩:=DA hb
    by_cases hre:r=[]
    ·subst hre
     simp only[Lib.decFrom,Option.some.injEq] at hr
     subst hr
     rw[Lib.decDigits,dif_pos (by omega)]
     simp only[Nat.zero_mul,Nat.zero_add,hd2,List.nil_append]
    ·have hh:r.head?=(r++[b]).head?:=by cases r with
      |nil=>exact absurd rfl hre
      |cons x t=>rfl
     have hrl:r.length=k:=by simp at hk;omega
     have ih:=EH k r m hrl hre (by rw[hh];exact h0) hr
     have hm:0<m:=by
      cases r with
      |nil=>exact absurd rfl hre
      |cons x t=>exact My hr (fun e=>h0 (by rw[e];rfl))
     rw[Lib.decDigits,dif_neg (by omega),show(m*10+d) / 10=m by omega,show(m*10+d) % 10=d by omega,ih,hd2]
theorem JH (u:Nat):Lib.decFrom 0 (Lib.decDigits u)=some u:=by
 induction u using Nat.strongRecOn with
 |_ u ih=>
  by_cases h:u<10
  ·rw[Lib.decDigits,dif_pos h]
   simp only[Lib.decFrom,uh h]
   congr 1;omega
  ·rw[Lib.decDigits,dif_neg h,vh,ih (u / 10) (by omega),Option.bind_some,uh (by omega)]
   simp only[Option.map_some]
   congr 1;omega
theorem yS (u:Nat):Lib.decDigits u≠[]:=by
 rw[Lib.decDigits]
 split<;>simp
theorem Gc (u:Nat) (h:0<u):(Lib.decDigits u).head?≠some 48:=by
 induction u using Nat.strongRecOn with
 |_ u ih=>
  by_cases h2:u<10
  ·rw[Lib.decDigits,dif_pos h2]
   intro e
   have e:UInt8.ofNat (48+u)=48:=Option.some.inj e
   have:=uh h2
   rw[e] at this
   have h3:Lib.digitVal 48=some 0:=by decide
   rw[h3] at this
   have:=Option.some.inj this
   omega
  ·rw[Lib.decDigits,dif_neg h2]
   have ih:=ih (u / 10) (by omega) (by omega)
   cases hl:Lib.decDigits (u / 10) with
   |nil=>exact absurd hl (yS _)
   |cons x t=>rw[hl] at ih;exact ih
def gy (s:aD):Nat:=if s.length<3∨11<s.length∨s.take 2≠[116,35]∨s[2]? =some 48 then 0 else (Lib.decFrom 0 (s.drop 2)).getD 0
theorem Fv (s:aD):gy s<1000000000:=by
 unfold gy
 split
 ·decide
 ·rename_i h
  cases hd:Lib.decFrom 0 (s.drop 2) with
  |none=>show(0:Nat)<_;decide
  |some n=>
   have h1:=Lib.decFrom_lt _ _ _ hd
   have h2:(s.drop 2).length≤9:=by rw[List.length_drop];omega
   have h3:10 ^ (s.drop 2).length≤10 ^ 9:=Nat.pow_le_pow_right (by decide) h2
   show n<_
   omega
def zM (s:aD):Bool:=decide (s.take 2=[116,35])&&(ja (s.drop 2)).2&&decide (0<(ja (s.drop 2)).1)&&decide ((s.drop 2).length≤9)&&decide (Lib.itoa (ja (s.drop 2)).1=s.drop 2)
theorem Mz (s:aD):(if zM s then (ja (s.drop 2)).1 else 0)=(gy s:Int):=by
 by_cases hp:s.take 2=[116,35]
 rotate_left
 ·rw[show zM s=false by simp only[zM,decide_eq_false hp,Bool.false_and],show gy s=0 by unfold gy;rw[if_pos (.inr (.inr (.inl hp)))]]
  rfl
 have hs:s=116::35::s.drop 2:=by
  have:=List.take_append_drop 2 s
  rw[hp] at this
  exact this.symm
 generalize hds:s.drop 2=ds at*
 subst hs
 by_cases hl:ds.length≤9
 rotate_left
 ·rw[show zM (116::35::ds)=false by simp only[zM,List.drop_succ_cons,List.drop_zero,decide_eq_false hl,Bool.and_false,Bool.false_and],show gy (116::35::ds)=0 by unfold gy;rw[if_pos (.inr (.inl (by simp;omega)))]]
  rfl
 have hat:ja ds=match Lib.atoi ds with|some v=>(v,true)|none=>(0,false):=by
  unfold ja
  rw[Lib.atoiAll_short ds (by omega)]
  cases Lib.atoi ds<;>rfl
 by_cases hn:gy (116::35::ds)=0
 ·rw[hn]
  split
  ·rename_i hc
   exfalso
   simp only[zM,List.drop_succ_cons,List.drop_zero,Bool.and_eq_true,decide_eq_true_eq] at hc
   obtain⟨⟨⟨⟨-,h1⟩,h2⟩,-⟩,h3⟩:=hc
   generalize (ja ds).1=k at*
   obtain⟨u,rfl⟩:=Int.eq_ofNat_of_zero_le (show 0≤k by omega)
   rw[Lib.itoa_nonneg] at h3
   have hd:=JH u
   have hh:=Gc u (by omega)
   have hne:=yS u
   rw[h3] at hd hh hne
   unfold gy at hn
   rw[if_neg,show List.drop 2 (116::35::ds)=ds from rfl,hd] at hn
   ·have:u=0:=hn
    omega
   ·rintro (h|h|h|h)
    ·cases ds with
     |nil=>exact hne rfl
     |cons x t=>simp at h;omega
    ·simp at h;omega
    ·exact h rfl
    ·cases ds with
     |nil=>exact hne rfl
     |cons x t=>exact hh h
  ·rfl
 ·have hn2:=hn
  unfold gy at hn2
  split at hn2
  ·exact absurd rfl hn2
  rename_i hc
  have hne:ds≠[]:=fun e=>hc (.inl (by rw[e];decide))
  have hh:ds.head?≠some 48:=fun e=>hc (.inr (.inr (.inr (by cases ds with|nil=>cases e|cons x t=>exact e))))
  cases hd:Lib.decFrom 0 ds with
  |none=>rw[show List.drop 2 (116::35::ds)=ds from rfl,hd] at hn2;exact absurd rfl hn2
  |some u=>
   have hnu:gy (116::35::ds)=u:=by unfold gy;rw[if_neg hc,show List.drop 2 (116::35::ds)=ds from rfl,hd];rfl
   rw[hnu]
   have hdg:=EH _ ds u rfl hne hh hd
   have hu:0<u:=by omega
   have hai:Lib.atoi ds=some (u:Int):=by
    cases ds with
    |nil=>exact absurd rfl hne
    |cons x t=>
     have hx:∃ d,Lib.digitVal x=some d:=Lib.digit_of_decFrom _ _ _ hd 0 x rfl
     obtain⟨d,hx⟩:=hx
     obtain⟨h1,h2,-⟩:=Lib.digitVal_eq hx
     have h45:(x==45)=false:=by
      rw[beq_eq_false_iff_ne];intro e;rw[e] at h1;revert h1;decide
     have h43:(x==43)=false:=by
      rw[beq_eq_false_iff_ne];intro e;rw[e] at h1;revert h1;decide
     simp only[Lib.atoi,h45,h43,Bool.false_eq_true,if_false,Lib.decNat,List.isEmpty_cons,hd,Option.map_some]
   rw[hai] at hat
   have hat:ja ds=((u:Int),true):=hat
   rw[if_pos]
   ·rw[hat]
   ·simp only[zM,List.drop_succ_cons,List.drop_zero,hat,Lib.itoa_nonneg,hdg,Bool.and_eq_true,decide_eq_true_eq]
    refine⟨⟨⟨⟨rfl,trivial⟩,by omega⟩,hl⟩,trivial⟩
def ju (l:List Bd):Nat:=((aU l).foldl (fun n s=>max n (gy s)) 0)+1
theorem zc:∀ (l:List aD) (n:Nat),n<1000000000→l.foldl (fun n s=>max n (gy s)) n<1000000000
 |[],n,h=>h
 |s::r,n,h=>zc r _ (by have:=Fv s;show max n (gy s)<_;omega)
def jM:Ex:= .mk 0 [] 0 0 [] [] [] []
def mY:Bd:= .mk [] jM
def cX (t:aD):Ex:= .mk 1 t 0 0 [] [] [] []
def cI (n:Int):Ex:= .mk 2 [] n 0 [] [] [] []
def ed (s:aD) (l:List Ex):Ex:= .mk 7 s 0 0 [] l [] []
def c7 (op:Int) (l:List Ex):Ex:= .mk 8 [] 0 op [] l [] []
def df (ns:List aD) (b:Ex):Ex:= .mk 3 [] 0 0 ns [b] [] []
def c8 (f:Ex) (l:List Ex):Ex:= .mk 4 [] 0 0 [] (f::l) [] []
def letE (b:Ex) (bs:List Bd):Ex:= .mk 5 [] 0 0 [] [b] bs []
def vT:aD:=[80,114,105,109,46,84,114,117,101]
def o9:aD:=[80,114,105,109,46,70,97,108,115,101]
def cx (n:Nat):aD:=[116,35]++Lib.itoa (n:Int)
def yq (x:Int):Int:=IntKind.i64.wrap x
abbrev Kn:=List (aD×Ex)
def E6:Kn→aD→Option Ex
 |[],_=>none
 |(s,e)::r,t=>if s=t then some e else E6 r t
def bU (e:Ex):Bool:=decide (e.kind=1)||decide (e.kind=2)
def cQ (e:Ex):Bool:=decide (e.kind=2)||(decide (e.kind=7)&&e.ae.all bU)
def cu (e:Ex):Bool:=decide (e.kind=8)&&decide (e.op=11)
def gl (e:Ex):Bool:=decide (e.kind=2)||decide (e.kind=3)||decide (e.kind=7)
def bk (l:List aD):List Ex:=l.map cX
def eH (l:List Ex):Ex:=l.headD jM
def j4:Ex→List Ex→Ex
 | .mk k s n o ns _ bs xs,l=> .mk k s n o ns l bs xs
def bE:Ex→List Al→Ex
 | .mk k s n o ns l bs _,xs=> .mk k s n o ns l bs xs
def setBody:Al→Ex→Al
 | .mk k s n ns _,e=> .mk k s n ns e
def na (e s:Ex):Ex:=j4 e [s]
def Aa (v:Ex) (a:Al):Bool:=if a.kind=2 then decide (v.kind=2)&&decide (v.n=a.n) else if a.kind=1 then decide (v.kind=7)&&decide (v.name=a.name) else true
def l8 (xs:List Al) (v:Ex):Option Al:=xs.find? (Aa v)
def aG {α β:Type} (f:α→Nat→β×Nat):List α→Nat→List β×Nat
 |[],n=>([],n)
 |x::r,n=>((f x n).1::(aG f r (f x n).2).1,(aG f r (f x n).2).2)
theorem ek {α β:Type} (f:α→Nat→β×Nat):∀ (l:List α) (n:Nat),(aG f l n).1.length=l.length
 |[],_=>rfl
 |x::r,n=>by rw[aG,List.length_cons,List.length_cons,ek f r]
def kW (f:Ex→Nat→Ex×Nat) (b:Bd) (n:Nat):Bd×Nat:=(.mk b.name (f b.e n).1,(f b.e n).2)
def rU (b:Bool):Ex:=if b then ed vT [] else ed o9 []
def fV (e:Ex):Ex:=
 if 8<e.op∨e.ae.any (fun a=>!decide (a.kind=2))=true then e else
 if e.op=1 then cI (yq ((e.ae.getD 0 jM).n+(e.ae.getD 1 jM).n))
 else if e.op=2 then cI (yq ((e.ae.getD 0 jM).n - (e.ae.getD 1 jM).n))
 else if e.op=3 then cI (yq ((e.ae.getD 0 jM).n*(e.ae.getD 1 jM).n))
 else if e.op=4∨e.op=5 then
  (if (e.ae.getD 1 jM).n=0 then e else if e.op=5 then cI ((e.ae.getD 0 jM).n.tmod (e.ae.getD 1 jM).n) else cI (yq ((e.ae.getD 0 jM).n.tdiv (e.ae.getD 1 jM).n)))
 else if e.op=6 then rU (decide ((e.ae.getD 0 jM).n=(e.ae.getD 1 jM).n))
 else if e.op=7 then rU (decide ((e.ae.getD 0 jM).n<(e.ae.getD 1 jM).n))
 else if e.op=8 then rU (decide ((e.ae.getD 0 jM).n≤(e.ae.getD 1 jM).n))
 else cI 0
def ec (ns:List aD) (b:Ex) (xs:List Ex):Ex:=if ns.length<xs.length then c8 b (xs.drop ns.length) else if xs.length<ns.length then df (ns.drop xs.length) b else b
def tT (f:Ex) (xs:List Ex):Ex:=letE (ec f.names (eH f.ae) xs) ((f.names.zip xs).map fun p=> .mk p.1 p.2)
def tS (e:Ex):Ex:=
 let f:=eH e.ae
 let xs:=e.ae.drop 1
 if cu f then f
 else if f.kind=4 then .mk 4 [] 0 0 [] (f.ae++xs) [] []
 else if f.kind=5 then letE (c8 (eH f.ae) xs) f.binds
 else if f.kind=6∧f.alts.length=1 then bE f (f.alts.map fun a=>setBody a (c8 a.body xs))
 else if f.kind≠3 then e
 else tT f xs
def BZ (k:Kn) (bs:List Bd):Kn:=bs.foldl (fun k b=>if cQ b.e then (b.name,b.e)::k else k) k
def cv (bs:List Bd) (l:List Nat):List Bd:=l.map fun i=>bs.getD i mY
def cS (s:aD) (r e:Ex):Ex:=dK s r e.wt e
def sF (s:aD) (e:Ex):Bool:=decide (gU s e=1)&&!ma s false e
def lets (gs:List (List Bd)) (b:Ex):Ex:=gs.foldr (fun g b=>letE b g) b
def B4 (bs:List Bd) (body:Ex):Ex:=
 if (dB body bs).length=0 then body
 else if (dB body bs).length<bs.length then letE body (cv bs ((dB body bs).map Int.toNat))
 else if 1<(gj bs.length (jz bs)).length then lets ((gj bs.length (jz bs)).map (cv bs)) body
 else if bs.length=1 then
  let x:=(bs.getD 0 mY).name
  let r:=(bs.getD 0 mY).e
  if gU x r=0∧(bU r=true∨sF x body=true) then cS x r body
  else if r.kind=5∧gl (eH r.ae)=true then letE (letE body [.mk x (eH r.ae)]) r.binds
  else letE body bs
 else letE body bs
def qS (a:Al):Ex:=if a.kind=1 then ed a.name (bk a.names) else cI a.n
def sR (k:Kn) (nm:aD) (v:Ex) (a:Al):Kn:=if a.kind=3 then k else if v.kind=1 then (v.name,qS a)::(nm,qS a)::k else (nm,qS a)::k
def iC (nm:aD) (v:Ex) (a:Al):Ex:=
 (a.names.zip v.ae).foldr (fun p b=>letE b [.mk p.1 p.2]) (letE a.body [.mk nm (if a.kind=1 then j4 v (bk a.names) else v)])
def okB (b:Ex):Bool:=decide (b.kind=2)||decide (b.kind=7)||cu b
def fq (nm:aD) (a:Al) (n:Nat):Bd×Nat:=(.mk (cx n) (df (a.names++[cx (n+1)]) (cS nm (cX (cx (n+1))) a.body)),n+2)
def jK:Nat→Nat→List aD
 |0,_=>[]
 |k+1,n=>cx n::jK k (n+1)
theorem eT:∀ k n,(jK k n).length=k
 |0,_=>rfl
 |k+1,n=>by rw[jK,List.length_cons,eT]
def fD (q:aD) (p:aD×Al) (n:Nat):Al×Nat:=(.mk p.2.kind p.2.name p.2.n (jK p.2.names.length n) (c8 (cX p.1) (bk (jK p.2.names.length n++[q]))),n+p.2.names.length)
def tj (js:List aD) (xs:List Al) (a:Al) (n:Nat):Al×Nat:=
 (setBody a (.mk 6 (cx n) 0 0 [] [a.body] [] (aG (fD (cx n)) (js.zip xs) (n+1)).1),(aG (fD (cx n)) (js.zip xs) (n+1)).2)
def BW (e:Ex) (n:Nat):List Bd×Nat:=aG (fq e.name) e.alts n
def BR (e v:Ex) (n:Nat):List Al×Nat:=aG (tj ((BW e n).1.map Bd.name) e.alts) v.alts (BW e n).2
def eV (e v:Ex) (n:Nat):Ex×Nat:=
 if v.alts.length=1 then (bE v (v.alts.map fun a=>setBody a (na e a.body)),n)
 else if v.alts.any (fun a=>!okB a.body)=true then (e,n)
 else ((BW e n).1.foldr (fun j b=>letE b [j]) (bE v (BR e v n).1),(BR e v n).2)
def iG (k:Kn) (e v:Ex) (n:Nat):Ex×Nat:=
 if v.kind=2∨v.kind=3 then
  match l8 e.alts v with
  |some a=>(letE a.body [.mk e.name v],n)
  |none=>(e,n)
 else if v.kind=7 then
  match l8 e.alts v with
  |some a=>(iC e.name v a,n)
  |none=>(e,n)
 else if v.kind=1 then
  match E6 k v.name with
  |none=>(e,n)
  |some sh=>match l8 e.alts sh with
   |some a=>(cS e.name v ((a.names.zip sh.ae).foldl (fun b p=>cS p.1 p.2 b) a.body),n)
   |none=>(e,n)
 else if v.kind=5 then (letE (na e (eH v.ae)) v.binds,n)
 else if v.kind=6 then eV e v n
 else if cu v=true then (v,n)
 else (e,n)
def QL (k:Kn) (e:Ex) (n:Nat):Ex×Nat:=iG k e (eH e.ae) n
def cB (F:Ex→Kn→Nat→Ex×Nat) (k:Kn) (nm:aD) (v:Ex) (a:Al) (n:Nat):Al×Nat:=(setBody a (F a.body (sR k nm v a) n).1,(F a.body (sR k nm v a) n).2)
def Oy (F:Ex→Kn→Nat→Ex×Nat) (k:Kn) (e:Ex) (n:Nat):Ex×Nat:=
 if e.kind=3 then (if (eH e.ae).kind=3 then df (e.names++(eH e.ae).names) (eH (eH e.ae).ae) else e,n)
 else if e.kind=8 then (fV e,n)
 else if e.kind=4 then (tS e,n)
 else if e.kind=6 then QL k (bE e (aG (cB F k e.name (eH e.ae)) e.alts n).1) (aG (cB F k e.name (eH e.ae)) e.alts n).2
 else (e,n)
def Jh (F:Ex→Kn→Nat→Ex×Nat) (k:Kn) (e:Ex) (B:List Bd×Nat):Ex×Nat:=(B4 B.1 (F (eH e.ae) (BZ k B.1) B.2).1,(F (eH e.ae) (BZ k B.1) B.2).2)
def en:Nat→Ex→Kn→Nat→Ex×Nat
 |0,e,_,n=>(e,n)
 |m+1,e,k,n=>
  if e.kind=5 then Jh (en m) k e (aG (kW fun x n=>en m x k n) e.binds n)
  else Oy (en m) k (j4 e (aG (fun x n=>en m x k n) e.ae n).1) (aG (fun x n=>en m x k n) e.ae n).2
def gr (l:List Bd):List aD:=cW ((dB (cX ct) l).map fun i=>(l.getD i.toNat mY).name)
def E7 (l:List Bd):Kn:=BZ [] l
def fa (p:Pg):List Bd:=(aG (kW fun x n=>en x.wt x (E7 p.binds) n) p.binds (ju p.binds)).1
def pN (l:List Bd):List Bd:=l.filter fun b=>decide (b.name∈gr l)
def wj (b:Bd):Bool:=!decide (b.name=ct)&&(decide (b.e.kind=2)||(decide (b.e.kind=1)&&!decide (b.e.name=b.name)))
def kT (l:List Bd):List Bd:=
 match l.findIdx? wj with
 |none=>l
 |some i=>(l.eraseIdx i).map fun b=> .mk b.name (cS (l.getD i mY).name (l.getD i mY).e b.e)
def iq (p:Pg):Pg:=⟨p.cons,kT (pN (fa p))⟩
def cD (p:Pg):Pg:=if bJ (iq p)=0 then iq p else p
theorem xH (G:Gl) (hG:ah G) (e:Ex) (H:List av):aq Tryz.prog G 88 [e.sv] H (fun r H'=>H'=H∧r= .bool (bU e)):=by
 obtain⟨kd,nm,nn,op,names,ae,binds,alts⟩:=e
 refine bP [] Tryz.func88 Tryz.ntmps88 fun C R' hR hC hcl hB hC' X=>?_
 have hu:=Ex.aw H.length (.mk kd nm nn op names ae binds alts)
 by_cases h1:kd=1
 ·have X:=And.intro aO h1
  (refine run ?_)
  exact aZ (n0:=H.length) hR hC' hcl (.same _ rfl) ⟨rfl,by simp[bU,Ex.kind,h1,pk,aC]⟩
 ·by_cases h2:kd=2
  ·have X:=fc aO h1 h2
   (refine run ?_)
   exact aZ (n0:=H.length) hR hC' hcl (.same _ rfl) ⟨rfl,by simp[bU,Ex.kind,h1,h2,pk,aC]⟩
  ·have X:=fc aO h1 h2
   (refine run ?_)
   exact aZ (n0:=H.length) hR hC' hcl (.same _ rfl) ⟨rfl,by simp[bU,Ex.kind,h1,h2,pk,aC]⟩
theorem lK (G:Gl) (hG:ah G) (e:Ex) (H:List av):aq Tryz.prog G 129 [e.sv] H (fun r H'=>H'=H∧r= .bool (cu e)):=by
 obtain⟨kd,nm,nn,op,names,ae,binds,alts⟩:=e
 refine bP [] Tryz.func129 Tryz.ntmps129 fun C R' hR hC hcl hB hC' X=>?_
 by_cases h1:kd=8
 ·by_cases h2:op=11
  ·have X:=fc aO h1 h2
   (refine run ?_)
   exact aZ (n0:=H.length) hR hC' hcl (.same _ rfl) ⟨rfl,by simp[cu,Ex.kind,Ex.op,h1,h2,pk,aC]⟩
  ·have X:=fc aO h1 h2
   (refine run ?_)
   exact aZ (n0:=H.length) hR hC' hcl (.same _ rfl) ⟨rfl,by simp[cu,Ex.kind,Ex.op,h1,h2,pk,aC]⟩
 ·have X:=And.intro aO h1
  (refine run ?_)
  exact aZ (n0:=H.length) hR hC' hcl (.same _ rfl) ⟨rfl,by simp[cu,Ex.kind,h1,pk,aC]⟩
theorem uR (G:Gl) (hG:ah G) (e:Ex) (H:List av):aq Tryz.prog G 125 [e.sv] H (fun r H'=>H'=H∧r= .bool (gl e)):=by
 obtain⟨kd,nm,nn,op,names,ae,binds,alts⟩:=e
 refine bP [] Tryz.func125 Tryz.ntmps125 fun C R' hR hC hcl hB hC' X=>?_
 by_cases h1:kd=2
 ·have X:=And.intro aO h1
  (refine run ?_)
  exact aZ (n0:=H.length) hR hC' hcl (.same _ rfl) ⟨rfl,by simp[gl,Ex.kind,h1,pk,aC]⟩
 ·by_cases h2:kd=3
  ·have X:=fc aO h1 h2
   (refine run ?_)
   exact aZ (n0:=H.length) hR hC' hcl (.same _ rfl) ⟨rfl,by simp[gl,Ex.kind,h1,h2,pk,aC]⟩
  ·by_cases h3:kd=7
   ·have X:=iY aO h1 h2 h3
    (refine run ?_)
    exact aZ (n0:=H.length) hR hC' hcl (.same _ rfl) ⟨rfl,by simp[gl,Ex.kind,h1,h2,h3,pk,aC]⟩
   ·have X:=iY aO h1 h2 h3
    (refine run ?_)
    exact aZ (n0:=H.length) hR hC' hcl (.same _ rfl) ⟨rfl,by simp[gl,Ex.kind,h1,h2,h3,pk,aC]⟩
theorem BU (G:Gl) (hG:ah G) (e:Ex) (H:List av):aq Tryz.prog G 87 [e.sv] H (fun r H'=>H'=H∧r= .bool (!bU e)):=by
 have c1:=fun H=>xH G hG e H
 have hu:=e.au
 have hut:=e.ao
 have huu:=fun n=>e.aw n
 rw[show e.sv= .agg e.cells from rfl] at*
 generalize e.cells=xs at*
 refine bP [] Tryz.func87 Tryz.ntmps87 fun C R' hR hC hcl hB hC' X=>?_
 have X:=fc aO hu hut
 (refine run ?_)
 exact aZ (n0:=H.length) hR hC' hcl (.same _ rfl) ⟨rfl,rfl⟩
theorem zL (l:List Ex):(!l.any fun e=>!bU e)=l.all bU:=by
 induction l with
 |nil=>rfl
 |cons x r ih=>rw[List.any_cons,List.all_cons,← ih];cases bU x<;>rfl
theorem uQ (G:Gl) (hG:ah G) (e:Ex) (hl:e.ae.length<1125899906842624) (H:List av):aq Tryz.prog G 47 [e.sv] H (fun r H'=>H'=H∧r= .bool (cQ e)):=by
 have c1:=fun H=>tL G hG (.fn (.func 87) [] []) (fun e=>!bU e) e.ae H hl (by simp[SV.under,SV.aj]) (fun e _=>aY.of (first:=[]) (args:=[e.sv]) (cap:=[]) (BU G hG e H))
 have hna:=zL e.ae
 obtain⟨kd,nm,nn,op,names,ae,binds,alts⟩:=e
 simp only[Ex.ae] at c1 hl hna
 have hsh:cQ (.mk kd nm nn op names ae binds alts)=(decide (kd=2)||(decide (kd=7)&&ae.all bU)):=rfl
 rw[hsh,← hna]
 generalize (ae.any fun e=>!bU e)=q at*
 refine bP [] Tryz.func47 Tryz.ntmps47 fun C R' hR hC hcl hB hC' X=>?_
 by_cases h1:kd=2
 ·have X:=And.intro aO h1
  (refine run ?_)
  exact aZ (n0:=H.length) hR hC' hcl (.same _ rfl) ⟨rfl,by simp[h1,pk,aC]⟩
 ·by_cases h2:kd=7
  ·have X:=fc aO h1 h2
   (refine run ?_)
   exact aZ (n0:=H.length) hR hC' hcl (.same _ rfl) ⟨rfl,by simp[h1,h2,pk,aC]⟩
  ·have X:=fc aO h1 h2
   (refine run ?_)
   exact aZ (n0:=H.length) hR hC' hcl (.same _ rfl) ⟨rfl,by simp[h1,h2,pk,aC]⟩
theorem xL (G:Gl) (hG:ah G) (ns:List aD) (e:Ex) (H:List av):aq Tryz.prog G 91 [.list 1 (ns.map .str),e.sv] H (fun r H'=>H'=H∧r=(df ns e).sv):=by
 have hu:=e.au
 have hut:=e.ao
 have huu:=e.aw H.length
 have hs:=bj H.length ns
 rw[show(df ns e).sv= .agg [.int .i64 3,.str [],.int .i64 0,.int .i64 0,.list 1 (ns.map .str),.list 8 [.agg e.cells],.list 9 [],.list 12 []] from rfl]
 rw[show e.sv= .agg e.cells from rfl] at*
 generalize e.cells=xs at*
 refine bP [] Tryz.func91 Tryz.ntmps91 fun C R' hR hC hcl hB hC' X=>?_
 have X:=fc aO hu hut
 (refine run ?_)
 exact aZ (n0:=H.length) hR hC' hcl (.same _ (by simp only[aC,SV.under,SV.aj,hs,huu,Bool.and_self])) ⟨rfl,rfl⟩
theorem dr (G:Gl) (hG:ah G) (bs:List Bd) (e:Ex) (H:List av):aq Tryz.prog G 120 [e.sv,.list 9 (ad bs)] H (fun r H'=>H'=H∧r=(letE e bs).sv):=by
 have hu:=e.au
 have hut:=e.ao
 have huu:=e.aw H.length
 have hs:=aK H.length bs
 rw[show(letE e bs).sv= .agg [.int .i64 5,.str [],.int .i64 0,.int .i64 0,.list 1 [],.list 8 [.agg e.cells],.list 9 (ad bs),.list 12 []] from rfl]
 rw[show e.sv= .agg e.cells from rfl] at*
 generalize e.cells=xs at*
 refine bP [] Tryz.func120 Tryz.ntmps120 fun C R' hR hC hcl hB hC' X=>?_
 have X:=fc aO hu hut
 (refine run ?_)
 exact aZ (n0:=H.length) hR hC' hcl (.same _ (by simp only[aC,SV.under,SV.aj,hs,huu,Bool.and_self])) ⟨rfl,rfl⟩
theorem Nq (G:Gl) (hG:ah G) (e s:Ex) (H:List av):aq Tryz.prog G 136 [e.sv,s.sv] H (fun r H'=>H'=H∧r=(na e s).sv):=by
 obtain⟨kd,nm,nn,op,names,ae,binds,alts⟩:=e
 have hu:=s.au
 have hut:=s.ao
 have huu:=s.aw H.length
 have h1:=bj H.length names
 have h2:=aK H.length binds
 have h3:=bA H.length alts
 rw[show(na (.mk kd nm nn op names ae binds alts) s).sv= .agg [.int .i64 kd,.str nm,.int .i64 nn,.int .i64 op,.list 1 (names.map .str),.list 8 [.agg s.cells],.list 9 (ad binds),.list 12 (af alts)] from rfl]
 rw[show s.sv= .agg s.cells from rfl] at*
 generalize s.cells=xs at*
 refine bP [] Tryz.func136 Tryz.ntmps136 fun C R' hR hC hcl hB hC' X=>?_
 have X:=fc aO hu hut
 (refine run ?_)
 exact aZ (n0:=H.length) hR hC' hcl (.same _ (by simp only[aC,SV.under,SV.aj,h1,h2,h3,huu,Bool.and_self])) ⟨rfl,rfl⟩
theorem Gq {H:List av} {n:Nat} {ks:dP} (kd:Int) (nm:aD) (nn op:Int) {a a' b b' c c' d d':SV} (ha:bF H n ks a a') (hb:bF H n ks b b') (hc:bF H n ks c c') (hd:bF H n ks d d'):
 b7 H n ks [.int .i64 kd,.str nm,.int .i64 nn,.int .i64 op,a,b,c,d] [.int .i64 kd,.str nm,.int .i64 nn,.int .i64 op,a',b',c',d']:=
 .cons _ _ _ _ (.same _ rfl) (.cons _ _ _ _ (.same _ rfl) (.cons _ _ _ _ (.same _ rfl) (.cons _ _ _ _ (.same _ rfl) (.cons _ _ _ _ ha (.cons _ _ _ _ hb (.cons _ _ _ _ hc (.cons _ _ _ _ hd .nil)))))))
theorem kY (G:Gl) (hG:ah G) (l:List Ex) (e:Ex) (hl:l.length<274877906944) (H:List av):aq Tryz.prog G 131 [e.sv,.list 8 (ag l)] H (fun r H'=>H'=H∧r=(c8 e l).sv):=by
 have hu:=e.au
 have hut:=e.ao
 have huu:=e.aw H.length
 have hs:=bc H.length l
 have hsl:=bV l
 rw[show(c8 e l).sv= .agg [.int .i64 4,.str [],.int .i64 0,.int .i64 0,.list 1 [],.list 8 (.agg e.cells::ag l),.list 9 [],.list 12 []] from rfl]
 rw[show e.sv= .agg e.cells from rfl] at*
 generalize e.cells=xs at*
 refine bP [6] Tryz.func131 Tryz.ntmps131 fun C R' hR hC hcl hB hC' X=>?_
 have X:=iY aO hu hut hsl
 (refine run ?_)
 exact Fin.aS (n0:=H.length) hR rfl hC' hcl (.agg _ _ (Gq 4 [] 0 0 (.same _ rfl) (bF.sf (by rw[aH];rfl) (by omega) (by simp) (by rw[List.drop_zero,List.take_of_length_le (by simp only[List.length_cons];omega)]) (by simp only[SV.aj,SV.under,hs,huu,Bool.and_self])) (.same _ rfl) (.same _ rfl))) ⟨rfl,rfl⟩
theorem Cf (G:Gl) (hG:ah G) (l:List aD) (hl:l.length<274877906944) (H:List av):aq Tryz.prog G 132 [.list 1 (l.map .str)] H (fun r H'=>H'=H∧r= .list 8 (ag (bk l))):=by
 have hs:=bj H.length l
 refine bP [3] Tryz.func132 Tryz.ntmps132 fun C R' hR hC hcl hB hC' X=>?_
 have X:=aO
 (refine run ?_)
 refine aA (fun i:Nat=>[(3,.sl (H.length) 0 0 i),(6,.list 1 (l.map .str)),(7,.int .i64 l.length),(8,.int .i64 (i:Int))]) (fun i=>H++[.cells 0 8 (ag (bk (l.take i)))]) (fun i=>l.length - i) (fun i=>i≤l.length) 0 (Nat.zero_le _) ?_ ?_
 ·exact bI (n0:=H.length) [(H.length,0)] hG hB hC' hcl
 rintro K i hi hK
 have hel:(ag (bk (l.take i))).length=i:=by rw[bV,bk,List.length_map,List.length_take];omega
 rcases Nat.lt_or_ge i l.length with hlt|hge
 ·have hsn:ag (bk (l.take i))++[.agg [.int .i64 1,.str l[i],.int .i64 0,.int .i64 0,.list 1 [],.list 8 [],.list 9 [],.list 12 []]]=ag (bk (l.take (i+1))):=by
   rw[List.take_succ_eq_append_getElem hlt,bk,bk,List.map_append,aL,aL,List.map_append];rfl
  have X:=fc aO hel hsn
  (refine run ?_;with_reducible repeat' first|exact trivial|(apply aJ.mk<;>intro hb)|apply bN.mk)
  refine hK _ _ (i+1) (by omega) (by omega) ?_
  exact bI (n0:=H.length) [(H.length,0)] hG hB hC' hcl
 ·obtain rfl:i=l.length:=by omega
  clear hK
  rw[List.take_length] at*
  have hu:=bc H.length (bk l)
  have X:=fc aO hel (Int.lt_irrefl (l.length:Int))
  (refine run ?_)
  exact Fin.aS (n0:=H.length) hR rfl hC' hcl (bF.sf (by rw[bL];rfl) (by omega) (by simp) (by rw[List.drop_zero,List.take_of_length_le (by rw[hel];exact Nat.le_refl _)]) hu) ⟨rfl,rfl⟩
theorem Dd (G:Gl) (hG:ah G) (v:Ex) (a:Al) (H:List av) (vb:Nat) (h1:H[vb]? =some (.cells 0 8 [.agg v.cells])):aq Tryz.prog G 160 [a.sv,.ptr vb 0 0 0] H (fun r H'=>H'=H∧r= .bool (Aa v a)):=by
 obtain⟨kd,nm,nn,op,names,ae,binds,alts⟩:=v
 obtain⟨ak,an,am,ans,ab⟩:=a
 have hl1:vb<H.length:=(List.getElem?_eq_some_iff.1 h1).1
 have hx:=ab.au
 have hxt:=ab.ao
 have hsel:Aa (.mk kd nm nn op names ae binds alts) (.mk ak an am ans ab)=if ak=2 then decide (kd=2)&&decide (nn=am) else if ak=1 then decide (kd=7)&&decide (nm=an) else true:=rfl
 rw[hsel]
 rw[show(Al.mk ak an am ans ab).sv= .agg (.int .i64 ak:: .str an:: .int .i64 am:: .list 1 (ans.map .str)::ab.cells) from by rw[Al.sv,Al.bf];rfl]
 rw[show(Ex.mk kd nm nn op names ae binds alts).cells=[.int .i64 kd,.str nm,.int .i64 nn,.int .i64 op,.list 1 (names.map .str),.list 8 (ag ae),.list 9 (ad binds),.list 12 (af alts)] from rfl] at h1
 generalize ab.cells=xs at*
 refine bP [] Tryz.func160 Tryz.ntmps160 fun C R' hR hC hcl hB hC' X=>?_
 by_cases a2:ak=2
 ·by_cases k2:kd=2
  ·have X:=oD aO a2 k2 h1 hx hxt
   (refine run ?_)
   exact aZ (n0:=H.length) hR hC' hcl (.same _ rfl) ⟨rfl,by simp[a2,k2,pk,aC]⟩
  ·have X:=oD aO a2 k2 h1 hx hxt
   (refine run ?_)
   exact aZ (n0:=H.length) hR hC' hcl (.same _ rfl) ⟨rfl,by simp[a2,k2,pk,aC]⟩
 ·by_cases a1:ak=1
  ·by_cases k7:kd=7
   ·have X:=eu aO a2 a1 k7 h1 hx hxt
    (refine run ?_)
    exact aZ (n0:=H.length) hR hC' hcl (.same _ rfl) ⟨rfl,by simp[a2,a1,k7,pk,aC]⟩
   ·have X:=eu aO a2 a1 k7 h1 hx hxt
    (refine run ?_)
    exact aZ (n0:=H.length) hR hC' hcl (.same _ rfl) ⟨rfl,by simp[a2,a1,k7,pk,aC]⟩
  ·have X:=oD aO a2 a1 h1 hx hxt
   (refine run ?_)
   exact aZ (n0:=H.length) hR hC' hcl (.same _ rfl) ⟨rfl,by simp[a2,a1,aC]⟩
def fy (H:List av):SV→Kn→Prop
 |kv,[]=>kv= .bt
 |kv,(s,e)::k=>∃ b kv',kv= .ptr b 0 0 0∧H[b]? =some (.cells 0 10 [.agg (kv':: .str s::e.cells)])∧fy H kv' k
theorem fy.leaf {H:List av} {kv:SV} {k:Kn} (h:fy H kv k):kv.leaf=true∧kv.under H.length=true:=by
 cases k with
 |nil=>obtain rfl:=h;exact⟨rfl,rfl⟩
 |cons p r=>
  obtain⟨s,e⟩:=p
  obtain⟨b,kv',rfl,h1,-⟩:=h
  have:=(List.getElem?_eq_some_iff.1 h1).1
  exact⟨rfl,by simp only[SV.under,decide_eq_true_eq];exact this⟩
theorem fy.form {H:List av} {kv:SV} {k:Kn} (h:fy H kv k):kv= .bt∨∃ b,kv= .ptr b 0 0 0∧b<H.length:=by
 cases k with
 |nil=>exact .inl h
 |cons p r=>
  obtain⟨s,e⟩:=p
  obtain⟨b,kv',rfl,h1,-⟩:=h
  exact .inr ⟨b,rfl,(List.getElem?_eq_some_iff.1 h1).1⟩
theorem fy.app {H:List av} (L:List av):∀ {kv:SV} {k:Kn},fy H kv k→fy (H++L) kv k
 |kv,[],h=>h
 |kv,(s,e)::k,⟨b,kv',h0,h1,h2⟩=>⟨b,kv',h0,by rw[List.getElem?_append_left (List.getElem?_eq_some_iff.1 h1).1];exact h1,h2.app L⟩
theorem fy.set {H:List av} {sb:Nat} {x y:av} (hx:H[sb]? =some x) (hs:∀ l,x≠ .cells 0 10 l):∀ {kv:SV} {k:Kn},fy H kv k→fy (H.set sb y) kv k
 |kv,[],h=>h
 |kv,(s,e)::k,⟨b,kv',h0,h1,h2⟩=>⟨b,kv',h0,by rw[List.getElem?_set_ne (fun e=>by subst e;rw[hx] at h1;exact hs _ (Option.some.inj h1))];exact h1,h2.set hx hs⟩
theorem ot (G:Gl) (hG:ah G) (kv:SV) (s:aD) (e:Ex) (H:List av) (hkv:kv= .bt∨∃ b,kv= .ptr b 0 0 0∧b<H.length):aq Tryz.prog G 48 [kv,.str s,e.sv] H (fun r H'=>H'=H++[.cells 0 10 [.agg (kv:: .str s::e.cells)]]∧r= .ptr H.length 0 0 0):=by
 have hu:=e.au
 have hut:=e.ao
 have huu:=e.aw H.length
 rw[show e.sv= .agg e.cells from rfl] at*
 generalize e.cells=xs at*
 rcases hkv with rfl|⟨b,rfl,hb⟩
 ·refine bP [] Tryz.func48 Tryz.ntmps48 fun C R' hR hC hcl hB hC' X=>?_
  have X:=fc aO hu hut
  (refine run ?_)
  simp only[List.append_nil]
  exact gD [(H.length+1,0)] (.ptr H.length 0 0 0) [.cells 0 10 [.agg (.bt:: .str s::xs)]] hR hC' hcl ⟨rfl,rfl⟩
 ·refine bP [] Tryz.func48 Tryz.ntmps48 fun C R' hR hC hcl hB hC' X=>?_
  have X:=fc aO hu hut
  (refine run ?_)
  simp only[List.append_nil]
  exact gD [(H.length+1,0)] (.ptr H.length 0 0 0) [.cells 0 10 [.agg (.ptr b 0 0 0:: .str s::xs)]] hR hC' hcl ⟨rfl,rfl⟩
theorem JP (G:Gl) (hG:ah G) (kv:SV) (k:Kn) (t:aD) (H:List av) (hk:fy H kv k):aq Tryz.prog G 135 [kv,.str t] H (fun r H'=>H'=H∧r= .tuple [((E6 k t).getD jM).sv,.bool (E6 k t).isSome]):=by
 obtain⟨hlf,hlu⟩:=hk.leaf
 refine bP [] Tryz.func135 Tryz.ntmps135 fun C R' hR hC hcl hB hC' X=>?_
 have X:=And.intro aO hlf
 (refine run ?_)
 refine aA (fun a:SV×Kn=>[(0,a.1),(1,.str t),(4,.ptr H.length 0 0 0),(5,.bool false)]) (fun _=>H++[.cells 0 8 [.agg [.int .i64 0,.str [],.int .i64 0,.int .i64 0,.list 1 [],.list 8 [],.list 9 [],.list 12 []]]]) (fun a=>a.2.length) (fun a=>fy H a.1 a.2∧E6 k t=E6 a.2 t) (kv,k) ⟨hk,rfl⟩ ?_ ?_
 ·exact bI (n0:=H.length) [(H.length,0)] hG hB hC' hcl
 rintro K ⟨kv,k2⟩ ⟨h1,h2⟩ hK
 dsimp only at h1 h2 ⊢
 rw[h2] at hR
 cases k2 with
 |nil=>
  obtain rfl:=h1
  simp only[E6,Option.getD_none,Option.isSome_none] at hR
  clear hK
  have X:=aO
  (refine run ?_)
  exact aZ (n0:=H.length) hR hC' hcl (.same _ rfl) ⟨rfl,rfl⟩
 |cons p r=>
  obtain⟨s,e⟩:=p
  obtain⟨b,kv',rfl,hb1,hb2⟩:=h1
  obtain⟨hlf',hlu'⟩:=hb2.leaf
  have hbl:=(List.getElem?_eq_some_iff.1 hb1).1
  have hbx:=fun L=>(show(H++L)[b]? =some (.cells 0 10 [.agg (kv':: .str s::e.cells)]) by rw[dx hbl];exact hb1)
  have hu:=e.au
  have hut:=e.ao
  have huu:=e.aw H.length
  have hkn:E6 ((s,e)::r) t=if s=t then some e else E6 r t:=rfl
  rw[hkn] at hR
  by_cases hst:s=t
  ·rw[if_pos hst] at hR
   simp only[Option.getD_some,Option.isSome_some] at hR
   rw[show e.sv= .agg e.cells from rfl] at hR
   generalize e.cells=xs at*
   clear hK
   have X:=j8 aO hst hbx hu hut
   (refine run ?_)
   exact aZ (n0:=H.length) hR hC' hcl (.same _ (by simp only[aC,SV.under,SV.aj,huu,Bool.and_self])) ⟨rfl,rfl⟩
  ·rw[if_neg hst] at hR
   rw[hkn,if_neg hst] at h2
   generalize e.cells=xs at*
   rcases hb2.form with rfl|⟨b2,rfl,hb2l⟩
   ·have X:=j8 aO hst hbx hu hut
    (refine run ?_)
    refine hK _ _ (.bt,r) (by simp only[List.length_cons];omega) ⟨hb2,h2⟩ ?_
    dsimp only
    exact bI (n0:=H.length) [(H.length,0)] hG hB hC' hcl
   ·have X:=j8 aO hst hbx hu hut
    (refine run ?_)
    refine hK _ _ (.ptr b2 0 0 0,r) (by simp only[List.length_cons];omega) ⟨hb2,h2⟩ ?_
    dsimp only
    exact bI (n0:=H.length) [(H.length,0)] hG hB hC' hcl
section
def jN (kd nn op:Int) (nm nl sl bl al:Nat) (ar:Int):Prop:=
 (1≤kd∧kd≤8)∧(nm=0∨kd=1∨kd=6∨kd=7)∧(nn=0∨kd=2)∧(op=0∨kd=8)∧(nl=0∨kd=3)∧(bl=0∨kd=5)∧(al=0∨kd=6)∧(sl=1∨¬ (kd=3∨kd=5∨kd=6))∧(sl=0∨¬ (kd=1∨kd=2))∧(0≤ar∨¬ kd=8)
theorem Fs {α:Type} (l:List α):(l=[])=(l.length=0):=by rw[List.length_eq_zero_iff]
theorem nk (kd:Int) (nm:aD) (nn op:Int) (names:List aD) (ae:List Ex) (binds:List Bd) (alts:List Al):
 (sU (.mk kd nm nn op names ae binds alts)=true)↔(jN kd nn op nm.length names.length ae.length binds.length alts.length (kZ op)∧alts.any gb=false):=by
 generalize hq:alts.any gb=q
 have h0:sU (.mk kd nm nn op names ae binds alts)=if kd=1 then !mc true false false false false false 0 (.mk kd nm nn op names ae binds alts)&&!q
  else if kd=2 then !mc false false false false false true 0 (.mk kd nm nn op names ae binds alts)&&!q
  else if kd=3 then !mc false true false false false false 1 (.mk kd nm nn op names ae binds alts)&&!q
  else if kd=4 then !mc false false false false false false (-1) (.mk kd nm nn op names ae binds alts)&&!q
  else if kd=5 then !mc false false true false false false 1 (.mk kd nm nn op names ae binds alts)&&!q
  else if kd=6 then !mc true false false true false false 1 (.mk kd nm nn op names ae binds alts)&&!q
  else if kd=7 then !mc true false false false false false (-1) (.mk kd nm nn op names ae binds alts)&&!q
  else if kd=8 then !mc false false false false true false (-1) (.mk kd nm nn op names ae binds alts)&&!q
  else false:=by rw[← hq];rfl
 rw[h0]
 clear h0 hq
 simp only[mc,Fs]
 generalize kZ op=ar
 generalize nm.length=nml
 generalize names.length=nal
 generalize ae.length=sul
 generalize binds.length=bil
 generalize alts.length=all
 unfold jN
 cases q
 ·simp only[Bool.not_false,Bool.and_true,and_true]
  by_cases h1:kd=1
  ·subst h1;simp;omega
  by_cases h2:kd=2
  ·subst h2;simp;omega
  by_cases h3:kd=3
  ·subst h3;simp;omega
  by_cases h4:kd=4
  ·subst h4;simp;omega
  by_cases h5:kd=5
  ·subst h5;simp;omega
  by_cases h6:kd=6
  ·subst h6;simp;omega
  by_cases h7:kd=7
  ·subst h7;simp;omega
  by_cases h8:kd=8
  ·subst h8;simp;omega
  simp only[h1,h2,h3,h4,h5,h6,h7,h8,if_false,Bool.false_eq_true,false_iff]
  omega
 ·simp
def Li (k n:Int) (nm nl:Nat):Prop:=¬ ((1≤k∧k≤3)∧(k=1∨(nm=0∧nl=0))∧(k=2∨n=0))
theorem rh (a:Al):(gb a=true)↔Li a.kind a.n a.name.length a.names.length:=by
 unfold gb Li
 simp only[Fs]
 generalize a.name.length=nml
 generalize a.names.length=nal
 by_cases h1:a.kind=1
 ·rw[if_pos h1];simp;omega
 by_cases h2:a.kind=2
 ·rw[if_neg h1,if_pos h2];simp;omega
 by_cases h3:a.kind=3
 ·rw[if_neg h1,if_neg h2,if_pos h3];simp;omega
 rw[if_neg h1,if_neg h2,if_neg h3]
 simp only[true_iff]
 omega
structure Sh (cs:List Cn) (e:Ex):Prop where
 Ap:eM sU e=true
 wy:eM (l9 cs) e=true
theorem Sh.part {cs:List Cn} {e p:Ex} (h:Sh cs e) (hp:p∈e.parts):Sh cs p:=by
 obtain⟨h1,h2⟩:=h
 rw[dk,Bool.and_eq_true,List.all_eq_true] at h1 h2
 exact⟨h1.2 p hp,h2.2 p hp⟩
section
variable {cs:List Cn} {kd nn op:Int} {nm:aD} {names:List aD} {ae:List Ex} {binds:List Bd} {alts:List Al}
theorem Sh.sub (h:Sh cs (.mk kd nm nn op names ae binds alts)) {x:Ex} (hx:x∈ae):Sh cs x:=h.part (List.mem_append_left _ hx)
theorem Sh.bind (h:Sh cs (.mk kd nm nn op names ae binds alts)) {x:Bd} (hx:x∈binds):Sh cs x.e:=h.part (List.mem_append_right _ (List.mem_append_left _ (List.mem_map_of_mem hx)))
theorem Sh.alt (h:Sh cs (.mk kd nm nn op names ae binds alts)) {x:Al} (hx:x∈alts):Sh cs x.body:=h.part (List.mem_append_right _ (List.mem_append_right _ (List.mem_map_of_mem hx)))
theorem Sh.node (h:Sh cs (.mk kd nm nn op names ae binds alts)):jN kd nn op nm.length names.length ae.length binds.length alts.length (kZ op):=by
 have h1:=h.Ap
 rw[dk,Bool.and_eq_true] at h1
 exact((nk ..).1 h1.1).1
theorem Sh.app (h:Sh cs (.mk 4 nm nn op names ae binds alts)):1<ae.length:=by
 have h1:=h.wy
 rw[dk,Bool.and_eq_true] at h1
 have h2:=h1.1
 simp only[l9,Ex.kind,Ex.ae] at h2
 rw[if_neg (by omega),if_pos trivial] at h2
 exact of_decide_eq_true h2
end
end
section
mutual
def ms (w:Ex→Nat):Ex→Nat
 | .mk k s n o ns ae binds alts=>w (.mk k s n o ns ae binds alts)+eF w ae+dp w binds+eO w alts
def eF (w:Ex→Nat):List Ex→Nat
 |[]=>0
 |e::r=>ms w e+eF w r
def Ou (w:Ex→Nat):Bd→Nat
 | .mk _ e=>ms w e
def dp (w:Ex→Nat):List Bd→Nat
 |[]=>0
 |b::r=>Ou w b+dp w r
def Ov (w:Ex→Nat):Al→Nat
 | .mk _ _ _ _ e=>ms w e
def eO (w:Ex→Nat):List Al→Nat
 |[]=>0
 |a::r=>Ov w a+eO w r
end
section
variable (w:Ex→Nat)
theorem fS (b:Bd):Ou w b=ms w b.e:=by cases b;rw[Ou];rfl
theorem ko (a:Al):Ov w a=ms w a.body:=by cases a;rw[Ov];rfl
theorem qE:∀ l:List Ex,eF w l=(l.map (ms w)).sum
 |[]=>by simp[eF]
 |e::r=>by simp only[eF,List.map_cons,List.sum_cons,qE r]
theorem gT:∀ l:List Bd,dp w l=(l.map fun b=>ms w b.e).sum
 |[]=>by simp[dp]
 |b::r=>by simp only[dp,fS,List.map_cons,List.sum_cons,gT r]
theorem zH:∀ l:List Al,eO w l=(l.map fun a=>ms w a.body).sum
 |[]=>by simp[eO]
 |a::r=>by simp only[eO,ko,List.map_cons,List.sum_cons,zH r]
theorem Ce (k:Int) (s:aD) (n o:Int) (ns:List aD) (ae:List Ex) (binds:List Bd) (alts:List Al):
 ms w (.mk k s n o ns ae binds alts)=w (.mk k s n o ns ae binds alts)+eF w ae+dp w binds+eO w alts:=by rw[ms]
theorem Np (e:Ex):w e≤ms w e:=by cases e;rw[ms];omega
theorem Mt {l:List Bd} {x:Bd} (h:x∈l):ms w x.e≤dp w l:=by
 induction l with
 |nil=>cases h
 |cons y r ih=>
  rw[dp,fS]
  rcases List.mem_cons.1 h with rfl|h
  ·omega
  ·have:=ih h;omega
theorem Mu (a b:List Ex):eF w (a++b)=eF w a+eF w b:=by simp[qE]
theorem Ms (a b:List Bd):dp w (a++b)=dp w a+dp w b:=by simp[gT]
end
def cV (b:Ex):Bool:=decide (b.kind=1)||okB b
def fw (c K:Nat) (f:Ex→Bool):List Al→Nat
 |[]=>0
 |a::r=>c*(1+a.names.length)+(if f a.body then K else 0)+fw c K f r
def wO (c K:Nat) (e:Ex):Nat:=c+e.names.length+c*e.binds.length+fw c K cV e.alts
def oL:List Al→Nat
 |[]=>0
 |a::r=>1+a.names.length+oL r
def wI (c K:Nat) (e:Ex):Nat:=c+e.names.length+2*(c*e.binds.length)+(fw c K (fun _=>true) e.alts+oL e.alts)
abbrev mO (c K:Nat):Ex→Nat:=ms (wO c K)
abbrev mI (c K:Nat):Ex→Nat:=ms (wI c K)
theorem rG {c K:Nat}:∀ l:List Al,fw c K cV l≤fw c K (fun _=>true) l
 |[]=>Nat.le_refl _
 |a::r=>by
  have:=rG (c:=c) (K:=K) r
  simp only[fw,if_true]
  split<;>omega
theorem Fj {c K:Nat} {f:Ex→Bool} {q:Al→Al}:∀ (l:List Al),(∀ a∈l,(q a).names=a.names∧(f (q a).body=true→f a.body=true))→fw c K f (l.map q)≤fw c K f l
 |[],_=>Nat.le_refl _
 |a::r,h=>by
  have h1:=h a (List.mem_cons_self ..)
  have h2:=Fj (c:=c) (K:=K) r fun x hx=>h x (List.mem_cons_of_mem _ hx)
  simp only[List.map_cons,fw,h1.1]
  cases hb:f a.body
  ·cases hq:f (q a).body
   ·simp only[Bool.false_eq_true,if_false];omega
   ·have:=h1.2 hq;rw[hb] at this;cases this
  ·simp only[if_true]
   split<;>omega
theorem J9 (s:aD) (r:Ex) (m:Nat) (e:Ex) (h:e.kind≠1):(dK s r m e).kind=e.kind∧(dK s r m e).op=e.op:=by
 obtain⟨k,nm,n,o,ns,ae,binds,alts⟩:=e
 cases m with
 |zero=>exact⟨rfl,rfl⟩
 |succ m=>have h:¬ k=1:=h;rw[dK,if_neg h];exact⟨rfl,rfl⟩
theorem JU (s:aD) (r:Ex) (m:Nat) (e:Ex) (h:cV (dK s r m e)=true):cV e=true:=by
 by_cases hk:e.kind=1
 ·simp[cV,hk]
 ·obtain⟨h1,h2⟩:=J9 s r m e hk
  simp only[cV,okB,cu,h1,h2] at h ⊢
  exact h
theorem vL {cs:List Cn} {kd nn op:Int} {nm:aD} {names:List aD} {ae:List Ex} {binds:List Bd} {alts:List Al} (h:Sh cs (.mk kd nm nn op names ae binds alts)):
 (kd≠3→names=[])∧(kd≠5→binds=[])∧(kd≠6→alts=[])∧(kd=1∨kd=2→ae=[])∧(kd=3∨kd=5∨kd=6→ae.length=1)∧(1≤kd∧kd≤8):=by
 have h1:=h.node
 unfold jN at h1
 refine⟨fun h=>?_,fun h=>?_,fun h=>?_,fun h=>?_,fun h=>?_,?_⟩
 ·exact List.length_eq_zero_iff.1 (by omega)
 ·exact List.length_eq_zero_iff.1 (by omega)
 ·exact List.length_eq_zero_iff.1 (by omega)
 ·exact List.length_eq_zero_iff.1 (by omega)
 ·omega
 ·omega
theorem vw {cs:List Cn} (c K:Nat) (s:aD) (r:Ex):∀ (m:Nat) (e:Ex),e.wt≤m→Sh cs e→mO c K (dK s r m e)+c*gU s e≤mO c K e+gU s e*mO c K r
 |0,e,h,_=>absurd e.bZ (by omega)
 |m+1,.mk kd nm nn op names ae binds alts,hm,hs=>by
  have hP:(Ex.mk kd nm nn op names ae binds alts).parts=ae++(binds.map Bd.e++alts.map Al.body):=Ex.ck ..
  have hwp:∀ p∈(Ex.mk kd nm nn op names ae binds alts).parts,p.wt≤m:=fun p hp=>by have:=Ex.cm hp;omega
  have hrec:∀ p∈(Ex.mk kd nm nn op names ae binds alts).parts,mO c K (dK s r m p)+c*gU s p≤mO c K p+gU s p*mO c K r:=fun p hp=>vw c K s r m p (hwp p hp) (hs.part hp)
  rw[hP] at hrec
  have hL:∀ l:List Ex,(∀ p∈l,mO c K (dK s r m p)+c*gU s p≤mO c K p+gU s p*mO c K r)→eF (wO c K) (l.map fun x=>dK s r m x)+c*qI s l≤eF (wO c K) l+qI s l*mO c K r:=fun l=>by
   induction l with
   |nil=>simp[eF,qI]
   |cons x t ih=>
    intro h
    have h1:=h x (List.mem_cons_self ..)
    have h2:=ih fun p hp=>h p (List.mem_cons_of_mem _ hp)
    simp only[List.map_cons,eF,qI,Nat.mul_add,Nat.add_mul,mO] at h1 h2 ⊢
    omega
  have hB:∀ l:List Bd,(∀ p∈l,mO c K (dK s r m p.e)+c*gU s p.e≤mO c K p.e+gU s p.e*mO c K r)→dp (wO c K) (l.map fun b=> .mk b.name (dK s r m b.e))+c*qH s l≤dp (wO c K) l+qH s l*mO c K r:=fun l=>by
   induction l with
   |nil=>simp[dp,qH]
   |cons x t ih=>
    intro h
    have h1:=h x (List.mem_cons_self ..)
    have h2:=ih fun p hp=>h p (List.mem_cons_of_mem _ hp)
    simp only[List.map_cons,dp,fS,qH,Cs,Bd.e,Nat.mul_add,Nat.add_mul,mO] at h1 h2 ⊢
    omega
  have hA:∀ l:List Al,(∀ p∈l,mO c K (dK s r m p.body)+c*gU s p.body≤mO c K p.body+gU s p.body*mO c K r)→
   eO (wO c K) (l.map fun a=> .mk a.kind a.name a.n a.names (if s∈fz kd nm a.names then a.body else dK s r m a.body))+c*mZ s (kd=6∧nm=s) l≤eO (wO c K) l+mZ s (kd=6∧nm=s) l*mO c K r:=fun l=>by
   induction l with
   |nil=>simp[eO,mZ]
   |cons x t ih=>
    intro h
    have h1:=h x (List.mem_cons_self ..)
    have h2:=ih fun p hp=>h p (List.mem_cons_of_mem _ hp)
    have ho:(s∈fz kd nm x.names)↔(s∈x.names∨(kd=6∧nm=s)):=by
     unfold fz
     rw[List.mem_append]
     by_cases h6:kd=6
     ·simp[h6,eq_comm]
     ·simp[h6]
    simp only[List.map_cons,eO,ko,mZ,Cq,Al.body,Nat.mul_add,Nat.add_mul,ho,mO] at h1 h2 ⊢
    by_cases hx:s∈x.names∨(kd=6∧nm=s)
    ·simp only[if_pos hx,Nat.mul_zero,Nat.zero_mul];omega
    ·simp only[if_neg hx];omega
  have lA:=Fj (c:=c) (K:=K) (f:=cV) (q:=fun a=> .mk a.kind a.name a.n a.names (if s∈fz kd nm a.names then a.body else dK s r m a.body)) alts (fun a _=>⟨rfl,fun h=>by
   simp only[Al.body] at h ⊢
   split at h
   ·exact h
   ·exact JU s r m _ h⟩)
  have hs1:=fun p hp=>hrec p (List.mem_append_left _ hp)
  have hs2:=fun(p:Bd) (hp:p∈binds)=>hrec p.e (List.mem_append_right _ (List.mem_append_left _ (List.mem_map_of_mem hp)))
  have hs3:=fun(p:Al) (hp:p∈alts)=>hrec p.body (List.mem_append_right _ (List.mem_append_right _ (List.mem_map_of_mem hp)))
  have hA:=hA alts hs3
  have hB:=hB binds hs2
  have hL:=hL ae hs1
  obtain⟨q1,q2,q3,q4,q5,q6⟩:=vL hs
  rw[dK]
  simp only[gU]
  by_cases hk:kd=1
  ·rw[if_pos hk,if_pos hk]
   by_cases hn:nm=s
   ·rw[if_pos hn,if_pos hn]
    have hg:=Np (wO c K) (.mk kd nm nn op names ae binds alts)
    have:c≤wO c K (.mk kd nm nn op names ae binds alts):=by unfold wO;omega
    simp only[Nat.mul_one,Nat.one_mul,mO]
    omega
   ·rw[if_neg hn,if_neg hn]
    simp
  rw[if_neg hk,if_neg hk]
  by_cases ho:s∈cA kd names binds
  ·rw[if_pos ho]
   simp only[if_pos ho,Nat.mul_zero,Nat.zero_mul,Nat.add_zero]
   have ha:alts=[]:=q3 (fun h6=>by simp[cA,h6] at ho)
   subst ha
   have hid:binds.map (fun b=>Bd.mk b.name b.e)=binds:=by
    rw[show(fun b:Bd=>Bd.mk b.name b.e)=id from funext Bd.JA,List.map_id]
   simp[hid]
  ·rw[if_neg ho]
   simp only[if_neg ho,Ce,wO,Ex.names,Ex.binds,Ex.alts,List.length_map,Nat.mul_add,Nat.add_mul,mO] at hL hB hA lA ⊢
   omega
end
section
def oA (a:Al):Al:=setBody a jM
theorem dL (a:Al) (e:Ex):(setBody a e).body=e:=by cases a;rfl
theorem jB (a:Al) (e:Ex):oA (setBody a e)=oA a:=by cases a;rfl
theorem ky (a:Al) (e:Ex):(setBody a e).names=a.names:=by cases a;rfl
theorem Ma (a:Al):gb (oA a)=gb a:=by cases a;rfl
theorem kP (a:Al):(oA a).names=a.names:=by cases a;rfl
theorem I0 (a:Al):(oA a).kind=a.kind:=by cases a;rfl
theorem I1 (a:Al):(oA a).name=a.name:=by cases a;rfl
theorem HG {q:Al→Bool} (hq:∀ a,q (oA a)=q a):∀ (l l':List Al),l.map oA=l'.map oA→l.any q=l'.any q:=fun l l' h=>by
 have h1:∀ l:List Al,l.any q=(l.map oA).any q:=fun l=>by
  rw[List.any_map]
  congr 1
  funext a
  exact(hq a).symm
 rw[h1 l,h1 l',h]
def oE (l:List Al):Bool:=l.any gb
def ox (cs:List Cn) (l:List Al):Bool:=l.any fun a=>decide (a.kind=1)&&!ew cs a.name a.names.length
theorem HN {l l':List Al} (h:l.map oA=l'.map oA):oE l=oE l':=HG Ma l l' h
theorem LH (cs:List Cn) {l l':List Al} (h:l.map oA=l'.map oA):ox cs l=ox cs l':=HG (fun a=>by simp only[I0,I1,kP]) l l' h
def iH (cs:List Cn) (kd:Int) (nm:aD) (op:Int) (nl sl bl:Nat):Prop:=
 (kd=3→0<nl)∧(kd=4→1<sl)∧(kd=5→0<bl)∧(kd=7→ew cs nm sl=true)∧(kd=8→(sl:Int)=kZ op)
theorem BD (cs:List Cn) (kd:Int) (nm:aD) (nn op:Int) (names:List aD) (ae:List Ex) (binds:List Bd) (alts:List Al) (h:kd≠6→alts=[]):
 l9 cs (.mk kd nm nn op names ae binds alts)=true↔(iH cs kd nm op names.length ae.length binds.length∧ox cs alts=false):=by
 unfold iH
 by_cases h3:kd=3
 ·have:=h (by omega);subst this;(subst h3;simp[l9,Ex.kind,Ex.names,ox];try exact decide_eq_true_iff)
 by_cases h4:kd=4
 ·have:=h (by omega);subst this;(subst h4;simp[l9,Ex.kind,Ex.ae,ox];try exact decide_eq_true_iff)
 by_cases h5:kd=5
 ·have:=h (by omega);subst this;(subst h5;simp[l9,Ex.kind,Ex.binds,ox];try exact decide_eq_true_iff)
 by_cases h7:kd=7
 ·have:=h (by omega);subst this;subst h7;simp[l9,Ex.kind,Ex.ae,Ex.name,ox]
 by_cases h8:kd=8
 ·have:=h (by omega);subst this;(subst h8;simp[l9,Ex.kind,Ex.ae,Ex.op,ox];try exact decide_eq_true_iff)
 rw[l9]
 simp only[Ex.kind,h3,h4,h5,h7,h8,if_false,Ex.alts,false_implies,true_and]
 rw[show(alts.any fun a=>decide (a.kind=1)&&!ew cs a.name (a.names.length:Int))=ox cs alts from rfl]
 simp
def BP (P:aD→Prop) (e:Ex):Prop:=∀ s∈iF e,P s
structure Gd (cs:List Cn) (P:aD→Prop) (e:Ex):Prop where
 sh:Sh cs e
 bp:BP P e
structure Loc (cs:List Cn) (P:aD→Prop) (kd nn op:Int) (nm:aD) (names:List aD) (sl:Nat) (bns:List aD) (alts:List Al):Prop where
 Ap:jN kd nn op nm.length names.length sl bns.length alts.length (kZ op)
 bad:oE alts=false
 wy:iH cs kd nm op names.length sl bns.length
 Qv:ox cs alts=false
 pn:kd=3→∀ s∈names,P s
 pb:∀ s∈bns,P s
 pm:kd=6→P nm
 pa:∀ a∈alts,∀ s∈a.names,P s
theorem Loc.xD {cs:List Cn} {P:aD→Prop} {kd nn op:Int} {nm:aD} {names:List aD} {sl:Nat} {bns:List aD} {alts alts':List Al} (h:Loc cs P kd nn op nm names sl bns alts) (hh:alts'.map oA=alts.map oA):
 Loc cs P kd nn op nm names sl bns alts':=by
 have hl:alts'.length=alts.length:=by have:=congrArg List.length hh;simpa using this
 refine⟨by rw[hl];exact h.Ap,(HN hh).trans h.bad,h.wy,(LH cs hh).trans h.Qv,h.pn,h.pb,h.pm,fun a ha s hs=>?_⟩
 have h1:oA a∈alts.map oA:=by rw[← hh];exact List.mem_map_of_mem ha
 obtain⟨b,hb,he⟩:=List.mem_map.1 h1
 exact h.pa b hb s (by rw[← kP b,he,kP];exact hs)
theorem cO (cs:List Cn) (P:aD→Prop) (kd:Int) (nm:aD) (nn op:Int) (names:List aD) (ae:List Ex) (binds:List Bd) (alts:List Al):
 Gd cs P (.mk kd nm nn op names ae binds alts)↔(Loc cs P kd nn op nm names ae.length (binds.map Bd.name) alts∧(∀ x∈ae,Gd cs P x)∧(∀ b∈binds,Gd cs P b.e)∧(∀ a∈alts,Gd cs P a.body)):=by
 constructor
 ·intro h
  obtain⟨h1,h2⟩:=h
  have hn:=h1.node
  have hk6:kd≠6→alts=[]:=(vL h1).2.2.1
  have hf:l9 cs (.mk kd nm nn op names ae binds alts)=true:=by have:=h1.wy;rw[dk,Bool.and_eq_true] at this;exact this.1
  have hb:oE alts=false:=by have:=h1.Ap;rw[dk,Bool.and_eq_true] at this;exact((nk ..).1 this.1).2
  obtain⟨f1,f2⟩:=(BD cs kd nm nn op names ae binds alts hk6).1 hf
  unfold BP at h2
  rw[la] at h2
  simp only[List.mem_append,List.mem_flatMap] at h2
  refine⟨⟨by simpa using hn,hb,by simpa using f1,f2,fun h3 s hs=>h2 s (by rw[if_pos h3];exact .inl (.inl (.inl (.inl hs)))),fun s hs=>?_,fun h6=>h2 nm (by rw[if_pos h6];exact .inl (.inr (List.mem_singleton_self _))),fun a ha s hs=>h2 s (.inr ⟨a,ha,.inl hs⟩)⟩,
   fun x hx=>⟨h1.sub hx,fun s hs=>h2 s (.inl (.inl (.inl (.inr ⟨x,hx,hs⟩))))⟩,fun b hb=>⟨h1.bind hb,fun s hs=>h2 s (.inl (.inl (.inr ⟨b,hb,List.mem_cons_of_mem _ hs⟩)))⟩,fun a ha=>⟨h1.alt ha,fun s hs=>h2 s (.inr ⟨a,ha,.inr hs⟩)⟩⟩
  obtain⟨b,hb,rfl⟩:=List.mem_map.1 hs
  exact h2 _ (.inl (.inl (.inr ⟨b,hb,List.mem_cons_self ..⟩)))
 ·rintro⟨h0,h1,h2,h3⟩
  have hshp:=h0.Ap
  have hful:=h0.wy
  rw[List.length_map] at hshp hful
  have hk6:kd≠6→alts=[]:=fun h=>List.length_eq_zero_iff.1 (by unfold jN at hshp;omega)
  refine⟨⟨?_,?_⟩,?_⟩
  ·rw[dk,Bool.and_eq_true,List.all_eq_true,Ex.ck]
   refine⟨(nk ..).2 ⟨hshp,h0.bad⟩,fun p hp=>?_⟩
   simp only[List.mem_append,List.mem_map] at hp
   rcases hp with hp|⟨b,hb,rfl⟩|⟨a,ha,rfl⟩
   ·exact(h1 p hp).sh.Ap
   ·exact(h2 b hb).sh.Ap
   ·exact(h3 a ha).sh.Ap
  ·rw[dk,Bool.and_eq_true,List.all_eq_true,Ex.ck]
   refine⟨(BD cs kd nm nn op names ae binds alts hk6).2 ⟨hful,h0.Qv⟩,fun p hp=>?_⟩
   simp only[List.mem_append,List.mem_map] at hp
   rcases hp with hp|⟨b,hb,rfl⟩|⟨a,ha,rfl⟩
   ·exact(h1 p hp).sh.wy
   ·exact(h2 b hb).sh.wy
   ·exact(h3 a ha).sh.wy
  ·intro s hs
   rw[la] at hs
   simp only[List.mem_append,List.mem_flatMap] at hs
   rcases hs with (((hs|⟨x,hx,hs⟩)|⟨b,hb,hs⟩)|hs)|⟨a,ha,hs⟩
   ·split at hs
    ·exact h0.pn ‹_› s hs
    ·cases hs
   ·exact(h1 x hx).bp s hs
   ·rcases List.mem_cons.1 hs with rfl|hs
    ·exact h0.pb _ (List.mem_map_of_mem hb)
    ·exact(h2 b hb).bp s hs
   ·split at hs
    ·rw[List.mem_singleton.1 hs];exact h0.pm ‹_›
    ·cases hs
   ·rcases hs with hs|hs
    ·exact h0.pa a ha s hs
    ·exact(h3 a ha).bp s hs
theorem Gd.loc {cs:List Cn} {P:aD→Prop} {e:Ex} (h:Gd cs P e):Loc cs P e.kind e.n e.op e.name e.names e.ae.length (e.binds.map Bd.name) e.alts:=by
 obtain⟨kd,nm,nn,op,names,ae,binds,alts⟩:=e
 exact((cO ..).1 h).1
theorem Gd.sub {cs:List Cn} {P:aD→Prop} {e:Ex} (h:Gd cs P e):∀ x∈e.ae,Gd cs P x:=by
 obtain⟨kd,nm,nn,op,names,ae,binds,alts⟩:=e
 exact((cO ..).1 h).2.1
theorem Gd.bind {cs:List Cn} {P:aD→Prop} {e:Ex} (h:Gd cs P e):∀ b∈e.binds,Gd cs P b.e:=by
 obtain⟨kd,nm,nn,op,names,ae,binds,alts⟩:=e
 exact((cO ..).1 h).2.2.1
theorem Gd.alt {cs:List Cn} {P:aD→Prop} {e:Ex} (h:Gd cs P e):∀ a∈e.alts,Gd cs P a.body:=by
 obtain⟨kd,nm,nn,op,names,ae,binds,alts⟩:=e
 exact((cO ..).1 h).2.2.2
theorem DG (cs:List Cn) (P:aD→Prop) (s:aD):Gd cs P (cX s):=by
 refine(cO ..).2 ⟨⟨by unfold jN;simp,rfl,by unfold iH;simp,rfl,by simp,by simp,by simp,by simp⟩,by simp,by simp,by simp⟩
theorem IK (cs:List Cn) (P:aD→Prop) (n:Int):Gd cs P (cI n):=by
 refine(cO ..).2 ⟨⟨by unfold jN;simp,rfl,by unfold iH;simp,rfl,by simp,by simp,by simp,by simp⟩,by simp,by simp,by simp⟩
theorem zh {cs:List Cn} {P:aD→Prop} {s:aD} {l:List Ex} (h:ew cs s l.length=true) (hl:∀ x∈l,Gd cs P x):Gd cs P (ed s l):=by
 refine(cO ..).2 ⟨⟨by unfold jN;simp,rfl,by unfold iH;simpa using h,rfl,by simp,by simp,by simp,by simp⟩,hl,by simp,by simp⟩
theorem DF {cs:List Cn} {P:aD→Prop} {ns:List aD} {b:Ex} (h:0<ns.length) (hp:∀ s∈ns,P s) (hb:Gd cs P b):Gd cs P (df ns b):=by
 refine(cO ..).2 ⟨⟨by unfold jN;simp,rfl,by unfold iH;simpa using h,rfl,fun _=>hp,by simp,by simp,by simp⟩,by simpa using hb,by simp,by simp⟩
theorem zg {cs:List Cn} {P:aD→Prop} {f:Ex} {l:List Ex} (h:0<l.length) (hf:Gd cs P f) (hl:∀ x∈l,Gd cs P x):Gd cs P (c8 f l):=by
 refine(cO ..).2 ⟨⟨by unfold jN;simp,rfl,by unfold iH;simpa using h,rfl,by simp,by simp,by simp,by simp⟩,fun x hx=>?_,by simp,by simp⟩
 rcases List.mem_cons.1 hx with rfl|hx
 ·exact hf
 ·exact hl x hx
theorem gF {cs:List Cn} {P:aD→Prop} {b:Ex} {bs:List Bd} (h:0<bs.length) (hb:Gd cs P b) (hl:∀ x∈bs,P x.name∧Gd cs P x.e):Gd cs P (letE b bs):=by
 refine(cO ..).2 ⟨⟨by unfold jN;simp,rfl,by unfold iH;simpa using h,rfl,by simp,fun s hs=>?_,by simp,by simp⟩,by simpa using hb,fun x hx=>(hl x hx).2,by simp⟩
 obtain⟨x,hx,rfl⟩:=List.mem_map.1 hs
 exact(hl x hx).1
theorem zi {cs:List Cn} {P:aD→Prop} (s:aD) {r:Ex} (hr:Gd cs P r):∀ (m:Nat) (e:Ex),Gd cs P e→Gd cs P (dK s r m e)
 |0,e,h=>h
 |m+1,.mk kd nm nn op names ae binds alts,h=>by
  have h0:=(cO ..).1 h
  obtain⟨hl,h1,h2,h3⟩:=h0
  rw[dK]
  by_cases hk:kd=1
  ·rw[if_pos hk]
   split
   ·exact hr
   ·exact h
  rw[if_neg hk]
  have hh:(alts.map fun a=>Al.mk a.kind a.name a.n a.names (if s∈fz kd nm a.names then a.body else dK s r m a.body)).map oA=alts.map oA:=by
   rw[List.map_map]
   refine List.map_congr_left fun a _=>?_
   cases a;rfl
  have hb:(binds.map fun b=>Bd.mk b.name (if s∈cA kd names binds then b.e else dK s r m b.e)).map Bd.name=binds.map Bd.name:=by
   rw[List.map_map]
   exact List.map_congr_left fun b _=>rfl
  refine(cO ..).2 ⟨?_,fun x hx=>?_,fun x hx=>?_,fun x hx=>?_⟩
  ·rw[List.length_map,hb]
   exact hl.xD hh
  ·obtain⟨y,hy,rfl⟩:=List.mem_map.1 hx
   split
   ·exact h1 y hy
   ·exact zi s hr m y (h1 y hy)
  ·obtain⟨y,hy,rfl⟩:=List.mem_map.1 hx
   simp only[Bd.e]
   split
   ·exact h2 y hy
   ·exact zi s hr m y.e (h2 y hy)
  ·obtain⟨y,hy,rfl⟩:=List.mem_map.1 hx
   simp only[Al.body]
   split
   ·exact h3 y hy
   ·exact zi s hr m y.body (h3 y hy)
theorem pX {cs:List Cn} {P:aD→Prop} (s:aD) {r e:Ex} (hr:Gd cs P r) (he:Gd cs P e):Gd cs P (cS s r e):=zi s hr _ e he
section
variable (c K:Nat)
theorem fx (k:Int) (s:aD) (n o:Int) (ns:List aD) (ae:List Ex) (binds:List Bd) (alts:List Al):
 mO c K (.mk k s n o ns ae binds alts)=c+ns.length+c*binds.length+fw c K cV alts+eF (wO c K) ae+dp (wO c K) binds+eO (wO c K) alts:=by simp only[mO,Ce,wO,Ex.names,Ex.binds,Ex.alts]
theorem Jv (s:aD):mO c K (cX s)=c:=by simp[cX,fx,fw,eF,dp,eO]
theorem Ot (n:Int):mO c K (cI n)=c:=by simp[cI,fx,fw,eF,dp,eO]
theorem DR (s:aD) (l:List Ex):mO c K (ed s l)=c+eF (wO c K) l:=by simp[ed,fx,fw,eF,dp,eO]
theorem zy (ns:List aD) (b:Ex):mO c K (df ns b)=c+ns.length+mO c K b:=by simp[df,fx,fw,eF,dp,eO]
theorem zx (f:Ex) (l:List Ex):mO c K (c8 f l)=c+mO c K f+eF (wO c K) l:=by simp only[c8,fx,fw,eF,dp,eO,mO,List.length_nil];omega
theorem fR (b:Ex) (bs:List Bd):mO c K (letE b bs)=c+c*bs.length+dp (wO c K) bs+mO c K b:=by simp only[letE,fx,fw,eF,dp,eO,mO,List.length_nil];omega
theorem xR (l:List aD):eF (wO c K) (bk l)=c*l.length:=by
 induction l with
 |nil=>simp[bk,eF]
 |cons s r ih=>
  have ih:eF (wO c K) (r.map cX)=c*r.length:=ih
  have h:=Jv c K s
  simp only[mO] at h
  simp only[bk,List.map_cons,eF,ih,h,List.length_cons,Nat.mul_add,Nat.mul_one]
  omega
theorem Mp {cs:List Cn} {P:aD→Prop} {r:Ex} (h:Gd cs P r) (ha:bU r=true):mO c K r=c:=by
 obtain⟨kd,nm,nn,op,names,ae,binds,alts⟩:=r
 have hk:kd=1∨kd=2:=by unfold bU at ha;rw[Bool.or_eq_true] at ha;exact ha.imp of_decide_eq_true of_decide_eq_true
 obtain⟨q1,q2,q3,q4,q5,q6⟩:=vL h.sh
 obtain rfl:=q1 (by omega)
 obtain rfl:=q2 (by omega)
 obtain rfl:=q3 (by omega)
 obtain rfl:=q4 hk
 simp[fx,fw,eF,dp,eO]
theorem Fm {cs:List Cn} {P:aD→Prop} (s:aD) (r:Ex) {e:Ex} (he:Gd cs P e):mO c K (cS s r e)+c*gU s e≤mO c K e+gU s e*mO c K r:=vw c K s r _ e (Nat.le_refl _) he.sh
theorem qC {cs:List Cn} {P:aD→Prop} (s:aD) {r e:Ex} (hr:Gd cs P r) (ha:bU r=true) (he:Gd cs P e):mO c K (cS s r e)≤mO c K e:=by
 have h:=Fm c K s r he
 rw[Mp c K hr ha,Nat.mul_comm (gU s e) c] at h
 omega
end
end
section
theorem JZ {α:Type} (f:α→Nat) {a b:List α} (h:a.Perm b):(a.map f).sum=(b.map f).sum:=by
 induction h with
 |nil=>rfl
 |cons x _ ih=>simp only[List.map_cons,List.sum_cons,ih]
 |swap x y l=>simp only[List.map_cons,List.sum_cons];omega
 |trans _ _ h1 h2=>exact h1.trans h2
theorem uu {α:Type} (f:α→Nat) (p:α→Bool):∀ l:List α,((l.filter p).map f).sum≤(l.map f).sum
 |[]=>Nat.le_refl _
 |x::r=>by
  have:=uu f p r
  rw[List.filter_cons]
  split
  ·simp only[List.map_cons,List.sum_cons];omega
  ·simp only[List.map_cons,List.sum_cons];omega
theorem GR (f:Bd→Nat) (bs:List Bd):((List.range bs.length).map fun i=>f (bs.getD i mY)).sum=(bs.map f).sum:=by
 congr 1
 refine List.ext_getElem (by simp) fun i h1 h2=>?_
 have h3:i<bs.length:=by simpa using h2
 simp[h3]
theorem J0 (f:Bd→Nat) (bs:List Bd) {l:List Nat} (hn:l.Nodup) (hl:∀ i∈l,i<bs.length):((cv bs l).map f).sum≤(bs.map f).sum:=by
 have hp:l.Perm ((List.range bs.length).filter fun i=>decide (i∈l)):=(List.perm_ext_iff_of_nodup hn (List.nodup_range.filter _)).2 fun i=>by
  simp only[List.mem_filter,List.mem_range,decide_eq_true_eq]
  exact⟨fun h=>⟨hl i h,h⟩,fun h=>h.2⟩
 rw[cv,List.map_map,JZ (f∘fun i=>bs.getD i mY) hp]
 exact Nat.le_trans (uu _ _ _) (Nat.le_of_eq (GR f bs))
theorem Cv {bs:List Bd} {l:List Nat} (hl:∀ i∈l,i<bs.length) {b:Bd} (h:b∈cv bs l):b∈bs:=by
 obtain⟨i,hi,rfl⟩:=List.mem_map.1 h
 have:=hl i hi
 rw[List.getD_eq_getElem?_getD,List.getElem?_eq_getElem this]
 exact List.getElem_mem _
theorem uX (binds:List Bd):∀ (f:Nat) (todo:List aD) (out:List Int),out.Nodup→(∀ i∈out,∃ j:Nat,i=(j:Int)∧j<binds.length)→(jt binds f todo out).Nodup∧∀ i∈jt binds f todo out,∃ j:Nat,i=(j:Int)∧j<binds.length
 |0,_,out,h1,h2=>⟨h1,h2⟩
 |f+1,[],out,h1,h2=>⟨h1,h2⟩
 |f+1,s::rest,out,h1,h2=>by
  rw[jt]
  split
  ·rename_i h
   obtain⟨j,hj,hg⟩:=zl (binds.map Bd.name) 0 s h.1
   have hjl:j<binds.length:=by have:=(List.getElem?_eq_some_iff.1 hg).1;simpa using this
   refine uX binds f _ _ (List.nodup_append.2 ⟨h1,by simp,?_⟩) fun i hi=>?_
   ·intro a ha b hb e
    rw[List.mem_singleton] at hb
    subst hb;subst e
    exact h.2 ha
   ·rcases List.mem_append.1 hi with hi|hi
    ·exact h2 i hi
    ·rw[List.mem_singleton.1 hi,hj]
     exact⟨0+j,rfl,by omega⟩
  ·exact uX binds f _ _ h1 h2
theorem B5 (body:Ex) (binds:List Bd):(dB body binds).Nodup∧∀ i∈dB body binds,∃ j:Nat,i=(j:Int)∧j<binds.length:=by
 have h:=uX binds ((de body).length+me binds []) (de body) [] List.nodup_nil (by simp)
 have hp:(dB body binds).Perm (jt binds ((de body).length+me binds []) (de body) []):=List.mergeSort_perm _ _
 exact⟨hp.nodup_iff.2 h.1,fun i hi=>h.2 i (hp.mem_iff.1 hi)⟩
theorem mW (body:Ex) (binds:List Bd):((dB body binds).map Int.toNat).Nodup∧(∀ i∈(dB body binds).map Int.toNat,i<binds.length)∧(dB body binds).length≤binds.length:=by
 obtain⟨h1,h2⟩:=B5 body binds
 have h3:((dB body binds).map Int.toNat).Nodup:=by
  refine List.pairwise_map.2 (h1.imp_of_mem fun {a b} ha hb hne e=>hne ?_)
  obtain⟨x,rfl,_⟩:=h2 a ha
  obtain⟨y,rfl,_⟩:=h2 b hb
  exact congrArg _ (by simpa using e)
 have h4:∀ i∈(dB body binds).map Int.toNat,i<binds.length:=fun i hi=>by
  obtain⟨a,ha,rfl⟩:=List.mem_map.1 hi
  obtain⟨x,rfl,hx⟩:=h2 a ha
  simpa using hx
 exact⟨h3,h4,by simpa using kl h3 h4⟩
theorem BH {n:Nat} {R:cP}:∀ (k:Nat) (D:Nat→Bool),∀ g∈fL n R k D,0<g.length
 |0,D,g,h=>by cases h
 |k+1,D,g,h=>by
  rw[fL] at h
  cases hf:(List.range n).find? (jy n R D) with
  |none=>rw[hf] at h;cases h
  |some i=>
   rw[hf] at h
   rcases List.mem_cons.1 h with rfl|h
   ·exact zj (List.mem_range.1 (List.mem_of_find?_eq_some hf))
   ·exact BH k _ g h
theorem mK (bs:List Bd):(gj bs.length (jz bs)).flatten.Nodup∧(∀ i∈(gj bs.length (jz bs)).flatten,i<bs.length)∧∀ g∈gj bs.length (jz bs),0<g.length:=by
 have h:=Gu (zV bs)
 refine⟨List.pairwise_flatten.2 ⟨fun g hg=>?_,List.pairwise_iff_getElem.2 fun i j hi hj hij x hx y hy e=>?_⟩,fun i hi=>?_,fun g hg=>BH _ _ g hg⟩
 ·obtain⟨i,hi⟩:=List.mem_iff_getElem?.1 hg
  exact(h.ri i g hi).imp fun hlt e=>by omega
 ·subst e
  exact h.dj i j _ _ hij (List.getElem?_eq_getElem hi) (List.getElem?_eq_getElem hj) x hx hy
 ·obtain⟨g,hg,hi⟩:=List.mem_flatten.1 hi
  obtain⟨p,hp⟩:=List.mem_iff_getElem?.1 hg
  exact(h.nw p g hp i hi).1
theorem uW:∀ gs:List (List Nat),(∀ g∈gs,0<g.length)→gs.length≤gs.flatten.length
 |[],_=>Nat.le_refl _
 |g::r,h=>by
  have h1:=h g (List.mem_cons_self ..)
  have h2:=uW r fun x hx=>h x (List.mem_cons_of_mem _ hx)
  simp only[List.length_cons,List.flatten_cons,List.length_append];omega
section
variable {cs:List Cn} {P:aD→Prop} {c K:Nat}
theorem Cd (bs:List Bd) {l:List Nat} (hn:l.Nodup) (hl:∀ i∈l,i<bs.length):dp (wO c K) (cv bs l)≤dp (wO c K) bs:=by
 rw[gT,gT]
 exact J0 _ bs hn hl
theorem Fl (body:Ex) (bs:List Bd):∀ gs:List (List Nat),mO c K (lets (gs.map (cv bs)) body)=c*gs.length+c*gs.flatten.length+dp (wO c K) (cv bs gs.flatten)+mO c K body
 |[]=>by simp[lets,cv,dp]
 |g::r=>by
  have h1:lets ((g::r).map (cv bs)) body=letE (lets (r.map (cv bs)) body) (cv bs g):=rfl
  have hl:(cv bs g).length=g.length:=by simp[cv]
  have hp:cv bs (g::r).flatten=cv bs g++cv bs r.flatten:=by simp[cv]
  rw[h1,fR,Fl body bs r,hp,Ms,hl]
  simp only[List.length_cons,List.flatten_cons,List.length_append,Nat.mul_add,Nat.mul_one]
  omega
theorem ES {body:Ex} {bs:List Bd} (hb:Gd cs P body) (hbs:∀ x∈bs,P x.name∧Gd cs P x.e):∀ gs:List (List Nat),(∀ g∈gs,0<g.length∧∀ i∈g,i<bs.length)→Gd cs P (lets (gs.map (cv bs)) body)
 |[],_=>hb
 |g::r,h=>by
  obtain⟨h1,h2⟩:=h g (List.mem_cons_self ..)
  exact gF (by simpa [cv] using h1) (ES hb hbs r fun x hx=>h x (List.mem_cons_of_mem _ hx)) fun x hx=>hbs x (Cv h2 hx)
theorem iJ {l:List Ex} (h:0<l.length):eH l∈l:=by
 cases l with
 |nil=>simp at h
 |cons x r=>exact List.mem_cons_self ..
theorem LR {bs:List Bd} {body:Ex} (hb:Gd cs P body) (hbs:∀ x∈bs,P x.name∧Gd cs P x.e) (hl:0<bs.length):Gd cs P (B4 bs body):=by
 obtain⟨h1,h2,h3⟩:=mW body bs
 obtain⟨g1,g2,g3⟩:=mK bs
 unfold B4
 split
 ·exact hb
 split
 ·exact gF (by rw[cv,List.length_map,List.length_map];omega) hb fun x hx=>hbs x (Cv h2 hx)
 split
 ·exact ES hb hbs _ fun g hg=>⟨g3 g hg,fun i hi=>g2 i (List.mem_flatten.2 ⟨g,hg,hi⟩)⟩
 split
 ·rename_i hone
  obtain⟨b,rfl⟩:=List.length_eq_one_iff.1 hone
  obtain⟨p1,p2⟩:=hbs b (List.mem_singleton_self _)
  simp only[List.getD_cons_zero]
  split
  ·exact pX _ p2 hb
  split
  ·rename_i h5
   have hL:=p2.loc
   have h5':=h5.1
   generalize b.e=r at*
   obtain⟨kd,nm,nn,op,names,ae,binds,alts⟩:=r
   obtain rfl:kd=5:=h5'
   have hf:=hL.wy
   have hs:=hL.Ap
   have hpb:=hL.pb
   simp only[Ex.binds,Ex.ae,Ex.kind,Ex.names,Ex.name,Ex.op,Ex.n,Ex.alts,List.length_map] at hf hs hpb ⊢
   unfold iH at hf
   unfold jN at hs
   have hsl:ae.length=1:=by omega
   refine gF (hf.2.2.1 rfl) (gF (by simp) hb fun x hx=>?_) fun x hx=>⟨hpb _ (List.mem_map_of_mem hx),p2.bind x hx⟩
   rw[List.mem_singleton.1 hx]
   exact⟨p1,p2.sub _ (iJ (by simp only[Ex.ae];omega))⟩
  ·exact gF (by simp) hb hbs
 ·exact gF hl hb hbs
theorem Fk {bs:List Bd} {body:Ex} (hb:Gd cs P body) (hbs:∀ x∈bs,P x.name∧Gd cs P x.e) (hl:0<bs.length):mO c K (B4 bs body)≤c+2*(c*bs.length)+dp (wO c K) bs+mO c K body:=by
 obtain⟨h1,h2,h3⟩:=mW body bs
 obtain⟨g1,g2,g3⟩:=mK bs
 unfold B4
 split
 ·omega
 split
 ·have hm:=Cd (c:=c) (K:=K) bs h1 h2
  have h4:c*(dB body bs).length≤c*bs.length:=Nat.mul_le_mul_left _ h3
  rw[fR,show(cv bs ((dB body bs).map Int.toNat)).length=(dB body bs).length by simp[cv]]
  omega
 split
 ·have hm:=Cd (c:=c) (K:=K) bs g1 g2
  have h5:=kl g1 g2
  have h6:=uW _ g3
  have h7:c*(gj bs.length (jz bs)).length≤c*bs.length:=Nat.mul_le_mul_left _ (by omega)
  have h8:c*(gj bs.length (jz bs)).flatten.length≤c*bs.length:=Nat.mul_le_mul_left _ h5
  rw[Fl]
  omega
 split
 ·rename_i hone
  obtain⟨b,rfl⟩:=List.length_eq_one_iff.1 hone
  obtain⟨p1,p2⟩:=hbs b (List.mem_singleton_self _)
  have hms:dp (wO c K) [b]=mO c K b.e:=by simp[dp,fS]
  simp only[List.getD_cons_zero]
  rw[hms]
  split
  ·rename_i hr
   rcases hr.2 with ha|ha
   ·have:=qC c K b.name p2 ha hb
    omega
   ·have:=Fm c K b.name b.e hb
    have ho:gU b.name body=1:=by unfold sF at ha;rw[Bool.and_eq_true] at ha;exact of_decide_eq_true ha.1
    rw[ho] at this
    omega
  split
  ·rename_i h5
   have hL:=p2.loc
   have h5':=h5.1
   generalize b.e=r at*
   obtain⟨kd,nm,nn,op,names,ae,binds,alts⟩:=r
   obtain rfl:kd=5:=h5'
   have hs:=hL.Ap
   simp only[Ex.binds,Ex.ae,Ex.kind,Ex.names,Ex.name,Ex.op,Ex.n,Ex.alts,List.length_map] at hs ⊢
   unfold jN at hs
   have hsl:ae.length=1:=by omega
   obtain⟨y,rfl⟩:=List.length_eq_one_iff.1 hsl
   rw[fR,fR,fx]
   simp only[eH,List.headD_cons,List.length_cons,List.length_nil,eF,dp,fS,Bd.e,mO,Nat.zero_add,Nat.mul_one,Nat.add_zero]
   omega
  ·rw[fR]
   simp only[List.length_cons,List.length_nil,dp,fS,mO]
   omega
 ·rw[fR];omega
theorem Ow {l:List Ex} (h:0<l.length):eF (wO c K) l=mO c K (eH l)+eF (wO c K) (l.drop 1):=by
 cases l with
 |nil=>simp at h
 |cons x r=>rfl
theorem FQ (c K:Nat):∀ (ns:List aD) (l:List Ex),dp (wO c K) ((ns.zip l).map fun p=>Bd.mk p.1 p.2)+eF (wO c K) (l.drop ns.length)=eF (wO c K) l
 |[],l=>by simp[dp]
 |n::ns,[]=>by simp[dp,eF]
 |n::ns,x::l=>by
  have:=FQ c K ns l
  simp only[List.zip_cons_cons,List.map_cons,dp,fS,Bd.e,List.length_cons,List.drop_succ_cons,eF]
  omega
theorem HR (hc:c≤1) {f:Ex} {l:List Ex} (hk:f.kind=3) (hf:Gd cs P f) (hl:∀ x∈l,Gd cs P x) (h0:0<l.length):Gd cs P (tT f l)∧mO c K (tT f l)≤c+mO c K f+eF (wO c K) l:=by
 have hL:=hf.loc
 obtain⟨kd,nm,nn,op,names,ae,binds,alts⟩:=f
 obtain rfl:kd=3:=hk
 have hs:=hL.Ap
 have hfu:=hL.wy
 have hpn:=hL.pn rfl
 have hsub:=hf.sub
 simp only[Ex.binds,Ex.ae,Ex.kind,Ex.names,Ex.name,Ex.op,Ex.n,Ex.alts,List.length_map] at hs hfu hpn hsub
 unfold jN at hs
 unfold iH at hfu
 have hsl:ae.length=1:=by omega
 have hnl:=hfu.1 rfl
 obtain⟨y,rfl⟩:=List.length_eq_one_iff.1 hsl
 have hy:=hsub y (List.mem_singleton_self _)
 have hz:=FQ c K names l
 have hcn:c*(min names.length l.length)≤min names.length l.length:=by
  have:=Nat.mul_le_mul_right (min names.length l.length) hc
  omega
 have hb1:names.length<l.length→Gd cs P (c8 y (l.drop names.length)):=fun h=>zg (by rw[List.length_drop];omega) hy fun x hx=>hl x (List.mem_of_mem_drop hx)
 unfold tT
 dsimp only[Ex.names,Ex.ae,eH,List.headD_cons]
 refine⟨gF (by rw[List.length_map,List.length_zip];omega) ?_ fun x hx=>?_,?_⟩
 ·unfold ec
  split
  ·exact hb1 ‹_›
  ·split
   ·exact DF (by rw[List.length_drop];omega) (fun s hs=>hpn s (List.mem_of_mem_drop hs)) hy
   ·exact hy
 ·obtain⟨p,hp,rfl⟩:=List.mem_map.1 hx
  obtain⟨q1,q2⟩:=List.of_mem_zip hp
  exact⟨hpn _ q1,hl _ q2⟩
 ·rw[fR,fx,List.length_map,List.length_zip]
  simp only[eF,mO] at hz ⊢
  unfold ec
  split
  ·have h2:=zx c K y (l.drop names.length)
   simp only[mO] at h2
   omega
  ·split
   ·have h2:=zy c K (names.drop l.length) y
    rw[List.length_drop] at h2
    have h3:l.drop names.length=[]:=List.drop_eq_nil_of_le (by omega)
    rw[h3] at hz
    simp only[mO,eF] at h2 hz
    omega
   ·have h3:l.drop names.length=[]:=List.drop_eq_nil_of_le (by omega)
    rw[h3] at hz
    simp only[eF] at hz
    omega
end
end
section
section
variable {cs:List Cn} {P:aD→Prop} {c K:Nat}
theorem fJ {kd nn op:Int} {nm:aD} {names:List aD} {ae:List Ex} {binds:List Bd} {alts:List Al} (h:Gd cs P (.mk kd nm nn op names ae binds alts)):
 (kd=1∨kd=6∨kd=7∨nm=[])∧(kd=2∨nn=0)∧(kd=8∨op=0)∧(kd=3∨names=[])∧(kd=5∨binds=[])∧(kd=6∨alts=[])∧(kd=3∨kd=5∨kd=6→ae=[eH ae])∧(kd=1∨kd=2→ae=[]):=by
 have hs:=h.loc.Ap
 simp only[Ex.binds,Ex.ae,Ex.kind,Ex.names,Ex.name,Ex.op,Ex.n,Ex.alts,List.length_map] at hs
 unfold jN at hs
 obtain⟨h1,h2,h3,h4,h5,h6,h7,h8,h9,h10⟩:=hs
 refine⟨?_,?_,?_,?_,?_,?_,fun hk=>?_,fun hk=>?_⟩
 ·rcases h2 with h|h|h|h
  ·exact .inr (.inr (.inr (List.length_eq_zero_iff.1 h)))
  ·exact .inl h
  ·exact .inr (.inl h)
  ·exact .inr (.inr (.inl h))
 ·exact h3.symm.imp id id
 ·exact h4.symm
 ·exact h5.symm.imp id List.length_eq_zero_iff.1
 ·exact h6.symm.imp id List.length_eq_zero_iff.1
 ·exact h7.symm.imp id List.length_eq_zero_iff.1
 ·obtain⟨y,rfl⟩:=List.length_eq_one_iff.1 (show ae.length=1 by omega)
  rfl
 ·exact List.length_eq_zero_iff.1 (by omega)
theorem uB {f:Ex} (h:Gd cs P f) (hk:f.kind=3):f=df f.names (eH f.ae):=by
 obtain⟨kd,nm,nn,op,names,ae,binds,alts⟩:=f
 obtain rfl:kd=3:=hk
 obtain⟨h1,h2,h3,h4,h5,h6,h7,h8⟩:=fJ h
 obtain rfl:nm=[]:=by simpa using h1
 obtain rfl:nn=0:=by simpa using h2
 obtain rfl:op=0:=by simpa using h3
 obtain rfl:binds=[]:=by simpa using h5
 obtain rfl:alts=[]:=by simpa using h6
 simp only[Ex.names,Ex.ae,df]
 rw[← h7 (.inl rfl)]
theorem pV {f:Ex} (h:Gd cs P f) (hk:f.kind=4):f= .mk 4 [] 0 0 [] f.ae [] []:=by
 obtain⟨kd,nm,nn,op,names,ae,binds,alts⟩:=f
 obtain rfl:kd=4:=hk
 obtain⟨h1,h2,h3,h4,h5,h6,h7,h8⟩:=fJ h
 obtain rfl:nm=[]:=by simpa using h1
 obtain rfl:nn=0:=by simpa using h2
 obtain rfl:op=0:=by simpa using h3
 obtain rfl:names=[]:=by simpa using h4
 obtain rfl:binds=[]:=by simpa using h5
 obtain rfl:alts=[]:=by simpa using h6
 rfl
theorem jj {f:Ex} (h:Gd cs P f) (hk:f.kind=5):f=letE (eH f.ae) f.binds:=by
 obtain⟨kd,nm,nn,op,names,ae,binds,alts⟩:=f
 obtain rfl:kd=5:=hk
 obtain⟨h1,h2,h3,h4,h5,h6,h7,h8⟩:=fJ h
 obtain rfl:nm=[]:=by simpa using h1
 obtain rfl:nn=0:=by simpa using h2
 obtain rfl:op=0:=by simpa using h3
 obtain rfl:names=[]:=by simpa using h4
 obtain rfl:alts=[]:=by simpa using h6
 simp only[Ex.binds,Ex.ae,letE]
 rw[← h7 (by simp)]
theorem eg {f:Ex} (h:Gd cs P f) (hk:f.kind=6):f= .mk 6 f.name 0 0 [] [eH f.ae] [] f.alts:=by
 obtain⟨kd,nm,nn,op,names,ae,binds,alts⟩:=f
 obtain rfl:kd=6:=hk
 obtain⟨h1,h2,h3,h4,h5,h6,h7,h8⟩:=fJ h
 obtain rfl:nn=0:=by simpa using h2
 obtain rfl:op=0:=by simpa using h3
 obtain rfl:names=[]:=by simpa using h4
 obtain rfl:binds=[]:=by simpa using h5
 simp only[Ex.name,Ex.ae,Ex.alts]
 rw[← h7 (by simp)]
theorem IC {f:Ex} (h:Gd cs P f) (hk:f.kind=7):f=ed f.name f.ae:=by
 obtain⟨kd,nm,nn,op,names,ae,binds,alts⟩:=f
 obtain rfl:kd=7:=hk
 obtain⟨h1,h2,h3,h4,h5,h6,h7,h8⟩:=fJ h
 obtain rfl:nn=0:=by simpa using h2
 obtain rfl:op=0:=by simpa using h3
 obtain rfl:names=[]:=by simpa using h4
 obtain rfl:binds=[]:=by simpa using h5
 obtain rfl:alts=[]:=by simpa using h6
 rfl
theorem Gp {f:Ex} (h:Gd cs P f) (hk:f.kind=8):f=c7 f.op f.ae:=by
 obtain⟨kd,nm,nn,op,names,ae,binds,alts⟩:=f
 obtain rfl:kd=8:=hk
 obtain⟨h1,h2,h3,h4,h5,h6,h7,h8⟩:=fJ h
 obtain rfl:nm=[]:=by simpa using h1
 obtain rfl:nn=0:=by simpa using h2
 obtain rfl:names=[]:=by simpa using h4
 obtain rfl:binds=[]:=by simpa using h5
 obtain rfl:alts=[]:=by simpa using h6
 rfl
theorem Mo {l:List Al} {a:Al} (h:a∈l):c*(1+a.names.length)+K≤fw c K (fun _=>true) l:=by
 induction l with
 |nil=>cases h
 |cons x r ih=>
  simp only[fw,if_true]
  rcases List.mem_cons.1 h with rfl|h
  ·omega
  ·have:=ih h;omega
def fk:List Al→Nat
 |[]=>0
 |a::r=>2*a.names.length+4+fk r
theorem Ja {l:List Al} {a:Al} (h:a∈l):2*a.names.length+4≤fk l:=by
 induction l with
 |nil=>cases h
 |cons x r ih=>
  simp only[fk]
  rcases List.mem_cons.1 h with rfl|h
  ·omega
  ·have:=ih h;omega
theorem iR {e:Ex} (h:Gd cs P e) {a:Al} (ha:a∈e.alts):(a.kind=1∧ew cs a.name a.names.length=true)∨(a.kind≠1∧a.names=[]):=by
 have hb:=h.loc.bad
 have hf:=h.loc.Qv
 generalize e.alts=l at*
 have h1:gb a=false:=by
  unfold oE at hb
  rw[List.any_eq_false] at hb
  simpa using hb a ha
 by_cases hk:a.kind=1
 ·left
  refine⟨hk,?_⟩
  unfold ox at hf
  rw[List.any_eq_false] at hf
  have:=hf a ha
  rw[decide_eq_true hk,Bool.true_and] at this
  simpa using this
 ·right
  refine⟨hk,?_⟩
  have h2:¬ Li a.kind a.n a.name.length a.names.length:=fun h=>by rw[(rh a).2 h] at h1;cases h1
  unfold Li at h2
  exact List.length_eq_zero_iff.1 (by omega)
theorem L9 {s:aD} {x y:Nat} (h1:ew cs s x=true) (h2:ew cs s y=true):x=y:=by
 unfold ew at h1 h2
 rw[Bool.and_eq_true] at h1 h2
 have:=of_decide_eq_true h1.2
 have:=of_decide_eq_true h2.2
 omega
theorem PG (e:Ex):c≤mO c K e:=Nat.le_trans (by unfold wO;omega) (Np (wO c K) e)
theorem Bx {e:Ex} (h:Gd cs P e) (ht:ew cs vT 0=true) (hf:ew cs o9 0=true):Gd cs P (fV e)∧mO c K (fV e)≤mO c K e:=by
 have hge:=PG (c:=c) (K:=K) e
 have hl:∀ n,Gd cs P (cI n)∧mO c K (cI n)≤mO c K e:=fun n=>⟨IK cs P n,by rw[Ot];exact hge⟩
 have htr:∀ b,Gd cs P (rU b)∧mO c K (rU b)≤mO c K e:=fun b=>by
  have h1:∀ s,mO c K (ed s [])=c:=fun s=>by rw[DR];simp[eF]
  cases b
  ·exact⟨zh (l:=[]) hf (by simp),by rw[rU,if_neg (by decide),h1];exact hge⟩
  ·exact⟨zh (l:=[]) ht (by simp),by rw[rU,if_pos rfl,h1];exact hge⟩
 have he:Gd cs P e∧mO c K e≤mO c K e:=⟨h,Nat.le_refl _⟩
 unfold fV
 split
 ·exact he
 split
 ·exact hl _
 split
 ·exact hl _
 split
 ·exact hl _
 split
 ·split
  ·exact he
  split
  ·exact hl _
  ·exact hl _
 split
 ·exact htr _
 split
 ·exact htr _
 split
 ·exact htr _
 ·exact hl _
theorem AI (hc:c≤1) {e:Ex} (hk:e.kind=4) (h:Gd cs P e):Gd cs P (tS e)∧mO c K (tS e)≤mO c K e:=by
 have hfo:=pV h hk
 have hful:=h.loc.wy
 have hsub:=h.sub
 unfold iH at hful
 have hl:=hful.2.1 hk
 clear hful
 generalize e.ae=ae at*
 subst hfo
 have hme:mO c K (.mk 4 [] 0 0 [] ae [] [])=c+mO c K (eH ae)+eF (wO c K) (ae.drop 1):=by
  rw[fx,Ow (by omega)]
  simp[fw,dp,eO];omega
 have hf:=hsub _ (iJ (by omega))
 have ha:∀ x∈ae.drop 1,Gd cs P x:=fun x hx=>hsub x (List.mem_of_mem_drop hx)
 have hal:0<(ae.drop 1).length:=by rw[List.length_drop];omega
 rw[hme]
 unfold tS
 simp only[show(Ex.mk 4 [] 0 0 [] ae [] []).ae=ae from rfl]
 generalize eH ae=f at*
 generalize ae.drop 1=l at*
 split
 ·exact⟨hf,by omega⟩
 split
 ·rename_i h4
  have hff:=pV hf h4
  have hfl:=hf.loc.wy
  unfold iH at hfl
  have hfl:=hfl.2.1 h4
  have hfs:=hf.sub
  generalize f.ae=fs at*
  subst hff
  refine⟨(cO ..).2 ⟨⟨by unfold jN;simp,rfl,by unfold iH;simp;omega,rfl,by simp,by simp,by simp,by simp⟩,fun x hx=>?_,by simp,by simp⟩,?_⟩
  ·rcases List.mem_append.1 hx with hx|hx
   ·exact hfs x hx
   ·exact ha x hx
  ·rw[fx,fx,Mu]
   simp[fw,dp,eO];omega
 split
 ·rename_i h5
  have hff:=jj hf h5
  have hfl:=hf.loc.wy
  unfold iH at hfl
  have hfl:=hfl.2.2.1 h5
  have hfs:=hf.sub
  have hfb:=hf.bind
  have hpb:=hf.loc.pb
  have hs1:0<f.ae.length:=by rw[hff];simp[letE,Ex.ae]
  have hh:=hfs _ (iJ hs1)
  rw[List.length_map] at hfl
  refine⟨gF hfl (zg hal hh ha) fun x hx=>⟨hpb _ (List.mem_map_of_mem hx),hfb x hx⟩,?_⟩
  have hm:mO c K f=mO c K (letE (eH f.ae) f.binds):=congrArg _ hff
  rw[fR,zx,hm,fR]
  omega
 split
 ·rename_i h6
  obtain⟨h6,h61⟩:=h6
  have hff:=eg hf h6
  have hfl:=hf.loc
  have hs1:0<f.ae.length:=by rw[hff];simp[Ex.ae]
  have hh:=hf.sub _ (iJ hs1)
  have hfa:=hf.alt
  obtain⟨a,ha1⟩:=List.length_eq_one_iff.1 h61
  generalize eH f.ae=v at*
  generalize f.name=fn at*
  rw[ha1] at hff hfl hfa
  clear h61 ha1
  subst hff
  simp only[bE,Ex.alts,List.map_cons,List.map_nil]
  have hab:=hfa a (List.mem_singleton_self _)
  refine⟨(cO ..).2 ⟨hfl.xD (by simp[jB]),by simpa using hh,by simp,fun x hx=>?_⟩,?_⟩
  ·rw[List.mem_singleton.1 hx,dL]
   exact zg hal hab ha
  ·have ho:cV (c8 a.body l)=false:=by simp[cV,okB,cu,c8,Ex.kind]
   have h7:=zx c K a.body l
   simp only[mO] at h7
   rw[fx,fx]
   simp only[fw,eO,ko,dL,ky,ho,Bool.false_eq_true,if_false,h7,mO]
   split<;>omega
 split
 ·exact⟨h,by rw[hme];exact Nat.le_refl _⟩
 ·rename_i h3
  exact HR hc (by simpa using h3) hf ha hal
end
end
def DZ:Option Al→SV
 |none=> .bt
 |some a=> .gM a.sv
theorem Iy {α:Type} (p:α→Bool) (l:List α):l.find? p=(l.findIdx? p).bind fun i=>l[i]? :=by
 induction l with
 |nil=>rfl
 |cons x r ih=>
  rw[List.find?_cons,List.findIdx?_cons]
  cases p x with
  |true=>rfl
  |false=>
   simp only[ih]
   cases r.findIdx? p<;>rfl
theorem I2 (G:Gl) (hG:ah G) (f:SV) (p:Al→Bool) (V:List Al) (H:List av) (hl:V.length<1125899906842624) (hfu:f.under H.length=true)
 (hf:∀ x∈V,aY Tryz.prog G f [x.sv] H (fun r H'=>H'=H∧r= .bool (p x))):
 aq Tryz.prog G 117 [.list 12 (af V),f] H (fun r H'=>H'=H∧r= .int .i64 (match V.findIdx? p with|some i=>(i:Int)|none=> -1)):=by
 have hlm:(af V).length=V.length:=by rw[bh,List.length_map]
 refine bP [] Tryz.func117 Tryz.ntmps117 fun C R' hR hC hcl hB hC' X=>?_
 have X:=And.intro X hlm
 have hcl1:=hcl
 (refine run ?_)
 refine aA (fun k:Nat=>[(0,.list 12 (af V)),(1,f),(7,.int .i64 V.length),(8,.int .i64 k)]) (fun _=>H) (fun k=>V.length - k) (fun k=>k≤V.length∧∀ x∈V.take k,p x=false) 0 ⟨Nat.zero_le _,by simp⟩ (Wk.sub (by simp[aW,look])) ?_
 rintro K k ⟨hk,hno⟩ hK
 rcases Nat.lt_or_ge k V.length with hlt|hge
 ·have e1:(af V)[k]? =some (.agg V[k].cells):=by simp[bh,hlt,Al.sv]
  have hfk:=hf V[k] (List.getElem_mem hlt)
  have hsv:V[k].sv= .agg V[k].cells:=rfl
  rw[hsv] at hfk
  have X:=And.intro X e1
  (refine run ?_;with_reducible repeat' first|exact trivial|(apply aJ.mk<;>intro hb)|apply bN.mk)
  refine eS hfk ?_
  rintro r H' ⟨rfl,rfl⟩
  (refine run ?_;with_reducible repeat' first|exact trivial|(apply aJ.mk<;>intro hb)|apply bN.mk)
  ·have hfi:V.findIdx? p=some k:=by
    rw[List.findIdx?_eq_some_iff_getElem]
    refine⟨hlt,by simpa using hb,fun j hj=>?_⟩
    have:=hno (V[j]'(by omega)) (by rw[List.mem_take_iff_getElem];exact⟨j,by omega,rfl⟩)
    simp[this]
   refine Fin.out hR ⟨rfl,?_⟩
   simp only[aC,hfi]
  ·refine hK _ _ (k+1) (by omega) ⟨by omega,?_⟩ (Wk.sub (by simp[aW,look]))
   rw[List.take_succ_eq_append_getElem hlt]
   intro x hx
   rcases List.mem_append.1 hx with hx|hx
   ·exact hno x hx
   ·rw[List.mem_singleton.1 hx];exact hb
 ·have:k=V.length:=by omega
  subst this
  clear hK
  have X:=And.intro X (Int.lt_irrefl (V.length:Int))
  (refine run ?_)
  have hfi:V.findIdx? p=none:=by rw[List.findIdx?_eq_none_iff];rw[List.take_length] at hno;exact hno
  refine Fin.out hR ⟨rfl,?_⟩
  simp only[aC,hfi]
theorem F5 (G:Gl) (hG:ah G) (l:List Al) (v:Ex) (hl:l.length<1125899906842624) (H:List av):aq Tryz.prog G 133 [.list 12 (af l),v.sv] H (fun r H'=>H'=H∧r=DZ (l8 l v)):=by
 have hidx:=fun(H:List av) (vb:Nat) (h1:H[vb]? =some (.cells 0 8 [.agg v.cells])) (hu:vb<H.length)=>I2 G hG (.fn (.func 160) [] [.ptr vb 0 0 0]) (Aa v) l H hl (by simp[SV.under,SV.aj,hu]) (fun a _=>aY.of (first:=[]) (args:=[a.sv]) (cap:=[.ptr vb 0 0 0]) (Dd G hG v a H vb h1))
 have hch:l8 l v=(l.findIdx? (Aa v)).bind fun i=>l[i]? :=Iy _ _
 have hlm:(af l).length=l.length:=by rw[bh,List.length_map]
 rw[hch]
 have hu:=v.au
 have hut:=v.ao
 rw[show v.sv= .agg v.cells from rfl] at*
 generalize v.cells=xs at*
 refine bP [] Tryz.func133 Tryz.ntmps133 fun C R' hR hC hcl hB hC' X=>?_
 have X:=iY aO hu hut hlm
 (refine run ?_)
 refine br (hidx _ H.length (by rw[bL];rfl) (by simp)) ?_
 rintro r H' ⟨rfl,rfl⟩
 cases hf:l.findIdx? (Aa v) with
 |none=>
  rw[hf] at hR
  dsimp only at hR ⊢
  have X:=aO
  (refine run ?_)
  exact aZ (n0:=H.length) hR hC' hcl (.same _ rfl) ⟨rfl,rfl⟩
 |some i=>
  rw[hf] at hR
  obtain⟨hi,-,-⟩:=List.findIdx?_eq_some_iff_getElem.1 hf
  have hg:(af l)[i]? =some (.agg l[i].cells):=by simp[bh,hi,Al.sv]
  have hni:¬ (i:Int)<0:=by omega
  have hau:=l[i].aw H.length
  dsimp only at hR ⊢
  rw[Option.bind_some,List.getElem?_eq_getElem hi] at hR
  have X:=iY aO hg hni hlm
  (refine run ?_)
  exact aZ (n0:=H.length) hR hC' hcl (.same _ (by simp only[aC,SV.under,SV.aj,hau])) ⟨rfl,rfl⟩
abbrev iv (x:Nat):SV:= .int .i64 (x:Int)
theorem Dh (G:Gl) (hG:ah G) (l:List Nat) (H:List av) (hl:l.length<1099511627776):aq Tryz.prog G 155 [.list 1 (l.map iv)] H (fun r H'=>H'=H++[.cells 0 1 (l.map iv)]∧r= .sl H.length 0 0 l.length):=by
 refine bP [2,5] Tryz.func155 Tryz.ntmps155 fun C R' hR hC hcl hB hC' X=>?_
 (refine bK ?_;with_reducible repeat' first|exact trivial|(apply aJ.mk<;>intro hb)|apply bN.mk)
 ·obtain rfl:l=[]:=List.length_eq_zero_iff.1 hb
  exact gD [(H.length+1,0)] (.sl H.length 0 0 0) [.cells 0 1 []] hR hC' hcl ⟨rfl,rfl⟩
 ·exact gD [(H.length+1,0)] (.sl H.length 0 0 l.length) [.cells 0 1 (l.map iv)] hR hC' hcl ⟨rfl,rfl⟩
def kI (V:List Nat):List SV:=V.map iv
def vI (V:List Nat):List SV:=V.map fun _=> .bool true
def Bl (V:List Nat):List (SV×SV):=V.map fun x=>(iv x,.bool true)
theorem LD (V:List Nat):(Bl V).map Prod.fst=kI V:=by simp[Bl,kI]
theorem LF (V:List Nat):(Bl V).map Prod.snd=vI V:=by simp[Bl,vI]
theorem EM (V:List Nat):(kI V).zip (vI V)=Bl V:=by simp[Bl,kI,vI,List.zip_map']
theorem ux (x:Nat):∀ V:List Nat,bO (Bl V) (iv x)=if x∈V then some (.bool true) else none
 |[]=>rfl
 |y::V=>by
  have ih:=ux x V
  simp only[Bl,List.map_cons,bO,SV.ey] at ih ⊢
  by_cases h:x=y
  ·subst h;simp
  ·have h2:((x:Int)==(y:Int))=false:=beq_eq_false_iff_ne.2 (by omega)
   simp only[h2,Bool.false_eq_true,if_false,ih,List.mem_cons,h,false_or]
theorem uF (x:Nat) (V:List Nat):(bO (Bl V) (iv x)).getD (.bool false)= .bool (decide (x∈V)):=by
 rw[ux];by_cases h:x∈V<;>simp[h]
theorem yb {x:Nat}:∀ {V:List Nat},x∉V→cN (Bl V) (iv x) (.bool true)=Bl (V++[x])
 |[],_=>rfl
 |y::V,h=>by
  have h1:x≠y:=fun e=>h (e ▸ List.mem_cons_self ..)
  have ih:=yb (x:=x) (V:=V) (fun h2=>h (List.mem_cons_of_mem _ h2))
  have h2:((x:Int)==(y:Int))=false:=beq_eq_false_iff_ne.2 (by omega)
  simp only[Bl,List.map_cons,cN,SV.ey,List.cons_append,h2,Bool.false_eq_true,if_false] at ih ⊢
  rw[ih]
theorem I9 (n:Nat) (V:List Nat):SV.aj n (kI V)=true:=SV.aT fun _ _=>rfl
theorem Kx (n:Nat) (V:List Nat):SV.aj n (vI V)=true:=SV.aT fun _ _=>rfl
structure FU (R:cP) (j:Nat) (x:SV):Prop where
 ex:∃ b clk born V,x= .eC b clk born (some .i64) (kI V) (vI V)∧born.length=V.length∧born.Nodup∧∀ y,y∈V↔R j y=true
structure Qu (n:Nat) (R:cP) (rs:List SV):Prop where
 len:rs.length=n
 at_:∀ j (h:j<n),∃ x,rs[j]? =some x∧FU R j x
 lt:∀ i j,R i j=true→j<n
theorem Qu.get {n:Nat} {R:cP} {rs:List SV} (h:Qu n R rs) {j:Nat} (hj:j<n):∃ b clk born V,rs[j]? =some (.eC b clk born (some .i64) (kI V) (vI V))∧born.length=V.length∧born.Nodup∧∀ y,y∈V↔R j y=true:=by
 obtain⟨x,hx,⟨b,clk,born,V,rfl,q2,q3,q4⟩⟩:=h.at_ j hj
 exact⟨b,clk,born,V,hx,q2,q3,q4⟩
theorem Mr {born idx:List Nat} {m:Nat} (hb:born.Nodup) (hlb:born.length=m) (hlt:∀ i∈idx,i<m) (hall:∀ b∈born,(idx.map fun i=>born.getD i 0).toArray.contains b=true):∀ i,i<m→i∈idx:=fun i hi=>by
 have hi':i<born.length:=by omega
 have h:=hall born[i] (List.getElem_mem hi')
 simp only[List.contains_toArray,List.contains_iff_mem,List.mem_map] at h
 obtain⟨j,hj,e⟩:=h
 have hj':j<born.length:=by have:=hlt j hj;omega
 rw[List.getD_eq_getElem?_getD,List.getElem?_eq_getElem hj',Option.getD_some] at e
 obtain rfl:j=i:=(List.getElem_inj hb).1 e
 exact hj
theorem FU.under {R:cP} {j:Nat} {x:SV} (h:FU R j x) (n:Nat):x.under n=true:=by
 obtain⟨b,clk,born,V,rfl,_⟩:=h.ex
 simp only[SV.under,I9,Kx,Bool.and_self]
def Am (n:Nat) (D:Nat→Bool):List SV:=(List.range n).map fun j=> .bool (D j)
theorem nE (n:Nat) (D:Nat→Bool):(Am n D).length=n:=by simp[Am]
theorem pJ {n:Nat} {D:Nat→Bool} {j:Nat} (h:j<n):(Am n D)[j]? =some (.bool (D j)):=by simp[Am,h]
def Rx (R:cP) (D:Nat→Bool) (i j:Nat):Bool:=D j||j==i||R j i
theorem J8 (G:Gl) (hG:ah G) (n:Nat) (hn:n<1099511627776) (R:cP) (D:Nat→Bool) (rs:List SV) (hr:Qu n R rs) (i:Nat) (hi:i<n) (db dc dg rb rc rg:Nat) (H:List av)
 (h1:H[db]? =some (.cells 0 1 [.sl dc dg 0 n])) (h2:H[dc]? =some (.cells dg 1 (Am n D))) (h3:H[rb]? =some (.cells 0 1 [.sl rc rg 0 n])) (h4:H[rc]? =some (.cells rg 1 rs)):
 aq Tryz.prog G 156 [.int .i64 i,.ptr db 0 0 0,.ptr rb 0 0 0] H (fun r H'=>H'=H∧r= .bool (jy n R D i)):=by
 obtain⟨b,clk,born,V,hx,hbl,hnd,hV⟩:=hr.get hi
 have hDi:=pJ (D:=D) hi
 have hbn:=nE n D
 have hrl:=hr.len
 by_cases hd:D i=true
 ·have e0:jy n R D i=false:=by simp[jy,hd]
  rw[e0]
  rw[hd] at hDi
  refine bP [] Tryz.func156 Tryz.ntmps156 fun C R' hR hC hcl hB hC' X=>?_
  have X:=FW X h1 h2 h3 h4 hDi hbn hrl
  (refine run ?_)
  exact Fin.out hR ⟨rfl,rfl⟩
 have hd:D i=false:=by simpa using hd
 rw[hd] at hDi
 refine bP [] Tryz.func156 Tryz.ntmps156 fun C R' hR hC hcl hB hC' X=>?_
 have X:=C3 X h1 h2 h3 h4 hDi hbn hrl hx
 (refine run ?_)
 refine BG rfl rfl rfl ?_
 (refine run ?_)
 refine aA (fun idx:List Nat=>[(0,.int .i64 i),(1,.ptr db 0 0 0),(2,.ptr rb 0 0 0),(13,.eC b clk born (some .i64) (kI V) (vI V)),(14,.it H.length)]) (fun idx=>H++[.obj (.mapIter (some b) clk (idx.map fun i=>born.getD i 0).toArray clk)])
  (fun idx=>V.length - idx.length) (fun idx=>(idx.Nodup∧∀ q∈idx,q<V.length)∧∀ q∈idx,Rx R D i (V.getD q 0)=true) [] ⟨⟨List.nodup_nil,by simp⟩,by simp⟩ ?_ ?_
 ·exact Wk.sub (by simp[aW,look])
 rintro K idx ⟨⟨hi1,hi2⟩,hok⟩ hK
 have hle:=kl hi1 hi2
 generalize hse:(idx.map fun i=>born.getD i 0).toArray=seen
 (refine run ?_)
 refine EU (tm:=13) rfl rfl (by simp only[bL];rfl) rfl (fun hall=>?_) (fun q bb qk y hbq hsn hq hy2=>?_)
 ·(refine run ?_)
  have e1:jy n R D i=true:=by
   unfold jy
   rw[hd]
   simp only[Bool.not_false,Bool.true_and,List.all_eq_true,List.mem_range]
   intro j hj
   cases hrj:R i j with
   |false=>rfl
   |true=>
    obtain⟨q,hq,e⟩:=List.mem_iff_getElem.1 ((hV j).2 hrj)
    have h:=hok q (Mr hnd hbl hi2 (fun b hb=>by rw[hse];exact hall b hb) q hq)
    rw[List.getD_eq_getElem?_getD,List.getElem?_eq_getElem hq,Option.getD_some,e] at h
    unfold Rx at h
    simp only[Bool.or_eq_true,beq_iff_eq] at h ⊢
    rcases h with (h|h)|h
    ·exact .inl (.inl (.inr h))
    ·exact .inl (.inr h.symm)
    ·exact .inr h
  rw[e1] at hR
  exact aZ (n0:=H.length) hR hC' hcl (.same _ rfl) ⟨rfl,rfl⟩
 ·have hqV:q<V.length:=by have:=(List.getElem?_eq_some_iff.1 hbq).1;omega
  have hq':qk=iv V[q]:=by rw[kI,List.getElem?_map,List.getElem?_eq_getElem hqV] at hq;cases hq;rfl
  subst hq'
  have hni:q∉idx:=fun hm=>by
   rw[← hse] at hsn
   have:(idx.map fun i=>born.getD i 0).toArray.contains bb=true:=by
    simp only[List.contains_toArray,List.contains_iff_mem,List.mem_map]
    exact⟨q,hm,by rw[List.getD_eq_getElem?_getD,hbq];rfl⟩
   rw[this] at hsn;cases hsn
  have hlt:idx.length<V.length:=by
   have:=kl (n:=V.length) (idx:=idx++[q]) (List.nodup_append.2 ⟨hi1,by simp,by simp;exact fun a ha e=>hni (e ▸ ha)⟩) (by simp only[List.mem_append,List.mem_singleton];exact fun a ha=>ha.elim (hi2 a) (fun e=>e ▸ hqV))
   simp at this;omega
  have hRk:R i V[q]=true:=(hV _).1 (List.getElem_mem hqV)
  have hkn:V[q]<n:=hr.lt _ _ hRk
  obtain⟨b2,clk2,born2,V2,hx2,_,_,hV2⟩:=hr.get hkn
  rw[du,List.set_cons_zero]
  (refine run ?_)
  refine BF (tm:=13) rfl rfl (by simp only[bL];rfl) hbq (by rw[kI,List.getElem?_map,List.getElem?_eq_getElem hqV];rfl) hy2 rfl ?_
  have hDk:=pJ (D:=D) hkn
  have hlk:(bO ((kI V2).zip (vI V2)) (iv i)).getD (.bool false)= .bool (R V[q] i):=by
   rw[EM,uF];congr 1
   have:=hV2 i
   cases hb:R V[q] i<;>simp_all
  have X:=wh aO h1 h2 h3 h4 hDk hbn hrl hx2 hlk
  have l1:db<H.length:=(List.getElem?_eq_some_iff.1 h1).1
  have l2:dc<H.length:=(List.getElem?_eq_some_iff.1 h2).1
  have l3:rb<H.length:=(List.getElem?_eq_some_iff.1 h3).1
  have l4:rc<H.length:=(List.getElem?_eq_some_iff.1 h4).1
  have hoe:Rx R D i V[q]=(D V[q]||V[q]==i||R V[q] i):=rfl
  generalize hkk:V[q]=kk at*
  generalize hz1:D kk=z1 at*
  generalize hz2:R kk i=z2 at*
  (refine run ?_;with_reducible repeat' first|exact trivial|(apply aJ.mk<;>intro hb)|apply bN.mk)
  ·have e1:jy n R D i=false:=by
    cases hrd:jy n R D i with
    |false=>rfl
    |true=>
     simp only[Bool.and_eq_true,Bool.not_eq_true',decide_eq_true_eq] at hb
     rcases (iU hrd).2 kk hkn hRk with h|h|h
     ·rw[hz1,hb.1.1] at h;cases h
     ·exact absurd (by omega) hb.1.2
     ·rw[hz2,hb.2] at h;cases h
   rw[e1] at hR
   exact aZ (n0:=H.length) hR hC' hcl (.same _ rfl) ⟨rfl,rfl⟩
  ·have e2:((idx++[q]).map fun i=>born.getD i 0).toArray=seen.push bb:=by
    rw[List.map_append,← hse];simp[hbq]
   have hqq:V.getD q 0=kk:=by rw[List.getD_eq_getElem?_getD,List.getElem?_eq_getElem hqV,Option.getD_some,hkk]
   refine hK _ _ (idx++[q]) (by simp;omega) ⟨⟨List.nodup_append.2 ⟨hi1,by simp,by simp;exact fun a ha e=>hni (e ▸ ha)⟩,by simp only[List.mem_append,List.mem_singleton];exact fun a ha=>ha.elim (hi2 a) (fun e=>e ▸ hqV)⟩,fun a ha=>?_⟩ ?_
   ·rcases List.mem_append.1 ha with ha|ha
    ·exact hok a ha
    ·rw[List.mem_singleton.1 ha,hqq,hoe]
     by_cases h:kk=i
     ·simp[h]
     ·have h':¬ (kk:Int)=(i:Int):=by omega
      revert hb
      cases z1<;>cases z2<;>simp[h,h']
   ·rw[e2]
    exact Wk.sub (by simp[aW,look])
theorem aq.fin {P:Program} {G:Gl} {f:FuncId} {args:List SV} {H:List av} {R R':SV→List av→Prop} (h:aq P G f args H R)
 (hf:∀ C x H',C.H=H→closed H→R x H'→Fin C H' x R'):aq P G f args H R':=
 ⟨h.1,fun c vs h1 h2 h3 h4=>(h.2 c vs h1 h2 h3 h4).mono fun e w' ⟨v,x,c',a1,a2,a3,a4,a5,a6⟩=>
  let ⟨c2,y,b1,b2,b3,b4,b5⟩:=hf c x c'.H h1 (h1 ▸ h2.closed) a3 c' v rfl a4 a5 a6
  ⟨v,y,c2,a1,b1.trans a2,b2,b3,b4,b5⟩⟩
theorem aq.NJ {P:Program} {G:Gl} {f:FuncId} {args args':List SV} {H:List av} {R:SV→List av→Prop} (h:aq P G f args H R)
 (ha:∀ c vs,ax c args' vs→ax c args vs):aq P G f args' H R:=
 ⟨h.1,fun c vs h1 h2 h3 h4=>h.2 c vs h1 h2 h3 (ha c vs h4)⟩
theorem aq.Qx {P:Program} {G:Gl} {f:FuncId} {args:List SV} {H:List av} {sz:Nat} {vs:List SV} {n:Nat} (hu:SV.aj H.length vs=true) (hn:vs.length=n)
 (h:aq P G f args H (fun r H'=>H'=H++[.cells 0 sz vs]∧r= .sl H.length 0 0 n)):aq P G f args H (fun r H'=>H'=H∧r= .list sz vs):=
 h.fin fun C x H' h1 hcl hr=>by
  obtain⟨rfl,rfl⟩:=hr
  exact Fin.aS (n0:=H.length) (R0:=fun r H'=>H'=H∧r= .list sz vs) (fun _ _ h=>h) rfl (by rw[h1]) hcl (bF.sf (g:=0) (sz:=sz) (vals:=vs) (List.getElem?_concat_length ..) (Nat.le_refl _) (by simp) (by rw[List.drop_zero,List.take_of_length_le (by omega)]) hu) ⟨rfl,rfl⟩
theorem aB.JF {c:Cx} {sz:Nat} {v:Value} (h:aB c .nil v):aB c (.list sz []) v:=by
 simp only[aB] at h ⊢
 exact⟨none,0,h,Nat.le_refl _,Nat.zero_le _,.inl trivial⟩
theorem ID (G:Gl) (hG:ah G) (e:Ex) (hw:e.wt<549755813888) (H:List av):aq Tryz.prog G 139 [e.sv] H (fun r H'=>H'=H∧r= .list 1 ((de e).map .str)):=
 aq.Qx (SV.aT fun _ _=>rfl) (by simp) (zd G hG e H hw)
def gL (g:List Nat):SV:= .list 1 (g.map iv)
theorem Ln {n:Nat} {D:Nat→Bool} {j:Nat} {v:Bool}:(Am n D).set j (.bool v)=Am n (fun b=>if b=j then v else D b):=by
 apply List.ext_getElem?
 intro k
 rw[List.getElem?_set]
 by_cases hk:k<n
 ·rw[pJ hk,pJ hk]
  by_cases h:j=k
  ·subst h;simp[nE,hk]
  ·rw[if_neg h,if_neg (fun e=>h e.symm)]
 ·have h1:(Am n D)[k]? =none:=List.getElem?_eq_none (by rw[nE];omega)
  have h2:(Am n (fun b=>if b=j then v else D b))[k]? =none:=List.getElem?_eq_none (by rw[nE];omega)
  rw[h1,h2]
  split
  ·rw[if_neg (by rw[nE];omega)]
  ·rfl
theorem F1 {n:Nat} {D D':Nat→Bool} (h:∀ b,b<n→D b=D' b):Am n D=Am n D':=
 List.map_congr_left fun b hb=>by rw[h b (List.mem_range.1 hb)]
theorem mJ (m:Nat) (gs:List (List Nat)):SV.aj m (gs.map gL)=true:=SV.aT fun a _=>by
 show SV.aj m (a.map iv)=true
 exact SV.aT fun _ _=>rfl
def oz (R:cP) (i k:Nat):List Nat:=(List.range k).filter (jL R i)
def GL (R:cP) (i k:Nat) (D:Nat→Bool):Nat→Bool:=fun j=>D j||(decide (j<k)&&jL R i j)
theorem Gv (R:cP) (i k:Nat):oz R i (k+1)=oz R i k++if jL R i k=true then [k] else []:=by
 simp only[oz,List.range_succ,List.filter_append,List.filter_cons,List.filter_nil]
theorem JV (R:cP) (i:Nat) (D:Nat→Bool):GL R i 0 D=D:=by funext j;simp[GL]
theorem MC {R:cP} {i k:Nat} {D:Nat→Bool} (h:jL R i k=true):(fun b=>if b=k then true else GL R i k D b)=GL R i (k+1) D:=by
 funext b
 unfold GL
 by_cases e:b=k
 ·subst e;simp[h]
 ·rw[if_neg e]
  have:(b<k+1)=(b<k):=by simp;omega
  simp only[this]
theorem OB {R:cP} {i k:Nat} {D:Nat→Bool} (h:jL R i k=false):GL R i (k+1) D=GL R i k D:=by
 funext b
 unfold GL
 by_cases e:b=k
 ·subst e;simp[h]
 ·have:(b<k+1)=(b<k):=by simp;omega
  simp only[this]
theorem MB {R:cP} {i n:Nat} {D:Nat→Bool}:∀ b,b<n→GL R i n D b=we R i D b:=fun b hb=>by simp[GL,we,hb]
theorem sy (R:cP) (i:Nat) {k n:Nat} (h:k≤n):(oz R i k).length≤(oy n R i).length:=by
 unfold oz oy
 exact(List.Sublist.filter _ (List.range_sublist.2 h)).length_le
theorem F2 (n:Nat):List.replicate n (SV.bool false)=Am n fun _=>false:=by
 unfold Am
 exact(List.eq_replicate_iff.2 ⟨by simp,by simp⟩).symm
end Go.Proofs.YtjdfoonhnmpkdaaGreatDoor
